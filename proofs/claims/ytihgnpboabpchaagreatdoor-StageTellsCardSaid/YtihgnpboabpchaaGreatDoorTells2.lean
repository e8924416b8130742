/-
 Part 2 of the proof of stageTells_card: steps of the machine, walks and plain laws; each holds under the conditions that it states.
-/
import Derived.Test.YtihgnpboabpchaaGreatDoorTells1
import Derived.Laws.Append
import Derived.Lib.AppendStr
import Derived.Orders
import Derived.IntWalk
import Derived.Laws.MakeOwn
import Derived.Lib.Overlaps
import Derived.Test.YtihgnpboabpchaaGreatDoorProg
namespace Go.Proofs.YtihgnpboabpchaaGreatDoor.Am
set_option linter.unusedSimpArgs false
set_option linter.unusedVariables false
set_option linter.unnecessarySimpa false
open Go
theorem CallR.use {P : Program} {C : Ctx} {E : Exit → St → Prop} {g : FuncId} {args : List AV} {dst : Option Tmp} {os : List Oper} {pre : List (Option Tmp)} {t : Nat → AV} {h : Heap} {n m : Nat} {K : FinT} {R : AV → Heap → Prop}
  (c : ACalls P g args h (C.b + n) m R) (hb : bodyB P g = true) (k : ∀ r h', R r h' → evOps P C E os (pre ++ [dst]) (putT t dst r) h' (n + m) K) : CallR P C E g args dst os pre t h n K :=
 .inl ⟨m, R, hb, c, k⟩
theorem EqlR.nil_sl {P : Program} {C : Ctx} {E : Exit → St → Prop} {op : BinOp} {ty : TypeId} {ox oy : Operand} {dst : Option Tmp} {os : List Oper} {pre : List (Option Tmp)} {t : Nat → AV} {h : Heap} {n : Nat} {K : FinT} {sz : Nat} {es : List (List PD)}
  (ht : (slE P ty).isSome = true) (hop : op = .eql ∨ op = .neq)
  (k : ∀ g : Bool, (g = true → es = []) → evOps P C E os (pre ++ [dst]) (putT t dst (.one (.p (.v (.bool (if op = .eql then g else !g)))))) h n K) :
  EqlR P C E op ty ox oy (.one (.p (.sl sz es))) (.one (.p (.v (.slice none 0 0)))) dst os pre t h n K := by
 intro a w ι X Y I rx ry
 have hY := rav_v_inv ry
 subst hY
 obtain ⟨el, hel⟩ := slE_some ht
 obtain ⟨A, cap, U, rfl, g1, g2, _⟩ := sl_inv rx
 have heq : (Op.equal ty (.slice A es.length cap) (.slice none 0 0)).run P w = .ok A.isNone w := by
  have : ∀ d, (Op.equalIn (d + 1) ty (.slice A es.length cap) (.slice none 0 0)).run P w = .ok A.isNone w := by
   intro d
   cases A <;> simp only [Op.equalIn, Sem.run_bind, run_underlying hel, Result.andThen, Sem.run_pure] <;> rfl
  exact this 9999
 refine ⟨.bool (if op = .eql then A.isNone else !A.isNone), w, _, h, n, ι, ?_, k A.isNone (fun hg => ?_), I, rav_v _, .refl _ _ _ _⟩
 ·rcases hop with rfl | rfl
  ·simp only [Sem.run_bind, eqGuard_at_slice, Sem.run_pure, Result.andThen, binOp, heq, if_true]
  ·simp only [Sem.run_bind, eqGuard_at_slice, Sem.run_pure, Result.andThen, binOp, heq, reduceCtorEq, if_false]
 ·cases A with
  | none => have := g2 rfl; exact List.eq_nil_of_length_eq_zero (by omega)
  | some _ => cases hg
def tby (P : Program) (t : TypeId) : Option Nat := (P.info? t).map (·.bytes)
def srcA (h : Heap) (sz : Nat) : AV → Option (Nat × List Cell)
 | .one (.p (.sl z es)) => if z = sz then some (es.length, es.flatten.map .p) else none
 | .one (.win id ver off len _) => match h id with
   | some b => if b.ver = ver ∧ off + len * sz ≤ b.cells.length then some (len, (b.cells.drop off).take (len * sz)) else none
   | none => none
 | .one (.p (.v (.slice none 0 0))) => some (0, [])
 | .one (.p (.v (.string s))) => if sz = 1 then some (s.size, s.data.toList.map fun b => .p (.v (.int .u8 b.toNat))) else none
 | _ => none
theorem flat_get {α : Type} (sz : Nat) : ∀ (es : List (List α)), (∀ e ∈ es, e.length = sz) → es.flatten.length = es.length * sz ∧ ∀ (i j : Nat) (e : List α), es[i]? = some e → j < sz → es.flatten[i * sz + j]? = e[j]?
 | [], _ => ⟨by simp, fun i j e he => by simp at he⟩
 | e0 :: es, hs => by
   obtain ⟨ih1, ih2⟩ := flat_get sz es (fun e he => hs e (by simp [he]))
   have h0 : e0.length = sz := hs e0 (by simp)
   refine ⟨by simp [ih1, h0, Nat.add_mul]; omega, fun i j e he hj => ?_⟩
   cases i with
   | zero =>
     simp at he
     subst he
     simp only [List.flatten_cons, Nat.zero_mul, Nat.zero_add]
     rw [List.getElem?_append_left (by omega)]
   | succ i =>
     simp only [List.getElem?_cons_succ] at he
     have := ih2 i j e he hj
     simp only [List.flatten_cons]
     rw [List.getElem?_append_right (by rw [Nat.add_mul]; omega), ← this]
     congr 1
     rw [Nat.add_mul]
     omega
theorem divmod_lt {sz n k : Nat} (h : k < n * sz) : 0 < sz ∧ k / sz < n ∧ k % sz < sz ∧ k / sz * sz + k % sz = k := by
 have h0 : 0 < sz := by
  rcases Nat.eq_zero_or_pos sz with e | e
  ·rw [e] at h; simp at h
  ·exact e
 refine ⟨h0, ?_, Nat.mod_lt _ h0, ?_⟩
 ·exact Nat.div_lt_of_lt_mul (by rw [Nat.mul_comm]; exact h)
 ·rw [Nat.mul_comm]; exact Nat.div_add_mod k sz
theorem src_okk {P : Program} {ι : Nat → Nat} {h : Heap} {bd : Nat} {w : World} (H : HeapOK ι h bd w) {sz : Nat} {x : AV} {X : Value} (r : RAV ι h bd w x X) {m : Nat} {xs : List Cell} (e : srcA h sz x = some (m, xs)) :
  ∃ V : List Value, (Builtin.lenOf X).run P w = .ok m w ∧ (∀ k, k ≤ m → (Builtin.firstCells sz k X).run P w = .ok (V.take (k * sz)).toArray w) ∧ Reps ι h bd w xs V ∧ xs.length = m * sz := by
 unfold srcA at e
 split at e
 ·rename_i z es
  split at e
  ·rename_i hz
   subst hz
   simp only [Option.some.injEq, Prod.mk.injEq] at e
   obtain ⟨rfl, rfl⟩ := e
   obtain ⟨a, cap, U, rfl, g1, g2, g3, g4, g5, g6⟩ := sl_inv r
   obtain ⟨f1, f2⟩ := flat_get z es g4
   have hV : ∀ j v, ((List.range (es.length * z)).map fun k => U (k / z) (k % z))[j]? = some v → ∃ A : Addr, a = some A ∧ w.cell? (A.add j) = some v := by
    intro j v hj
    rw [List.getElem?_map] at hj
    have hlt : j < es.length * z := by
     rcases Nat.lt_or_ge j (es.length * z) with h' | h'
     ·exact h'
     ·rw [List.getElem?_eq_none (by simpa using h')] at hj; cases hj
    rw [List.getElem?_range hlt] at hj
    simp at hj
    subst hj
    obtain ⟨h0, hd, hm, heq⟩ := divmod_lt hlt
    have he : es[j / z]? = some es[j / z] := List.getElem?_eq_getElem hd
    have hl := g4 es[j / z] (List.getElem_mem hd)
    have hdd : es[j / z][j % z]? = some (es[j / z][j % z]'(by omega)) := List.getElem?_eq_getElem (by omega)
    obtain ⟨A, hA, _, hc⟩ := g5 _ _ he _ _ hdd
    refine ⟨A, hA, ?_⟩
    rw [addr_eta ((g3 A hA).resolve_left (fun hh => by rw [hh] at hd; simp at hd)), add_none]
    rw [heq] at hc
    exact hc
   refine ⟨(List.range (es.length * z)).map fun k => U (k / z) (k % z), rfl, fun k hk => ?_, ⟨by rw [List.length_map, List.length_map, f1, List.length_range], fun i c u hc hu => ?_⟩, by rw [List.length_map, f1]⟩
   ·cases a with
    | none =>
      have : es.length = 0 := by have := g2 rfl; omega
      rw [this]
      simp only [Nat.zero_mul, List.range_zero, List.map_nil, List.take_nil]
      exact run_firstCells_none w z k 0 cap
    | some A =>
      refine run_firstCells_some w z k A es.length cap _ (by have := Nat.mul_le_mul_right z hk; rw [List.length_take, List.length_map, List.length_range]; omega) (fun j v hj => ?_)
      rw [List.getElem?_take] at hj
      split at hj
      case isFalse => cases hj
      obtain ⟨A', hA', hc⟩ := hV j v hj
      injection hA' with hA'
      subst hA'
      exact hc
   ·rw [List.getElem?_map] at hu
    have hlt : i < es.length * z := by
     rcases Nat.lt_or_ge i (es.length * z) with h' | h'
     ·exact h'
     ·rw [List.getElem?_eq_none (by simpa using h')] at hu; cases hu
    rw [List.getElem?_range hlt] at hu
    simp at hu
    subst hu
    obtain ⟨h0, hd, hm, heq⟩ := divmod_lt hlt
    have he : es[i / z]? = some es[i / z] := List.getElem?_eq_getElem hd
    have hl := g4 es[i / z] (List.getElem_mem hd)
    have hdd : es[i / z][i % z]? = some (es[i / z][i % z]'(by omega)) := List.getElem?_eq_getElem (by omega)
    have hf := f2 (i / z) (i % z) _ he hm
    rw [heq, hdd] at hf
    rw [List.getElem?_map, hf] at hc
    simp at hc
    subst hc
    exact .p (g6 _ _ he _ _ hdd)
  ·cases e
 ·rename_i id ver off len cap
  split at e
  ·rename_i b hb
   split at e
   ·rename_i hc
    simp only [Option.some.injEq, Prod.mk.injEq] at e
    obtain ⟨rfl, rfl⟩ := e
    obtain ⟨hlc, hX⟩ := win_inv r (by unfold liveB; rw [hb]; simpa using hc.1)
    rcases hX with rfl | ⟨rfl, rfl, rfl⟩
    ·by_cases hne : b.cells = []
     ·have h0 : len * sz = 0 := by have := hc.2; rw [hne] at this; simp at this; omega
      refine ⟨[], rfl, fun k hk => ?_, by rw [hne]; simp [Reps], by rw [hne]; simp; omega⟩
      have := run_firstCells_some (P := P) w sz k ⟨ι id, off, none⟩ len cap [] (by have := Nat.mul_le_mul_right sz hk; simp; omega) (fun j v hj => by simp at hj)
      simpa using this
     ·obtain ⟨c, ty, h1, h2, h3⟩ := H.blk id b hb hne
      refine ⟨(c.toList.drop off).take (len * sz), rfl, fun k hk => ?_, ⟨by simp [h2], fun i d u hd hu => ?_⟩, by simp; omega⟩
      ·refine run_firstCells_some w sz k ⟨ι id, off, none⟩ len cap _ (by have := Nat.mul_le_mul_right sz hk; simp [h2]; omega) (fun j v hj => ?_)
       rw [List.getElem?_take] at hj
       split at hj
       case isFalse => cases hj
       rw [List.getElem?_take] at hj
       split at hj
       ·rw [List.getElem?_drop] at hj
        rw [add_none]
        simpa [World.cell?, h1] using hj
       ·cases hj
      ·rw [List.getElem?_take] at hd hu
       split at hd
       ·rename_i hi
        rw [if_pos hi] at hu
        rw [List.getElem?_drop] at hd hu
        exact h3 _ d u hd (by simpa using hu)
       ·cases hd
    ·refine ⟨[], rfl, fun k _ => by simpa using run_firstCells_none w sz k 0 0, by simp [Reps], by simp⟩
   ·cases e
  ·cases e
 ·have hX := rav_v_inv r
  subst hX
  simp only [Option.some.injEq, Prod.mk.injEq] at e
  obtain ⟨rfl, rfl⟩ := e
  exact ⟨[], rfl, fun k _ => by simpa using run_firstCells_none w sz k 0 0, by simp [Reps], by simp⟩
 ·have hX := rav_v_inv r
  subst hX
  rename_i s
  split at e
  ·rename_i hz
   subst hz
   simp only [Option.some.injEq, Prod.mk.injEq] at e
   obtain ⟨rfl, rfl⟩ := e
   have e1 : (s.data.toList.map fun b => (Cell.p (.v (.int .u8 b.toNat)) : Cell)) = (s.data.toList.map fun b => Value.int .u8 b.toNat).map fun v => .p (.v v) := by rw [List.map_map]; rfl
   refine ⟨s.data.toList.map fun b => Value.int .u8 b.toNat, rfl, fun k _ => ?_, by rw [e1]; exact reps_vs _, by simp⟩
   simp only [Builtin.firstCells, Sem.run_pure, Nat.mul_one]
   congr 1
   apply Array.ext'
   simp
  ·cases e
 ·cases e
theorem src_ok {P : Program} {ι : Nat → Nat} {h : Heap} {bd : Nat} {w : World} (H : HeapOK ι h bd w) {sz : Nat} {x : AV} {X : Value} (r : RAV ι h bd w x X) {m : Nat} {xs : List Cell} (e : srcA h sz x = some (m, xs)) :
  ∃ V : List Value, (Builtin.lenOf X).run P w = .ok m w ∧ (Builtin.firstCells sz m X).run P w = .ok V.toArray w ∧ Reps ι h bd w xs V ∧ xs.length = m * sz := by
 obtain ⟨V, h1, h2, h3, h4⟩ := src_okk (P := P) H r e
 refine ⟨V, h1, ?_, h3, h4⟩
 rw [h2 m (Nat.le_refl _), List.take_of_length_le (by rw [h3.1, h4]; exact Nat.le_refl _)]
theorem srcA_okC_one {ι : Nat → Nat} {h : Heap} {bd : Nat} {w : World} {xs : List Cell} {V : List Value} (r : Reps ι h bd w xs V) (ok : ∀ c ∈ xs, okC h c = true) : ∀ u ∈ V, u.oneCell' = true := by
 intro u hu
 obtain ⟨j, hj⟩ := List.mem_iff_getElem?.1 hu
 have hlt : j < xs.length := by rw [← r.1]; exact (List.getElem?_eq_some_iff.1 hj).1
 exact (okC_run (r.2 j _ u (List.getElem?_eq_getElem hlt) hj) (ok _ (List.getElem_mem hlt))).1
theorem Inv.empty {C : Ctx} {ι : Nat → Nat} {s : St} {a : Act} {w : World} (I : Inv C ι s a w) (id : Nat) (b : Blk) (hb : s.h id = some b) (hbe : b.cells = []) (ver : Nat) (hver : b.ver ≤ ver) :
  Moves ι s.h (C.b + s.n) w ι (upd s.h id ⟨ver, []⟩) (C.b + s.n) w ∧ Inv C ι ⟨s.t, upd s.h id ⟨ver, []⟩, s.n⟩ a w := by
 have M : Moves ι s.h (C.b + s.n) w ι (upd s.h id ⟨ver, []⟩) (C.b + s.n) w := by
  refine ⟨Nat.le_refl _, fun b' hs _ i blk e ne => ?_, fun _ _ _ => rfl, fun i hi b' e => ?_⟩
  ·by_cases h : i = id
   ·subst h; rw [upd_same] at e; injection e with e; subst e; exact absurd rfl ne
   ·rw [upd_ne _ _ _ _ h] at e; exact hs i blk e ne
  ·by_cases h : i = id
   ·subst h; rw [upd_same] at e; injection e with e; subst e; exact ⟨b, hb, hver, fun _ => rfl⟩
   ·rw [upd_ne _ _ _ _ h] at e; exact ⟨b', e, Nat.le_refl _, fun _ => rfl⟩
 have hold : ∀ i b', upd s.h id ⟨ver, []⟩ i = some b' → b'.cells ≠ [] → i ≠ id ∧ s.h i = some b' := by
  intro i b' e ne
  by_cases h : i = id
  ·subst h; rw [upd_same] at e; injection e with e; subst e; exact absurd rfl ne
  ·rw [upd_ne _ _ _ _ h] at e; exact ⟨h, e⟩
 refine ⟨M, ⟨fun i hi b' e => ?_, fun i hi b' e ne => I.fresh i hi b' (hold i b' e ne).2 ne, fun i hi => ?_, ⟨fun i b' e ne => ?_, fun i j bi bj hi hj ni nj => I.heap.inj i j bi bj (hold i bi hi ni).2 (hold j bj hj nj).2 ni nj⟩, fun t => (I.tmps t).move M, I.ntmps, I.defers, I.keeps⟩⟩
 ·have e' : upd s.h id ⟨ver, []⟩ i = some b' := e
  by_cases h : i = id
  ·subst h
   rw [upd_same] at e'
   injection e' with e'
   subst e'
   obtain ⟨b0, k0, k1⟩ := I.outer i hi b hb
   exact ⟨b0, k0, k1.trans (G' := C.w.heap.size) ⟨hver, .inl ⟨by rw [hbe], rfl⟩⟩ (Nat.le_refl _)⟩
  ·rw [upd_ne _ _ _ _ h] at e'
   exact I.outer i hi b' e'
 ·show upd s.h id ⟨ver, []⟩ i = none
  have : i ≠ id := by intro h; subst h; rw [I.bound i hi] at hb; cases hb
  rw [upd_ne _ _ _ _ this]
  exact I.bound i hi
 ·obtain ⟨c, ty, h1, h2, h3⟩ := I.heap.blk i b' (hold i b' e ne).2 ne
  exact ⟨c, ty, h1, h2, fun j d u hd hu => (h3 j d u hd hu).move M⟩
def isIntT (P : Program) (t : TypeId) : Bool :=
 match P.underlying t with
 | some (.int _) => true
 | none => true
 | _ => false
theorem isIntT_run {P : Program} {t : TypeId} (e : isIntT P t = false) : ∃ d, P.underlying t = some d ∧ ∀ k, d ≠ .int k := by
 unfold isIntT at e
 cases h : P.underlying t with
 | none => rw [h] at e; cases e
 | some d => rw [h] at e; refine ⟨d, rfl, fun k hk => ?_⟩; subst hk; cases e
theorem nextcap_le (n c : Nat) (h : c < n) : Builtin.nextslicecap n c ≤ 2 * n + 1000 := by
 have hg : ∀ k c, c < n → Builtin.growBy n k c ≤ 2 * n + 1000 := by
  intro k
  induction k with
  | zero => intro c hc; simp [Builtin.growBy]; omega
  | succ k ih =>
    intro c hc
    unfold Builtin.growBy
    split
    ·omega
    ·rcases Nat.lt_or_ge (c + (c + 768) / 4) n with h' | h'
     ·exact ih _ h'
     ·have : Builtin.growBy n k (c + (c + 768) / 4) = c + (c + 768) / 4 := by cases k <;> simp [Builtin.growBy, h']
      rw [this]; omega
 unfold Builtin.nextslicecap
 split
 ·omega
 ·split
  ·omega
  ·exact hg 4 c h
theorem BiK.append_own {P : Program} {C : Ctx} {ty tx e : TypeId} {sz bytes : Nat} {zs : List Value} {id ver len cap m : Nat} {x : AV} {xs : List Cell} {h : Heap} {n : Nat} {K : KT} {blk : Blk}
  (ht : slE P ty = some e) (hs : tsz P e = some sz) (hz : tzero P e = some zs) (hzs : zs.length = sz) (hby : tby P e = some bytes) (htx : isIntT P tx = false) (hb : h id = some blk) (hv : blk.ver = ver)
  (hc : blk.cells.length = cap * sz) (hsrc : srcA h sz x = some (m, xs)) (hok : ∀ c ∈ xs, okC h c = true) (hroom : (len + m) * bytes ≤ 70368744177664) (hbytes : bytes ≤ 1000000) (hmax : len + m ≤ 4611686018427387904)
  (k : ∀ cap' r, len + m ≤ cap' → cap' * sz = (len + m) * sz + r → K (.one (.win id (ver + 1) 0 (len + m) cap')) (upd h id ⟨ver + 1, blk.cells.take (len * sz) ++ (xs ++ List.replicate r .junk)⟩) n) :
  BiK P C .append [ty, tx] [.one (.win id ver 0 len cap), x] h n K := by
 intro a w ι Vs I hVs tyR cs
 obtain ⟨hl, hVs⟩ := hVs
 match Vs, hl with
 | [X, Y], _ =>
   have rX := hVs 0 _ X rfl rfl
   have rY := hVs 1 _ Y rfl rfl
   have hlive : liveB h id ver = true := by unfold liveB; rw [hb]; simpa using hv
   obtain ⟨hlc, hX⟩ := win_inv rX hlive
   have hwh := win_hd rX
   obtain ⟨W, g1, g2, g3, g4⟩ := src_ok (P := P) I.heap rY hsrc
   obtain ⟨d, hd, hdk⟩ := isIntT_run htx
   obtain ⟨i, hi, his⟩ := tsz_info hs
   obtain ⟨i', z, hi', hiz, hzc⟩ := tzero_run hz
   have : i = i' := by rw [hi] at hi'; injection hi'
   subst this
   have hib : i.bytes = bytes := by unfold tby at hby; rw [hi] at hby; simpa using hby
   have h1 := srcA_okC_one g3 hok
   have hWl : W.length = m * sz := by rw [g3.1, g4]
   have hu := run_underlying (P := P) (slE_run ht) w
   have hux := run_underlying (P := P) hd w
   have hnotint : (match d with | .int _ => true | _ => false) = false := by cases d <;> first | rfl | exact absurd rfl (hdk _)
   -- the result, wherever the row lies
   have hres : ∀ (ι' : Nat → Nat) (h' : Heap) (w' : World) (cap' : Nat) (cs' : List Cell), h' = upd h id ⟨ver + 1, cs'⟩ → len + m ≤ cap' → RAV ι' h' (C.b + n) w' (.one (.win id (ver + 1) 0 (len + m) cap')) (.slice (some ⟨ι' id, 0, none⟩) (len + m) cap') := by
    intro ι' h' w' cap' cs' e hle
    subst e
    exact .one (.win hwh.1 (fun b e => by rw [upd_same] at e; injection e with e; subst e; exact Nat.le_refl _) (fun b e _ => ⟨hle, .inl rfl⟩))
   by_cases hfit : len + m ≤ cap
   ·-- there is room
    by_cases hne : blk.cells = []
    ·have hcap0 : cap * sz = 0 := by rw [← hc, hne]; rfl
     have hr0 : (len + m) * sz = 0 := Nat.eq_zero_of_le_zero (by rw [← hcap0]; exact Nat.mul_le_mul_right _ hfit)
     have hW0 : W = [] := List.eq_nil_of_length_eq_zero (by rw [hWl]; exact Nat.eq_zero_of_le_zero (by rw [← hr0]; exact Nat.mul_le_mul_right _ (by omega)))
     have hx0 : xs = [] := List.eq_nil_of_length_eq_zero (by rw [g4]; exact Nat.eq_zero_of_le_zero (by rw [← hr0]; exact Nat.mul_le_mul_right _ (by omega)))
     obtain ⟨M, I'⟩ := I.empty id blk hb hne (ver + 1) (by omega)
     have hk := k cap 0 hfit (by rw [hcap0, hr0])
     rw [hne, hx0] at hk
     simp only [List.take_nil, List.nil_append, List.replicate_zero] at hk
     rcases hX with rfl | ⟨rfl, hl0, hc0⟩
     ·refine ⟨.slice (some ⟨ι id, 0, none⟩) (len + m) cap, w, _, _, n, ι, ?_, hk, I', hres ι _ w cap [] rfl hfit, M⟩
      simp only [builtin, Builtin.append_, Sem.run_bind, Sem.run_pure, Result.andThen, hu, hux, tsz_run hs, hnotint, List.size_toArray, List.getElem?_toArray, List.getElem?_cons_zero, List.getElem?_cons_succ, g1, if_false, Bool.false_eq_true]
      rw [if_pos hfit]
      simp only [Sem.run_bind, g2, Result.andThen, Bool.not_false, if_true, hW0, storeCells, Sem.run_pure]
     ·subst hl0; subst hc0
      have hm0 : m = 0 := by omega
      subst hm0
      refine ⟨.slice none 0 0, w, _, _, n, ι, ?_, hk, I', .one (.win hwh.1 (fun b e => by rw [upd_same] at e; injection e with e; subst e; exact Nat.le_refl _) (fun b e _ => ⟨Nat.le_refl _, .inr ⟨rfl, rfl, rfl⟩⟩)), M⟩
      simp only [builtin, Builtin.append_, Sem.run_bind, Sem.run_pure, Result.andThen, hu, hux, tsz_run hs, hnotint, List.size_toArray, List.getElem?_toArray, List.getElem?_cons_zero, List.getElem?_cons_succ, g1, if_false, Bool.false_eq_true]
      rw [if_pos hfit]
      simp only [Sem.run_bind, g2, Result.andThen, Bool.not_false, if_true, Sem.run_pure]
    ·obtain ⟨c, tyc, k1, k2, k3⟩ := I.heap.blk id blk hb hne
     have hX : X = .slice (some ⟨ι id, 0, none⟩) len cap := by
      rcases hX with hX | ⟨_, _, hc0⟩
      ·exact hX
      ·subst hc0; exact absurd (List.eq_nil_of_length_eq_zero (by rw [hc]; simp)) hne
     subst hX
     have hcs : c.size = cap * sz := by rw [k2, hc]
     have hle : (len + m) * sz ≤ cap * sz := Nat.mul_le_mul_right _ hfit
     rw [Nat.add_mul] at hle
     have hst := run_storeCells_at (P := P) (ι id) (len * sz) tyc W 0 c w k1 (by rw [hWl, hcs]; omega) h1
     have hrl : cap * sz = (len + m) * sz + (cap * sz - (len + m) * sz) := by rw [Nat.add_mul]; omega
     have hk := k cap _ hfit hrl
     obtain ⟨M, I'⟩ := I.write id blk hb hne (ver + 1) (by omega) (blk.cells.take (len * sz) ++ (xs ++ List.replicate (cap * sz - (len + m) * sz) .junk)) (c.toList.take (len * sz) ++ (W ++ c.toList.drop (len * sz + W.length))).toArray
      (by have := Nat.mul_le_mul_right sz hlc; simp only [List.length_append, List.length_take, List.length_replicate, hc, g4, Nat.add_mul]; omega)
      (by have := Nat.mul_le_mul_right sz hlc; simp only [List.size_toArray, List.length_append, List.length_take, List.length_replicate, List.length_drop, Array.length_toList, hcs, hc, g4, hWl, Nat.add_mul] <;> omega) (fun j d u hd hu => by
       simp only [List.getElem?_append, List.length_take, hc, g4, List.getElem?_take] at hd
       simp only [List.getElem?_toArray, List.getElem?_append, List.length_take, Array.length_toList, hcs, hWl, List.getElem?_take] at hu
       split at hd
       ·rename_i hj
        rw [if_pos hj] at hu
        rw [if_pos (by omega)] at hd hu
        exact k3 j d u hd (by simpa using hu)
       ·rename_i hj
        rw [if_neg hj] at hu
        split at hd
        ·rename_i hj2
         rw [if_pos hj2] at hu
         exact g3.2 _ d u hd hu
        ·have : d = .junk := by
          have := List.mem_of_getElem? hd
          simpa using (List.mem_replicate.1 this).2
         subst this
         exact .junk u)
     refine ⟨.slice (some ⟨ι id, 0, none⟩) (len + m) cap, _, _, _, n, ι, ?_, hk, I', hres ι _ _ cap _ rfl hfit, M⟩
     simp only [builtin, Builtin.append_, Sem.run_bind, Sem.run_pure, Result.andThen, hu, hux, tsz_run hs, hnotint, List.size_toArray, List.getElem?_toArray, List.getElem?_cons_zero, List.getElem?_cons_succ, g1, if_false, Bool.false_eq_true]
     rw [if_pos hfit]
     simp only [Sem.run_bind, g2, Result.andThen, Bool.not_false, if_true, add_none, Nat.zero_add, hst, Sem.run_pure]
     simp
   ·-- a new row
    have rX' : RAV ι h (C.b + n) w.drew (.one (.win id ver 0 len cap)) X := rX.move (Moves.world (w := w) (w' := w.drew) (fun _ _ _ => rfl))
    have rY' : RAV ι h (C.b + n) w.drew x Y := rY.move (Moves.world (w := w) (w' := w.drew) (fun _ _ _ => rfl))
    have hsr : srcA h sz (.one (.win id ver 0 len cap)) = some (len, blk.cells.take (len * sz)) := by
     have hle := Nat.mul_le_mul_right sz hlc
     simp only [srcA, hb]
     rw [if_pos ⟨hv, by rw [hc, Nat.zero_add]; exact hle⟩, List.drop_zero]
    obtain ⟨O, _, o2, o3, o4⟩ := src_ok (P := P) (I.drew).heap rX' hsr
    obtain ⟨W2, _, q2, q3, q4⟩ := src_ok (P := P) (I.drew).heap rY' hsrc
    have hXs : ∃ A, X = .slice A len cap := by rcases hX with hX | ⟨hX, h1, h2⟩ <;> exact ⟨_, by rw [hX]; try rw [h1, h2]⟩
    obtain ⟨A, rfl⟩ := hXs
    have hcap : ∃ nc, (choose (.appendCap (len + m) cap e)).run P w = .ok nc w.drew ∧ len + m ≤ nc := by
     refine ⟨(Question.appendCap (len + m) cap e).cut (w.tape w.drawn (.appendCap (len + m) cap e)), ?_, ?_⟩
     ·rw [run_choose]
      rfl
     ·simp only [Question.cut]; omega
    obtain ⟨nc, hch, hnc⟩ := hcap
    have hzr : (zeroValue e).run P w.drew = .ok z w.drew := by simp [zeroValue, typeInfo, hi, hiz]
    have hzsz : z.cells.size = sz := by rw [← hzs, ← hzc]; simp
    have hrl : (Builtin.zeroCells z.cells (nc - (len + m))).size = (nc - (len + m)) * sz := by simp [Builtin.zeroCells, hzsz]
    have hcapm : nc * sz = (len + m) * sz + (nc - (len + m)) * sz := by rw [← Nat.add_mul]; congr 1; omega
    have hk := k nc _ hnc hcapm
    have hl1 := o3.1
    have hl2 := q3.1
    obtain ⟨M, I'⟩ := (I.drew).place id n (Nat.le_refl _) (by have := hwh.1; omega) (ver + 1) (fun b e => by have e' : h id = some b := e; rw [hb] at e'; injection e' with e'; subst e'; omega) (fun e => by have e' : h id = none := e; rw [hb] at e'; cases e')
     (blk.cells.take (len * sz) ++ (xs ++ List.replicate ((nc - (len + m)) * sz) .junk)) (O.toArray ++ W2.toArray ++ Builtin.zeroCells z.cells (nc - (len + m))) e
     (by simp [hl1, hl2, hrl]; omega) (fun j d u hd hu => by
      have hu' : (O ++ (W2 ++ (Builtin.zeroCells z.cells (nc - (len + m))).toList))[j]? = some u := by rw [← hu, ← Array.getElem?_toList]; simp
      rw [List.getElem?_append] at hd hu'
      rw [hl1] at hu'
      split at hd
      ·rename_i hj
       rw [if_pos hj] at hu'
       exact o3.2 j d u hd hu'
      ·rename_i hj
       rw [if_neg hj] at hu'
       rw [List.getElem?_append] at hd hu'
       rw [hl2] at hu'
       split at hd
       ·rename_i hj2
        rw [if_pos hj2] at hu'
        exact q3.2 _ d u hd hu'
       ·have : d = .junk := (List.mem_replicate.1 (List.mem_of_getElem? hd)).2
        subst this
        exact .junk u)
    refine ⟨.slice (some ⟨w.drew.heap.size, 0, none⟩) (len + m) nc, _, _, _, n, _, ?_, hk, I', ?_, ⟨M.hbd, M.stab, M.agree, M.blk⟩⟩
    ·have h63 : ¬ (((len + m : Nat) : Int) > IntKind.i64.max ∧ (False ∨ i.bytes = 0)) := by rw [IntKind.max_i64]; omega
     have h48 : ¬ (Builtin.nextslicecap (len + m) cap * i.bytes > 2 ^ 48) := by
      have h1 := nextcap_le (len + m) cap (by omega)
      have h2 := Nat.mul_le_mul_right bytes h1
      rw [Nat.add_mul, Nat.mul_assoc] at h2
      rw [hib]
      omega
     have hti : (typeInfo e).run P w = .ok i w := by simp [typeInfo, hi]
     have hti' : (typeInfo e).run P w.drew = .ok i w.drew := by simp [typeInfo, hi]
     simp only [builtin, Builtin.append_, Sem.run_bind, Sem.run_pure, Result.andThen, hu, hux, tsz_run hs, hnotint, List.size_toArray, List.getElem?_toArray, List.getElem?_cons_zero, List.getElem?_cons_succ, g1, if_false, Bool.false_eq_true]
     rw [if_neg hfit]
     simp only [Sem.run_bind, Result.andThen, hti]
     rw [if_neg h63]
     simp only [Sem.run_bind, Result.andThen, hti]
     rw [if_neg h48]
     simp only [Sem.run_bind, Result.andThen, hch, hti', run_askRoom, o2, q2, hzr, Bool.not_false, if_true, newRow, run_newObj, Sem.run_pure]
     rfl
    ·have := hres (ren ι id w.drew.heap.size) _ (w.drew.alloc (.cells (O.toArray ++ W2.toArray ++ Builtin.zeroCells z.cells (nc - (len + m))) e)) nc (blk.cells.take (len * sz) ++ (xs ++ List.replicate ((nc - (len + m)) * sz) .junk)) rfl hnc
     rw [ren_same] at this
     exact this
def Sub (h h' : Heap) : Prop := ∀ id b, h id = some b → ∃ b', h' id = some b' ∧ b'.ver = b.ver ∧ (b.cells = [] ∨ b' = b)
theorem Sub.refl (h : Heap) : Sub h h := fun _ b e => ⟨b, e, rfl, .inr rfl⟩
theorem liveB_mono {h h' : Heap} (s : Sub h h') {id ver : Nat} (e : liveB h id ver = true) : liveB h' id ver = true := by
 obtain ⟨b, hb, hv⟩ := live_run e
 obtain ⟨b', hb', hv', _⟩ := s id b hb
 unfold liveB
 rw [hb']
 simpa using hv'.trans hv
theorem partA_nil {P : Program} {t : TypeId} {off : Nat} {v : AV} (e : partA P t [] off = some v) (cs : List Cell) : partA P t cs off = some v := by
 unfold partA at e ⊢
 split at e
 ·split at e
  ·rename_i n hn
   split at e
   ·rename_i hle
    have h1 : off = 0 := by simp at hle; omega
    have h2 : n = 0 := by simp at hle; omega
    subst h1; subst h2
    rw [if_pos (by simp)]
    simpa using e
   ·cases e
  ·cases e
 ·simp at e
 ·cases e
theorem okC_mono {h h' : Heap} (s : Sub h h') {c : Cell} (e : okC h c = true) : okC h' c = true := by
 cases c with
 | ptr | win => exact liveB_mono s e
 | p d => cases d <;> exact e
 | _ => exact e
theorem ldA_mono {P : Program} {h h' : Heap} (s : Sub h h') {t : TypeId} {x v : AV} (e : ldA P t h x = some v) : ldA P t h' x = some v := by
 unfold ldA at e ⊢
 split at e
 ·split at e
  ·rename_i b hb
   obtain ⟨b', hb', hv', hc⟩ := s _ b hb
   rw [hb']
   rcases hc with hc | rfl
   ·rw [hc] at e
    split at e
    ·rename_i hv
     simp only
     rw [if_pos (hv'.trans hv)]
     exact partA_nil e _
    ·cases e
   ·exact e
  ·cases e
 ·exact e
 ·cases e
theorem fldA_mono {P : Program} {h h' : Heap} (s : Sub h h') {t : TypeId} {x v : AV} {f : Nat} (e : fldA P t h x f = some v) : fldA P t h' x f = some v := by
 unfold fldA at e ⊢
 split at e
 ·split at e
  ·split at e
   ·rename_i hl; rw [if_pos (liveB_mono s hl)]; exact e
   ·cases e
  ·exact e
  ·cases e
 ·cases e
theorem idxA_mono {P : Program} {h h' : Heap} (s : Sub h h') {t : TypeId} {x i v : AV} (e : idxA P t h x i = some v) : idxA P t h' x i = some v := by
 unfold idxA at e ⊢
 split at e
 ·split at e
  ·exact e
  ·split at e
   ·split at e
    ·rename_i hl; rw [if_pos ⟨liveB_mono s hl.1, hl.2⟩]; exact e
    ·cases e
   ·cases e
  ·split at e
   ·split at e
    ·rename_i hl; rw [if_pos ⟨liveB_mono s hl.1, hl.2⟩]; exact e
    ·cases e
   ·cases e
  ·cases e
 ·cases e
theorem slcA_mono {P : Program} {h h' : Heap} (s : Sub h h') {t : TypeId} {x v : AV} {lo hi mx : Option AV} (e : slcA P t h x lo hi mx = some v) : slcA P t h' x lo hi mx = some v := by
 unfold slcA at e ⊢
 split at e
 ·exact e
 ·exact e
 ·split at e
  ·split at e
   ·rename_i hl; rw [if_pos (liveB_mono s hl)]; exact e
   ·cases e
  ·cases e
 ·split at e
  ·split at e
   ·rename_i hl; rw [if_pos (liveB_mono s hl)]; exact e
   ·cases e
  ·cases e
 ·cases e
theorem lenA_mono {P : Program} {h h' : Heap} (s : Sub h h') {t : TypeId} {x v : AV} (e : lenA P t h x = some v) : lenA P t h' x = some v := by
 unfold lenA at e ⊢
 split at e
 ·exact e
 ·exact e
 ·exact e
 ·split at e
  ·rename_i hl; rw [if_pos ⟨liveB_mono s hl.1, hl.2⟩]; exact e
  ·cases e
 ·cases e
theorem capA_mono {P : Program} {h h' : Heap} (s : Sub h h') {t : TypeId} {x v : AV} (e : capA P t h x = some v) : capA P t h' x = some v := by
 unfold capA at e ⊢
 split at e
 ·exact e
 ·split at e
  ·rename_i hl; rw [if_pos ⟨liveB_mono s hl.1, hl.2⟩]; exact e
  ·cases e
 ·cases e
theorem fillA_mono {h h' : Heap} (s : Sub h h') {pl : Nat → Option (Nat × Nat)} : ∀ {parts : List (Nat × AV)} {cs ds : List Cell}, fillA h pl cs parts = some ds → fillA h' pl cs parts = some ds
 | [], _, _, e => e
 | (i, v) :: rest, cs, ds, e => by
   unfold fillA at e ⊢
   split at e
   ·split at e
    ·split at e
     ·rename_i hc; rw [if_pos ⟨okC_mono s hc.1, hc.2⟩]; exact fillA_mono s e
     ·cases e
    ·split at e
     ·rename_i hc; rw [if_pos hc]; exact fillA_mono s e
     ·cases e
    ·cases e
   ·cases e
theorem nilV_mono {h h' : Heap} (s : Sub h h') {x v : AV} (e : nilV h x = some v) : nilV h' x = some v := by
 unfold nilV at e ⊢
 split at e
 ·split at e
  ·rename_i hl; rw [if_pos (liveB_mono s hl)]; exact e
  ·cases e
 ·exact e
 ·exact e
 ·cases e
theorem bldA_mono {P : Program} {h h' : Heap} (s : Sub h h') {t : TypeId} {parts : List (Nat × AV)} {v : AV} (e : bldA P h t parts = some v) : bldA P h' t parts = some v := by
 have main : ∀ pl cs, (fillA h pl cs parts).map AV.agg = some v → (fillA h' pl cs parts).map AV.agg = some v := by
  intro pl cs e'
  cases hf : fillA h pl cs parts with
  | none => rw [hf] at e'; simp at e'
  | some ds => rw [hf] at e'; rw [fillA_mono s hf]; exact e'
 unfold bldA at e ⊢
 split at e
 ·split at e
  ·exact main _ _ e
  ·split at e
   ·exact main _ _ e
   ·cases e
 ·cases e
theorem convA_mono {P : Program} {h h' : Heap} (s : Sub h h') {t d : TypeId} {x v : AV} (e : convA P h t d x = some v) : convA P h' t d x = some v := by
 unfold convA at e ⊢
 split at e
 ·exact e
 ·exact e
 ·exact e
 ·exact e
 ·split at e
  ·rename_i b hb
   obtain ⟨b', hb', hv', hc⟩ := s _ b hb
   rw [hb']
   rcases hc with hc | rfl
   ·rw [hc] at e
    split at e
    ·rename_i hu
     obtain ⟨hv, hu, hle⟩ := hu
     simp only [List.length_nil] at hle
     have h1 : ∀ off len : Nat, off + len ≤ 0 → ((b'.cells.drop off).take len) = ([].drop off).take len := by
      intro off len hl
      have : len = 0 := by omega
      subst this; simp
     simp only
     rw [if_pos ⟨hv'.trans hv, hu, by omega⟩, h1 _ _ hle]
     exact e
    ·cases e
   ·exact e
  ·cases e
 ·cases e
theorem binA_mono {P : Program} {h h' : Heap} (s : Sub h h') {ty : TypeId} {op : BinOp} {x y v : AV} (e : binA P h ty op x y = some v) : binA P h' ty op x y = some v := by
 unfold binA at e ⊢
 split at e
 ·split at e
  ·rename_i hc
   rw [if_pos ⟨hc.1, liveB_mono s hc.2⟩]; exact e
  ·cases e
 ·exact e
 ·exact e
 ·cases e
theorem sop_mono {P : Program} {h h' : Heap} (s : Sub h h') {t : Nat → AV} {o : Oper} {v : AV} (e : sop P t h o = some v) : sop P t h' o = some v := by
 obtain ⟨dst, op, ty, pos, after, guard⟩ := o
 unfold sop at e ⊢
 simp only at e ⊢
 split at e
 ·exact e
 ·exact e
 ·exact e
 ·exact ldA_mono s e
 ·exact fldA_mono s e
 ·exact e
 ·exact idxA_mono s e
 ·exact e
 ·exact binA_mono s e
 ·exact e
 ·exact convA_mono s e
 ·exact slcA_mono s e
 ·exact e
 ·exact nilV_mono s e
 ·exact e
 ·exact e
 ·exact bldA_mono s e
 ·exact e
 ·split at e
  ·exact lenA_mono s e
  ·cases e
 ·split at e
  ·exact capA_mono s e
  ·cases e
 ·exact e
 ·exact e
 ·cases e
def tmpsOf (l : List Operand) : List Tmp := l.filterMap fun | .tmp t => some t | _ => none
theorem val_congr {t t' : Nat → AV} {l : List Operand} (e : ∀ d ∈ tmpsOf l, t d = t' d) : ∀ x ∈ l, val t x = val t' x := by
 intro x hx
 cases x with
 | tmp i => exact e i (List.mem_filterMap.2 ⟨_, hx, rfl⟩)
 | _ => rfl
theorem map_val_congr {t t' : Nat → AV} {l : List Operand} (e : ∀ x ∈ l, val t x = val t' x) : l.map (val t) = l.map (val t') := List.map_congr_left e
theorem sop_congr {P : Program} {h : Heap} {t t' : Nat → AV} {o : Oper} (e : ∀ x ∈ o.op.operands.toList, val t x = val t' x) : sop P t h o = sop P t' h o := by
 obtain ⟨dst, op, ty, pos, after, guard⟩ := o
 simp only at e
 cases op with
 | call c =>
   obtain ⟨callee, args, tys⟩ := c
   have ea : ∀ x ∈ args.toList, val t x = val t' x := fun x hx => e x (by simp [Op.operands, Call.operands]; exact .inr (by simpa using hx))
   cases callee with
   | builtin b =>
     cases b <;> first | rfl | skip
     all_goals
      unfold sop
      simp only
      rcases hargs : args.toList with _ | ⟨x, _ | ⟨y, _ | ⟨z, r⟩⟩⟩ <;> rcases htys : tys.toList with _ | ⟨u, _ | ⟨u2, r2⟩⟩ <;> first
       | rfl
       | (have h1 := ea x (by rw [hargs]; simp); have h2 := ea y (by rw [hargs]; simp); simp only [h1, h2])
       | (have h1 := ea x (by rw [hargs]; simp); simp only [h1])
   | value f => rfl
   | invoke r m => rfl
 | build bt parts =>
   have : parts.toList.map (valP t) = parts.toList.map (valP t') := by
    refine List.map_congr_left fun p hp => ?_
    obtain ⟨i, x⟩ := p
    have := e x (by simp [Op.operands]; exact ⟨i, by simpa using hp⟩)
    simp [valP, this]
   show bldA P h _ (parts.toList.map (valP t)) = bldA P h _ (parts.toList.map (valP t'))
   rw [this]
 | makeFunc fn first cap =>
   have h1 : first.toList.map (val t) = first.toList.map (val t') := map_val_congr fun x hx => e x (by simp [Op.operands]; exact .inl (by simpa using hx))
   have h2 : cap.toList.map (val t) = cap.toList.map (val t') := map_val_congr fun x hx => e x (by simp [Op.operands]; exact .inr (by simpa using hx))
   unfold sop
   simp only [h1, h2]
 | slice ty x lo hi mx =>
   have hx := e x (by simp [Op.operands])
   have h1 : lo.map (val t) = lo.map (val t') := by cases lo <;> simp; exact e _ (by simp [Op.operands])
   have h2 : hi.map (val t) = hi.map (val t') := by cases hi <;> simp; exact e _ (by simp [Op.operands])
   have h3 : mx.map (val t) = mx.map (val t') := by cases mx <;> simp; exact e _ (by simp [Op.operands])
   unfold sop
   simp only [hx, h1, h2, h3]
 | _ =>
   simp only [Op.operands, List.toList_toArray, List.mem_cons, List.mem_nil_iff, or_false, forall_eq_or_imp, forall_eq] at e
   unfold sop
   first | rfl | (simp only [e])
theorem aop_congr {P : Program} {C : Ctx} {o : Oper} {t t' : Nat → AV} {h : Heap} {n : Nat} {K : KT} (e : ∀ x ∈ o.op.operands.toList, val t x = val t' x) : aop P C o t h n (fun _ _ => False) K = aop P C o t' h n (fun _ _ => False) K := by
 have hs := sop_congr (P := P) (h := h) e
 obtain ⟨dst, op, ty, pos, after, guard⟩ := o
 simp only at e
 cases op with
 | call c =>
   obtain ⟨callee, args, tys⟩ := c
   have ea : args.toList.map (val t) = args.toList.map (val t') := map_val_congr fun x hx => e x (by simp [Op.operands, Call.operands]; exact .inr (by simpa using hx))
   cases callee with
   | builtin b =>
     cases b with
     | append => unfold aop; simp only [ea]
     | copy => unfold aop; simp only [ea]
     | clear => unfold aop; simp only [ea]
     | _ => unfold aop; simp only [hs]
   | value f =>
     have hf := e f (by simp [Op.operands, Call.operands])
     unfold aop
     simp only [ea, hf]
     rfl
   | invoke r m => unfold aop; simp only [hs]
 | buildSlice bt len parts =>
   have : parts.toList.map (valP t) = parts.toList.map (valP t') := by
    refine List.map_congr_left fun p hp => ?_
    obtain ⟨i, x⟩ := p
    have := e x (by simp [Op.operands]; exact ⟨i, by simpa using hp⟩)
    simp [valP, this]
   have h2 : (parts.toList.map fun (i, x) => (i, val t x)) = (parts.toList.map fun (i, x) => (i, val t' x)) := this
   unfold aop
   simp only [h2]
 | move x | assign x | box u x | store u a v | makeSlice u a v =>
   simp only [Op.operands, List.toList_toArray, List.mem_cons, List.mem_nil_iff, or_false, forall_eq_or_imp, forall_eq] at e
   unfold aop
   simp only [e, hs]
 | binOp op u x y z =>
   simp only [Op.operands, List.toList_toArray, List.mem_cons, List.mem_nil_iff, or_false, forall_eq_or_imp, forall_eq] at e
   unfold aop
   simp only [e]
 | alloc u => rfl
 | panic x =>
   simp only [Op.operands, List.toList_toArray, List.mem_cons, List.mem_nil_iff, or_false, forall_eq] at e
   unfold aop
   simp only [e]
 | _ => unfold aop; simp only [hs]
def pdOf : List Cell → Option (List PD)
 | [] => some []
 | .p d :: r => (pdOf r).map (d :: ·)
 | _ :: _ => none
def chunk {α : Type} (z : Nat) : Nat → List α → List (List α)
 | 0, _ => []
 | n + 1, l => l.take z :: chunk z n (l.drop z)
def bslP (P : Program) (h : Heap) (ty : TypeId) (len : Nat) (parts : List (Nat × AV)) : Option AV :=
 match slS P ty with
 | some z => (bslA P h ty len parts).bind fun cs => if cs.length = len * z then (pdOf cs).map fun ds => .one (.p (.sl z (chunk z len ds))) else none
 | none => none
def sopX (P : Program) (t : Nat → AV) (h : Heap) (o : Oper) : Option AV :=
 match o.op with
 | .buildSlice ty len parts => bslP P h ty len (parts.toList.map (valP t))
 | _ => sop P t h o
theorem chunk_length {α : Type} (z : Nat) : ∀ (n : Nat) (l : List α), (chunk z n l).length = n
 | 0, _ => rfl
 | n + 1, l => by simp [chunk, chunk_length z n]
theorem chunk_get {α : Type} (z : Nat) : ∀ (n : Nat) (l : List α), l.length = n * z → (∀ e ∈ chunk z n l, e.length = z) ∧ ∀ (i j : Nat) (e : List α) (d : α), (chunk z n l)[i]? = some e → e[j]? = some d → l[i * z + j]? = some d
 | 0, _, _ => ⟨fun e he => by simp [chunk] at he, fun i j e d he => by simp [chunk] at he⟩
 | n + 1, l, hl => by
   rw [Nat.add_mul] at hl
   obtain ⟨h1, h2⟩ := chunk_get z n (l.drop z) (by simp; omega)
   refine ⟨fun e he => ?_, fun i j e d he hd => ?_⟩
   ·rcases List.mem_cons.1 he with rfl | he
    ·simp; omega
    ·exact h1 e he
   ·cases i with
    | zero =>
      simp [chunk] at he
      subst he
      rw [List.getElem?_take] at hd
      split at hd
      ·simpa using hd
      ·cases hd
    | succ i =>
      have := h2 i j e d (by simpa [chunk] using he) hd
      rw [List.getElem?_drop] at this
      rw [← this]
      congr 1
      rw [Nat.add_mul]
      omega
theorem pdOf_get : ∀ {cs : List Cell} {ds : List PD}, pdOf cs = some ds → cs = ds.map .p
 | [], ds, e => by injection e with e; subst e; rfl
 | c :: cs, ds, e => by
   cases c with
   | p d =>
     simp only [pdOf] at e
     cases h : pdOf cs with
     | none => rw [h] at e; simp at e
     | some ds' => rw [h] at e; simp at e; subst e; rw [pdOf_get h]; rfl
   | _ => simp [pdOf] at e
theorem Inv.other {C : Ctx} {ι : Nat → Nat} {s : St} {a : Act} {w : World} (I : Inv C ι s a w) (o : Obj) : Moves ι s.h (C.b + s.n) w ι s.h (C.b + s.n) (w.alloc o) ∧ Inv C ι s a (w.alloc o) := by
 have M : Moves ι s.h (C.b + s.n) w ι s.h (C.b + s.n) (w.alloc o) := .world (fun b _ hb => heap_alloc_old w o b hb)
 refine ⟨M, I.outer, I.fresh, I.bound, ⟨fun id b e ne => ?_, I.heap.inj⟩, fun t => (I.tmps t).move M, I.ntmps, I.defers, ⟨by have := I.keeps.size; simp; omega, I.keeps.os, I.keeps.output, fun b hs hb => ?_⟩⟩
 ·obtain ⟨c, ty, h1, h2, h3⟩ := I.heap.blk id b e ne
  exact ⟨c, ty, (heap_alloc_old w o _ (I.heap.lt e ne)).trans h1, h2, fun j d u hd hu => (h3 j d u hd hu).move M⟩
 ·rw [heap_alloc_old w o b (by have := I.keeps.size; omega)]
  exact I.keeps.old b hs hb
theorem sopX_ok {P : Program} {C : Ctx} {ι : Nat → Nat} {s : St} {a : Act} {w : World} (I : Inv C ι s a w) {o : Oper} {av : AV} (e : sopX P s.t s.h o = some av) :
  ∃ v w', (execOp a.eval o).run P w = .ok (.value v) w' ∧ Inv C ι s a w' ∧ RAV ι s.h (C.b + s.n) w' av v := by
 obtain ⟨dst, op, ty0, pos, after, guard⟩ := o
 unfold sopX at e
 simp only at e
 split at e
 ·rename_i ty len parts
  unfold bslP at e
  split at e
  ·rename_i z hz
   cases hb : bslA P s.h ty len (parts.toList.map (valP s.t)) with
   | none => rw [hb] at e; simp at e
   | some cs =>
     rw [hb] at e
     simp only [Option.bind_some] at e
     split at e
     ·rename_i hcl
      cases hp : pdOf cs with
      | none => rw [hp] at e; simp at e
      | some ds =>
        rw [hp] at e
        simp only [Option.map_some, Option.some.injEq] at e
        subst e
        have hcs := pdOf_get hp
        have hdl : ds.length = len * z := by rw [← hcl, hcs]; simp
        -- the run, as for an own row
        have hb' : bslA P s.h ty len (parts.toList.map fun (i, x) => (i, val s.t x)) = some cs := hb
        unfold bslA at hb'
        split at hb'
        ·rename_i el hel
         split at hb'
         ·rename_i z' zs hsz hzz
          split at hb'
          ·rename_i hc
           obtain ⟨hzl, h0, hle⟩ := hc
           obtain ⟨i, zv, hi, hiz, hzs⟩ := tzero_run hzz
           obtain ⟨V', h1, h2⟩ := fill_ok _ ((parts.map fun (i, x) => (i, a.eval x)).toList) (by simp) (parts_ok (val_ok I) parts) _ (repl zs len).toArray (by simpa using reps_repl zs len) cs hb'
           have hrun : (Instr.buildSlice ty len (parts.map fun (i, x) => (i, a.eval x))).run P w = .ok (.slice (some ⟨w.heap.size, 0, none⟩) len len) (w.alloc (.cells V' el)) := by
            rcases h0 with h0 | rfl
            case inr =>
             have h1' : Instr.fill (fun i => some (i * z', z')) #[] (parts.map fun (i, x) => (i, a.eval x)).toList = some V' := h1
             simp only [Instr.buildSlice, Sem.run_bind, run_underlying (slE_run hel), tsz_run hsz, Result.andThen]
             rw [if_neg (by omega), if_pos (by omega)]
             simp only [Sem.run_bind, Result.andThen, Sem.run_pure, Nat.zero_mul, Array.range_zero', Array.map_empty]
             rw [h1']
             rfl
            have hzr : (zeroValue el).run P w = .ok zv w := by simp [zeroValue, typeInfo, hi, hiz]
            have hzc : zv.cells = zs.toArray := by apply Array.ext'; simpa using hzs
            have hr := range_repl zs len z' hzl
            simp only [Instr.buildSlice, Sem.run_bind, run_underlying (slE_run hel), tsz_run hsz, Result.andThen]
            rw [if_neg (by omega), if_neg (by omega)]
            simp only [Sem.run_bind, hzr, Result.andThen, Sem.run_pure, hzc]
            rw [hr, h1]
            rfl
           obtain ⟨M, I'⟩ := I.other (.cells V' el)
           refine ⟨.slice (some ⟨w.heap.size, 0, none⟩) len len, w.alloc (.cells V' el), ?_, I', .one (.p ?_)⟩
           ·show (do pure (.value (← Instr.buildSlice ty len (parts.map fun (i, x) => (i, a.eval x)))) : Sem Next).run P w = _
            simp only [Sem.run_bind, hrun, Result.andThen, Sem.run_pure]
           ·obtain ⟨c1, c2⟩ := chunk_get z len ds hdl
            have hlen := chunk_length z len ds
            have hVl : V'.size = len * z := by have := h2.1; simp at this; rw [this, hcl]
            have := RPD.sl (S := stab ι s.h) (w := w.alloc (.cells V' el)) (sz := z) (es := chunk z len ds) (some ⟨w.heap.size, 0, none⟩) len (fun i j => V'.getD (i * z + j) undef) (by omega) (fun hn => by cases hn) (fun A hA => by injection hA with hA; subst hA; exact .inr rfl) c1
             (fun i e he j d hd => by
              have hg := c2 i j e d he hd
              have hlt : i * z + j < V'.size := by rw [hVl, ← hdl]; exact (List.getElem?_eq_some_iff.1 hg).1
              refine ⟨_, rfl, fun id blk e ne => ?_, ?_⟩
              ·exact Nat.ne_of_lt (I.heap.lt e ne)
              ·have : (w.alloc (.cells V' el)).cell? ⟨w.heap.size, 0 + (i * z + j), none⟩ = V'[0 + (i * z + j)]? := World.cell?_alloc_new w V' el _
               rw [this]
               simp [Array.getD, hlt])
             (fun i e he j d hd => by
              have hg := c2 i j e d he hd
              have hlt : i * z + j < V'.size := by rw [hVl, ← hdl]; exact (List.getElem?_eq_some_iff.1 hg).1
              have hcd : cs[i * z + j]? = some (.p d) := by rw [hcs, List.getElem?_map, hg]; rfl
              have hr := (h2.2 (i * z + j) (.p d) V'[i * z + j] hcd (by rw [Array.getElem?_toList]; exact Array.getElem?_eq_getElem hlt)).move M
              have e1 : V'.getD (i * z + j) undef = V'[i * z + j] := by simp [Array.getD, hlt]
              rw [e1]
              cases hr with
              | p hd' => exact hd')
            rw [hlen] at this
            exact this
          ·cases hb'
         ·cases hb'
        ·cases hb'
     ·cases e
  ·cases e
 ·obtain ⟨v, h1, h2⟩ := sop_ok (P := P) (val_ok I) I.heap e
  exact ⟨v, w, h1, I, h2⟩
theorem bslP_mono {P : Program} {h h' : Heap} (s : Sub h h') {ty : TypeId} {len : Nat} {parts : List (Nat × AV)} {v : AV} (e : bslP P h ty len parts = some v) : bslP P h' ty len parts = some v := by
 unfold bslP at e ⊢
 split at e
 ·cases hb : bslA P h ty len parts with
  | none => rw [hb] at e; simp at e
  | some cs =>
    have : bslA P h' ty len parts = some cs := by
     unfold bslA at hb ⊢
     split at hb
     ·split at hb
      ·split at hb
       ·rename_i hc; rw [if_pos hc]; exact fillA_mono s hb
       ·cases hb
      ·cases hb
     ·cases hb
    rw [hb] at e
    rw [this]
    exact e
 ·cases e
theorem sopX_mono {P : Program} {h h' : Heap} (s : Sub h h') {t : Nat → AV} {o : Oper} {v : AV} (e : sopX P t h o = some v) : sopX P t h' o = some v := by
 unfold sopX at e ⊢
 split at e
 ·exact bslP_mono s e
 ·exact sop_mono s e
theorem sopX_congr {P : Program} {h : Heap} {t t' : Nat → AV} {o : Oper} (e : ∀ x ∈ o.op.operands.toList, val t x = val t' x) : sopX P t h o = sopX P t' h o := by
 unfold sopX
 split
 ·rename_i ty len parts ho
  rw [ho] at e
  have : parts.toList.map (valP t) = parts.toList.map (valP t') := by
   refine List.map_congr_left fun p hp => ?_
   obtain ⟨i, x⟩ := p
   have := e x (by simp [Op.operands]; exact ⟨i, by simpa using hp⟩)
   simp [valP, this]
  rw [this]
 ·exact sop_congr e
def simpleB : Op → Bool
 | .move _ | .assign _ | .pick .. | .load .. | .fieldAddr .. | .field .. | .indexAddr .. | .index .. | .binOp .. | .unOp .. | .convert .. | .slice .. | .extract .. | .nilCheck _ | .build .. | .makeFunc .. | .buildSlice .. => true
 | .call { callee := .builtin .len, .. } | .call { callee := .builtin .cap, .. } | .call { callee := .builtin .min, .. } | .call { callee := .builtin .max, .. } => true
 | _ => false
def inS : List Tmp → Option Tmp → Bool
 | [], _ => false
 | _ :: _, none => false
 | x :: S, some d => if d = x then true else inS S (some d)
def lkS : List Tmp → List AV → Option Tmp → AV
 | x :: S, v :: V, some d => if d = x then v else lkS S V (some d)
 | _, _, _ => .one .junk
def isCallV : Op → Bool
 | .call { callee := .value _, .. } => true
 | .call { callee := .builtin .append, .. } => true
 | _ => false
def simpO (S : List Tmp) (op : Op) (dst : Option Tmp) : Bool := if inS S dst = true then isCallV op else simpleB op
def simpleP (S : List Tmp) (o : Oper) : Bool := simpO S o.op o.dst
def BiP (P : Program) (hS : Heap) (tys : List TypeId) (args : List AV) (v : AV) : Prop :=
 ∀ (C : Ctx) (h : Heap) (n : Nat), Sub hS h → BiK P C .append tys args h n (fun r h' n' => r = v ∧ h' = h ∧ n' = n)
def PureC (P : Program) (hS : Heap) (t : Nat → AV) (op : Op) (v : AV) : Prop :=
 match op with
 | .call ⟨.value f, xs, _⟩ => match val t f with
   | .one (.clo (.func g) first cap) => bodyB P g = true ∧ ∀ h b, Sub hS h → ACalls P g (first.map .one ++ (xs.toList.map (val t) ++ cap.map .one)) h b 0 (fun r h' => r = v ∧ h' = h)
   | _ => False
 | .call ⟨.builtin .append, xs, tys⟩ => BiP P hS tys.toList (xs.toList.map (val t)) v
 | _ => False
def wantD (ops : Array Oper) (t : Nat → AV) (o : Oper) : Option Bool :=
 match o.guard with
 | none => some true
 | some (j, want) => match (ops[j]?).bind (·.dst) with
   | some d => match t d with
     | .one (.p (.v (.bool g))) => some (g == want)
     | .one (.p (.v (.tuple _))) => some false
     | _ => none
   | none => none
def valD (P : Program) (S : List Tmp) (V : List AV) (hS : Heap) (ops : Array Oper) (t : Nat → AV) (o : Oper) : Option AV :=
 match wantD ops t o with
 | some true => if simpleB o.op = true then sopX P t hS o else some (lkS S V o.dst)
 | some false => some undA
 | none => none
def sigD (P : Program) (C : Ctx) (hS : Heap) (ops : Array Oper) (o : Oper) (t : Nat → AV) (h : Heap) (n : Nat) (K : KT) : Prop :=
 match wantD ops t o with
 | some true => aop P C o t h n (fun _ _ => False) fun v h' n' => Sub hS h' ∧ K v h' n'
 | some false => K undA h n
 | none => False
def okD (P : Program) (hS : Heap) (ops : Array Oper) (t : Nat → AV) (o : Oper) (v : AV) : Prop :=
 simpleB o.op = true ∨ wantD ops t o = some false ∨ PureC P hS t o.op v
def evD (P : Program) (C : Ctx) (S : List Tmp) (V : List AV) (hS : Heap) (ops : Array Oper) : List Oper → (Nat → AV) → Heap → Nat → FinT → Prop
 | [], t, h, n, K => K t h n
 | o :: os, t, h, n, K => if simpleP S o = true then ∃ v, valD P S V hS ops t o = some v ∧ okD P hS ops t o v ∧ evD P C S V hS ops os (putT t o.dst v) h n K
   else sigD P C hS ops o t h n fun v h' n' => evD P C S V hS ops os (putT t o.dst v) h' n' K
section
variable {P : Program} {C : Ctx} {S : List Tmp} {V : List AV} {hS : Heap} {ops : Array Oper}
def Same (ops : Array Oper) (o : Oper) (t t' : Nat → AV) : Prop := ∀ d ∈ o.looksAt ops, t d = t' d
theorem Same.operands {o : Oper} {t t' : Nat → AV} (s : Same ops o t t') : ∀ x ∈ o.op.operands.toList, val t x = val t' x := by
 refine val_congr (l := o.op.operands.toList) fun d hd => s d ?_
 unfold Oper.looksAt
 exact List.mem_append.2 (.inl hd)
theorem wantD_congr {o : Oper} {t t' : Nat → AV} (s : Same ops o t t') : wantD ops t o = wantD ops t' o := by
 unfold wantD
 split
 ·rfl
 ·rename_i j want hg
  split
  ·rename_i d hd
   have : t d = t' d := s d (by unfold Oper.looksAt; rw [hg]; simp only [hd]; simp)
   rw [this]
  ·rfl
theorem valD_congr {o : Oper} {t t' : Nat → AV} (s : Same ops o t t') : valD P S V hS ops t o = valD P S V hS ops t' o := by
 unfold valD
 rw [wantD_congr s, sopX_congr s.operands]
theorem pureC_congr {o : Oper} {t t' : Nat → AV} {v : AV} (s : Same ops o t t') : PureC P hS t o.op v = PureC P hS t' o.op v := by
 have e := s.operands
 obtain ⟨dst, op, ty, pos, after, guard⟩ := o
 simp only at e ⊢
 cases op with
 | call c =>
   obtain ⟨callee, args, tys⟩ := c
   cases callee with
   | value f =>
     have ea : args.toList.map (val t) = args.toList.map (val t') := map_val_congr fun x hx => e x (by simp [Op.operands, Call.operands]; exact .inr (by simpa using hx))
     have hf := e f (by simp [Op.operands, Call.operands])
     unfold PureC
     simp only [ea, hf]
   | builtin b =>
     have ea : args.toList.map (val t) = args.toList.map (val t') := map_val_congr fun x hx => e x (by simp [Op.operands, Call.operands]; simpa using hx)
     cases b with
     | append => unfold PureC; simp only [ea]
     | _ => rfl
   | _ => rfl
 | _ => rfl
theorem okD_congr {o : Oper} {t t' : Nat → AV} {v : AV} (s : Same ops o t t') : okD P hS ops t o v = okD P hS ops t' o v := by
 unfold okD
 rw [wantD_congr s, pureC_congr s]
theorem pure_wp {o : Oper} {t : Nat → AV} {h : Heap} {n : Nat} {v : AV} (hs : Sub hS h) (p : PureC P hS t o.op v) : AOp P C o ⟨t, h, n⟩ (fun _ _ => False) (fun av h' n' => av = v ∧ h' = h ∧ n' = n) := by
 obtain ⟨dst, op, ty, pos, after, guard⟩ := o
 simp only at p
 unfold PureC at p
 split at p
 ·rename_i f xs tys
  split at p
  ·rename_i g first cap hf
   obtain ⟨hb, hc⟩ := p
   refine call_ok (f := f) (xs := xs) (tys := tys) rfl hf (.inl ⟨0, fun r h' => r = v ∧ h' = h, hb, ?_, ?_⟩)
   ·rw [List.append_assoc]; exact hc h (C.b + n) hs
   ·rintro r h' ⟨rfl, rfl⟩; exact ⟨rfl, rfl, rfl⟩
  ·exact p.elim
 ·exact bi_ok rfl (p C h n hs)
 ·exact p.elim
theorem sigD_congr {o : Oper} {t t' : Nat → AV} {h : Heap} {n : Nat} {K : KT} (s : Same ops o t t') : sigD P C hS ops o t h n K = sigD P C hS ops o t' h n K := by
 unfold sigD
 rw [wantD_congr s, aop_congr s.operands]
theorem Same.put {o : Oper} {t : Nat → AV} {d : Option Tmp} {v : AV} (hd : ∀ x, d = some x → x ∉ o.looksAt ops) : Same ops o (putT t d v) t := by
 intro x hx
 cases d with
 | none => rfl
 | some y =>
   show updT t y v x = t x
   rw [updT_ne _ _ _ _ (fun e => hd y rfl (by rw [← e]; exact hx))]
theorem putT_comm (t : Nat → AV) {x y : Option Tmp} (v u : AV) (h : ∀ d, x = some d → y ≠ some d) : putT (putT t x v) y u = putT (putT t y u) x v := by
 cases x with
 | none => rfl
 | some a =>
   cases y with
   | none => rfl
   | some b =>
     have hab : a ≠ b := fun e => h a rfl (by rw [e])
     funext i
     show updT (updT t a v) b u i = updT (updT t b u) a v i
     unfold updT
     split <;> split <;> simp_all
theorem splitB_mono {x : AV} {K K' : AV → Prop} (hk : ∀ v, K v → K' v) (e : splitB x K) : splitB x K' := by
 unfold splitB at e ⊢
 split at e
 ·exact ⟨fun h => hk _ (e.1 h), fun h => hk _ (e.2 h)⟩
 ·exact hk _ e
theorem optK_mono {x : Option AV} {K K' : AV → Prop} (hk : ∀ v, K v → K' v) (e : optK x K) : optK x K' := by
 obtain ⟨v, rfl, h⟩ := optK_ok e
 exact hk v h
theorem aop_mono {o : Oper} {t : Nat → AV} {h : Heap} {n : Nat} {E : Exit → St → Prop} {K K' : KT} (hk : ∀ v h n, K v h n → K' v h n) (e : aop P C o t h n E K) : aop P C o t h n E K' := by
 unfold aop at e ⊢
 split at e
 ·exact splitB_mono (fun v => hk v h n) e
 ·split at e
  ·exact hk _ _ _ e
  ·intro a w ι X Y I rx ry
   obtain ⟨v, w', av, h', n', ι', h1, h2, h3, h4, h5⟩ := e a w ι X Y I rx ry
   exact ⟨v, w', av, h', n', ι', h1, hk _ _ _ h2, h3, h4, h5⟩
 ·exact ⟨e.1, hk _ _ _ e.2⟩
 ·split at e
  ·exact hk _ _ _ e
  ·exact e.elim
 ·split at e
  ·exact hk _ _ _ e
  ·exact e.elim
 ·split at e
  ·exact hk _ _ _ e
  ·exact e.elim
 ·intro a w ι X Y I rx ry
  obtain ⟨v, w', av, h', n', ι', h1, h2, h3, h4, h5⟩ := e a w ι X Y I rx ry
  exact ⟨v, w', av, h', n', ι', h1, hk _ _ _ h2, h3, h4, h5⟩
 ·split at e
  ·rcases e with ⟨m, R, hb, hc, hr⟩ | e | ⟨m, R, X, hb, hc, hr, hx⟩
   ·exact .inl ⟨m, R, hb, hc, fun r h' hR => hk _ _ _ (hr r h' hR)⟩
   ·refine .inr (.inl fun a w ι Vs I hv => ?_)
    obtain ⟨v, w', av, h', n', ι', h1, h2, h3, h4, h5⟩ := e a w ι Vs I hv
    exact ⟨v, w', av, h', n', ι', h1, hk _ _ _ h2, h3, h4, h5⟩
   ·exact .inr (.inr ⟨m, R, X, hb, hc, fun r h' hR => hk _ _ _ (hr r h' hR), hx⟩)
  ·exact e.elim
 ·exact e
 iterate 3
  ·intro a w ι Vs I hv ty cs
   obtain ⟨v, w', av, h', n', ι', h1, h2, h3, h4, h5⟩ := e a w ι Vs I hv ty cs
   exact ⟨v, w', av, h', n', ι', h1, hk _ _ _ h2, h3, h4, h5⟩
 ·exact optK_mono (fun v => hk v h n) e
theorem sigD_mono {o : Oper} {t : Nat → AV} {h : Heap} {n : Nat} {K K' : KT} (hk : ∀ v h n, K v h n → K' v h n) (e : sigD P C hS ops o t h n K) : sigD P C hS ops o t h n K' := by
 unfold sigD at e ⊢
 split at e
 ·exact aop_mono (fun v h n ⟨s, k⟩ => ⟨s, hk _ _ _ k⟩) e
 ·exact hk _ _ _ e
 ·exact e.elim
theorem wp_some {o : Oper} {a : Act} {w : World} {next : Act → World → Prop} (e : o.wp P a w next fun _ _ _ => False) : ∃ a' w', next a' w' := by
 unfold Oper.wp Oper.upon at e
 split at e
 ·exact ⟨_, _, e⟩
 ·exact ⟨_, _, e⟩
 ·exact ⟨_, _, e⟩
 ·obtain ⟨en, w', fr, hR, _⟩ := e []
  cases en with
  | returned v => exact ⟨_, _, hR⟩
  | panicked c => exact hR.elim
  | outgrown => obtain ⟨_, _, hf⟩ := hR; exact hf.elim
 ·obtain ⟨v, w', hR, _⟩ := e default []
  exact ⟨_, _, hR⟩
 ·exact e.elim
 ·exact e.elim
theorem sig_some {o : Oper} {t : Nat → AV} {h : Heap} {n : Nat} {K : KT} {ι : Nat → Nat} {a : Act} {w : World} (I : Inv C ι ⟨t, h, n⟩ a w) (hs : Sub hS h) (e : sigD P C hS ops o t h n K) :
  ∃ v h' n' ι' w' u, K v h' n' ∧ Sub hS h' ∧ Inv C ι' ⟨t, h', n'⟩ a w' ∧ RAV ι' h' (C.b + n') w' v u := by
 unfold sigD at e
 split at e
 ·have := aop_ok e a w ι I (fun _ _ => ∃ v h' n' ι' w' u, K v h' n' ∧ Sub hS h' ∧ Inv C ι' ⟨t, h', n'⟩ a w' ∧ RAV ι' h' (C.b + n') w' v u) (fun _ _ _ => False) (fun _ _ _ _ _ hf _ => hf) (fun v av h' n' ι' w' hk hI hr => ⟨av, h', n', ι', w', v, hk.2, hk.1, hI, hr⟩)
  obtain ⟨_, _, hh⟩ := wp_some this
  exact hh
 ·exact ⟨_, h, n, ι, w, undef, e, hs, I, rav_v _⟩
 ·exact e.elim
theorem simple_some {o : Oper} {t : Nat → AV} {h : Heap} {n : Nat} {ι : Nat → Nat} {a : Act} {w : World} (I : Inv C ι ⟨t, h, n⟩ a w) (hs : Sub hS h) {v : AV} (e : valD P S V hS ops t o = some v) (ok : okD P hS ops t o v) :
  ∃ ι' u w', Inv C ι' ⟨t, h, n⟩ a w' ∧ RAV ι' h (C.b + n) w' v u := by
 unfold valD at e
 split at e
 ·rename_i hw
  split at e
  ·obtain ⟨u, w', _, I', hr⟩ := sopX_ok (P := P) I (sopX_mono hs e)
   exact ⟨ι, u, w', I', hr⟩
  ·rename_i hsb
   have p : PureC P hS t o.op v := by
    rcases ok with ok | ok | ok
    ·exact absurd ok hsb
    ·rw [hw] at ok; cases ok
    ·exact ok
   have := pure_wp (C := C) (n := n) hs p a w ι I (fun _ _ => ∃ ι' u w', Inv C ι' ⟨t, h, n⟩ a w' ∧ RAV ι' h (C.b + n) w' v u) (fun _ _ _ => False) (fun _ _ _ _ _ hf _ => hf) (fun u av h' n' ι' w' hk hI hr => by
    obtain ⟨rfl, rfl, rfl⟩ := hk
    exact ⟨ι', u, w', hI, hr⟩)
   obtain ⟨_, _, hh⟩ := wp_some this
   exact hh
 ·injection e with e; subst e; exact ⟨ι, undef, w, I, rav_v _⟩
 ·cases e
theorem putT_keep {t : Nat → AV} {d : Option Tmp} {v : AV} {x : Nat} (h : d ≠ some x) : putT t d v x = t x := by
 cases d with
 | none => rfl
 | some y => exact updT_ne _ _ _ _ (fun e => h (by rw [e]))
theorem evD_some : ∀ (l : List Oper) (t : Nat → AV) (h : Heap) (n : Nat) (ι : Nat → Nat) (a : Act) (w : World) (K : FinT), (∀ o ∈ l, dstOK C.N o.dst) → Inv C ι ⟨t, h, n⟩ a w → Sub hS h → evD P C S V hS ops l t h n K →
  ∃ t' h' n', K t' h' n' ∧ ∀ d, (∀ o ∈ l, o.dst ≠ some d) → t' d = t d
 | [], t, h, n, _, _, _, K, _, _, _, e => ⟨t, h, n, e, fun _ _ => rfl⟩
 | o :: os, t, h, n, ι, a, w, K, hd, I, hs, e => by
   unfold evD at e
   split at e
   ·obtain ⟨v, hv, ok, e⟩ := e
    obtain ⟨ι', u, w', I', hr⟩ := simple_some I hs hv ok
    obtain ⟨t', h', n', k, hk⟩ := evD_some os _ h n ι' (a.put o.dst u) w' K (fun o ho => hd o (by simp [ho])) (I'.put (hd o (by simp)) hr) hs e
    exact ⟨t', h', n', k, fun d hn => (hk d (fun o ho => hn o (by simp [ho]))).trans (putT_keep (hn o (by simp)))⟩
   ·obtain ⟨v, h', n', ι', w', u, hk, hs', I', hr⟩ := sig_some I hs e
    obtain ⟨t', h', n', k, hk⟩ := evD_some os _ h' n' ι' (a.put o.dst u) w' K (fun o ho => hd o (by simp [ho])) (I'.put (hd o (by simp)) hr) hs' hk
    exact ⟨t', h', n', k, fun d hn => (hk d (fun o ho => hn o (by simp [ho]))).trans (putT_keep (hn o (by simp)))⟩
theorem evD_mono : ∀ (l : List Oper) (t : Nat → AV) (h : Heap) (n : Nat) {K K' : FinT}, (∀ t h n, K t h n → K' t h n) → evD P C S V hS ops l t h n K → evD P C S V hS ops l t h n K'
 | [], t, h, n, _, _, hk, e => hk t h n e
 | o :: os, t, h, n, K, K', hk, e => by
   unfold evD at e ⊢
   split at e
   ·rename_i hs; rw [if_pos hs]; obtain ⟨v, hv, ok, e⟩ := e; exact ⟨v, hv, ok, evD_mono os _ h n hk e⟩
   ·rename_i hs; rw [if_neg hs]; exact sigD_mono (fun v h' n' e => evD_mono os _ h' n' hk e) e
theorem evD_app : ∀ (l l2 : List Oper) (t : Nat → AV) (h : Heap) (n : Nat) (K : FinT), evD P C S V hS ops (l ++ l2) t h n K = evD P C S V hS ops l t h n (fun t h n => evD P C S V hS ops l2 t h n K)
 | [], l2, t, h, n, K => rfl
 | o :: os, l2, t, h, n, K => by
   simp only [List.cons_append, evD]
   split
   ·simp only [evD_app os l2]
   ·simp only [evD_app os l2]
def isLd : Op → Bool
 | .load .. => true
 | _ => false
def free2 (S : List Tmp) (ops : Array Oper) (x y : Oper) : Bool := x.apart ops y && (simpleP S x || simpleP S y || (isLd x.op && isLd y.op))
def ldV (P : Program) (ops : Array Oper) (t : Nat → AV) (h : Heap) (o : Oper) : Option AV := match wantD ops t o with
 | some true => sop P t h o
 | some false => some undA
 | none => none
theorem sig_ld {o : Oper} (hl : isLd o.op = true) {t : Nat → AV} {h : Heap} {n : Nat} {K : KT} : sigD P C hS ops o t h n K ↔ ∃ v, ldV P ops t h o = some v ∧ (wantD ops t o = some true → Sub hS h) ∧ K v h n := by
 have ha : ∀ K' : KT, aop P C o t h n (fun _ _ => False) K' = optK (sop P t h o) (fun v => K' v h n) := fun K' => by
  obtain ⟨dst, op, ty, pos, after, guard⟩ := o
  cases op with
  | load a b => rfl
  | _ => cases hl
 unfold sigD ldV
 cases hw : wantD ops t o with
 | none => simp
 | some b =>
   cases b with
   | false => simp
   | true =>
     simp only [ha]
     cases hs : sop P t h o with
     | none => simp [optK]
     | some v => simp [optK]
theorem evD_swap {x y : Oper} (hf : free2 S ops x y = true) {l : List Oper} {t : Nat → AV} {h : Heap} {n : Nat} {K : FinT} (hy0 : simpleP S y = true → ∃ u, valD P S V hS ops t y = some u ∧ okD P hS ops t y u)
  (e : evD P C S V hS ops (x :: y :: l) t h n K) : evD P C S V hS ops (y :: x :: l) t h n K := by
 simp only [free2, Bool.and_eq_true, Bool.or_eq_true] at hf
 obtain ⟨ha, hsim⟩ := hf
 obtain ⟨h1, h2, h3⟩ := Oper.apart_spec ha
 have sy : ∀ (t : Nat → AV) (v : AV), Same ops y (putT t x.dst v) t := fun t v => Same.put h1
 have sx : ∀ (t : Nat → AV) (v : AV), Same ops x (putT t y.dst v) t := fun t v => Same.put h3
 have cm : ∀ (t : Nat → AV) (v u : AV), putT (putT t x.dst v) y.dst u = putT (putT t y.dst u) x.dst v := fun t v u => putT_comm t v u h2
 unfold evD at e ⊢
 by_cases hx : simpleP S x = true
 ·rw [if_pos hx] at e
  obtain ⟨v, hv, okv, e⟩ := e
  unfold evD at e
  by_cases hy : simpleP S y = true
  ·rw [if_pos hy] at e ⊢
   obtain ⟨u, hu, oku, e⟩ := e
   rw [valD_congr (sy t v)] at hu
   rw [okD_congr (sy t v)] at oku
   refine ⟨u, hu, oku, ?_⟩
   unfold evD
   rw [if_pos hx]
   exact ⟨v, by rw [valD_congr (sx t u)]; exact hv, by rw [okD_congr (sx t u)]; exact okv, by rw [← cm]; exact e⟩
  ·rw [if_neg hy] at e ⊢
   rw [sigD_congr (sy t v)] at e
   refine sigD_mono (fun u h' n' e => ?_) e
   unfold evD
   rw [if_pos hx]
   exact ⟨v, by rw [valD_congr (sx t u)]; exact hv, by rw [okD_congr (sx t u)]; exact okv, by rw [← cm]; exact e⟩
 ·rw [if_neg hx] at e
  by_cases hy : simpleP S y = true
  case neg =>
   obtain ⟨lx, ly⟩ := hsim.resolve_left (fun q => q.elim hx hy)
   rw [if_neg hy]
   obtain ⟨v, hv, sv, e⟩ := (sig_ld lx).1 e
   unfold evD at e
   rw [if_neg hy, sigD_congr (sy t v)] at e
   obtain ⟨u, hu, su, e⟩ := (sig_ld ly).1 e
   refine (sig_ld ly).2 ⟨u, hu, su, ?_⟩
   unfold evD
   rw [if_neg hx, sigD_congr (sx t u)]
   exact (sig_ld lx).2 ⟨v, hv, sv, by rw [← cm]; exact e⟩
  rw [if_pos hy]
  obtain ⟨u, hu, oku⟩ := hy0 hy
  refine ⟨u, hu, oku, ?_⟩
  unfold evD
  rw [if_neg hx, sigD_congr (sx t u)]
  refine sigD_mono (fun v h' n' e => ?_) e
  unfold evD at e
  rw [if_pos hy] at e
  obtain ⟨u', hu', _, e⟩ := e
  rw [valD_congr (sy t v), hu] at hu'
  injection hu' with hu'
  subst hu'
  rw [← cm]
  exact e
theorem evD_front {y : Oper} : ∀ (l1 : List Oper) {l2 : List Oper} {t : Nat → AV} {h : Heap} {n : Nat} {K : FinT}, (∀ x ∈ l1, free2 S ops x y = true) → (simpleP S y = true → ∃ u, valD P S V hS ops t y = some u ∧ okD P hS ops t y u) →
  evD P C S V hS ops (l1 ++ y :: l2) t h n K → evD P C S V hS ops (y :: (l1 ++ l2)) t h n K
 | [], _, _, _, _, _, _, _, e => e
 | x :: l1, l2, t, h, n, K, hf, hy0, e => by
   have hfx := hf x (by simp)
   have hap : x.apart ops y = true := by simp only [free2, Bool.and_eq_true] at hfx; exact hfx.1
   have sy : ∀ (t : Nat → AV) (v : AV), Same ops y (putT t x.dst v) t := fun t v => Same.put (Oper.apart_spec hap).1
   refine evD_swap hfx hy0 ?_
   rw [List.cons_append] at e
   unfold evD at e ⊢
   have hy1 : ∀ v, simpleP S y = true → ∃ u, valD P S V hS ops (putT t x.dst v) y = some u ∧ okD P hS ops (putT t x.dst v) y u := fun v hy => by
    obtain ⟨u, hu, oku⟩ := hy0 hy
    exact ⟨u, by rw [valD_congr (sy t v)]; exact hu, by rw [okD_congr (sy t v)]; exact oku⟩
   by_cases hx : simpleP S x = true
   ·rw [if_pos hx] at e ⊢
    obtain ⟨v, hv, okv, e⟩ := e
    exact ⟨v, hv, okv, evD_front l1 (fun z hz => hf z (by simp [hz])) (hy1 v) e⟩
   ·rw [if_neg hx] at e ⊢
    exact sigD_mono (fun v h' n' e => evD_front l1 (fun z hz => hf z (by simp [hz])) (hy1 v) e) e
theorem free2_same {y : Oper} {t t' : Nat → AV} {l1 : List Oper} (hf : ∀ x ∈ l1, free2 S ops x y = true) (hk : ∀ d, (∀ o ∈ l1, o.dst ≠ some d) → t' d = t d) : Same ops y t' t := by
 intro d hd
 refine hk d fun o ho e => ?_
 have := hf o ho
 simp only [free2, Bool.and_eq_true] at this
 exact (Oper.apart_spec this.1).1 d e hd
theorem evD_first {y : Oper} (l1 : List Oper) {l2 : List Oper} {t : Nat → AV} {h : Heap} {n : Nat} {K : FinT} {ι : Nat → Nat} {a : Act} {w : World} (hf : ∀ x ∈ l1, free2 S ops x y = true) (hd : ∀ x ∈ l1, dstOK C.N x.dst)
  (I : Inv C ι ⟨t, h, n⟩ a w) (hs : Sub hS h) (e : evD P C S V hS ops (l1 ++ y :: l2) t h n K) : evD P C S V hS ops (y :: (l1 ++ l2)) t h n K := by
 refine evD_front l1 hf (fun hy => ?_) e
 rw [evD_app] at e
 obtain ⟨t', h', n', k, hk⟩ := evD_some l1 t h n ι a w _ hd I hs e
 unfold evD at k
 rw [if_pos hy] at k
 obtain ⟨u, hu, oku, _⟩ := k
 exact ⟨u, by rw [← valD_congr (free2_same (y := y) hf hk)]; exact hu, by rw [← okD_congr (free2_same (y := y) hf hk)]; exact oku⟩
def waits (ops : Array Oper) : Nat → Nat → Nat → Bool
 | 0, _, _ => false
 | f + 1, i, j => match ops[i]? with
   | some o => o.after.any fun e => Region.binds .any e && (e.on == j || waits ops f e.on j)
   | none => false
def drawB (S : List Tmp) (ops : Array Oper) : Bool :=
 (List.range ops.size).all fun i => match ops[i]? with
  | some o => (o.after.all fun e => !Region.binds .any e || decide (e.on < i)) && (List.range i).all fun j => match ops[j]? with
    | some x => waits ops ops.size i j || free2 S ops x o
    | none => true
  | none => true
theorem waits_listed {listed : Array Bool} (hc : ∀ k ok, ops[k]? = some ok → listed.getD k true = true → ∀ e ∈ ok.after, Region.binds .any e = true → listed.getD e.on true = true) :
  ∀ (f i j : Nat) (oi : Oper), ops[i]? = some oi → (∀ e ∈ oi.after, Region.binds .any e = true → listed.getD e.on true = true) → waits ops f i j = true → listed.getD j true = true
 | 0, _, _, _, _, _, h => by cases h
 | f + 1, i, j, oi, hi, ha, h => by
   unfold waits at h
   rw [hi] at h
   simp only at h
   obtain ⟨e, he, hb⟩ := Array.any_eq_true'.1 h
   simp only [Bool.and_eq_true, Bool.or_eq_true, beq_iff_eq] at hb
   rcases hb.2 with h2 | h2
   ·rw [← h2]; exact ha e he hb.1
   ·cases hk : ops[e.on]? with
    | none => cases f <;> simp [waits, hk] at h2
    | some ok => exact waits_listed hc f e.on j ok hk (hc e.on ok hk (ha e he hb.1)) h2
theorem drawB_spec (hB : drawB S ops = true) {i : Nat} {o : Oper} (hi : ops[i]? = some o) : (∀ e ∈ o.after, Region.binds .any e = true → e.on < i) ∧ ∀ j x, j < i → ops[j]? = some x → waits ops ops.size i j = true ∨ free2 S ops x o = true := by
 have hlt : i < ops.size := (Array.getElem?_eq_some_iff.1 hi).1
 have := List.all_eq_true.1 hB i (List.mem_range.2 hlt)
 rw [hi] at this
 simp only [Bool.and_eq_true, List.all_eq_true, List.mem_range] at this
 refine ⟨fun e he hb => ?_, fun j x hj hx => ?_⟩
 ·have := Array.all_eq_true_iff_forall_mem.1 this.1 e he
  simp only [hb, Bool.not_true, Bool.false_or, decide_eq_true_eq] at this
  exact this
 ·have := this.2 j hj
  rw [hx] at this
  simpa using this
def opsAt (ops : Array Oper) (R : List Nat) : List Oper := R.filterMap (ops[·]?)
theorem getD_set {listed : Array Bool} {i j : Nat} : (listed.setIfInBounds i true).getD j true = if i = j then true else listed.getD j true := by
 simp only [Array.getD_eq_getD_getElem?, Array.getElem?_setIfInBounds]
 by_cases h : i = j
 ·rw [if_pos h, if_pos h]
  split <;> rfl
 ·rw [if_neg h, if_neg h]
theorem wanted_ok {t : Nat → AV} {h : Heap} {n : Nat} {ι : Nat → Nat} {a : Act} {w : World} (I : Inv C ι ⟨t, h, n⟩ a w) (hN : ∀ (i : Nat) (o : Oper), ops[i]? = some o → dstOK C.N o.dst) {o : Oper} {b : Bool} (e : wantD ops t o = some b) :
  Region.wanted o (yielded ops a.tmps) = b := by
 unfold wantD at e
 unfold Region.wanted
 split at e
 ·rename_i hg; rw [hg]; injection e
 ·rename_i j want hg
  rw [hg]
  split at e
  ·rename_i d hd
   split at e
   ·rename_i g ht
    injection e with e
    subst e
    have hd2 : d < C.N := by
     cases hh : ops[j]? with
     | none => rw [hh] at hd; simp at hd
     | some oj =>
       rw [hh] at hd
       have := hN j oj hh
       simp only [Option.bind_some] at hd
       rw [hd] at this
       exact this
    have hr := I.tmps d
    simp only [ht] at hr
    have hv := rav_v_inv hr
    have hlt : d < a.tmps.size := by rw [I.ntmps]; exact hd2
    have h2 : a.tmps[d]? = some (.bool g) := by
     have h3 : a.tmps.getD d undef = a.tmps[d] := by simp [Array.getD, hlt]
     rw [Array.getElem?_eq_getElem hlt, ← h3]
     exact congrArg some hv
    have hy : yielded ops a.tmps j = some g := by
     unfold yielded
     rw [hd]
     simp only [Option.bind_some, h2]
    show (yielded ops a.tmps j == some want) = (g == want)
    rw [hy]
    cases g <;> cases want <;> rfl
   ·rename_i xs ht
    injection e with e
    subst e
    have hd2 : d < C.N := by
     cases hh : ops[j]? with
     | none => rw [hh] at hd; simp at hd
     | some oj =>
       rw [hh] at hd
       have := hN j oj hh
       simp only [Option.bind_some] at hd
       rw [hd] at this
       exact this
    have hr := I.tmps d
    simp only [ht] at hr
    have hv := rav_v_inv hr
    have hlt : d < a.tmps.size := by rw [I.ntmps]; exact hd2
    have h2 : a.tmps[d]? = some (.tuple xs) := by
     have h3 : a.tmps.getD d undef = a.tmps[d] := by simp [Array.getD, hlt]
     rw [Array.getElem?_eq_getElem hlt, ← h3]
     exact congrArg some hv
    have hy : yielded ops a.tmps j = none := by
     unfold yielded
     rw [hd]
     simp only [Option.bind_some, h2]
    show (yielded ops a.tmps j == some want) = false
    rw [hy]
    rfl
   ·cases e
  ·cases e
theorem listed_true {listed : Array Bool} {j : Nat} (hj : j < listed.size) : listed.getD j true = listed.getD j false := by
 simp [Array.getD, hj]
theorem evD_any (hB : drawB S ops = true) (hN : ∀ (i : Nat) (o : Oper), ops[i]? = some o → dstOK C.N o.dst) {Q : Exit → Act → World → Prop} (K : FinT) (hK : ∀ t h n ι a w, K t h n → Inv C ι ⟨t, h, n⟩ a w → Q .normal a w) :
  ∀ (m : Nat) (R : List Nat) (listed : Array Bool) (t : Nat → AV) (h : Heap) (n : Nat) (ι : Nat → Nat) (a : Act) (w : World), R.length = m → listed.size = ops.size → R.Pairwise (· < ·) → (∀ i, i ∈ R ↔ i < ops.size ∧ listed.getD i true = false) →
    (∀ (k : Nat) (ok : Oper), ops[k]? = some ok → listed.getD k true = true → ∀ e ∈ ok.after, Region.binds .any e = true → listed.getD e.on true = true) →
    Inv C ι ⟨t, h, n⟩ a w → Sub hS h → evD P C S V hS ops (opsAt ops R) t h n K → wpAny P .any ops Q m listed a w := by
 intro m
 induction m with
 | zero =>
   intro R listed t h n ι a w hm hsz _ hR _ I hs e
   have : R = [] := List.eq_nil_of_length_eq_zero hm
   subst this
   refine ⟨?_, hK t h n ι a w e I⟩
   apply List.eq_nil_iff_forall_not_mem.2
   intro j hj
   obtain ⟨h1, oj, h2, _⟩ := mem_ready.1 hj
   have := (hR j).2 ⟨(Array.getElem?_eq_some_iff.1 h2).1, h1⟩
   cases this
 | succ m ih =>
   intro R listed t h n ι a w hm hsz hord hR hcl I hs e
   refine ⟨fun h0 => ?_, fun i hi => ?_⟩
   ·-- the first one of the text may come up
    exfalso
    cases R with
    | nil => simp at hm
    | cons i0 R' =>
      obtain ⟨hi0, hl0⟩ := (hR i0).1 (by simp)
      have hop : ops[i0]? = some ops[i0] := Array.getElem?_eq_getElem hi0
      have : i0 ∈ Region.ready .any ops listed := by
       refine mem_ready.2 ⟨hl0, ops[i0], hop, fun e he hb => ?_⟩
       have hlt := (drawB_spec hB hop).1 e he hb
       have hnot : ¬ e.on ∈ i0 :: R' := by
        intro hmem
        rcases List.mem_cons.1 hmem with h1 | h1
        ·omega
        ·have := (List.pairwise_cons.1 hord).1 _ h1; omega
       rw [hR] at hnot
       have h3 : listed.getD e.on true = true := by
        cases hh : listed.getD e.on true with
        | true => rfl
        | false => exact absurd ⟨by omega, hh⟩ hnot
       rw [← listed_true (by omega)]
       exact h3
      rw [h0] at this
      cases this
   ·obtain ⟨hli, oi, hoi, hall⟩ := mem_ready.1 hi
    have hilt : i < ops.size := (Array.getElem?_eq_some_iff.1 hoi).1
    obtain ⟨R1, R2, rfl⟩ := List.append_of_mem ((hR i).2 ⟨hilt, hli⟩)
    obtain ⟨p1, p2, p3⟩ := List.pairwise_append.1 hord
    have hall' : ∀ e ∈ oi.after, Region.binds .any e = true → listed.getD e.on true = true := fun e he hb => by
     have h1 := hall e he hb
     rcases Nat.lt_or_ge e.on listed.size with hlt | hge
     ·rw [listed_true hlt]; exact h1
     ·simp [Array.getElem?_eq_none hge] at h1
    have hfree : ∀ x ∈ opsAt ops R1, free2 S ops x oi = true := by
     intro x hx
     obtain ⟨j, hj, hxj⟩ := List.mem_filterMap.1 hx
     have hji : j < i := p3 j hj i (by simp)
     rcases (drawB_spec hB hoi).2 j x hji hxj with hw | hf
     ·have h1 := waits_listed hcl ops.size i j oi hoi hall' hw
      have h2 := ((hR j).1 (by simp [hj])).2
      rw [h1] at h2
      cases h2
     ·exact hf
    have hdst : ∀ x ∈ opsAt ops R1, dstOK C.N x.dst := by
     intro x hx
     obtain ⟨j, _, hxj⟩ := List.mem_filterMap.1 hx
     exact hN j x hxj
    have hsplit : opsAt ops (R1 ++ i :: R2) = opsAt ops R1 ++ oi :: opsAt ops R2 := by
     unfold opsAt
     rw [List.filterMap_append, List.filterMap_cons, hoi]
    rw [hsplit] at e
    have e := evD_first (opsAt ops R1) hfree hdst I hs e
    have happ : opsAt ops R1 ++ opsAt ops R2 = opsAt ops (R1 ++ R2) := by unfold opsAt; rw [List.filterMap_append]
    rw [happ] at e
    have hlen : (R1 ++ R2).length = m := by simp at hm ⊢; omega
    have hord' : (R1 ++ R2).Pairwise (· < ·) := List.pairwise_append.2 ⟨p1, (List.pairwise_cons.1 p2).2, fun x hx y hy => p3 x hx y (by simp [hy])⟩
    have hni : i ∉ R1 ++ R2 := by
     intro hmem
     rcases List.mem_append.1 hmem with h1 | h1
     ·have := p3 i h1 i (by simp); omega
     ·have := (List.pairwise_cons.1 p2).1 i h1; omega
    have hR' : ∀ k, k ∈ R1 ++ R2 ↔ k < ops.size ∧ (listed.setIfInBounds i true).getD k true = false := by
     intro k
     rw [getD_set]
     by_cases hik : i = k
     ·subst hik
      rw [if_pos rfl]
      exact ⟨fun hmem => absurd hmem hni, fun hh => by cases hh.2⟩
     ·rw [if_neg hik, ← hR k]
      simp only [List.mem_append, List.mem_cons]
      exact ⟨fun hh => by rcases hh with hh | hh; exact .inl hh; exact .inr (.inr hh), fun hh => by rcases hh with hh | hh | hh; exact .inl hh; exact absurd hh.symm hik; exact .inr hh⟩
    have hcl' : ∀ (k : Nat) (ok : Oper), ops[k]? = some ok → (listed.setIfInBounds i true).getD k true = true → ∀ e ∈ ok.after, Region.binds .any e = true → (listed.setIfInBounds i true).getD e.on true = true := by
     intro k ok hk hl e he hb
     rw [getD_set] at hl ⊢
     split
     ·rfl
     ·by_cases hik : i = k
      ·subst hik
       rw [hoi] at hk
       injection hk with hk
       subst hk
       exact hall' e he hb
      ·rw [if_neg hik] at hl
       exact hcl k ok hk hl e he hb
    have next : ∀ (v : Value) (av : AV) (h' : Heap) (n' : Nat) (ι' : Nat → Nat) (w' : World), Sub hS h' → evD P C S V hS ops (opsAt ops (R1 ++ R2)) (putT t oi.dst av) h' n' K → Inv C ι' ⟨t, h', n'⟩ a w' → RAV ι' h' (C.b + n') w' av v →
      wpAny P .any ops Q m (listed.setIfInBounds i true) (a.put oi.dst v) w' := by
     intro v av h' n' ι' w' hs' e' I' hr
     exact ih (R1 ++ R2) _ _ h' n' ι' _ w' hlen (by simpa using hsz) hord' hR' hcl' (I'.put (hN i oi hoi) hr) hs' e'
    unfold wpOp
    simp only [hoi]
    unfold evD at e
    by_cases hsim : simpleP S oi = true
    ·rw [if_pos hsim] at e
     obtain ⟨av, hv, okv, e⟩ := e
     unfold valD at hv
     split at hv
     ·rename_i hwant
      rw [wanted_ok I hN hwant, if_pos rfl]
      refine .inl ?_
      split at hv
      ·obtain ⟨v, w', h1, I', h2⟩ := sopX_ok (P := P) I (sopX_mono hs hv)
       unfold Oper.wp
       rw [h1, Oper.upon_value]
       exact next v av h n ι w' hs e I' h2
      ·rename_i hsb
       have p : PureC P hS t oi.op av := by
        rcases okv with okv | okv | okv
        ·exact absurd okv hsb
        ·rw [hwant] at okv; cases okv
        ·exact okv
       exact pure_wp (C := C) (n := n) hs p a w ι I _ Q (fun _ _ _ _ _ hf _ => hf.elim) (fun v av' h' n' ι' w' hk hI hr => by
        obtain ⟨rfl, rfl, rfl⟩ := hk
        exact next v _ _ _ ι' w' hs e hI hr)
     ·rename_i hwant
      rw [wanted_ok I hN hwant, if_neg (by simp)]
      injection hv with hv
      subst hv
      exact next undef _ h n ι w hs e I (rav_v _)
     ·cases hv
    ·rw [if_neg hsim] at e
     unfold sigD at e
     split at e
     ·rename_i hwant
      rw [wanted_ok I hN hwant, if_pos rfl]
      refine .inl ?_
      exact aop_ok e a w ι I _ Q (fun _ _ _ _ _ hf _ => hf.elim) (fun v av h' n' ι' w' hk hI hr => next v av h' n' ι' w' hk.1 hk.2 hI hr)
     ·rename_i hwant
      rw [wanted_ok I hN hwant, if_neg (by simp)]
      exact next undef _ h n ι w hs e I (rav_v _)
     ·exact e.elim
theorem AWP.regionD {Q : Exit → St → Prop} {s : St} {id : Nat} (hm : P.follows .mixedOrders = true) (hB : drawB S ops = true) (hN : dstsB C.N ops.toList = true) (hs : Sub hS s.h)
  (e : evD P C S V hS ops ops.toList s.t s.h s.n (fun t h n => Q .normal ⟨t, h, n⟩)) (hr : C.x.rd = none := by rfl) : AWP P C (.region id ops true) Q s := by
 refine AWP.of_wp hr (fun a w ι I => ?_)
 refine wp_region_any hm ?_
 have hN' : ∀ (i : Nat) (o : Oper), ops[i]? = some o → dstOK C.N o.dst := by
  intro i o hi
  have := List.all_eq_true.1 hN o (List.mem_of_getElem? (i := i) (by simpa using hi))
  unfold dstOK
  cases hdd : o.dst with
  | none => trivial
  | some d => rw [hdd] at this; simpa using this
 have hops : opsAt ops (List.range ops.size) = ops.toList := by
  unfold opsAt
  have : ∀ (n : Nat), n ≤ ops.size → (List.range n).filterMap (ops[·]?) = ops.toList.take n := by
   intro n
   induction n with
   | zero => simp
   | succ n ih =>
     intro hn
     rw [List.range_succ, List.filterMap_append, ih (by omega), List.take_add_one]
     congr 1
     have : ops[n]? = some ops[n] := Array.getElem?_eq_getElem (by omega)
     simp [this]
  rw [this ops.size (Nat.le_refl _), List.take_of_length_le (by simp)]
 refine evD_any (Q := fun e a' w' => ∃ s' ι', Q e s' ∧ Inv C ι' s' a' w') hB hN' _ (fun t h n ι' a' w' hk I' => ⟨_, ι', hk, I'⟩) ops.size (List.range ops.size) (Array.replicate ops.size false) s.t s.h s.n ι a { w with drawn := w.drawn + 1 }
  (by simp) (by simp) List.pairwise_lt_range (fun i => ?_) (fun k ok hk hl => ?_) I.drew hs (by rw [hops]; exact e)
 ·simp only [List.mem_range]
  constructor
  ·intro hi; exact ⟨hi, by simp [Array.getD, hi]⟩
  ·intro hi; exact hi.1
 ·have hlt : k < ops.size := (Array.getElem?_eq_some_iff.1 hk).1
  simp [Array.getD, hlt] at hl
end
set_option linter.unusedSimpArgs false
set_option linter.unusedVariables false
set_option linter.unnecessarySimpa false
open Go
def husk (b : Blk) : Blk := ⟨b.ver, []⟩
theorem husk_mk (v : Nat) (cs : List Cell) : husk ⟨v, cs⟩ = ⟨v, []⟩ := rfl
def ers (h : Heap) (m : Nat) : Heap := fun i => if i = m then (h i).map husk else h i
theorem ers_lit (h : Heap) (m i : Nat) : ers h m i = if i = m then (h i).map husk else h i := rfl
theorem sub_ers (h : Heap) (m : Nat) : Sub (ers h m) h := fun id b e => by
 unfold ers at e
 split at e
 ·cases hb : h id with
  | none => rw [hb] at e; cases e
  | some b' => rw [hb] at e; injection e with e; subst e; exact ⟨b', rfl, rfl, .inl rfl⟩
 ·exact ⟨b, e, rfl, .inr rfl⟩
theorem Sub.trans {a b c : Heap} (x : Sub a b) (y : Sub b c) : Sub a c := fun id k e => by
 obtain ⟨k1, h1, h2, h3⟩ := x id k e
 obtain ⟨k2, g1, g2, g3⟩ := y id k1 h1
 refine ⟨k2, g1, g2.trans h2, ?_⟩
 rcases h3 with h3 | rfl
 ·exact .inl h3
 ·exact g3
theorem Sub.upd {a h : Heap} {k : Nat} {x : Blk} (s : Sub a h) (e : ∀ b, a k = some b → b.ver = x.ver ∧ b.cells = []) : Sub a (Am.upd h k x) := fun id b hb => by
 by_cases hi : id = k
 ·subst hi; exact ⟨x, upd_same _ _ _, (e b hb).1.symm, .inl (e b hb).2⟩
 ·obtain ⟨b', h1, h2⟩ := s id b hb
  exact ⟨b', by rw [upd_ne _ _ _ _ hi]; exact h1, h2⟩
theorem Sub.reupd {a h : Heap} {k : Nat} {x y : Blk} (s : Sub a (Am.upd h k y)) (e : ∀ b, a k = some b → b.ver = x.ver ∧ b.cells = []) : Sub a (Am.upd h k x) := fun id b hb => by
 by_cases hi : id = k
 ·subst hi; exact ⟨x, upd_same _ _ _, (e b hb).1.symm, .inl (e b hb).2⟩
 ·obtain ⟨b', h1, h2⟩ := s id b hb
  rw [upd_ne _ _ _ _ hi] at h1
  exact ⟨b', by rw [upd_ne _ _ _ _ hi]; exact h1, h2⟩
theorem Sub.new {a h : Heap} {k : Nat} {x : Blk} (s : Sub a h) (e : h k = none) : Sub a (Am.upd h k x) := s.upd fun b hb => by
 obtain ⟨b', h1, _⟩ := s k b hb
 rw [e] at h1; cases h1
section
variable (P : Program) (C : Ctx) (S : List Tmp) (V : List AV) (hS : Heap) (ops : Array Oper)
def stepD (op : Op) (dst : Option Tmp) (os : List Oper) (t : Nat → AV) (h : Heap) (n : Nat) (K : FinT) : Prop :=
 if simpO S op dst = true then (if simpleB op = true then ∃ v, sopX P t hS (bare op) = some v ∧ evD P C S V hS ops os (putT t dst v) h n K
  else PureC P hS t op (lkS S V dst) ∧ evD P C S V hS ops os (putT t dst (lkS S V dst)) h n K)
 else aop P C (bare op) t h n (fun _ _ => False) fun v h' n' => Sub hS h' ∧ evD P C S V hS ops os (putT t dst v) h' n' K
def dV (x : Option AV) (dst : Option Tmp) (os : List Oper) (t : Nat → AV) (h : Heap) (n : Nat) (K : FinT) : Prop := optK x fun v => evD P C S V hS ops os (putT t dst v) h n K
def dH (x : Option Heap) (dst : Option Tmp) (os : List Oper) (t : Nat → AV) (n : Nat) (K : FinT) : Prop :=
 match x with
 | some h => Sub hS h ∧ evD P C S V hS ops os (putT t dst (.one .junk)) h n K
 | none => False
def CallD (g : FuncId) (args : List AV) (dst : Option Tmp) (os : List Oper) (t : Nat → AV) (h : Heap) (n : Nat) (K : FinT) : Prop :=
 CallK P C (fun _ _ => False) t g args h n fun v h' n' => Sub hS h' ∧ evD P C S V hS ops os (putT t dst v) h' n' K
def dC (f : AV) (args : List AV) (dst : Option Tmp) (os : List Oper) (t : Nat → AV) (h : Heap) (n : Nat) (K : FinT) : Prop :=
 match f with
 | .one (.clo (.func g) first cap) => CallD P C S V hS ops g (first.map .one ++ (args ++ cap.map .one)) dst os t h n K
 | _ => False
def dL (x : Option (List Cell)) (v : AV) (dst : Option Tmp) (os : List Oper) (t : Nat → AV) (h : Heap) (n : Nat) (K : FinT) : Prop :=
 match x with
 | some cs => Sub hS (upd h (C.b + n) ⟨0, cs⟩) ∧ evD P C S V hS ops os (putT t dst v) (upd h (C.b + n) ⟨0, cs⟩) (n + 1) K
 | none => False
def dVs (x : Option AV) (dst : Option Tmp) (os : List Oper) (t : Nat → AV) (h : Heap) (n : Nat) (K : FinT) : Prop := optK x fun v => Sub hS h ∧ evD P C S V hS ops os (putT t dst v) h n K
def dW (b : Bool) (x y : Option AV) (dst : Option Tmp) (os : List Oper) (t : Nat → AV) (h : Heap) (n : Nat) (K : FinT) : Prop := if b = true then dVs P C S V hS ops y dst os t h n K else dV P C S V hS ops x dst os t h n K
def dU (b : Bool) (op : Op) (x : Option AV) (dst : Option Tmp) (os : List Oper) (t : Nat → AV) (h : Heap) (n : Nat) (K : FinT) : Prop :=
 if b = true then aop P C (bare op) t h n (fun _ _ => False) (fun v h' n' => Sub hS h' ∧ evD P C S V hS ops os (putT t dst v) h' n' K) else dV P C S V hS ops x dst os t h n K
def dLb (b : Bool) (x : Option AV) (y : Option (List Cell)) (v : AV) (dst : Option Tmp) (os : List Oper) (t : Nat → AV) (h : Heap) (n : Nat) (K : FinT) : Prop :=
 if b = true then dL P C S V hS ops y v dst os t h n K else dV P C S V hS ops x dst os t h n K
def CallP (g : FuncId) (args : List AV) (v : AV) (dst : Option Tmp) (os : List Oper) (t : Nat → AV) (h : Heap) (n : Nat) (K : FinT) : Prop :=
 (bodyB P g = true ∧ ∀ h b, Sub hS h → ACalls P g args h b 0 (fun r h' => r = v ∧ h' = h)) ∧ evD P C S V hS ops os (putT t dst v) h n K
def pC (f : AV) (args : List AV) (v : AV) (dst : Option Tmp) (os : List Oper) (t : Nat → AV) (h : Heap) (n : Nat) (K : FinT) : Prop :=
 match f with
 | .one (.clo (.func g) first cap) => CallP P C S V hS ops g (first.map .one ++ (args ++ cap.map .one)) v dst os t h n K
 | _ => False
def callS (b : Bool) (f : AV) (args : List AV) (v : AV) (dst : Option Tmp) (os : List Oper) (t : Nat → AV) (h : Heap) (n : Nat) (K : FinT) : Prop :=
 if b = true then pC P C S V hS ops f args v dst os t h n K else dC P C S V hS ops f args dst os t h n K
def BiD (b : Builtin) (tys : List TypeId) (args : List AV) (dst : Option Tmp) (os : List Oper) (t : Nat → AV) (h : Heap) (n : Nat) (K : FinT) : Prop :=
 BiK P C b tys args h n fun v h' n' => Sub hS h' ∧ evD P C S V hS ops os (putT t dst v) h' n' K
def BiPK (tys : List TypeId) (args : List AV) (v : AV) (dst : Option Tmp) (os : List Oper) (t : Nat → AV) (h : Heap) (n : Nat) (K : FinT) : Prop :=
 BiP P hS tys args v ∧ evD P C S V hS ops os (putT t dst v) h n K
def dBi (i : Bool) (tys : List TypeId) (args : List AV) (v : AV) (dst : Option Tmp) (os : List Oper) (t : Nat → AV) (h : Heap) (n : Nat) (K : FinT) : Prop :=
 if i = true then BiPK P C S V hS ops tys args v dst os t h n K else BiD P C S V hS ops .append tys args dst os t h n K
def dG (x : AV) (want : Bool) (op : Op) (dst : Option Tmp) (os : List Oper) (t : Nat → AV) (h : Heap) (n : Nat) (K : FinT) : Prop :=
 match x with
 | .one (.p (.v (.bool g))) => (g = want → stepD P C S V hS ops op dst os t h n K) ∧ (g = !want → evD P C S V hS ops os (putT t dst undA) h n K)
 | .one (.p (.v (.tuple _))) => evD P C S V hS ops os (putT t dst undA) h n K
 | _ => False
def dGd (g : Option Tmp) (want : Bool) (op : Op) (dst : Option Tmp) (os : List Oper) (t : Nat → AV) (h : Heap) (n : Nat) (K : FinT) : Prop :=
 match g with
 | some d => dG P C S V hS ops (t d) want op dst os t h n K
 | none => False
variable (dst : Option Tmp) (ty : TypeId) (pos : String) (after : Array Edge) (os : List Oper) (t : Nat → AV) (h : Heap) (n : Nat) (K : FinT)
theorem sopX_bare (op : Op) (g : Option (Nat × Bool)) : sopX P t h ⟨dst, op, ty, pos, after, g⟩ = sopX P t h (bare op) := by
 unfold sopX sop
 cases op <;> rfl
theorem evD_nil : evD P C S V hS ops [] t h n K = K t h n := rfl
theorem evD_plain (op : Op) : evD P C S V hS ops (⟨dst, op, ty, pos, after, none⟩ :: os) t h n K = stepD P C S V hS ops op dst os t h n K := by
 rw [evD]
 unfold stepD
 simp only [valD, sigD, wantD, okD, simpleP, sopX_bare, aop_bare]
 by_cases hc : simpO S op dst = true
 ·by_cases hs : simpleB op = true
  ·simp [hs, hc]
  ·simp [hs, hc]
 ·simp [hc]
theorem evD_guard (op : Op) (j : Nat) (want : Bool) : dGd P C S V hS ops ((ops[j]?).bind (·.dst)) want op dst os t h n K → evD P C S V hS ops (⟨dst, op, ty, pos, after, some (j, want)⟩ :: os) t h n K := by
 intro e
 rw [evD]
 unfold dGd dG at e
 cases hg : (ops[j]?).bind (·.dst) with
 | none => rw [hg] at e; exact e.elim
 | some d =>
   rw [hg] at e
   simp only at e
   split at e
   ·rename_i g ht
    obtain ⟨e1, e2⟩ := e
    have hw : wantD ops t ⟨dst, op, ty, pos, after, some (j, want)⟩ = some (g == want) := by
     unfold wantD
     simp only [hg, ht]
    by_cases hgw : g = want
    ·have e1 := e1 hgw
     have hw : wantD ops t ⟨dst, op, ty, pos, after, some (j, want)⟩ = some true := by rw [hw]; simp [hgw]
     unfold stepD at e1
     simp only [valD, sigD, hw, okD, simpleP, sopX_bare, aop_bare]
     by_cases hc : simpO S op dst = true
     ·by_cases hs : simpleB op = true
      ·simp [hs, hc] at e1 ⊢; exact e1
      ·simp [hs, hc] at e1 ⊢; exact e1
     ·simp [hc] at e1 ⊢; exact e1
    ·have e2 := e2 (by cases g <;> cases want <;> first | rfl | exact absurd rfl hgw)
     have hw : wantD ops t ⟨dst, op, ty, pos, after, some (j, want)⟩ = some false := by rw [hw]; simp [hgw]
     simp only [valD, sigD, hw]
     split
     ·exact ⟨_, rfl, .inr (.inl hw), e2⟩
     ·exact e2
   ·rename_i xs ht
    have hw : wantD ops t ⟨dst, op, ty, pos, after, some (j, want)⟩ = some false := by
     unfold wantD
     simp only [hg, ht]
    simp only [valD, sigD, hw]
    split
    ·exact ⟨_, rfl, .inr (.inl hw), e⟩
    ·exact e
   ·exact e.elim
theorem stepD_simple {op : Op} {x : Option AV} (hs : simpleB op = true) (hc : isCallV op = false) (hx : sopX P t hS (bare op) = x) : stepD P C S V hS ops op dst os t h n K = dU P C S V hS ops (inS S dst) op x dst os t h n K := by
 unfold stepD dU dV optK simpO
 cases hi : inS S dst
 ·simp only [Bool.false_eq_true, if_false, hs, if_true, hx]
  cases x with
  | none => simp
  | some v => simp
 ·simp only [if_true, hc, Bool.false_eq_true, if_false]
theorem stepD_simple2 {op : Op} {x y : Option AV} (hs : simpleB op = true) (hc : isCallV op = false) (hx : sopX P t hS (bare op) = x) (hy : ∀ K', aop P C (bare op) t h n (fun _ _ => False) K' = optK y fun v => K' v h n) :
  stepD P C S V hS ops op dst os t h n K = dW P C S V hS ops (inS S dst) x y dst os t h n K := by
 rw [stepD_simple P C S V hS ops dst os t h n K hs hc hx]
 unfold dU dW dVs
 rw [hy]
theorem stepD_sig {op : Op} (hs : simpleB op = false) (hc : isCallV op = false) : stepD P C S V hS ops op dst os t h n K = aop P C (bare op) t h n (fun _ _ => False) fun v h' n' => Sub hS h' ∧ evD P C S V hS ops os (putT t dst v) h' n' K := by
 unfold stepD simpO
 rw [hs, hc]
 simp
theorem stepD_assign (x : Operand) : stepD P C S V hS ops (.assign x) dst os t h n K = dU P C S V hS ops (inS S dst) (.assign x) (some (val t x)) dst os t h n K := stepD_simple P C S V hS ops dst os t h n K rfl rfl rfl
theorem stepD_move (x : Operand) : stepD P C S V hS ops (.move x) dst os t h n K = dU P C S V hS ops (inS S dst) (.move x) (some (val t x)) dst os t h n K := stepD_simple P C S V hS ops dst os t h n K rfl rfl rfl
theorem stepD_pick (c a b : Operand) : stepD P C S V hS ops (.pick c a b) dst os t h n K = dU P C S V hS ops (inS S dst) (.pick c a b) (pickV (val t c) (val t a) (val t b)) dst os t h n K := stepD_simple P C S V hS ops dst os t h n K rfl rfl rfl
theorem stepD_load (x : Operand) : stepD P C S V hS ops (.load ty x) dst os t h n K = dW P C S V hS ops (inS S dst) (ldA P ty hS (val t x)) (ldA P ty h (val t x)) dst os t h n K := stepD_simple2 P C S V hS ops dst os t h n K rfl rfl rfl (fun _ => rfl)
theorem stepD_fieldAddr (x : Operand) (f : Nat) : stepD P C S V hS ops (.fieldAddr ty x f) dst os t h n K = dW P C S V hS ops (inS S dst) (fldA P ty hS (val t x) f) (fldA P ty h (val t x) f) dst os t h n K := stepD_simple2 P C S V hS ops dst os t h n K rfl rfl rfl (fun _ => rfl)
theorem stepD_indexAddr (x i : Operand) : stepD P C S V hS ops (.indexAddr ty x i) dst os t h n K = dW P C S V hS ops (inS S dst) (idxA P ty hS (val t x) (val t i)) (idxA P ty h (val t x) (val t i)) dst os t h n K := stepD_simple2 P C S V hS ops dst os t h n K rfl rfl rfl (fun _ => rfl)
theorem stepD_unOp (op : UnOp) (x : Operand) : stepD P C S V hS ops (.unOp op ty x) dst os t h n K = dU P C S V hS ops (inS S dst) (.unOp op ty x) (unA op (val t x)) dst os t h n K := stepD_simple P C S V hS ops dst os t h n K rfl rfl rfl
theorem stepD_slice (x : Operand) (lo hi mx : Option Operand) : stepD P C S V hS ops (.slice ty x lo hi mx) dst os t h n K = dW P C S V hS ops (inS S dst) (slcA P ty hS (val t x) (lo.map (val t)) (hi.map (val t)) (mx.map (val t))) (slcA P ty h (val t x) (lo.map (val t)) (hi.map (val t)) (mx.map (val t))) dst os t h n K := stepD_simple2 P C S V hS ops dst os t h n K rfl rfl rfl (fun _ => rfl)
theorem stepD_extract (x : Operand) (i : Nat) : stepD P C S V hS ops (.extract x i) dst os t h n K = dU P C S V hS ops (inS S dst) (.extract x i) (exA (val t x) i) dst os t h n K := stepD_simple P C S V hS ops dst os t h n K rfl rfl rfl
theorem stepD_nilCheck (x : Operand) : stepD P C S V hS ops (.nilCheck x) dst os t h n K = dU P C S V hS ops (inS S dst) (.nilCheck x) (nilV hS (val t x)) dst os t h n K := stepD_simple P C S V hS ops dst os t h n K rfl rfl rfl
theorem stepD_build (parts : Array (Nat × Operand)) : stepD P C S V hS ops (.build ty parts) dst os t h n K = dU P C S V hS ops (inS S dst) (.build ty parts) (bldA P hS ty (parts.toList.map (valP t))) dst os t h n K := stepD_simple P C S V hS ops dst os t h n K rfl rfl rfl
theorem stepD_binOp (op : BinOp) (u : TypeId) (x y : Operand) : stepD P C S V hS ops (.binOp op ty x y u) dst os t h n K = dU P C S V hS ops (inS S dst) (.binOp op ty x y u) (binA P hS ty op (val t x) (val t y)) dst os t h n K := stepD_simple P C S V hS ops dst os t h n K rfl rfl rfl
theorem stepD_buildSlice (len : Nat) (parts : Array (Nat × Operand)) : stepD P C S V hS ops (.buildSlice ty len parts) dst os t h n K = dLb P C S V hS ops (inS S dst) (bslP P hS ty len (parts.toList.map (valP t))) (bslA P h ty len (parts.toList.map (valP t))) (.one (.win (C.b + n) 0 0 len len)) dst os t h n K := by
 rw [stepD_simple P C S V hS ops dst os t h n K (op := .buildSlice ty len parts) rfl rfl rfl]
 unfold dU dLb dL
 cases inS S dst
 ·rfl
 ·simp only [if_true]
  unfold aop
  have e : (parts.toList.map (valP t)) = (parts.toList.map fun (i, x) => (i, val t x)) := rfl
  rw [e]
  simp only
  cases bslA P h ty len (parts.toList.map fun (i, x) => (i, val t x)) <;> rfl
theorem stepD_alloc : stepD P C S V hS ops (.alloc ty) dst os t h n K = dL P C S V hS ops (zeroC P ty) (.one (.ptr (C.b + n) 0 0)) dst os t h n K := by
 rw [stepD_sig P C S V hS ops dst os t h n K rfl rfl]
 unfold aop dL zeroC
 simp only
 cases tzero P ty <;> rfl
theorem stepD_store (x v : Operand) : stepD P C S V hS ops (.store ty x v) dst os t h n K = dH P C S V hS ops (stA P ty h (val t x) (val t v)) dst os t n K := by
 rw [stepD_sig P C S V hS ops dst os t h n K rfl rfl]
 unfold aop dH
 simp only
 cases stA P ty h (val t x) (val t v) <;> rfl
theorem stepD_call (f : Operand) (xs : Array Operand) (tys : Array TypeId) : stepD P C S V hS ops (.call ⟨.value f, xs, tys⟩) dst os t h n K = callS P C S V hS ops (inS S dst) (val t f) (xs.toList.map (val t)) (lkS S V dst) dst os t h n K := by
 unfold stepD callS simpO
 simp only [simpleB, isCallV, Bool.false_eq_true, if_false]
 cases inS S dst
 case true =>
  simp only [if_true]
  unfold PureC pC CallP
  simp only
  cases hv : val t f with
  | one c => cases c with
    | clo fn first cap => cases fn with
      | func g => simp only
      | _ => simp
    | _ => simp
  | _ => simp
 ·rfl
theorem dBi_t (tys : List TypeId) (args : List AV) (v : AV) : dBi P C S V hS ops true tys args v dst os t h n K = BiPK P C S V hS ops tys args v dst os t h n K := rfl
theorem stepD_append (xs : Array Operand) (tys : Array TypeId) : stepD P C S V hS ops (.call ⟨.builtin .append, xs, tys⟩) dst os t h n K = dBi P C S V hS ops (inS S dst) tys.toList (xs.toList.map (val t)) (lkS S V dst) dst os t h n K := by
 unfold stepD simpO dBi
 simp only [simpleB, isCallV, Bool.false_eq_true, if_false]
 cases inS S dst
 ·rfl
 ·simp only [if_true]; rfl
theorem stepD_copy (xs : Array Operand) (tys : Array TypeId) : stepD P C S V hS ops (.call ⟨.builtin .copy, xs, tys⟩) dst os t h n K = BiD P C S V hS ops .copy tys.toList (xs.toList.map (val t)) dst os t h n K := by
 rw [stepD_sig P C S V hS ops dst os t h n K rfl rfl]; rfl
theorem dU_f (op : Op) (x : Option AV) : dU P C S V hS ops false op x dst os t h n K = dV P C S V hS ops x dst os t h n K := rfl
theorem dW_f (x y : Option AV) : dW P C S V hS ops false x y dst os t h n K = dV P C S V hS ops x dst os t h n K := rfl
theorem dW_t (x y : Option AV) : dW P C S V hS ops true x y dst os t h n K = dVs P C S V hS ops y dst os t h n K := rfl
theorem dLb_f (x : Option AV) (y : Option (List Cell)) (v : AV) : dLb P C S V hS ops false x y v dst os t h n K = dV P C S V hS ops x dst os t h n K := rfl
theorem dVs_some (v : AV) : dVs P C S V hS ops (some v) dst os t h n K = (Sub hS h ∧ evD P C S V hS ops os (putT t dst v) h n K) := rfl
theorem dV_some (v : AV) : dV P C S V hS ops (some v) dst os t h n K = evD P C S V hS ops os (putT t dst v) h n K := rfl
theorem dV_if (c : Prop) [Decidable c] (x : Option AV) : dV P C S V hS ops (if c then x else none) dst os t h n K = (c ∧ dV P C S V hS ops x dst os t h n K) := by
 unfold dV
 split <;> simp_all [optK]
theorem dH_some (h' : Heap) : dH P C S V hS ops (some h') dst os t n K = (Sub hS h' ∧ evD P C S V hS ops os (putT t dst (.one .junk)) h' n K) := rfl
theorem dH_if (c : Prop) [Decidable c] (x : Option Heap) : dH P C S V hS ops (if c then x else none) dst os t n K = (c ∧ dH P C S V hS ops x dst os t n K) := by
 split <;> simp_all [dH]
theorem dL_some (cs : List Cell) (v : AV) : dL P C S V hS ops (some cs) v dst os t h n K = (Sub hS (upd h (C.b + n) ⟨0, cs⟩) ∧ evD P C S V hS ops os (putT t dst v) (upd h (C.b + n) ⟨0, cs⟩) (n + 1) K) := rfl
theorem callS_t (f : AV) (args : List AV) (v : AV) : callS P C S V hS ops true f args v dst os t h n K = pC P C S V hS ops f args v dst os t h n K := rfl
theorem callS_f (f : AV) (args : List AV) (v : AV) : callS P C S V hS ops false f args v dst os t h n K = dC P C S V hS ops f args dst os t h n K := rfl
theorem pC_clo (g : FuncId) (first cap : List Cell) (args : List AV) (v : AV) : pC P C S V hS ops (.one (.clo (.func g) first cap)) args v dst os t h n K = CallP P C S V hS ops g (first.map .one ++ (args ++ cap.map .one)) v dst os t h n K := rfl
theorem dC_clo (g : FuncId) (first cap : List Cell) (args : List AV) : dC P C S V hS ops (.one (.clo (.func g) first cap)) args dst os t h n K = CallD P C S V hS ops g (first.map .one ++ (args ++ cap.map .one)) dst os t h n K := rfl
theorem dG_bool (g want : Bool) (op : Op) : dG P C S V hS ops (.one (.p (.v (.bool g)))) want op dst os t h n K = ((g = want → stepD P C S V hS ops op dst os t h n K) ∧ (g = !want → evD P C S V hS ops os (putT t dst undA) h n K)) := rfl
theorem dG_und (want : Bool) (op : Op) : dG P C S V hS ops undA want op dst os t h n K = evD P C S V hS ops os (putT t dst undA) h n K := rfl
theorem CallP_congr (g : FuncId) {args args' : List AV} {v v' : AV} (e2 : args = args') (e3 : v = v') : CallP P C S V hS ops g args v dst os t h n K = CallP P C S V hS ops g args' v' dst os t h n K := by rw [e2, e3]
theorem CallD_congr (g : FuncId) {args args' : List AV} (e : args = args') : CallD P C S V hS ops g args dst os t h n K = CallD P C S V hS ops g args' dst os t h n K := by rw [e]
theorem BiD_congr (b : Builtin) (tys : List TypeId) {args args' : List AV} (e : args = args') : BiD P C S V hS ops b tys args dst os t h n K = BiD P C S V hS ops b tys args' dst os t h n K := by rw [e]
theorem dG_congr {x x' : AV} (want : Bool) (op : Op) (e : x = x') : dG P C S V hS ops x want op dst os t h n K = dG P C S V hS ops x' want op dst os t h n K := by rw [e]
end
theorem AWP.seqRegD (S : List Tmp) (V : List AV) {P : Program} {C : Ctx} {Q : Exit → St → Prop} {s : St} {id : Nat} {ops : Array Oper} {y : Code} (M : List Nat) (hm : P.follows .mixedOrders = true) (hB : drawB S ops = true) (hN : dstsB C.N ops.toList = true)
  (e : ∀ K : FinT, (∀ t h n, AWP P C y Q ⟨t, h, n⟩ → K t h n) → evD P C S V (M.foldl ers s.h) #[] ops.toList s.t s.h s.n K ∨ evD P C S V (M.foldl ers s.h) ops ops.toList s.t s.h s.n K) (hg : (ops.all fun o => o.guard.isNone) = true) (hr : C.x.rd = none := by rfl) : AWP P C (.seq (.region id ops true) y) Q s := by
 have hsub : ∀ (M : List Nat) (h : Heap), Sub (M.foldl ers h) h := by
  intro M
  induction M with
  | nil => intro h; exact .refl h
  | cons m M ih => intro h; exact (ih (ers h m)).trans (sub_ers h m)
 refine .seq (AWP.regionD (V := V) hm hB hN (hsub M s.h) ?_ hr)
 have hsame : ∀ (l : List Oper) (t : Nat → AV) (h : Heap) (n : Nat) (K : FinT), (∀ o ∈ l, o.guard = none) → evD P C S V (M.foldl ers s.h) #[] l t h n K → evD P C S V (M.foldl ers s.h) ops l t h n K := by
  intro l
  induction l with
  | nil => intro t h n K _ e; exact e
  | cons o l ih =>
    intro t h n K hgl e
    have hgo : o.guard = none := hgl o (by simp)
    have hw : ∀ (os : Array Oper) t, wantD os t o = some true := by intro os t; unfold wantD; rw [hgo]
    unfold evD at e ⊢
    split at e
    ·rename_i hs
     rw [if_pos hs]
     obtain ⟨v, hv, ok, e⟩ := e
     refine ⟨v, ?_, ?_, ih _ _ _ _ (fun o ho => hgl o (by simp [ho])) e⟩
     ·unfold valD at hv ⊢
      rw [hw] at hv ⊢
      exact hv
     ·unfold okD at ok ⊢
      rw [hw] at ok ⊢
      exact ok
    ·rename_i hs
     rw [if_neg hs]
     unfold sigD at e ⊢
     rw [hw] at e ⊢
     exact aop_mono (fun v h' n' ⟨s, e⟩ => ⟨s, ih _ _ _ _ (fun o ho => hgl o (by simp [ho])) e⟩) e
 have hgl : ∀ o ∈ ops.toList, o.guard = none := by
  intro o ho
  have := Array.all_eq_true_iff_forall_mem.1 hg o (by simpa using ho)
  simpa using this
 rcases e _ (fun t h n k => k) with e | e
 ·exact hsame _ _ _ _ _ hgl e
 ·exact e
theorem AWP.seqRegDG (S : List Tmp) (V : List AV) {P : Program} {C : Ctx} {Q : Exit → St → Prop} {s : St} {id : Nat} {ops : Array Oper} {y : Code} (M : List Nat) (hm : P.follows .mixedOrders = true) (hB : drawB S ops = true) (hN : dstsB C.N ops.toList = true)
  (e : ∀ K : FinT, (∀ t h n, AWP P C y Q ⟨t, h, n⟩ → K t h n) → evD P C S V (M.foldl ers s.h) ops ops.toList s.t s.h s.n K) (hr : C.x.rd = none := by rfl) : AWP P C (.seq (.region id ops true) y) Q s := by
 have hsub : ∀ (M : List Nat) (h : Heap), Sub (M.foldl ers h) h := by
  intro M
  induction M with
  | nil => intro h; exact .refl h
  | cons m M ih => intro h; exact (ih (ers h m)).trans (sub_ers h m)
 exact .seq (AWP.regionD (V := V) hm hB hN (hsub M s.h) (e _ (fun t h n k => k)) hr)
theorem evD_guardT {P : Program} {C : Ctx} {S : List Tmp} {V : List AV} {hS : Heap} {ops : Array Oper} {dst : Option Tmp} {ty : TypeId} {pos : String} {after : Array Edge} {os : List Oper} {t : Nat → AV} {h : Heap} {n : Nat} {K : FinT} {op : Op} {j : Nat} {want : Bool} (d : Tmp)
  (hd : (ops[j]?).bind (·.dst) = some d) (k : dG P C S V hS ops (t d) want op dst os t h n K) : evD P C S V hS ops (⟨dst, op, ty, pos, after, some (j, want)⟩ :: os) t h n K :=
 evD_guard _ _ _ _ _ _ _ _ _ _ _ _ _ _ _ _ _ _ (by rw [hd]; exact k)
theorem CallD.use {P : Program} {C : Ctx} {S : List Tmp} {V : List AV} {hS : Heap} {ops : Array Oper} {g : FuncId} {args : List AV} {dst : Option Tmp} {os : List Oper} {t : Nat → AV} {h : Heap} {n m : Nat} {K : FinT} {R : AV → Heap → Prop}
  (c : ACalls P g args h (C.b + n) m R) (hb : bodyB P g = true) (k : ∀ r h', R r h' → Sub hS h' ∧ evD P C S V hS ops os (putT t dst r) h' (n + m) K) : CallD P C S V hS ops g args dst os t h n K :=
 .inl ⟨m, R, hb, c, k⟩
theorem CallP.use {P : Program} {C : Ctx} {S : List Tmp} {V : List AV} {hS : Heap} {ops : Array Oper} {g : FuncId} {args : List AV} {v : AV} {dst : Option Tmp} {os : List Oper} {t : Nat → AV} {h : Heap} {n : Nat} {K : FinT}
  (c : ∀ h b, Sub hS h → ACalls P g args h b 0 (fun r h' => r = v ∧ h' = h)) (hb : bodyB P g = true) (k : evD P C S V hS ops os (putT t dst v) h n K) : CallP P C S V hS ops g args v dst os t h n K := ⟨⟨hb, c⟩, k⟩
attribute [congr] CallP_congr CallD_congr BiD_congr dG_congr
attribute [go_sem ↓] evD_nil evD_plain stepD_assign stepD_move stepD_pick stepD_load stepD_fieldAddr stepD_indexAddr stepD_unOp stepD_slice stepD_extract stepD_nilCheck stepD_build stepD_binOp stepD_buildSlice stepD_alloc stepD_store stepD_call stepD_append stepD_copy ers_lit
attribute [go_sem] husk_mk dV_some dV_if dH_some dH_if dU_f dBi_t dW_f dW_t dLb_f dVs_some dL_some callS_t callS_f pC_clo inS lkS dC_clo dG_bool dG_und bslP pdOf chunk List.foldl_nil List.foldl_cons
set_option linter.unusedSimpArgs false
set_option linter.unusedVariables false
set_option linter.unnecessarySimpa false
open Go
theorem cut_t (C : Ctx) (n : Nat) (s : St) (i : Nat) : (s.cut C n).t i = cutV (C.b + n) (s.t i) := rfl
theorem cut_h (C : Ctx) (n : Nat) (s : St) : (s.cut C n).h = cutH (C.b + n) s.h := rfl
theorem cutV_p (m : Nat) (d : PD) : cutV m (.one (.p d)) = .one (.p d) := rfl
theorem cutV_ptr {m id ver off : Nat} (h : id < m) : cutV m (.one (.ptr id ver off)) = .one (.ptr id ver off) := by simp [cutV, cutC, lowC, h]
theorem cutV_win {m id ver off len cap : Nat} (h : id < m) : cutV m (.one (.win id ver off len cap)) = .one (.win id ver off len cap) := by simp [cutV, cutC, lowC, h]
theorem cutV_clo0 (m : Nat) (f : Fn) : cutV m (.one (.clo f [] [])) = .one (.clo f [] []) := rfl
theorem cutH_at {m : Nat} {h : Heap} {id : Nat} {b : Blk} (hl : id < m) (e : h id = some b) : cutH m h id = some ⟨b.ver, b.cells.map (cutC m)⟩ := by
 unfold cutH; rw [if_pos hl, e]; rfl
theorem cutH_same {m : Nat} {h : Heap} {id : Nat} {b : Blk} (hl : id < m) (e : h id = some b) (hc : lowCs m b.cells = true) : cutH m h id = some b := by
 rw [cutH_at hl e]
 have : b.cells.map (cutC m) = b.cells := by
  have h1 : b.cells.map (cutC m) = b.cells.map (fun c => c) := List.map_congr_left (fun c hcm => by unfold cutC; rw [if_pos (lowCs_mem hc c hcm)])
  rw [h1]; simp
 rw [this]
theorem lowC_mono {m m' : Nat} (h : m ≤ m') {c : Cell} (e : lowC m c = true) : lowC m' c = true := by
 have : ∀ c, lowC m c = true → lowC m' c = true := by
  intro c
  induction c using lowC.induct (motive_2 := fun cs => lowCs m cs = true → lowCs m' cs = true) with
  | case1 | case2 | case3 => intro _; rfl
  | case4 | case5 => intro e; simp only [lowC, decide_eq_true_eq] at e ⊢; omega
  | case6 f c d ih1 ih2 => intro e; simp only [lowC, Bool.and_eq_true] at e ⊢; exact ⟨ih1 e.1, ih2 e.2⟩
  | case7 => rfl
  | case8 c cs ih1 ih2 => rename_i e; simp only [lowCs, Bool.and_eq_true] at e ⊢; exact ⟨ih1 e.1, ih2 e.2⟩
 exact this c e
theorem cutH_outer {b m : Nat} {h h0 : Heap} (hm : b ≤ m) (e : ∀ id, id < b → h id = h0 id) (hl : ∀ id blk, h0 id = some blk → ∀ c ∈ blk.cells, lowC b c = true) : ∀ id, id < b → cutH m h id = h0 id := by
 intro id hid
 cases h1 : h0 id with
 | none => unfold cutH; rw [if_pos (by omega), e id hid, h1]; rfl
 | some blk => exact cutH_same (by omega) ((e id hid).trans h1) (lowCs_of fun c hc => lowC_mono hm (hl id blk h1 c hc))
theorem AWP.ifT {P : Program} {C : Ctx} {Q : Exit → St → Prop} {s : St} {c : Operand} {x y : Code} (hc : val s.t c = .one (.p (.v (.bool true)))) (h : AWP P C x Q s) : AWP P C (.cond c x y) Q s :=
 AWP.cond hc (fun _ => h) (fun h => by cases h)
theorem AWP.ifF {P : Program} {C : Ctx} {Q : Exit → St → Prop} {s : St} {c : Operand} {x y : Code} (hc : val s.t c = .one (.p (.v (.bool false)))) (h : AWP P C y Q s) : AWP P C (.cond c x y) Q s :=
 AWP.cond hc (fun h => by cases h) (fun _ => h)
theorem wrap_i64 {x : Int} (h1 : -9223372036854775808 ≤ x) (h2 : x ≤ 9223372036854775807) : IntKind.i64.wrap x = x := by
 exact IntWalk.i64_in x ⟨h1, h2⟩
theorem AWP.loopM {P : Program} {C : Ctx} {Q : Exit → St → Prop} {s : St} {c : Code} (n : Nat) (I : Nat → St → Prop) (m : Nat) (hn : s.n = n) (h0 : I m s)
  (round : ∀ m s, I m s → s.n = n → AWP P C c (thn (fun s' => n ≤ s'.n ∧ ∃ m', m' < m ∧ I m' (s'.cut C n)) Q) s) : AWP P C (.loop c) Q s := by
 intro a w ι hI b k cs hro hb hr
 have key : ∀ m s a w ι, I m s → s.n = n → Inv C ι s a w →
   ∃ e a' w', PostQ C Q e a' w' ∧ ArrivesIn (Machine.fenced P C.F) P (lone (b.atR a (.code c :: .inLoop c :: k)) cs w) b k cs e a' w' := by
  intro m
  induction m using Nat.strongRecOn with
  | _ m ih =>
    intro s a w ι hs hsn hinv
    obtain ⟨e, a₁, w₁, hq, harr⟩ := round m s hs hsn a w ι hinv b (.inLoop c :: k) cs hro hb hr
    rcases hq with ⟨s₁, ι₁, hq, hinv₁⟩ | ⟨rfl, he⟩
    ·cases e with
     | normal =>
       obtain ⟨hle, m', hlt, hI₁⟩ := hq
       obtain ⟨e₂, a₂, w₂, hq₂, harr₂⟩ := ih m' hlt (s₁.cut C n) a₁ w₁ ι₁ hI₁ rfl (hinv₁.cut n hle)
       exact ⟨e₂, a₂, w₂, hq₂, .of_steps (StepsIn.trans harr (.one (fenced_calm hb hr rfl) stepR_inLoop)) harr₂⟩
     | exit id => exact ⟨_, a₁, w₁, .inl ⟨s₁, ι₁, hq, hinv₁⟩, .pass (x := .inLoop c) rfl (fun _ _ => .inl (by simp)) harr⟩
     | goto l => exact ⟨_, a₁, w₁, .inl ⟨s₁, ι₁, hq, hinv₁⟩, .pass (x := .inLoop c) rfl (fun _ _ => .inl (by simp)) harr⟩
     | ret => exact ⟨_, a₁, w₁, .inl ⟨s₁, ι₁, hq, hinv₁⟩, .pass (x := .inLoop c) rfl (fun _ _ => .inl (by simp)) harr⟩
     | panic ch => exact ⟨_, a₁, w₁, .inl ⟨s₁, ι₁, hq, hinv₁⟩, .pass (x := .inLoop c) rfl (fun _ _ => .inl (by simp)) harr⟩
     | outgrown => exact ⟨_, a₁, w₁, .inl ⟨s₁, ι₁, hq, hinv₁⟩, .pass (x := .inLoop c) rfl (fun _ _ => .inl (by simp)) harr⟩
    ·exact ⟨_, a₁, w₁, .inr ⟨rfl, he⟩, .pass (x := .inLoop c) rfl (fun _ _ => .inl (by simp)) harr⟩
 obtain ⟨e, a', w', hq, harr⟩ := key _ s a w ι h0 hn hI
 exact ⟨e, a', w', hq, .of_steps (.one (fenced_calm hb hr rfl) stepR_loop) harr⟩
theorem AWP.loopUp {P : Program} {C : Ctx} {Q : Exit → St → Prop} {s : St} {c : Code} (n : Nat) (N : Nat) (I : Nat → St → Prop) (i0 : Nat) (hi0 : i0 ≤ N) (hn : s.n = n) (h0 : I i0 s)
  (round : ∀ i s, i ≤ N → I i s → s.n = n → AWP P C c (thn (fun s' => n ≤ s'.n ∧ i < N ∧ I (i + 1) (s'.cut C n)) Q) s) : AWP P C (.loop c) Q s := by
 refine AWP.loopM n (fun m s => ∃ i, i ≤ N ∧ m = N - i ∧ I i s) (N - i0) hn ⟨i0, hi0, rfl, h0⟩ ?_
 rintro m s ⟨i, hi, rfl, hI⟩ hsn
 refine (round i s hi hI hsn).mono (fun e s' => ?_)
 cases e with
 | normal => rintro ⟨h1, h2, h3⟩; exact ⟨h1, N - (i + 1), by omega, i + 1, h2, rfl, h3⟩
 | _ => exact fun h => h
attribute [go_sem] cut_t cut_h cutV_p cutV_clo0
theorem jn2 {a b : Prop} (x : a) (y : b) : a ∧ b := ⟨x, y⟩
theorem jn3 {a b c : Prop} (x : a) (y : b) (z : c) : a ∧ b ∧ c := ⟨x, y, z⟩
theorem jn4 {a b c d : Prop} (x : a) (y : b) (z : c) (u : d) : a ∧ b ∧ c ∧ d := ⟨x, y, z, u⟩
theorem jn5 {a b c d e : Prop} (x : a) (y : b) (z : c) (u : d) (v : e) : a ∧ b ∧ c ∧ d ∧ e := ⟨x, y, z, u, v⟩
theorem jn6 {a b c d e f : Prop} (x : a) (y : b) (z : c) (u : d) (v : e) (w : f) : a ∧ b ∧ c ∧ d ∧ e ∧ f := ⟨x, y, z, u, v, w⟩
theorem jn7 {a b c d e f g : Prop} (x : a) (y : b) (z : c) (u : d) (v : e) (w : f) (r : g) : a ∧ b ∧ c ∧ d ∧ e ∧ f ∧ g := ⟨x, y, z, u, v, w, r⟩
theorem Ev {p q : Prop} (hq : q) (k : q → p := by intro hq; simp -implicitDefEqProofs only [go_sem, ↓reduceIte, Nat.reduceEqDiff, Nat.reduceAdd, Nat.reduceLT, Nat.reduceLeDiff, reduceCtorEq, Int.toNat_natCast]; exact hq) : p := k hq
theorem Evf {p q e : Prop} (f : e) (hq : q) (k : e → q → p := by intro f hq; simp -implicitDefEqProofs only [go_sem, ↓reduceIte, Nat.reduceEqDiff, Nat.reduceAdd, Nat.reduceLT, Nat.reduceLeDiff, reduceCtorEq, Int.toNat_natCast, f]; exact hq) : p := k f hq
theorem Ec {p : Prop} (k : p := by simp -implicitDefEqProofs only [go_sem, ↓reduceIte, Nat.reduceEqDiff, Nat.reduceAdd, Nat.reduceLT, Nat.reduceLeDiff, reduceCtorEq, Int.toNat_natCast]) : p := k
theorem Ecf {p e : Prop} (f : e) (k : e → p := by intro f; simp -implicitDefEqProofs only [go_sem, ↓reduceIte, Nat.reduceEqDiff, Nat.reduceAdd, Nat.reduceLT, Nat.reduceLeDiff, reduceCtorEq, Int.toNat_natCast, f]) : p := k f
theorem Er {p : Prop} (k : p := by first | (simp -implicitDefEqProofs only [go_sem, ↓reduceIte, Nat.reduceEqDiff, Nat.reduceAdd, Nat.reduceLT, Nat.reduceLeDiff, reduceCtorEq, Int.toNat_natCast]; first | done | rfl) | rfl) : p := k
theorem Erf {p e : Prop} (f : e) (k : e → p := by intro f; first | (simp -implicitDefEqProofs only [go_sem, ↓reduceIte, Nat.reduceEqDiff, Nat.reduceAdd, Nat.reduceLT, Nat.reduceLeDiff, reduceCtorEq, Int.toNat_natCast, f]; first | done | rfl) | rfl) : p := k f
section
variable {P : Program} {C : Ctx} {Q : Exit → St → Prop} {s : St} {id : Nat} {ops : Array Oper} {y : Code}
theorem Rg {q : (Exit → St → Prop) → FinT → Prop} (hq : ∀ E K, (∀ e s, thn (AWP P C y Q) Q e s → E e s) → (∀ t h n, AWP P C y Q ⟨t, h, n⟩ → K t h n) → q E K)
  (k : (∀ E K, (∀ e s, thn (AWP P C y Q) Q e s → E e s) → (∀ t h n, AWP P C y Q ⟨t, h, n⟩ → K t h n) → q E K) → AWP P C (.seq (.region id ops false) y) Q s := by intro hq; refine AWP.seqReg (by kernel_rfl) (fun E K hE hK => ?_); simp -implicitDefEqProofs only [go_sem, ↓reduceIte, Nat.reduceEqDiff, Nat.reduceAdd, Nat.reduceLT, Nat.reduceLeDiff, reduceCtorEq, Int.toNat_natCast]; exact hq E K hE hK) : AWP P C (.seq (.region id ops false) y) Q s := k hq
theorem Rgf {e : Prop} {q : (Exit → St → Prop) → FinT → Prop} (f : e) (hq : ∀ E K, (∀ e s, thn (AWP P C y Q) Q e s → E e s) → (∀ t h n, AWP P C y Q ⟨t, h, n⟩ → K t h n) → q E K)
  (k : e → (∀ E K, (∀ e s, thn (AWP P C y Q) Q e s → E e s) → (∀ t h n, AWP P C y Q ⟨t, h, n⟩ → K t h n) → q E K) → AWP P C (.seq (.region id ops false) y) Q s := by intro f hq; refine AWP.seqReg (by kernel_rfl) (fun E K hE hK => ?_); simp -implicitDefEqProofs only [go_sem, ↓reduceIte, Nat.reduceEqDiff, Nat.reduceAdd, Nat.reduceLT, Nat.reduceLeDiff, reduceCtorEq, Int.toNat_natCast, f]; exact hq E K hE hK) : AWP P C (.seq (.region id ops false) y) Q s := k f hq
theorem Rk {q : Prop} (hq : q) (k : q → AWP P C (.seq (.region id ops false) y) Q s := by intro hq; refine AWP.seqReg (by kernel_rfl) (fun E K hE hK => ?_); simp -implicitDefEqProofs only [go_sem, ↓reduceIte, Nat.reduceEqDiff, Nat.reduceAdd, Nat.reduceLT, Nat.reduceLeDiff, reduceCtorEq, Int.toNat_natCast]; refine hK _ _ _ ?_; exact hq) : AWP P C (.seq (.region id ops false) y) Q s := k hq
theorem Rkf {e q : Prop} (f : e) (hq : q) (k : e → q → AWP P C (.seq (.region id ops false) y) Q s := by intro f hq; refine AWP.seqReg (by kernel_rfl) (fun E K hE hK => ?_); simp -implicitDefEqProofs only [go_sem, ↓reduceIte, Nat.reduceEqDiff, Nat.reduceAdd, Nat.reduceLT, Nat.reduceLeDiff, reduceCtorEq, Int.toNat_natCast, f]; refine hK _ _ _ ?_; exact hq) : AWP P C (.seq (.region id ops false) y) Q s := k f hq
theorem Ra {q : (Exit → St → Prop) → FinT → Prop} (hq : ∀ E K, (∀ e s, Q e s → E e s) → (∀ t h n, Q .normal ⟨t, h, n⟩ → K t h n) → q E K)
  (k : (∀ E K, (∀ e s, Q e s → E e s) → (∀ t h n, Q .normal ⟨t, h, n⟩ → K t h n) → q E K) → AWP P C (.region id ops false) Q s := by intro hq; refine AWP.reg (by kernel_rfl) (fun E K hE hK => ?_); simp -implicitDefEqProofs only [go_sem, ↓reduceIte, Nat.reduceEqDiff, Nat.reduceAdd, Nat.reduceLT, Nat.reduceLeDiff, reduceCtorEq, Int.toNat_natCast]; exact hq E K hE hK) : AWP P C (.region id ops false) Q s := k hq
theorem Raf {e : Prop} {q : (Exit → St → Prop) → FinT → Prop} (f : e) (hq : ∀ E K, (∀ e s, Q e s → E e s) → (∀ t h n, Q .normal ⟨t, h, n⟩ → K t h n) → q E K)
  (k : e → (∀ E K, (∀ e s, Q e s → E e s) → (∀ t h n, Q .normal ⟨t, h, n⟩ → K t h n) → q E K) → AWP P C (.region id ops false) Q s := by intro f hq; refine AWP.reg (by kernel_rfl) (fun E K hE hK => ?_); simp -implicitDefEqProofs only [go_sem, ↓reduceIte, Nat.reduceEqDiff, Nat.reduceAdd, Nat.reduceLT, Nat.reduceLeDiff, reduceCtorEq, Int.toNat_natCast, f]; exact hq E K hE hK) : AWP P C (.region id ops false) Q s := k f hq
theorem Bt {c : Operand} {x : Code} (hq : AWP P C x Q s) (hc : val s.t c = .one (.p (.v (.bool true))) := by simp -implicitDefEqProofs only [go_sem, ↓reduceIte, Nat.reduceEqDiff, Nat.reduceAdd, Nat.reduceLT, Nat.reduceLeDiff, reduceCtorEq, Int.toNat_natCast]) : AWP P C (.cond c x y) Q s := AWP.ifT hc hq
theorem Btf {c : Operand} {x : Code} {e : Prop} (f : e) (hq : AWP P C x Q s) (hc : e → val s.t c = .one (.p (.v (.bool true))) := by intro f; simp -implicitDefEqProofs only [go_sem, ↓reduceIte, Nat.reduceEqDiff, Nat.reduceAdd, Nat.reduceLT, Nat.reduceLeDiff, reduceCtorEq, Int.toNat_natCast, f]) : AWP P C (.cond c x y) Q s := AWP.ifT (hc f) hq
theorem Bf {c : Operand} {x : Code} (hq : AWP P C y Q s) (hc : val s.t c = .one (.p (.v (.bool false))) := by simp -implicitDefEqProofs only [go_sem, ↓reduceIte, Nat.reduceEqDiff, Nat.reduceAdd, Nat.reduceLT, Nat.reduceLeDiff, reduceCtorEq, Int.toNat_natCast]) : AWP P C (.cond c x y) Q s := AWP.ifF hc hq
theorem Bff {c : Operand} {x : Code} {e : Prop} (f : e) (hq : AWP P C y Q s) (hc : e → val s.t c = .one (.p (.v (.bool false))) := by intro f; simp -implicitDefEqProofs only [go_sem, ↓reduceIte, Nat.reduceEqDiff, Nat.reduceAdd, Nat.reduceLT, Nat.reduceLeDiff, reduceCtorEq, Int.toNat_natCast, f]) : AWP P C (.cond c x y) Q s := AWP.ifF (hc f) hq
theorem Bs {c : Operand} {x : Code} {q : Prop} (hq : q) (hc : val s.t c = .one (.p (.v (.bool false))) := by simp -implicitDefEqProofs only [go_sem, ↓reduceIte, Nat.reduceEqDiff, Nat.reduceAdd, Nat.reduceLT, Nat.reduceLeDiff, reduceCtorEq, Int.toNat_natCast]) (k : q → Q .normal s := by intro hq; simp -implicitDefEqProofs only [go_sem, ↓reduceIte, Nat.reduceEqDiff, Nat.reduceAdd, Nat.reduceLT, Nat.reduceLeDiff, reduceCtorEq, Int.toNat_natCast]; exact hq) : AWP P C (.cond c x .skip) Q s := AWP.ifF hc (AWP.skip (k hq))
theorem Bsf {c : Operand} {x : Code} {q e : Prop} (f : e) (hq : q) (hc : e → val s.t c = .one (.p (.v (.bool false))) := by intro f; simp -implicitDefEqProofs only [go_sem, ↓reduceIte, Nat.reduceEqDiff, Nat.reduceAdd, Nat.reduceLT, Nat.reduceLeDiff, reduceCtorEq, Int.toNat_natCast, f]) (k : q → Q .normal s := by intro hq; simp -implicitDefEqProofs only [go_sem, ↓reduceIte, Nat.reduceEqDiff, Nat.reduceAdd, Nat.reduceLT, Nat.reduceLeDiff, reduceCtorEq, Int.toNat_natCast]; exact hq) : AWP P C (.cond c x .skip) Q s := AWP.ifF (hc f) (AWP.skip (k hq))
end
theorem Ou {b : Nat} {hh h : Heap} (k : ∀ id, id < b → hh id = h id := by intro id (hid : id < b); simp -implicitDefEqProofs only [go_sem, ↓reduceIte, Nat.reduceEqDiff, Nat.reduceAdd, Nat.reduceLT, Nat.reduceLeDiff, reduceCtorEq, Int.toNat_natCast, show ¬ id = b by omega, show ¬ id = b + 1 by omega, show ¬ id = b + 2 by omega, show ¬ id = b + 3 by omega, show ¬ id = b + 4 by omega, show ¬ id = b + 5 by omega, show ¬ id = b + 6 by omega]) : ∀ id, id < b → hh id = h id := k
theorem Ouf {b : Nat} {hh h : Heap} {e : Prop} (ho : e) (k : e → ∀ id, id < b → hh id = h id := by intro ho id (hid : id < b); simp -implicitDefEqProofs only [go_sem, ↓reduceIte, Nat.reduceEqDiff, Nat.reduceAdd, Nat.reduceLT, Nat.reduceLeDiff, reduceCtorEq, Int.toNat_natCast, show ¬ id = b by omega, show ¬ id = b + 1 by omega, show ¬ id = b + 2 by omega, show ¬ id = b + 3 by omega, show ¬ id = b + 4 by omega, show ¬ id = b + 5 by omega, show ¬ id = b + 6 by omega, ho id hid]) : ∀ id, id < b → hh id = h id := k ho
theorem Us {P : Program} {C : Ctx} {E : Exit → St → Prop} {g : FuncId} {args : List AV} {dst : Option Tmp} {os : List Oper} {pre : List (Option Tmp)} {t : Nat → AV} {h : Heap} {n m : Nat} {K : FinT} {r0 : AV} {h0 : Heap} {q : Prop}
  (c : ACalls P g args h (C.b + n) m (fun r h' => r = r0 ∧ h' = h0)) (hb : bodyB P g = true) (hq : q) (k : q → evOps P C E os (pre ++ [dst]) (putT t dst r0) h0 (n + m) K := by intro hq; simp -implicitDefEqProofs only [go_sem, ↓reduceIte, Nat.reduceEqDiff, Nat.reduceAdd, Nat.reduceLT, Nat.reduceLeDiff, reduceCtorEq, Int.toNat_natCast]; exact hq) : CallR P C E g args dst os pre t h n K :=
 CallR.use c hb (fun _ _ ⟨e1, e2⟩ => by rw [e1, e2]; exact k hq)
theorem Ud {P : Program} {C : Ctx} {S : List Tmp} {V : List AV} {ops : Array Oper} {g : FuncId} {args : List AV} {dst : Option Tmp} {os : List Oper} {t : Nat → AV} {h : Heap} {n m : Nat} {K : FinT} {r0 : AV} {q : Prop}
  (c : ACalls P g args h (C.b + n) m (fun r h' => r = r0 ∧ h' = h)) (hb : bodyB P g = true) (hq : q) (k : q → evD P C S V h ops os (putT t dst r0) h (n + m) K := by intro hq; simp -implicitDefEqProofs only [go_sem, ↓reduceIte, Nat.reduceEqDiff, Nat.reduceAdd, Nat.reduceLT, Nat.reduceLeDiff, reduceCtorEq, Int.toNat_natCast]; exact hq) : CallD P C S V h ops g args dst os t h n K :=
 CallD.use c hb (fun _ _ ⟨e1, e2⟩ => by rw [e1, e2]; exact ⟨Sub.refl _, k hq⟩)
theorem Gd {P : Program} {C : Ctx} {S : List Tmp} {V : List AV} {hS : Heap} {ops : Array Oper} {dst : Option Tmp} {ty : TypeId} {pos : String} {after : Array Edge} {os : List Oper} {t : Nat → AV} {h : Heap} {n : Nat} {K : FinT} {op : Op} {j : Nat} {want : Bool} {q : Prop} (d : Tmp)
  (hq : q) (k : q → dG P C S V hS ops (t d) want op dst os t h n K := by intro hq; simp -implicitDefEqProofs only [go_sem, ↓reduceIte, Nat.reduceEqDiff, Nat.reduceAdd, Nat.reduceLT, Nat.reduceLeDiff, reduceCtorEq, Int.toNat_natCast]; exact hq) (hd : (ops[j]?).bind (·.dst) = some d := by rfl) : evD P C S V hS ops (⟨dst, op, ty, pos, after, some (j, want)⟩ :: os) t h n K := evD_guardT d hd (k hq)
theorem Gdf {P : Program} {C : Ctx} {S : List Tmp} {V : List AV} {hS : Heap} {ops : Array Oper} {dst : Option Tmp} {ty : TypeId} {pos : String} {after : Array Edge} {os : List Oper} {t : Nat → AV} {h : Heap} {n : Nat} {K : FinT} {op : Op} {j : Nat} {want : Bool} {q e : Prop} (d : Tmp)
  (f : e) (hq : q) (k : e → q → dG P C S V hS ops (t d) want op dst os t h n K := by intro f hq; simp -implicitDefEqProofs only [go_sem, ↓reduceIte, Nat.reduceEqDiff, Nat.reduceAdd, Nat.reduceLT, Nat.reduceLeDiff, reduceCtorEq, Int.toNat_natCast, f]; exact hq) (hd : (ops[j]?).bind (·.dst) = some d := by rfl) : evD P C S V hS ops (⟨dst, op, ty, pos, after, some (j, want)⟩ :: os) t h n K := evD_guardT d hd (k f hq)
set_option linter.unusedSimpArgs false
set_option linter.unusedVariables false
set_option linter.unnecessarySimpa false
open Go
theorem upd_self {h : Heap} {id : Nat} {b : Blk} (e : h id = some b) : upd h id b = h := by
 funext i
 by_cases hi : i = id
 ·subst hi; rw [upd_same, e]
 ·rw [upd_ne _ _ _ _ hi]
theorem upd_upd (h : Heap) (id : Nat) (x y : Blk) : upd (upd h id x) id y = upd h id y := by
 funext i
 by_cases hi : i = id
 ·subst hi; rw [upd_same, upd_same]
 ·rw [upd_ne _ _ _ _ hi, upd_ne _ _ _ _ hi, upd_ne _ _ _ _ hi]
theorem BiR.of {P : Program} {C : Ctx} {E : Exit → St → Prop} {bi : Builtin} {tys : List TypeId} {args : List AV} {dst : Option Tmp} {os : List Oper} {pre : List (Option Tmp)} {t : Nat → AV} {h : Heap} {n : Nat} {K : FinT}
  (k : BiK P C bi tys args h n fun v h' n' => evOps P C E os (pre ++ [dst]) (putT t dst v) h' n' K) : BiR P C E bi tys args dst os pre t h n K := k
theorem MkR.of {P : Program} {C : Ctx} {E : Exit → St → Prop} {ty : TypeId} {x y : AV} {dst : Option Tmp} {os : List Oper} {pre : List (Option Tmp)} {t : Nat → AV} {h : Heap} {n : Nat} {K : FinT}
  (k : MkK P C ty x y h n fun v h' n' => evOps P C E os (pre ++ [dst]) (putT t dst v) h' n' K) : MkR P C E ty x y dst os pre t h n K := k
theorem BiD.of {P : Program} {C : Ctx} {S : List Tmp} {V : List AV} {hS : Heap} {ops : Array Oper} {bi : Builtin} {tys : List TypeId} {args : List AV} {dst : Option Tmp} {os : List Oper} {t : Nat → AV} {h : Heap} {n : Nat} {K : FinT}
  (k : BiK P C bi tys args h n fun v h' n' => Sub hS h' ∧ evD P C S V hS ops os (putT t dst v) h' n' K) : BiD P C S V hS ops bi tys args dst os t h n K := k
theorem spl_nil (cells : List Cell) (off : Nat) : spl cells off [] = cells := by simp [spl]
attribute [go_sem] upd_upd
theorem writeAt {P : Program} {C : Ctx} {ι : Nat → Nat} {t : Nat → AV} {h : Heap} {n : Nat} {a : Act} {w : World} (I : Inv C ι ⟨t, h, n⟩ a w) {id off : Nat} {blk : Blk} (hb : h id = some blk) {xs : List Cell} {V : List Value}
  (rep : Reps ι h (C.b + n) w xs V) (ok : ∀ u ∈ V, u.oneCell' = true) (hle : off + xs.length ≤ blk.cells.length) :
  ∃ w', (storeCells ⟨ι id, off, none⟩ V).run P w = .ok () w' ∧ Moves ι h (C.b + n) w ι (upd h id ⟨blk.ver, spl blk.cells off xs⟩) (C.b + n) w' ∧ Inv C ι ⟨t, upd h id ⟨blk.ver, spl blk.cells off xs⟩, n⟩ a w' := by
 by_cases hx : xs = []
 ·subst hx
  have : V = [] := List.eq_nil_of_length_eq_zero rep.1
  subst this
  rw [spl_nil]
  have e : upd h id ⟨blk.ver, blk.cells⟩ = h := upd_self hb
  rw [e]
  exact ⟨w, rfl, Moves.refl _ _ _ _, I⟩
 ·have hne : blk.cells ≠ [] := by
   intro hh; rw [hh] at hle; simp at hle
   exact hx hle.2
  obtain ⟨c, tyc, k1, k2, k3⟩ := I.heap.blk id blk hb hne
  have hl : V.length = xs.length := rep.1
  have hst := run_storeCells_at (P := P) (ι id) off tyc V 0 c w k1 (by rw [hl, k2]; omega) ok
  have r0 : Reps ι h (C.b + n) w blk.cells c.toList := ⟨by simpa using k2, fun j d u hd hu => k3 j d u hd (by simpa using hu)⟩
  have r1 := Reps.spl r0 rep hle
  obtain ⟨M, I'⟩ := I.write id blk hb hne blk.ver (Nat.le_refl _) (spl blk.cells off xs) (c.toList.take off ++ (V ++ c.toList.drop (off + V.length))).toArray
   (by simp [spl]; omega) (by have := r1.1; simpa using this) (fun j d u hd hu => r1.2 j d u hd (by simpa using hu))
  refine ⟨_, ?_, M, I'⟩
  rw [hst]
  simp
theorem reps_take {ι : Nat → Nat} {h : Heap} {bd : Nat} {w : World} {xs : List Cell} {V : List Value} (r : Reps ι h bd w xs V) (k : Nat) : Reps ι h bd w (xs.take k) (V.take k) := by
 refine ⟨by simp [r.1], fun i d u hd hu => ?_⟩
 rw [List.getElem?_take] at hd hu
 split at hd
 ·rename_i hi; rw [if_pos hi] at hu; exact r.2 i d u hd hu
 ·cases hd
theorem BiK.copy {P : Program} {C : Ctx} {ty tx e : TypeId} {sz : Nat} {id ver off len cap m : Nat} {x : AV} {xs : List Cell} {h : Heap} {n : Nat} {K : KT} {blk : Blk}
  (ht : slE P ty = some e) (hs : tsz P e = some sz) (hb : h id = some blk) (hv : blk.ver = ver)
  (hsrc : srcA h sz x = some (m, xs)) (hok : ∀ c ∈ xs.take (min m len * sz), okC h c = true) (hc : off + len * sz ≤ blk.cells.length)
  (k : K (.one (.p (.v (.int .i64 ((min m len : Nat) : Int))))) (upd h id ⟨ver, spl blk.cells off (xs.take (min m len * sz))⟩) n) :
  BiK P C .copy [ty, tx] [.one (.win id ver off len cap), x] h n K := by
 intro a w ι Vs I hVs tyR cs
 obtain ⟨hl, hVs⟩ := hVs
 match Vs, hl with
 | [X, Y], _ =>
   have rX := hVs 0 _ X rfl rfl
   have rY := hVs 1 _ Y rfl rfl
   have hlive : liveB h id ver = true := by unfold liveB; rw [hb]; simpa using hv
   obtain ⟨hlc, hX⟩ := win_inv rX hlive
   obtain ⟨W, g1, g2, g3, g4⟩ := src_okk (P := P) I.heap rY hsrc
   have h1 := srcA_okC_one (reps_take g3 (min m len * sz)) hok
   have hu := run_underlying (P := P) (slE_run ht) w
   subst hv
   have hmin : min m len * sz ≤ len * sz := Nat.mul_le_mul_right _ (Nat.min_le_right _ _)
   obtain ⟨w', s1, M, I'⟩ := writeAt (P := P) I hb (reps_take g3 (min m len * sz)) h1 (off := off) (by rw [List.length_take]; omega)
   refine ⟨.int .i64 ((min m len : Nat) : Int), w', _, _, n, ι, ?_, k, I', rav_v _, M⟩
   rcases hX with rfl | ⟨rfl, hl0, hc0⟩
   ·simp only [builtin, Builtin.copy_, Sem.run_bind, Sem.run_pure, Result.andThen, hu, tsz_run hs, List.getElem?_toArray, List.getElem?_cons_zero, List.getElem?_cons_succ, g1]
    have := g2 (min m len) (Nat.min_le_left _ _)
    simp only [Nat.min_def] at this s1 ⊢
    simp only [this, Sem.run_bind, Result.andThen, s1, Sem.run_pure, goInt]
   ·subst hl0; subst hc0
    have hx0 : min m 0 = 0 := Nat.min_zero m
    rw [hx0] at s1 ⊢
    simp only [Nat.zero_mul, List.take_zero, storeCells, Sem.run_pure] at s1
    injection s1 with _ s1
    subst s1
    simp only [builtin, Builtin.copy_, Sem.run_bind, Sem.run_pure, Result.andThen, hu, tsz_run hs, List.getElem?_toArray, List.getElem?_cons_zero, List.getElem?_cons_succ, g1]
    have := g2 0 (Nat.zero_le _)
    simp only [Nat.min_def, Nat.le_zero_eq]
    have e0 : (if m = 0 then m else 0) = 0 := by split <;> simp_all
    rw [e0]
    simp only [this, Sem.run_bind, Result.andThen, Sem.run_pure, goInt]
theorem BiK.clear {P : Program} {C : Ctx} {ty e : TypeId} {sz : Nat} {zs : List Value} {id ver off len cap : Nat} {h : Heap} {n : Nat} {K : KT} {blk : Blk}
  (ht : slE P ty = some e) (hz : tzero P e = some zs) (hzs : zs.length = sz) (hz1 : zs.all (·.oneCell') = true) (hb : h id = some blk) (hv : blk.ver = ver) (hc : off + len * sz ≤ blk.cells.length)
  (k : K (.tup []) (upd h id ⟨ver, spl blk.cells off (repl (zs.map fun v => .p (.v v)) len)⟩) n) :
  BiK P C .clear [ty] [.one (.win id ver off len cap)] h n K := by
 intro a w ι Vs I hVs tyR cs
 obtain ⟨hl, hVs⟩ := hVs
 match Vs, hl with
 | [X], _ =>
   have rX := hVs 0 _ X rfl rfl
   have hlive : liveB h id ver = true := by unfold liveB; rw [hb]; simpa using hv
   obtain ⟨hlc, hX⟩ := win_inv rX hlive
   obtain ⟨i', z, hi', hiz, hzc⟩ := tzero_run hz
   have hu := run_underlying (P := P) (slE_run ht) w
   have hzr : (zeroValue e).run P w = .ok z w := by simp [zeroValue, typeInfo, hi', hiz]
   subst hv
   have hmem : ∀ (n : Nat), ∀ u ∈ repl zs n, u ∈ zs := by
    intro n
    induction n with
    | zero => intro u hu; simp [repl] at hu
    | succ n ih => intro u hu; simp only [repl, List.mem_append] at hu; exact hu.elim (fun h => h) (ih u)
   have hrepl : (Builtin.zeroCells z.cells len).toList = repl zs len := by
    have := range_repl zs len sz hzs
    have hzc' : z.cells = zs.toArray := by apply Array.ext'; simpa using hzc
    unfold Builtin.zeroCells
    rw [hzc']
    have e1 : zs.toArray.size = sz := by simpa using hzs
    rw [e1]
    rw [e1] at this
    rw [this]
   obtain ⟨w', s1, M, I'⟩ := writeAt (P := P) I hb (reps_repl (ι := ι) (h := h) (bd := C.b + n) (w := w) zs len) (fun u hu => List.all_eq_true.1 hz1 u (hmem _ u hu)) (off := off) (by rw [repl_length]; simpa [hzs] using hc)
   refine ⟨.tuple #[], w', _, _, n, ι, ?_, k, I', .tup [] rfl (fun _ _ _ e => by simp at e), M⟩
   have hnil : len = 0 → w' = w := by
    intro h0
    subst h0
    simp only [repl, storeCells, Sem.run_pure] at s1
    injection s1 with _ s1
    exact s1.symm
   rcases hX with rfl | ⟨rfl, hl0, hc0⟩
   ·cases len with
    | zero => rw [hnil rfl]; simp only [builtin, Builtin.clear_, Sem.run_bind, Sem.run_pure, Result.andThen, hu, List.getElem?_toArray, List.getElem?_cons_zero, List.getElem?_cons_succ]
    | succ len => simp only [builtin, Builtin.clear_, Sem.run_bind, Sem.run_pure, Result.andThen, hu, List.getElem?_toArray, List.getElem?_cons_zero, List.getElem?_cons_succ, hzr, hrepl, s1]
   ·rw [hnil hl0]; simp only [builtin, Builtin.clear_, Sem.run_bind, Sem.run_pure, Result.andThen, hu, List.getElem?_toArray, List.getElem?_cons_zero, List.getElem?_cons_succ]
theorem MkK.make {P : Program} {C : Ctx} {ty e : TypeId} {sz bytes : Nat} {zs : List Value} {kl kc : IntKind} {len cap : Nat} {h : Heap} {n : Nat} {K : KT}
  (ht : slE P ty = some e) (hs : tsz P e = some sz) (hz : tzero P e = some zs) (hzs : zs.length = sz) (hby : tby P e = some bytes) (hlc : len ≤ cap) (hb : bytes * cap ≤ 281474976710656) (h63 : cap ≤ 9223372036854775807)
  (k : K (.one (.win (C.b + n) 0 0 len cap)) (upd h (C.b + n) ⟨0, repl (zs.map fun v => .p (.v v)) cap⟩) (n + 1)) :
  MkK P C ty (.one (.p (.v (.int kl len)))) (.one (.p (.v (.int kc cap)))) h n K := by
 intro a w ι X Y I rX rY
 have hX := rav_v_inv rX
 have hY := rav_v_inv rY
 subst hX; subst hY
 obtain ⟨i, hi, his⟩ := tsz_info hs
 obtain ⟨i', z, hi', hiz, hzc⟩ := tzero_run hz
 have : i = i' := by rw [hi] at hi'; injection hi'
 subst this
 have hib : i.bytes = bytes := by unfold tby at hby; rw [hi] at hby; simpa using hby
 have hr := run_make (P := P) w ty e i z (slE_run ht) hi hiz kl kc len cap (by omega) (by omega) (by rw [hib, ← Int.natCast_mul]; omega) (by omega)
 simp only [Int.toNat_natCast] at hr
 have hzc' : z.cells = zs.toArray := by apply Array.ext'; simpa using hzc
 have hm : madeCells z.cells (cap * i.size) = (repl zs cap).toArray := by
  have := range_repl zs cap sz hzs
  unfold madeCells
  rw [hzc', his]
  exact this
 have hbn : h (C.b + n) = none := I.bound _ (Nat.le_refl _)
 obtain ⟨M, I'⟩ := I.place (C.b + n) (n + 1) (Nat.le_succ _) (by omega) 0 (fun b e => by have e' : h (C.b + n) = some b := e; rw [hbn] at e'; cases e') (fun _ => Nat.le_refl _)
  (repl (zs.map fun v => Cell.p (.v v)) cap) (repl zs cap).toArray e (by simp [repl_length]) (fun j d u hd hu => (reps_repl zs cap).2 j d u hd (by simpa using hu))
 rw [hm] at hr
 exact ⟨_, _, _, _, _, _, hr, k, I', rav_new_win w.heap.size len cap hlc, M⟩
theorem Inv.virt {C : Ctx} {ι : Nat → Nat} {t : Nat → AV} {h : Heap} {n : Nat} {a : Act} {w : World} (I : Inv C ι ⟨t, h, n⟩ a w) :
  Moves ι h (C.b + n) w ι (upd h (C.b + n) ⟨0, []⟩) (C.b + (n + 1)) w ∧ Inv C ι ⟨t, upd h (C.b + n) ⟨0, []⟩, n + 1⟩ a w := by
 have hbn : ∀ i, C.b + n ≤ i → h i = none := I.bound
 have M : Moves ι h (C.b + n) w ι (upd h (C.b + n) ⟨0, []⟩) (C.b + (n + 1)) w := by
  refine ⟨by omega, fun b' hs _ i blk e ne => ?_, fun _ _ _ => rfl, fun i hi b' e => ?_⟩
  ·by_cases hi : i = C.b + n
   ·subst hi; rw [upd_same] at e; injection e with e; subst e; exact absurd rfl ne
   ·rw [upd_ne _ _ _ _ hi] at e; exact hs i blk e ne
  ·have hi' : i ≠ C.b + n := by omega
   rw [upd_ne _ _ _ _ hi'] at e
   exact ⟨b', e, Nat.le_refl _, fun _ => rfl⟩
 have hold : ∀ i b', upd h (C.b + n) ⟨0, []⟩ i = some b' → b'.cells ≠ [] → i ≠ C.b + n ∧ h i = some b' := by
  intro i b' e ne
  by_cases hi : i = C.b + n
  ·subst hi; rw [upd_same] at e; injection e with e; subst e; exact absurd rfl ne
  ·rw [upd_ne _ _ _ _ hi] at e; exact ⟨hi, e⟩
 refine ⟨M, ⟨fun i hi b' e => ?_, fun i hi b' e ne => I.fresh i hi b' (hold i b' e ne).2 ne, fun i hi => ?_, ⟨fun i b' e ne => ?_, fun i j bi bj hi hj ni nj => I.heap.inj i j bi bj (hold i bi hi ni).2 (hold j bj hj nj).2 ni nj⟩, fun t => (I.tmps t).move M, I.ntmps, I.defers, I.keeps⟩⟩
 ·have hi' : i ≠ C.b + n := by omega
  have e' : upd h (C.b + n) ⟨0, []⟩ i = some b' := e
  rw [upd_ne _ _ _ _ hi'] at e'
  exact I.outer i hi b' e'
 ·have hi2 : C.b + (n + 1) ≤ i := hi
  show upd h (C.b + n) ⟨0, []⟩ i = none
  rw [upd_ne _ _ _ _ (by omega)]
  exact hbn i (by omega)
 ·obtain ⟨c, ty, h1, h2, h3⟩ := I.heap.blk i b' (hold i b' e ne).2 ne
  exact ⟨c, ty, h1, h2, fun j d u hd hu => (h3 j d u hd hu).move M⟩
theorem rav_virt {ι : Nat → Nat} {h : Heap} {b n : Nat} {w : World} : RAV ι (upd h (b + n) ⟨0, []⟩) (b + (n + 1)) w (.one (.win (b + n) 0 0 0 0)) (.slice none 0 0) :=
 .one (.win (by omega) (fun blk e => by rw [upd_same] at e; injection e with e; subst e; exact Nat.le_refl _) (fun _ _ _ => ⟨Nat.le_refl _, .inr ⟨rfl, rfl, rfl⟩⟩))
theorem AWP.virt {P : Program} {C : Ctx} {Q : Exit → St → Prop} {c : Code} {t : Nat → AV} {h : Heap} {n : Nat} (i : Nat) (e : t i = .one (.p (.v (.slice none 0 0))))
  (k : AWP P C c Q ⟨updT t i (.one (.win (C.b + n) 0 0 0 0)), upd h (C.b + n) ⟨0, []⟩, n + 1⟩) : AWP P C c Q ⟨t, h, n⟩ := by
 refine .weak (fun a w ι I => ⟨ι, ?_⟩) k
 obtain ⟨M, I'⟩ := I.virt
 refine ⟨I'.outer, I'.fresh, I'.bound, I'.heap, fun j => ?_, I'.ntmps, I'.defers, I'.keeps⟩
 show RAV ι (upd h (C.b + n) ⟨0, []⟩) (C.b + (n + 1)) w (updT t i (.one (.win (C.b + n) 0 0 0 0)) j) (a.tmps.getD j undef)
 by_cases hj : j = i
 ·subst hj
  rw [updT_same]
  have hr : RAV ι h (C.b + n) w (t j) (a.tmps.getD j undef) := I.tmps j
  rw [e] at hr
  rw [rav_v_inv hr]
  exact rav_virt
 ·rw [updT_ne _ _ _ _ hj]; exact I'.tmps j
theorem srcA_virt {h : Heap} {id sz m : Nat} {x : AV} {xs : List Cell} (hn : h id = none) (e : srcA h sz x = some (m, xs)) : srcA (upd h id ⟨0, []⟩) sz x = some (m, xs) := by
 unfold srcA at e ⊢
 split at e
 ·exact e
 ·rename_i id' ver off len cap
  split at e
  ·rename_i b hb
   have : id' ≠ id := by intro hh; subst hh; rw [hn] at hb; cases hb
   simp only [upd_ne _ _ _ _ this, hb]
   exact e
  ·cases e
 ·exact e
 ·exact e
 ·cases e
theorem BiK.append_nil {P : Program} {C : Ctx} {ty tx e : TypeId} {sz bytes : Nat} {zs : List Value} {m : Nat} {x : AV} {xs : List Cell} {h : Heap} {n : Nat} {K : KT}
  (ht : slE P ty = some e) (hs : tsz P e = some sz) (hz : tzero P e = some zs) (hzs : zs.length = sz) (hby : tby P e = some bytes) (htx : isIntT P tx = false)
  (hsrc : srcA h sz x = some (m, xs)) (hok : ∀ c ∈ xs, okC (upd h (C.b + n) ⟨0, []⟩) c = true) (hroom : m * bytes ≤ 70368744177664) (hbytes : bytes ≤ 1000000) (hmax : m ≤ 4611686018427387904)
  (k : ∀ cap' r, m ≤ cap' → cap' * sz = m * sz + r → K (.one (.win (C.b + n) 1 0 m cap')) (upd h (C.b + n) ⟨1, xs ++ List.replicate r .junk⟩) (n + 1)) :
  BiK P C .append [ty, tx] [.one (.p (.v (.slice none 0 0))), x] h n K := by
 intro a w ι Vs I hVs tyR cs
 obtain ⟨M0, I0⟩ := I.virt
 have hbn : h (C.b + n) = none := I.bound _ (Nat.le_refl _)
 have hVs' : RAVs ι (upd h (C.b + n) ⟨0, []⟩) (C.b + (n + 1)) w [.one (.win (C.b + n) 0 0 0 0), x] Vs := by
  obtain ⟨hl, hv⟩ := hVs
  refine ⟨hl, fun i c u hc hu => ?_⟩
  match i with
  | 0 =>
    simp at hc
    subst hc
    have := hv 0 _ u rfl hu
    rw [rav_v_inv this]
    exact rav_virt
  | 1 =>
    simp at hc
    subst hc
    exact (hv 1 _ u rfl hu).move M0
  | i + 2 => simp at hc
 have own := BiK.append_own (P := P) (C := C) (ty := ty) (tx := tx) (e := e) (sz := sz) (bytes := bytes) (zs := zs) (id := C.b + n) (ver := 0) (len := 0) (cap := 0) (m := m) (x := x) (xs := xs) (h := upd h (C.b + n) ⟨0, []⟩) (n := n + 1) (K := K) (blk := ⟨0, []⟩)
  ht hs hz hzs hby htx (upd_same _ _ _) rfl (by simp) (srcA_virt hbn hsrc) hok (by simpa using hroom) hbytes (by simpa using hmax) (fun cap' r h1 h2 => by
   have := k cap' r (by simpa using h1) (by simpa using h2)
   have e1 : upd (upd h (C.b + n) ⟨0, []⟩) (C.b + n) ⟨0 + 1, List.take (0 * sz) ([] : List Cell) ++ (xs ++ List.replicate r .junk)⟩ = upd h (C.b + n) ⟨1, xs ++ List.replicate r .junk⟩ := by
    funext i
    by_cases hi : i = C.b + n
    ·subst hi; rw [upd_same, upd_same]; simp
    ·rw [upd_ne _ _ _ _ hi, upd_ne _ _ _ _ hi, upd_ne _ _ _ _ hi]
   rw [e1, Nat.zero_add, Nat.zero_add]
   exact this)
 obtain ⟨v, w', av, h', n', ι', h1, h2, h3, h4, h5⟩ := own a w ι Vs I0 hVs' tyR cs
 refine ⟨v, w', av, h', n', ι', h1, h2, h3, h4, ⟨Nat.le_trans M0.hbd h5.hbd, fun b hb hlt => h5.stab b (M0.stab b hb hlt) hlt, fun b hs hlt => h5.agree b (M0.stab b hs hlt) hlt, fun i hi b' e => ?_⟩⟩
 obtain ⟨b, hb, hle, hx⟩ := h5.blk i (by omega) b' e
 rw [upd_ne _ _ _ _ (by omega)] at hb
 exact ⟨b, hb, hle, hx⟩
def renC (h : Heap) (b : Nat) (L : List (Nat × List Cell)) (c d : Cell) : Prop :=
 (c = d ∧ lowC b c = true) ∨ (∃ sz, c = .p (.v (.slice none 0 0)) ∧ d = .p (.sl sz [])) ∨
 (∃ id ver off len cap sz es blk, c = .win id ver off len cap ∧ d = .p (.sl sz es) ∧ b ≤ id ∧ (∀ (k : Nat) (ds : List Cell), L[k]? ≠ some (id, ds)) ∧ h id = some blk ∧ blk.ver = ver ∧ es.length = len ∧
  (∀ e ∈ es, e.length = sz) ∧ (∀ (i : Nat) (e : List PD), es[i]? = some e → ∀ (j : Nat) (x : PD), e[j]? = some x → blk.cells[off + (i * sz + j)]? = some (.p x))) ∨
 (∃ (k id : Nat) (ds : List Cell) (ver off len cap : Nat), L[k]? = some (id, ds) ∧ c = .win id ver off len cap ∧ d = .win (b + k) ver off len cap) ∨
 (∃ (k id : Nat) (ds : List Cell) (ver off : Nat), L[k]? = some (id, ds) ∧ c = .ptr id ver off ∧ d = .ptr (b + k) ver off)
inductive renV (h : Heap) (b : Nat) (L : List (Nat × List Cell)) : AV → AV → Prop
 | one {c d : Cell} (hc : renC h b L c d) : renV h b L (.one c) (.one d)
 | agg {cs ds : List Cell} (hl : ds.length = cs.length) (hc : ∀ (i : Nat) (c d : Cell), cs[i]? = some c → ds[i]? = some d → renC h b L c d) : renV h b L (.agg cs) (.agg ds)
 | tup {cs ds : List AV} (hl : ds.length = cs.length) (hc : ∀ (i : Nat) (c d : AV), cs[i]? = some c → ds[i]? = some d → renV h b L c d) : renV h b L (.tup cs) (.tup ds)
structure KeepOK (h : Heap) (b : Nat) (L : List (Nat × List Cell)) : Prop where
 own : ∀ (k id : Nat) (ds : List Cell), L[k]? = some (id, ds) → b ≤ id ∧ ∃ blk, h id = some blk ∧ ds.length = blk.cells.length ∧ (∀ (i : Nat) (c d : Cell), blk.cells[i]? = some c → ds[i]? = some d → renC h b L c d)
 nd : ∀ (k k' id : Nat) (ds ds' : List Cell), L[k]? = some (id, ds) → L[k']? = some (id, ds') → k = k'
 low : ∀ id, id < b → ∀ blk, h id = some blk → ∀ c ∈ blk.cells, lowC b c = true
def keepH (b : Nat) (h : Heap) (L : List (Nat × List Cell)) : Heap := fun i =>
 if i < b then h i else match L[i - b]? with
  | some x => (h x.1).map fun blk => ⟨blk.ver, x.2⟩
  | none => none
def keepI (b : Nat) (ι : Nat → Nat) (L : List (Nat × List Cell)) : Nat → Nat := fun i =>
 if i < b then ι i else match L[i - b]? with
  | some x => ι x.1
  | none => 0
theorem keep_from {b : Nat} {h : Heap} {L : List (Nat × List Cell)} {ι : Nat → Nat} {i : Nat} {blk : Blk} (o : KeepOK h b L) (e : keepH b h L i = some blk) :
  ∃ j b0, h j = some b0 ∧ b0.ver = blk.ver ∧ b0.cells.length = blk.cells.length ∧ keepI b ι L i = ι j ∧ ((i < b ∧ j = i ∧ b0 = blk) ∨ (b ≤ i ∧ ∃ ds, L[i - b]? = some (j, ds) ∧ blk.cells = ds)) := by
 unfold keepH at e
 unfold keepI
 split at e
 ·rename_i hi
  rw [if_pos hi]
  exact ⟨i, blk, e, rfl, rfl, rfl, .inl ⟨hi, rfl, rfl⟩⟩
 ·rename_i hi
  rw [if_neg hi]
  cases hx : L[i - b]? with
  | none => rw [hx] at e; cases e
  | some x =>
    obtain ⟨j, ds⟩ := x
    rw [hx] at e
    obtain ⟨_, b0, hb0, hl, _⟩ := o.own _ _ _ hx
    simp only [hb0, Option.map_some, Option.some.injEq] at e
    subst e
    exact ⟨j, b0, hb0, rfl, hl.symm, rfl, .inr ⟨by omega, ds, rfl, rfl⟩⟩
theorem keep_at {b : Nat} {h : Heap} {L : List (Nat × List Cell)} {ι : Nat → Nat} {k id : Nat} {ds : List Cell} (e : L[k]? = some (id, ds)) :
  keepH b h L (b + k) = (h id).map (fun blk => ⟨blk.ver, ds⟩) ∧ keepI b ι L (b + k) = ι id := by
 unfold keepH keepI
 rw [if_neg (by omega), if_neg (by omega), Nat.add_sub_cancel_left, e]
 exact ⟨rfl, rfl⟩
theorem keep_lt {b : Nat} {h : Heap} {L : List (Nat × List Cell)} {ι : Nat → Nat} {i : Nat} (hi : i < b) : keepH b h L i = h i ∧ keepI b ι L i = ι i := by
 unfold keepH keepI
 rw [if_pos hi, if_pos hi]
 exact ⟨rfl, rfl⟩
theorem keep_stab {b : Nat} {h : Heap} {L : List (Nat × List Cell)} {ι : Nat → Nat} (o : KeepOK h b L) {x : Nat} (s : stab ι h x) : stab (keepI b ι L) (keepH b h L) x := by
 intro i blk e ne
 obtain ⟨j, b0, h0, _, h2, h3, _⟩ := keep_from (ι := ι) o e
 rw [h3]
 exact s j b0 h0 (fun hz => ne (List.eq_nil_of_length_eq_zero (by rw [← h2, hz]; rfl)))
theorem RCell.keep {ι : Nat → Nat} {h : Heap} {bd : Nat} {w : World} {b : Nat} {L : List (Nat × List Cell)} (o : KeepOK h b L) {c : Cell} {v : Value} (r : RCell ι h bd w c v) (hl : lowC b c = true) :
  RCell (keepI b ι L) (keepH b h L) (b + L.length) w c v := by
 have hst : ∀ x, stab ι h x → stab (keepI b ι L) (keepH b h L) x := fun x s => keep_stab o s
 induction r with
 | p hd => exact .p (hd.mono (fun x s _ => hst x s) (fun _ _ _ => rfl))
 | junk v => exact .junk v
 | @ptr id ver off v hid hver hv =>
   simp only [lowC, decide_eq_true_eq] at hl
   obtain ⟨e1, e2⟩ := keep_lt (h := h) (L := L) (ι := ι) hl
   exact .ptr (by omega) (fun blk e => hver blk (by rwa [e1] at e)) (fun blk e => by rw [e2]; exact hv blk (by rwa [e1] at e))
 | @ro cs A U hs hc =>
   refine .ro A U hs (fun j d hd => ?_)
   obtain ⟨h1, h2, h3⟩ := hc j d hd
   exact ⟨hst _ h1, h2, h3.mono (fun x s _ => hst x s) (fun _ _ _ => rfl)⟩
 | @win id ver off len cap v hid hver hv =>
   simp only [lowC, decide_eq_true_eq] at hl
   obtain ⟨e1, e2⟩ := keep_lt (h := h) (L := L) (ι := ι) hl
   exact .win (by omega) (fun blk e => hver blk (by rwa [e1] at e)) (fun blk e => by rw [e2]; exact hv blk (by rwa [e1] at e))
 | clo F C' hF hC h1 h2 ih1 ih2 =>
   simp only [lowC, Bool.and_eq_true] at hl
   exact .clo F C' hF hC (fun i c u hc hu => ih1 i c u hc hu (lowCs_mem hl.1 c (List.mem_of_getElem? hc))) (fun i c u hc hu => ih2 i c u hc hu (lowCs_mem hl.2 c (List.mem_of_getElem? hc)))
theorem renC_ok {ι : Nat → Nat} {h : Heap} {bd : Nat} {w : World} {b : Nat} {L : List (Nat × List Cell)} {c d : Cell} {v : Value} (H : HeapOK ι h bd w) (o : KeepOK h b L) (r : RCell ι h bd w c v) (f : renC h b L c d) :
  RCell (keepI b ι L) (keepH b h L) (b + L.length) w d v := by
 have hst : ∀ x, stab ι h x → stab (keepI b ι L) (keepH b h L) x := fun x s => keep_stab o s
 rcases f with ⟨rfl, hl⟩ | ⟨sz, rfl, rfl⟩ | ⟨id, ver, off, len, cap, sz, es, blk, rfl, rfl, hb, hnk, hblk, hver, hlen, hsz, hcells⟩ | ⟨k, id, ds, ver, off, len, cap, hk, rfl, rfl⟩ | ⟨k, id, ds, ver, off, hk, rfl, rfl⟩
 ·exact r.keep o hl
 ·cases r with
  | p hd => cases hd with
    | v =>
      have := RPD.sl (S := stab (keepI b ι L) (keepH b h L)) (w := w) (sz := sz) (es := []) none 0 (fun _ _ => undef) (Nat.le_refl _) (fun _ => rfl) (fun _ e => by cases e) (fun _ e => by cases e) (fun _ _ e => by simp at e) (fun _ _ e => by simp at e)
      exact .p this
 ·cases r with
  | win hid hver' hv =>
    obtain ⟨hlc, hX⟩ := hv blk hblk hver
    rcases hX with rfl | ⟨rfl, rfl, rfl⟩
    ·by_cases hne : blk.cells = []
     ·have := RPD.sl (S := stab (keepI b ι L) (keepH b h L)) (w := w) (sz := sz) (es := es) (some ⟨ι id, off, none⟩) cap (fun _ _ => undef) (by omega) (fun hn => by cases hn) (fun A hA => by injection hA with hA; subst hA; exact .inr rfl) hsz
       (fun i e he j x hx => by have := hcells i e he j x hx; rw [hne] at this; simp at this) (fun i e he j x hx => by have := hcells i e he j x hx; rw [hne] at this; simp at this)
      rw [hlen] at this
      exact .p this
     ·obtain ⟨c, ty, g1, g2, g3⟩ := H.blk id blk hblk hne
      have hself : stab (keepI b ι L) (keepH b h L) (ι id) := by
       intro i blk' e ne heq
       obtain ⟨j, b0, h0, _, h2, h3, h4⟩ := keep_from (ι := ι) o e
       rw [h3] at heq
       have hj := H.inj j id b0 blk h0 hblk (fun hz => ne (List.eq_nil_of_length_eq_zero (by rw [← h2, hz]; rfl))) hne heq
       subst hj
       rcases h4 with ⟨h5, h6, _⟩ | ⟨_, ds, h5, _⟩
       ·omega
       ·exact hnk _ _ h5
      have := RPD.sl (S := stab (keepI b ι L) (keepH b h L)) (w := w) (sz := sz) (es := es) (some ⟨ι id, off, none⟩) cap (fun i j => c.getD (off + (i * sz + j)) undef) (by omega) (fun hn => by cases hn) (fun A hA => by injection hA with hA; subst hA; exact .inr rfl) hsz
       (fun i e he j x hx => by
        have hx' := hcells i e he j x hx
        have hlt : off + (i * sz + j) < c.size := by rw [g2]; exact (List.getElem?_eq_some_iff.1 hx').1
        refine ⟨_, rfl, hself, ?_⟩
        simp [World.cell?, g1, Array.getD, hlt])
       (fun i e he j x hx => by
        have hx' := hcells i e he j x hx
        have hlt : off + (i * sz + j) < c.size := by rw [g2]; exact (List.getElem?_eq_some_iff.1 hx').1
        have hr := g3 _ _ _ hx' (Array.getElem?_eq_getElem hlt)
        cases hr with
        | p hd =>
          have e1 : c.getD (off + (i * sz + j)) undef = c[off + (i * sz + j)] := by simp [Array.getD, hlt]
          rw [e1]
          exact hd.mono (fun x s _ => hst x s) (fun _ _ _ => rfl))
      rw [hlen] at this
      exact .p this
    ·have hes : es = [] := List.eq_nil_of_length_eq_zero hlen
     subst hes
     have := RPD.sl (S := stab (keepI b ι L) (keepH b h L)) (w := w) (sz := sz) (es := []) none 0 (fun _ _ => undef) (Nat.le_refl _) (fun _ => rfl) (fun _ e => by cases e) (fun _ e => by cases e) (fun _ _ e => by simp at e) (fun _ _ e => by simp at e)
     exact .p this
 ·obtain ⟨e1, e2⟩ := keep_at (b := b) (h := h) (ι := ι) hk
  obtain ⟨_, b0, hb0, _, _⟩ := o.own _ _ _ hk
  have hlt : k < L.length := (List.getElem?_eq_some_iff.1 hk).1
  rw [hb0] at e1
  cases r with
  | win hid hver hv =>
    refine .win (by omega) (fun blk e => ?_) (fun blk e e' => ?_)
    ·rw [e1] at e; injection e with e; subst e; exact hver b0 hb0
    ·rw [e1] at e; injection e with e; subst e; rw [e2]; exact hv b0 hb0 e'
 ·obtain ⟨e1, e2⟩ := keep_at (b := b) (h := h) (ι := ι) hk
  obtain ⟨_, b0, hb0, _, _⟩ := o.own _ _ _ hk
  have hlt : k < L.length := (List.getElem?_eq_some_iff.1 hk).1
  rw [hb0] at e1
  cases r with
  | ptr hid hver hv =>
    refine .ptr (by omega) (fun blk e => ?_) (fun blk e e' => ?_)
    ·rw [e1] at e; injection e with e; subst e; exact hver b0 hb0
    ·rw [e1] at e; injection e with e; subst e; rw [e2]; exact hv b0 hb0 e'
theorem renV_ok {ι : Nat → Nat} {h : Heap} {bd : Nat} {w : World} {b : Nat} {L : List (Nat × List Cell)} {c d : AV} {v : Value} (H : HeapOK ι h bd w) (o : KeepOK h b L) (f : renV h b L c d) (r : RAV ι h bd w c v) :
  RAV (keepI b ι L) (keepH b h L) (b + L.length) w d v := by
 induction f generalizing v with
 | one hc => cases r with | one hr => exact .one (renC_ok H o hr hc)
 | @agg cs ds hl hc =>
   cases r with
   | agg V hV hv =>
     refine .agg V (hV.trans hl.symm) (fun i d u hd hu => ?_)
     have hlt : i < cs.length := by rw [← hl]; exact (List.getElem?_eq_some_iff.1 hd).1
     exact renC_ok H o (hv i _ u (List.getElem?_eq_getElem hlt) hu) (hc i _ d (List.getElem?_eq_getElem hlt) hd)
 | @tup cs ds hl hc ih =>
   cases r with
   | tup V hV hv =>
     refine .tup V (hV.trans hl.symm) (fun i d u hd hu => ?_)
     have hlt : i < cs.length := by rw [← hl]; exact (List.getElem?_eq_some_iff.1 hd).1
     exact ih i _ d (List.getElem?_eq_getElem hlt) hd (hv i _ u (List.getElem?_eq_getElem hlt) hu)
theorem HeapOK.keep {ι : Nat → Nat} {h : Heap} {bd : Nat} {w : World} {b : Nat} {L : List (Nat × List Cell)} (H : HeapOK ι h bd w) (o : KeepOK h b L) : HeapOK (keepI b ι L) (keepH b h L) (b + L.length) w := by
 refine ⟨fun i blk e ne => ?_, fun i i' bi bi' hi hi' ni ni' heq => ?_⟩
 ·obtain ⟨j, b0, h0, _, h2, h3, h4⟩ := keep_from (ι := ι) o e
  have ne0 : b0.cells ≠ [] := fun hz => ne (List.eq_nil_of_length_eq_zero (by rw [← h2, hz]; rfl))
  obtain ⟨c, ty, g1, g2, g3⟩ := H.blk j b0 h0 ne0
  refine ⟨c, ty, by rw [h3]; exact g1, by rw [g2, h2], fun x d u hd hu => ?_⟩
  rcases h4 with ⟨hlt, rfl, rfl⟩ | ⟨hge, ds, hx, hds⟩
  ·exact (g3 x d u hd hu).keep o (o.low _ hlt _ h0 d (List.mem_of_getElem? hd))
  ·obtain ⟨_, b1, hb1, hl1, hr1⟩ := o.own _ _ _ hx
   rw [h0] at hb1
   injection hb1 with hb1
   subst hb1
   have hlt : x < b0.cells.length := by rw [h2]; exact (List.getElem?_eq_some_iff.1 hd).1
   exact renC_ok H o (g3 x _ u (List.getElem?_eq_getElem hlt) hu) (hr1 x _ d (List.getElem?_eq_getElem hlt) (by rw [← hds]; exact hd))
 ·obtain ⟨j, b0, h0, _, h2, h3, h4⟩ := keep_from (ι := ι) o hi
  obtain ⟨j', b0', h0', _, h2', h3', h4'⟩ := keep_from (ι := ι) o hi'
  rw [h3, h3'] at heq
  have hj := H.inj j j' b0 b0' h0 h0' (fun hz => ni (List.eq_nil_of_length_eq_zero (by rw [← h2, hz]; rfl))) (fun hz => ni' (List.eq_nil_of_length_eq_zero (by rw [← h2', hz]; rfl))) heq
  subst hj
  rcases h4 with ⟨a1, a2, _⟩ | ⟨a1, ds, a2, _⟩
  ·rcases h4' with ⟨b1, b2, _⟩ | ⟨b1, ds', b2, _⟩
   ·omega
   ·have := (o.own _ _ _ b2).1; omega
  ·rcases h4' with ⟨b1, b2, _⟩ | ⟨b1, ds', b2, _⟩
   ·have := (o.own _ _ _ a2).1; omega
   ·have := o.nd _ _ _ _ _ a2 b2; omega
theorem Ends.keep {P : Program} {C : Ctx} {fn : Func} {R : AV → Heap → Prop} {s : St} {r0 r : AV} {m : Nat} (L : List (Nat × List Cell)) (hm : L.length = m) (o : KeepOK s.h C.b L) (hr : resA P s.h s.t fn.results.toList = some r0) (hf : renV s.h C.b L r0 r)
  (hR : R r (keepH C.b s.h L)) : Ends P C fn m R s := by
 intro a w ι I
 subst hm
 obtain ⟨v, h1, h2⟩ := res_ok (P := P) I hr
 refine ⟨v, r, keepH C.b s.h L, keepI C.b ι L, h1, hR, ⟨fun id hid b' e => ?_, fun id hid b' e ne => ?_, fun id hid => ?_, I.heap.keep o, I.keeps⟩, renV_ok I.heap o hf h2⟩
 ·obtain ⟨e1, e2⟩ := keep_lt (h := s.h) (L := L) (ι := ι) hid
  rw [e2]
  exact I.outer id hid b' (by rwa [e1] at e)
 ·obtain ⟨j, b0, h0, _, g2, g3, g4⟩ := keep_from (ι := ι) o e
  rw [g3]
  rcases g4 with ⟨a1, _⟩ | ⟨_, ds, a2, _⟩
  ·omega
  ·exact I.fresh j (o.own _ _ _ a2).1 b0 h0 (fun hz => ne (List.eq_nil_of_length_eq_zero (by rw [← g2, hz]; rfl)))
 ·unfold keepH
  rw [if_neg (by omega), List.getElem?_eq_none (by omega)]
theorem Ends.row {P : Program} {C : Ctx} {fn : Func} {R : AV → Heap → Prop} {s : St} {r0 : AV} {id : Nat} {blk : Blk} (hn : ∀ id, C.b ≤ id → C.h id = none) (H : HeapOK C.ι C.h C.b C.w) (he : ∀ id, id < C.b → s.h id = C.h id)
  (hid : C.b ≤ id) (hb : s.h id = some blk) (hlow : lowCs C.b blk.cells = true) (hr : resA P s.h s.t fn.results.toList = some r0) {r : AV} (hf : renV s.h C.b [(id, blk.cells)] r0 r) (hR : R r (upd C.h C.b blk)) : Ends P C fn 1 R s := by
 have o : KeepOK s.h C.b [(id, blk.cells)] := by
  refine ⟨fun k i ds e => ?_, fun k k' i ds ds' e e' => ?_, fun i hi b0 e => H.lowCells i b0 (by rw [← he i hi]; exact e)⟩
  ·match k with
   | 0 =>
     simp only [List.getElem?_cons_zero, Option.some.injEq, Prod.mk.injEq] at e
     obtain ⟨rfl, rfl⟩ := e
     refine ⟨hid, blk, hb, rfl, fun j c d hc hd => .inl ⟨?_, lowCs_mem hlow c (List.mem_of_getElem? hc)⟩⟩
     rw [hc] at hd
     injection hd
   | k + 1 => simp at e
  ·match k, k' with
   | 0, 0 => rfl
   | k + 1, _ => simp at e
   | _, k' + 1 => simp at e'
 refine Ends.keep [(id, blk.cells)] rfl o hr hf ?_
 have : keepH C.b s.h [(id, blk.cells)] = upd C.h C.b blk := by
  funext i
  rcases Nat.lt_trichotomy i C.b with h | h | h
  ·rw [(keep_lt (ι := C.ι) h).1, upd_ne _ _ _ _ (by omega)]; exact he i h
  ·subst h
   have := (keep_at (b := C.b) (h := s.h) (ι := C.ι) (L := [(id, blk.cells)]) (k := 0) rfl).1
   rw [Nat.add_zero] at this
   rw [this, upd_same, hb]
   rfl
  ·rw [upd_ne _ _ _ _ (by omega), hn i (by omega)]
   unfold keepH
   rw [if_neg (by omega), List.getElem?_eq_none (by simp; omega)]
 rw [this]
 exact hR
theorem Ends.turn {P : Program} {C : Ctx} {fn : Func} {R : AV → Heap → Prop} {s : St} {r0 r : AV} {id : Nat} {blk : Blk} (hn : ∀ id, C.b ≤ id → C.h id = none) (H : HeapOK C.ι C.h C.b C.w) (hid : id < C.b)
  (he : ∀ i, i < C.b → s.h i = upd C.h id blk i) (hlow : lowCs C.b blk.cells = true) (hr : resA P s.h s.t fn.results.toList = some r0) (hf : frzV s.h C.b r0 r) (hR : R r (upd C.h id blk)) : Ends P C fn 0 R s := by
 refine Ends.low hr hf (fun i hi b0 e c hc => ?_) ?_
 ·rw [he i hi] at e
  by_cases h : i = id
  ·subst h; rw [upd_same] at e; injection e with e; subst e; exact lowCs_mem hlow c hc
  ·rw [upd_ne _ _ _ _ h] at e; exact H.lowCells i b0 e c hc
 ·rw [lowH_eq he (fun i hi => by rw [upd_ne _ _ _ _ (by omega)]; exact hn i hi)]
  exact hR
theorem renV.win0 {h : Heap} {b : Nat} {id : Nat} {cs : List Cell} (ver off len cap : Nat) : renV h b [(id, cs)] (.one (.win id ver off len cap)) (.one (.win b ver off len cap)) :=
 .one (.inr (.inr (.inr (.inl ⟨0, id, cs, ver, off, len, cap, rfl, rfl, rfl⟩))))
theorem ACalls.freeze {P : Program} {f : FuncId} {args : List AV} {h : Heap} {b m : Nat} {R R' : AV → Heap → Prop} (c : ACalls P f args h b m R)
  (k : ∀ r h', R r h' → ∃ r', frzV h' b r r' ∧ R' r' (lowH b h') ∧ ∀ id, id < b → ∀ blk, h' id = some blk → ∀ c ∈ blk.cells, lowC b c = true) : ACalls P f args h b 0 R' := by
 intro ι w vs hb hh ha
 refine (c ι w vs hb hh ha).mono fun e w' ⟨v, r, h', ι', he, hR, hp, hv⟩ => ?_
 obtain ⟨r', hf, hR', hl⟩ := k r h' hR
 refine ⟨v, r', lowH b h', ι', he, hR', ⟨fun id hid b' e => hp.outer id hid b' (lowH_some e).2, fun id hid b' e => ?_, fun id hid => ?_, hp.heap.low hl, hp.keeps⟩, frzV_ok hp.heap hf hv⟩
 ·have := (lowH_some e).1; omega
 ·unfold lowH; rw [if_neg (by omega)]
theorem AWP.frzNil {P : Program} {C : Ctx} {Q : Exit → St → Prop} {c : Code} {t : Nat → AV} {h : Heap} {n : Nat} (i sz : Nat) (e : t i = .one (.p (.v (.slice none 0 0))))
  (k : AWP P C c Q ⟨updT t i (.one (.p (.sl sz []))), h, n⟩) : AWP P C c Q ⟨t, h, n⟩ := by
 refine .weak (fun a w ι I => ⟨ι, ?_⟩) k
 refine ⟨I.outer, I.fresh, I.bound, I.heap, fun j => ?_, I.ntmps, I.defers, I.keeps⟩
 show RAV ι h (C.b + n) w (updT t i (.one (.p (.sl sz []))) j) (a.tmps.getD j undef)
 by_cases hj : j = i
 ·subst hj
  rw [updT_same]
  have hr : RAV ι h (C.b + n) w (t j) (a.tmps.getD j undef) := I.tmps j
  rw [e] at hr
  rw [rav_v_inv hr]
  exact .one (.p (RPD.sl (sz := sz) (es := []) none 0 (fun _ _ => undef) (Nat.le_refl _) (fun _ => rfl) (fun _ e => by cases e) (fun _ e => by cases e) (fun _ _ e => by simp at e) (fun _ _ e => by simp at e)))
 ·rw [updT_ne _ _ _ _ hj]; exact I.tmps j
def delH (h : Heap) (id : Nat) : Heap := fun i => if i = id then none else h i
theorem delH_same (h : Heap) (id : Nat) : delH h id id = none := by simp [delH]
theorem delH_ne (h : Heap) (id i : Nat) (e : i ≠ id) : delH h id i = h i := by simp [delH, e]
theorem delH_some {h : Heap} {id i : Nat} {b : Blk} (e : delH h id i = some b) : i ≠ id ∧ h i = some b := by
 unfold delH at e
 split at e
 ·cases e
 ·exact ⟨by assumption, e⟩
theorem Inv.del {C : Ctx} {ι : Nat → Nat} {t : Nat → AV} {h : Heap} {n : Nat} {a : Act} {w : World} (I : Inv C ι ⟨t, h, n⟩ a w) (id : Nat) : Inv C ι ⟨t, delH h id, n⟩ a w := by
 have l : ∀ i b, delH h id i = some b → h i = some b := fun i b e => (delH_some e).2
 have M : Moves ι h (C.b + n) w ι (delH h id) (C.b + n) w := .less l
 refine ⟨fun i hi b e => I.outer i hi b (l i b e), fun i hi b e ne => I.fresh i hi b (l i b e) ne, fun i hi => ?_, I.heap.less l, fun j => (I.tmps j).move M, I.ntmps, I.defers, I.keeps⟩
 show delH h id i = none
 unfold delH
 split
 ·rfl
 ·exact I.bound i hi
theorem frz_row {ι : Nat → Nat} {h : Heap} {bd bd' : Nat} {w : World} {id ver off len cap sz : Nat} {es : List (List PD)} {blk : Blk} {v : Value} (H : HeapOK ι h bd w) (r : RCell ι h bd w (.win id ver off len cap) v) (hblk : h id = some blk) (hver : blk.ver = ver)
  (hlen : es.length = len) (hsz : ∀ e ∈ es, e.length = sz) (hcells : ∀ (i : Nat) (e : List PD), es[i]? = some e → ∀ (j : Nat) (x : PD), e[j]? = some x → blk.cells[off + (i * sz + j)]? = some (.p x)) :
  RCell ι (delH h id) bd' w (.p (.sl sz es)) v := by
 have hst : ∀ x, stab ι h x → stab ι (delH h id) x := fun x s i b e ne => s i b (delH_some e).2 ne
 cases r with
 | win hid hver' hv =>
   obtain ⟨hlc, hX⟩ := hv blk hblk hver
   rcases hX with rfl | ⟨rfl, rfl, rfl⟩
   ·by_cases hne : blk.cells = []
    ·have := RPD.sl (S := stab ι (delH h id)) (w := w) (sz := sz) (es := es) (some ⟨ι id, off, none⟩) cap (fun _ _ => undef) (by omega) (fun hn => by cases hn) (fun A hA => by injection hA with hA; subst hA; exact .inr rfl) hsz
      (fun i e he j x hx => by have := hcells i e he j x hx; rw [hne] at this; simp at this) (fun i e he j x hx => by have := hcells i e he j x hx; rw [hne] at this; simp at this)
     rw [hlen] at this
     exact .p this
    ·obtain ⟨c, ty, g1, g2, g3⟩ := H.blk id blk hblk hne
     have hself : stab ι (delH h id) (ι id) := by
      intro i b e ne heq
      obtain ⟨hi, e'⟩ := delH_some e
      exact hi (H.inj i id b blk e' hblk ne hne heq)
     have := RPD.sl (S := stab ι (delH h id)) (w := w) (sz := sz) (es := es) (some ⟨ι id, off, none⟩) cap (fun i j => c.getD (off + (i * sz + j)) undef) (by omega) (fun hn => by cases hn) (fun A hA => by injection hA with hA; subst hA; exact .inr rfl) hsz
      (fun i e he j x hx => by
       have hx' := hcells i e he j x hx
       have hlt : off + (i * sz + j) < c.size := by rw [g2]; exact (List.getElem?_eq_some_iff.1 hx').1
       refine ⟨_, rfl, hself, ?_⟩
       simp [World.cell?, g1, Array.getD, hlt])
      (fun i e he j x hx => by
       have hx' := hcells i e he j x hx
       have hlt : off + (i * sz + j) < c.size := by rw [g2]; exact (List.getElem?_eq_some_iff.1 hx').1
       have hr := g3 _ _ _ hx' (Array.getElem?_eq_getElem hlt)
       cases hr with
       | p hd =>
         have e1 : c.getD (off + (i * sz + j)) undef = c[off + (i * sz + j)] := by simp [Array.getD, hlt]
         rw [e1]
         exact hd.mono (fun x s _ => hst x s) (fun _ _ _ => rfl))
     rw [hlen] at this
     exact .p this
   ·have hes : es = [] := List.eq_nil_of_length_eq_zero hlen
    subst hes
    have := RPD.sl (S := stab ι (delH h id)) (w := w) (sz := sz) (es := []) none 0 (fun _ _ => undef) (Nat.le_refl _) (fun _ => rfl) (fun _ e => by cases e) (fun _ e => by cases e) (fun _ _ e => by simp at e) (fun _ _ e => by simp at e)
    exact .p this
theorem AWP.frz {P : Program} {C : Ctx} {Q : Exit → St → Prop} {c : Code} {t : Nat → AV} {h : Heap} {n : Nat} (i : Nat) {id ver off len cap : Nat} {blk : Blk} (sz : Nat) (es : List (List PD)) (e : t i = .one (.win id ver off len cap)) (hblk : h id = some blk) (hver : blk.ver = ver)
  (hlen : es.length = len) (hsz : ∀ e ∈ es, e.length = sz) (hcells : ∀ (i : Nat) (e : List PD), es[i]? = some e → ∀ (j : Nat) (x : PD), e[j]? = some x → blk.cells[off + (i * sz + j)]? = some (.p x))
  (k : AWP P C c Q ⟨updT t i (.one (.p (.sl sz es))), delH h id, n⟩) : AWP P C c Q ⟨t, h, n⟩ := by
 refine .weak (fun a w ι I => ⟨ι, ?_⟩) k
 have I' := I.del id
 refine ⟨I'.outer, I'.fresh, I'.bound, I'.heap, fun j => ?_, I'.ntmps, I'.defers, I'.keeps⟩
 show RAV ι (delH h id) (C.b + n) w (updT t i (.one (.p (.sl sz es))) j) (a.tmps.getD j undef)
 by_cases hj : j = i
 ·subst hj
  rw [updT_same]
  have hr : RAV ι h (C.b + n) w (t j) (a.tmps.getD j undef) := I.tmps j
  rw [e] at hr
  cases hr with
  | one hc => exact .one (frz_row I.heap hc hblk hver hlen hsz hcells)
 ·rw [updT_ne _ _ _ _ hj]; exact I'.tmps j
theorem RCell.pure0 {ι ι' : Nat → Nat} {h h' : Heap} {bd bd' : Nat} {w : World} (hst : ∀ x, stab ι h x → stab ι' h' x) {c : Cell} {u : Value} (r : RCell ι h bd w c u) (hl : lowC 0 c = true) : RCell ι' h' bd' w c u := by
 induction r with
 | p hd => exact .p (hd.mono (fun x s _ => hst x s) (fun _ _ _ => rfl))
 | junk v => exact .junk v
 | ptr | win => simp [lowC] at hl
 | @ro cs A U hs hc =>
   refine .ro A U hs (fun j d hd => ?_)
   obtain ⟨h1, h2, h3⟩ := hc j d hd
   exact ⟨hst _ h1, h2, h3.mono (fun x s _ => hst x s) (fun _ _ _ => rfl)⟩
 | clo F C' hF hC h1 h2 ih1 ih2 =>
   simp only [lowC, Bool.and_eq_true] at hl
   exact .clo F C' hF hC (fun i c u hc hu => ih1 i c u hc hu (lowCs_mem hl.1 c (List.mem_of_getElem? hc))) (fun i c u hc hu => ih2 i c u hc hu (lowCs_mem hl.2 c (List.mem_of_getElem? hc)))
theorem RCell.gone {ι ι0 ι' : Nat → Nat} {h h0 : Heap} {bd b : Nat} {w w0 : World} {id nv : Nat} {b0 : Blk} {cs : List Cell} (hst : ∀ x, stab ι h x → stab ι' (upd h0 id ⟨nv, cs⟩) x) (hb0 : h0 id = some b0) (hnv : b0.ver < nv)
  (he : ∀ i, i < b → i ≠ id → h i = h0 i ∧ ι' i = ι i) {c : Cell} {u : Value} (r : RCell ι h bd w c u) : ∀ {u0 : Value}, RCell ι0 h0 b w0 c u0 → RCell ι' (upd h0 id ⟨nv, cs⟩) b w c u := by
 induction r with
 | p hd => intro _ _; exact .p (hd.mono (fun x s _ => hst x s) (fun _ _ _ => rfl))
 | junk v => intro _ _; exact .junk v
 | @ptr i1 ver off v hid hver hv =>
   intro u0 r0
   cases r0 with
   | ptr hid0 hver0 hv0 =>
     by_cases hi : i1 = id
     ·subst hi
      have := hver0 b0 hb0
      exact .ptr hid0 (fun blk e => by rw [upd_same] at e; injection e with e; subst e; show ver ≤ nv; omega) (fun blk e ev => by rw [upd_same] at e; injection e with e; subst e; have ev' : nv = ver := ev; omega)
     ·obtain ⟨e1, e2⟩ := he i1 hid0 hi
      exact .ptr hid0 (fun blk e => by rw [upd_ne _ _ _ _ hi] at e; exact hver blk (by rw [e1]; exact e)) (fun blk e => by rw [upd_ne _ _ _ _ hi] at e; rw [e2]; exact hv blk (by rw [e1]; exact e))
 | @ro cs' A U hs hc =>
   intro _ _
   refine .ro A U hs (fun j d hd => ?_)
   obtain ⟨h1, h2, h3⟩ := hc j d hd
   exact ⟨hst _ h1, h2, h3.mono (fun x s _ => hst x s) (fun _ _ _ => rfl)⟩
 | @win i1 ver off len cap v hid hver hv =>
   intro u0 r0
   cases r0 with
   | win hid0 hver0 hv0 =>
     by_cases hi : i1 = id
     ·subst hi
      have := hver0 b0 hb0
      exact .win hid0 (fun blk e => by rw [upd_same] at e; injection e with e; subst e; show ver ≤ nv; omega) (fun blk e ev => by rw [upd_same] at e; injection e with e; subst e; have ev' : nv = ver := ev; omega)
     ·obtain ⟨e1, e2⟩ := he i1 hid0 hi
      exact .win hid0 (fun blk e => by rw [upd_ne _ _ _ _ hi] at e; exact hver blk (by rw [e1]; exact e)) (fun blk e => by rw [upd_ne _ _ _ _ hi] at e; rw [e2]; exact hv blk (by rw [e1]; exact e))
 | clo F C' hF hC h1 h2 ih1 ih2 =>
   intro u0 r0
   cases r0 with
   | clo F0 C0 hF0 hC0 g1 g2 =>
     exact .clo F C' hF hC
      (fun i c u hc hu => by
       have hlt : i < F0.length := by rw [hF0]; exact (List.getElem?_eq_some_iff.1 hc).1
       exact ih1 i c u hc hu (g1 i c _ hc (List.getElem?_eq_getElem hlt)))
      (fun i c u hc hu => by
       have hlt : i < C0.length := by rw [hC0]; exact (List.getElem?_eq_some_iff.1 hc).1
       exact ih2 i c u hc hu (g2 i c _ hc (List.getElem?_eq_getElem hlt)))
theorem Ends.move {P : Program} {C : Ctx} {fn : Func} {R : AV → Heap → Prop} {s : St} {id id' : Nat} {blk b0 : Blk} (hn : ∀ id, C.b ≤ id → C.h id = none) (H : HeapOK C.ι C.h C.b C.w) (hid : id < C.b) (hb0 : C.h id = some b0) {ver off len cap : Nat}
  (he : ∀ i, i < C.b → i ≠ id → s.h i = C.h i) (hid' : C.b ≤ id') (hb : s.h id' = some blk) (hver : blk.ver = ver) (hlow : lowCs 0 blk.cells = true)
  (hr : resA P s.h s.t fn.results.toList = some (.one (.win id' ver off len cap))) (hR : R (.one (.win id (b0.ver + 1) off len cap)) (upd C.h id ⟨b0.ver + 1, blk.cells⟩)) : Ends P C fn 0 R s := by
 intro a w ι I
 obtain ⟨v, h1, h2⟩ := res_ok (P := P) I hr
 have hlt : ∀ i b, C.h i = some b → i < C.b := fun i b e => by
  rcases Nat.lt_or_ge i C.b with hl | hl
  ·exact hl
  ·rw [hn i hl] at e; cases e
 have hst : ∀ x, stab ι s.h x → stab (ren ι id (ι id')) (upd C.h id ⟨b0.ver + 1, blk.cells⟩) x := by
  intro x st i b e ne
  by_cases h : i = id
  ·subst h
   rw [upd_same] at e; injection e with e; subst e
   rw [ren_same]
   exact st id' blk hb ne
  ·rw [upd_ne _ _ _ _ h] at e
   rw [ren_ne _ _ _ _ h]
   exact st i b (by rw [he i (hlt i b e) h]; exact e) ne
 refine ⟨v, _, _, ren ι id (ι id'), h1, hR, ⟨fun i hi b' e => ?_, fun i hi b' e ne => ?_, fun i hi => ?_, ⟨fun i b e ne => ?_, fun i j bi bj hi hj ni nj heq => ?_⟩, I.keeps⟩, ?_⟩
 ·by_cases h : i = id
  ·subst h
   rw [upd_same] at e; injection e with e; subst e
   rw [ren_same]
   exact ⟨b0, hb0, Nat.le_succ _, .inr ⟨Nat.lt_succ_self _, fun ne => I.fresh id' hid' blk hb ne⟩⟩
  ·rw [upd_ne _ _ _ _ h] at e
   rw [ren_ne _ _ _ _ h]
   exact I.outer i hi b' (by rw [he i hi h]; exact e)
 ·rw [upd_ne _ _ _ _ (by omega), hn i hi] at e; cases e
 ·rw [upd_ne _ _ _ _ (by omega)]; exact hn i (by omega)
 ·by_cases h : i = id
  ·subst h
   rw [upd_same] at e; injection e with e; subst e
   rw [ren_same]
   obtain ⟨c, ty, g1, g2, g3⟩ := I.heap.blk id' blk hb ne
   exact ⟨c, ty, g1, g2, fun j d u hd hu => (g3 j d u hd hu).pure0 hst (lowCs_mem hlow d (List.mem_of_getElem? hd))⟩
  ·rw [upd_ne _ _ _ _ h] at e
   rw [ren_ne _ _ _ _ h]
   obtain ⟨c, ty, g1, g2, g3⟩ := I.heap.blk i b (by rw [he i (hlt i b e) h]; exact e) ne
   obtain ⟨c0, ty0, k1, k2, k3⟩ := H.blk i b e ne
   refine ⟨c, ty, g1, g2, fun j d u hd hu => ?_⟩
   have hj : j < c0.size := by rw [k2]; exact (List.getElem?_eq_some_iff.1 hd).1
   exact (g3 j d u hd hu).gone hst hb0 (Nat.lt_succ_self _) (fun i hi h => ⟨he i hi h, ren_ne _ _ _ _ h⟩) (k3 j d _ hd (Array.getElem?_eq_getElem hj))
 ·by_cases hi1 : i = id
  ·by_cases hj1 : j = id
   ·rw [hi1, hj1]
   ·subst hi1
    rw [upd_same] at hi; injection hi with hi; subst hi
    rw [upd_ne _ _ _ _ hj1] at hj
    rw [ren_same, ren_ne _ _ _ _ hj1] at heq
    have := I.heap.inj id' j blk bj hb (by rw [he j (hlt j bj hj) hj1]; exact hj) ni nj heq
    have := hlt j bj hj
    omega
  ·rw [upd_ne _ _ _ _ hi1] at hi
   rw [ren_ne _ _ _ _ hi1] at heq
   by_cases hj1 : j = id
   ·subst hj1
    rw [upd_same] at hj; injection hj with hj; subst hj
    rw [ren_same] at heq
    have := I.heap.inj i id' bi blk (by rw [he i (hlt i bi hi) hi1]; exact hi) hb ni nj heq
    have := hlt i bi hi
    omega
   ·rw [upd_ne _ _ _ _ hj1] at hj
    rw [ren_ne _ _ _ _ hj1] at heq
    exact I.heap.inj i j bi bj (by rw [he i (hlt i bi hi) hi1]; exact hi) (by rw [he j (hlt j bj hj) hj1]; exact hj) ni nj heq
 ·cases h2 with
  | one hc => cases hc with
    | win hid1 hver1 hv1 =>
      refine .one (.win (by omega) (fun b e => ?_) (fun b e _ => ?_))
      ·rw [upd_same] at e; injection e with e; subst e; exact Nat.le_refl _
      ·rw [ren_same]; exact hv1 blk hb hver
theorem cell_shape {w : World} {b off : Nat} {v : Value} (e : w.cell? ⟨b, off, none⟩ = some v) : ∃ t k, w.shape? b = some (t, k) ∧ k ≠ 0 := by
 unfold World.cell? at e
 unfold World.shape?
 simp only at e ⊢
 split at e
 ·rename_i c el fz hc
  refine ⟨el, c.size, rfl, ?_⟩
  simp only [Option.isSome_none, Bool.false_eq_true, if_false] at e
  have := (Array.getElem?_eq_some_iff.1 e).1
  omega
 ·cases e
theorem own_shape {w : World} {b : Nat} {c : Array Value} {ty : TypeId} (e : w.heap[b]? = some (.cells c ty (0, 0))) : w.shape? b = some (ty, c.size) ∧ ∀ a : Addr, a.block = b → w.frozen? a = false := by
 refine ⟨by simp [World.shape?, e], fun a h => ?_⟩
 subst h
 simp [World.frozen?, e]
theorem run_over {P : Program} (w : World) (tS tR e : TypeId) (ht : P.underlying tS = some (.slice e)) (size : Nat) (hz : ∀ w, (Go.sizeOf e).run P w = .ok size w) (a b : Addr) (la ca lb cb : Nat)
  (h : (la = 0 ∨ lb = 0 ∨ size = 0) ∨ (a.block ≠ b.block ∧ ∃ tA kA tB kB, w.shape? a.block = some (tA, kA) ∧ w.shape? b.block = some (tB, kB) ∧ kA ≠ 0 ∧ kB ≠ 0 ∧
   ((w.frozen? a = false ∧ w.frozen? ⟨a.block, kA, none⟩ = false) ∨ (w.frozen? b = false ∧ w.frozen? ⟨b.block, kB, none⟩ = false)))) :
  (Extern.SlicesOverlaps.overlaps #[tS, tS] #[tR] #[.slice (some a) la ca, .slice (some b) lb cb]).run P w = .ok (.bool false) w := by
 delta Extern.SlicesOverlaps.overlaps Extern.SlicesOverlaps.overlaps.match_4
 simp only [Array.getLit, List.size_toArray, List.length_cons, List.length_nil, Nat.reduceAdd, dite_true, List.getElem_toArray, List.getElem_cons_zero, List.getElem_cons_succ, Extern.SlicesOverlaps.overlaps._sparseCasesOn_4]
 by_cases h0 : la = 0 ∨ lb = 0 ∨ size = 0
 ·simp [run_underlying ht, hz, h0]
 ·rcases h with h | ⟨hne, tA, kA, tB, kB, hsa, hsb, ka, kb, hf⟩
  ·exact absurd h h0
  ·have hnb : (a.block != b.block) = true := by simpa using hne
   have hnb' : (a.block == b.block) = false := by simpa using hne
   cases kA with
   | zero => exact absurd rfl ka
   | succ kA =>
     cases kB with
     | zero => exact absurd rfl kb
     | succ kB =>
       rcases hf with ⟨f1, f2⟩ | ⟨f1, f2⟩
       ·simp [run_underlying ht, hz, h0, hnb, hnb', frozen, noView, viewAt, mayBeOne, stringish, shape, Sem.run, hsa, hsb, f1, f2]
       ·cases hfa : w.frozen? a <;> cases hfk : w.frozen? ⟨a.block, kA + 1, none⟩ <;>
         simp [run_underlying ht, hz, h0, hnb, hnb', frozen, noView, viewAt, mayBeOne, stringish, shape, Sem.run, hsa, hsb, f1, f2, hfa, hfk]
theorem run_over_nil {P : Program} (w : World) (tS tR e : TypeId) (ht : P.underlying tS = some (.slice e)) (size : Nat) (hz : ∀ w, (Go.sizeOf e).run P w = .ok size w) (a b : Option Addr) (la ca lb cb : Nat) (h : a = none ∨ b = none) :
  (Extern.SlicesOverlaps.overlaps #[tS, tS] #[tR] #[.slice a la ca, .slice b lb cb]).run P w = .ok (.bool false) w := by
 delta Extern.SlicesOverlaps.overlaps Extern.SlicesOverlaps.overlaps.match_4
 simp only [Array.getLit, List.size_toArray, List.length_cons, List.length_nil, Nat.reduceAdd, dite_true, List.getElem_toArray, List.getElem_cons_zero, List.getElem_cons_succ, Extern.SlicesOverlaps.overlaps._sparseCasesOn_4]
 rcases h with rfl | rfl
 ·simp [run_underlying ht, hz]
 ·cases a <;> simp [run_underlying ht, hz]
def isOver (P : Program) (g : FuncId) (tS tR : TypeId) : Prop :=
 ∀ (args : Array Value) (w : World), (callFunc g args).run P w = ((Extern.SlicesOverlaps.overlaps #[tS, tS] #[tR] args).run P w).andThen fun v w' => .ok (.value v) w'
theorem over_sw {P : Program} {C : Ctx} {g : FuncId} {tS tR e : TypeId} {size id ver off len cap sz : Nat} {es : List (List PD)} {h : Heap} {n : Nat} {K : KT} (ho : isOver P g tS tR) (ht : slE P tS = some e) (hs : tsz P e = some size) (hsz : size = sz)
  (hl : liveB h id ver = true) (hne : ∀ blk, h id = some blk → blk.cells = [] → len = 0) (k : K (.one (.p (.v (.bool false)))) h n) : ExtK P C g [.one (.p (.sl sz es)), .one (.win id ver off len cap)] h n K := by
 intro a w ι Vs I hVs
 obtain ⟨hlen, hVs⟩ := hVs
 match Vs, hlen with
 | [Y, X], _ =>
   have rX := hVs 1 _ X rfl rfl
   have rY := hVs 0 _ Y rfl rfl
   obtain ⟨hlc, hX⟩ := win_inv rX hl
   obtain ⟨A, cap', U, rfl, g1, g2, g3, g4, g5, g6⟩ := sl_inv rY
   refine ⟨.bool false, w, _, h, n, ι, ?_, k, I, rav_v _, .refl _ _ _ _⟩
   rw [ho]
   have hrun : (Extern.SlicesOverlaps.overlaps #[tS, tS] #[tR] #[.slice A es.length cap', X]).run P w = .ok (.bool false) w := by
    rcases hX with rfl | ⟨rfl, rfl, rfl⟩
    ·cases A with
     | none => exact run_over_nil w tS tR e (slE_run ht) size (fun w => tsz_run hs) _ _ _ _ _ _ (.inl rfl)
     | some A =>
       refine run_over w tS tR e (slE_run ht) size (fun w => tsz_run hs) _ _ _ _ _ _ ?_
       by_cases h0 : es.length = 0 ∨ len = 0 ∨ size = 0
       ·exact .inl h0
       ·refine .inr ?_
        obtain ⟨blk, hb, hv⟩ := live_run hl
        have hbn : blk.cells ≠ [] := fun hh => h0 (.inr (.inl (hne blk hb hh)))
        obtain ⟨c, ty, k1, k2, k3⟩ := I.heap.blk id blk hb hbn
        have he : es[0]? = some es[0] := List.getElem?_eq_getElem (by omega)
        have hel := g4 es[0] (List.getElem_mem (by omega))
        have hd : es[0][0]? = some (es[0][0]'(by omega)) := List.getElem?_eq_getElem (by omega)
        obtain ⟨A', hA', hst, hcell⟩ := g5 0 _ he 0 _ hd
        injection hA' with hA'; subst hA'
        obtain ⟨tB, kB, s1, s2⟩ := cell_shape hcell
        obtain ⟨o1, o2⟩ := own_shape k1
        have hcs : c.size ≠ 0 := by rw [k2]; intro hh; exact hbn (List.eq_nil_of_length_eq_zero hh)
        exact ⟨fun hh => hst id blk hb hbn hh.symm, tB, kB, ty, c.size, s1, o1, s2, hcs, .inr ⟨o2 _ rfl, o2 _ rfl⟩⟩
    ·exact run_over_nil w tS tR e (slE_run ht) size (fun w => tsz_run hs) _ _ _ _ _ _ (.inr rfl)
   rw [hrun]
   rfl
theorem CallR.ext {P : Program} {C : Ctx} {E : Exit → St → Prop} {g : FuncId} {args : List AV} {dst : Option Tmp} {os : List Oper} {pre : List (Option Tmp)} {t : Nat → AV} {h : Heap} {n : Nat} {K : FinT}
  (k : ExtK P C g args h n fun v h' n' => evOps P C E os (pre ++ [dst]) (putT t dst v) h' n' K) : CallR P C E g args dst os pre t h n K := .inr (.inl k)
theorem BiK.append_mk {P : Program} {C : Ctx} {ty tx e : TypeId} {sz bytes : Nat} {zs : List Value} {id ver off len cap m : Nat} {k0 kx : IntKind} {xs : List Cell} {h : Heap} {n : Nat} {K : KT}
  (ht : slE P ty = some e) (hs : tsz P e = some sz) (hz : tzero P e = some zs) (hzs : zs.length = sz) (hby : tby P e = some bytes) (htx : intK P tx = some k0) (hlive : liveB h id ver = true)
  (hsr : srcA h sz (.one (.win id ver off len cap)) = some (len, xs)) (hgrow : cap < len + m) (hroom : (len + m) * bytes ≤ 70368744177664) (hbytes : bytes ≤ 1000000) (hmax : len + m ≤ 4611686018427387904)
  (k : ∀ cap' r, len + m ≤ cap' → cap' * sz = (len + m) * sz + r → K (.one (.win (C.b + n) 0 0 (len + m) cap')) (upd h (C.b + n) ⟨0, xs ++ (repl (zs.map fun v => .p (.v v)) m ++ List.replicate r .junk)⟩) (n + 1)) :
  BiK P C .append [ty, tx] [.one (.win id ver off len cap), .one (.p (.v (.int kx m)))] h n K := by
 intro a w ι Vs I hVs tyR cs
 obtain ⟨hl, hVs⟩ := hVs
 match Vs, hl with
 | [X, Y], _ =>
   have rX := hVs 0 _ X rfl rfl
   have rY := hVs 1 _ Y rfl rfl
   have hY := rav_v_inv rY
   subst hY
   obtain ⟨hlc, hX⟩ := win_inv rX hlive
   obtain ⟨i, hi, his⟩ := tsz_info hs
   obtain ⟨i', z, hi', hiz, hzc⟩ := tzero_run hz
   have : i = i' := by rw [hi] at hi'; injection hi'
   subst this
   have hib : i.bytes = bytes := by unfold tby at hby; rw [hi] at hby; simpa using hby
   have hu := run_underlying (P := P) (slE_run ht) w
   have hux := run_underlying (P := P) (intK_run htx) w
   have rX' : RAV ι h (C.b + n) w.drew (.one (.win id ver off len cap)) X := rX.move (Moves.world (w := w) (w' := w.drew) (fun _ _ _ => rfl))
   obtain ⟨O, _, o2, o3, o4⟩ := src_ok (P := P) (I.drew).heap rX' hsr
   have hXs : ∃ A, X = .slice A len cap := by rcases hX with hX | ⟨hX, h1, h2⟩ <;> exact ⟨_, by rw [hX]; try rw [h1, h2]⟩
   obtain ⟨A, rfl⟩ := hXs
   have hcap : ∃ nc, (choose (.appendCap (len + m) cap e)).run P w = .ok nc w.drew ∧ len + m ≤ nc := by
    refine ⟨(Question.appendCap (len + m) cap e).cut (w.tape w.drawn (.appendCap (len + m) cap e)), ?_, ?_⟩
    ·rw [run_choose]
     rfl
    ·simp only [Question.cut]; omega
   obtain ⟨nc, hch, hnc⟩ := hcap
   have hzr : (zeroValue e).run P w.drew = .ok z w.drew := by simp [zeroValue, typeInfo, hi, hiz]
   have hzc' : z.cells = zs.toArray := by apply Array.ext'; simpa using hzc
   have hzsz : z.cells.size = sz := by rw [hzc']; simpa using hzs
   have hzm : Builtin.zeroCells z.cells m = (repl zs m).toArray := by
    have := range_repl zs m sz hzs
    unfold Builtin.zeroCells
    rw [hzc']
    have e1 : zs.toArray.size = sz := by simpa using hzs
    rw [e1] at this ⊢
    exact this
   have hrl : (Builtin.zeroCells z.cells (nc - (len + m))).size = (nc - (len + m)) * sz := by simp [Builtin.zeroCells, hzsz]
   have hcapm : nc * sz = (len + m) * sz + (nc - (len + m)) * sz := by rw [← Nat.add_mul]; congr 1; omega
   have hk := k nc _ hnc hcapm
   have hl1 := o3.1
   have hbn : h (C.b + n) = none := I.bound _ (Nat.le_refl _)
   obtain ⟨M, I'⟩ := (I.drew).place (C.b + n) (n + 1) (Nat.le_succ _) (by omega) 0 (fun b e => by have e' : h (C.b + n) = some b := e; rw [hbn] at e'; cases e') (fun _ => Nat.le_refl _)
    (xs ++ (repl (zs.map fun v => Cell.p (.v v)) m ++ List.replicate ((nc - (len + m)) * sz) .junk)) (O.toArray ++ (repl zs m).toArray ++ Builtin.zeroCells z.cells (nc - (len + m))) e
    (by simp [hl1, hrl, repl_length]; omega) (fun j d u hd hu => by
     have hu' : (O ++ (repl zs m ++ (Builtin.zeroCells z.cells (nc - (len + m))).toList))[j]? = some u := by rw [← hu, ← Array.getElem?_toList]; simp
     rw [List.getElem?_append] at hd hu'
     rw [hl1] at hu'
     split at hd
     ·rename_i hj
      rw [if_pos hj] at hu'
      exact o3.2 j d u hd hu'
     ·rename_i hj
      rw [if_neg hj] at hu'
      rw [List.getElem?_append] at hd hu'
      rw [repl_map, List.length_map] at hd
      split at hd
      ·rename_i hj2
       rw [if_pos hj2] at hu'
       exact (reps_vs (ι := ι) (h := h) (bd := C.b + n) (w := w.drew) (repl zs m)).2 _ d u hd hu'
      ·have : d = .junk := (List.mem_replicate.1 (List.mem_of_getElem? hd)).2
       subst this
       exact .junk u)
   refine ⟨.slice (some ⟨w.drew.heap.size, 0, none⟩) (len + m) nc, _, _, _, _, _, ?_, hk, I', rav_new_win w.drew.heap.size (len + m) nc hnc, ⟨M.hbd, M.stab, M.agree, M.blk⟩⟩
   have h63 : ¬ (((len + m : Nat) : Int) > IntKind.i64.max ∧ (True ∨ i.bytes = 0)) := by rw [IntKind.max_i64]; omega
   have h48 : ¬ (Builtin.nextslicecap (len + m) cap * i.bytes > 2 ^ 48) := by
    have h1 := nextcap_le (len + m) cap (by omega)
    have h2 := Nat.mul_le_mul_right bytes h1
    rw [Nat.add_mul, Nat.mul_assoc] at h2
    rw [hib]
    omega
   have hti : (typeInfo e).run P w = .ok i w := by simp [typeInfo, hi]
   have hti' : (typeInfo e).run P w.drew = .ok i w.drew := by simp [typeInfo, hi]
   have hwr : IntKind.i64.wrap (m : Int) = m := wrap_i64 (by omega) (by omega)
   have hneg : ¬ ((m : Int) < 0) := by omega
   have hbig : ¬ ((m : Int) * i.bytes > 2 ^ 48) := by
    have : m * bytes ≤ (len + m) * bytes := Nat.mul_le_mul_right _ (by omega)
    rw [hib, ← Int.natCast_mul]
    omega
   have hfit : ¬ (len + m ≤ cap) := by omega
   simp only [builtin, Builtin.append_, Sem.run_bind, Sem.run_pure, Result.andThen, hu, hux, tsz_run hs, List.size_toArray, List.getElem?_toArray, List.getElem?_cons_zero, List.getElem?_cons_succ, if_true, asInt, asIntOf, hwr, hneg, if_false, hti, hbig, Int.toNat_natCast, hfit]
   rw [if_neg h63]
   simp only [Sem.run_bind, Result.andThen, hti]
   rw [if_neg h48]
   have hnew : (if m * sz = 0 then (pure #[] : Sem (Array Value)) else do pure (Builtin.zeroCells (← zeroValue e).cells m)).run P w.drew = .ok (repl zs m).toArray w.drew := by
    by_cases h0 : m * sz = 0
    ·rw [if_pos h0]
     have : repl zs m = [] := List.eq_nil_of_length_eq_zero (by rw [repl_length, hzs]; exact h0)
     rw [this]; rfl
    ·rw [if_neg h0]
     simp only [Sem.run_bind, hzr, Result.andThen, Sem.run_pure, hzm]
   simp only [Sem.run_bind, Result.andThen, hch, hti', run_askRoom, o2, hzr, Bool.not_true, Bool.false_eq_true, if_false, hnew, newRow, run_newObj, Sem.run_pure]
   rfl
theorem ty_intK_2 : intK Tryz.prog 2 = some .i64 := by kernel_rfl
theorem ty_tsz_3 : tsz Tryz.prog 3 = some 1 := by kernel_rfl
theorem ty_tagg_3 : tagg Tryz.prog 3 = some false := by kernel_rfl
theorem ty_intK_3 : intK Tryz.prog 3 = some .i64 := by kernel_rfl
theorem ty_hasU_3 : hasU Tryz.prog 3 = true := by kernel_rfl
theorem ty_tzero_3 : tzero Tryz.prog 3 = some [(.int .i64 0)] := by kernel_rfl
theorem ty_tagg_4 : tagg Tryz.prog 4 = some false := by kernel_rfl
theorem ty_isBoolT_4 : isBoolT Tryz.prog 4 = true := by kernel_rfl
theorem ty_tsz_5 : tsz Tryz.prog 5 = some 1 := by kernel_rfl
theorem ty_tagg_5 : tagg Tryz.prog 5 = some false := by kernel_rfl
theorem ty_tby_5 : tby Tryz.prog 5 = some 1 := by kernel_rfl
theorem ty_tzero_5 : tzero Tryz.prog 5 = some [(.int .u8 0)] := by kernel_rfl
theorem ty_tsz_9 : tsz Tryz.prog 9 = some 1 := by kernel_rfl
theorem ty_tagg_9 : tagg Tryz.prog 9 = some false := by kernel_rfl
theorem ty_isStr_9 : isStr Tryz.prog 9 = true := by kernel_rfl
theorem ty_tby_9 : tby Tryz.prog 9 = some 16 := by kernel_rfl
theorem ty_tzero_9 : tzero Tryz.prog 9 = some [(.string ByteArray.empty)] := by kernel_rfl
theorem ty_tagg_25 : tagg Tryz.prog 25 = some false := by kernel_rfl
theorem ty_hasU_25 : hasU Tryz.prog 25 = true := by kernel_rfl
theorem ty_tagg_37 : tagg Tryz.prog 37 = some false := by kernel_rfl
theorem ty_tsz_38 : tsz Tryz.prog 38 = some 1 := by kernel_rfl
theorem ty_tagg_38 : tagg Tryz.prog 38 = some false := by kernel_rfl
theorem ty_slE_38 : slE Tryz.prog 38 = some 5 := by kernel_rfl
theorem ty_slS_38 : slS Tryz.prog 38 = some 1 := by kernel_rfl
theorem ty_isIntT_38 : isIntT Tryz.prog 38 = false := by kernel_rfl
theorem ty_tsz_41 : tsz Tryz.prog 41 = some 1 := by kernel_rfl
theorem ty_tagg_41 : tagg Tryz.prog 41 = some false := by kernel_rfl
theorem ty_tzero_41 : tzero Tryz.prog 41 = some [(.int .i64 0)] := by kernel_rfl
theorem ty_tsz_42 : tsz Tryz.prog 42 = some 1 := by kernel_rfl
theorem ty_tagg_42 : tagg Tryz.prog 42 = some false := by kernel_rfl
theorem ty_slE_42 : slE Tryz.prog 42 = some 9 := by kernel_rfl
theorem ty_slS_42 : slS Tryz.prog 42 = some 1 := by kernel_rfl
theorem ty_isIntT_42 : isIntT Tryz.prog 42 = false := by kernel_rfl
theorem ty_tzero_42 : tzero Tryz.prog 42 = some [(.slice none 0 0)] := by kernel_rfl
theorem ty_tsz_49 : tsz Tryz.prog 49 = some 2 := by kernel_rfl
theorem ty_tagg_49 : tagg Tryz.prog 49 = some true := by kernel_rfl
theorem ty_arS_49 : arS Tryz.prog 49 = none := by kernel_rfl
theorem ty_stPl_49 : stPl Tryz.prog 49 = some [(0, 1), (1, 1)] := by kernel_rfl
theorem ty_tzero_49 : tzero Tryz.prog 49 = some [(.slice none 0 0), (.slice none 0 0)] := by kernel_rfl
theorem ty_fldO_49_0 : fldO Tryz.prog 49 0 = some 0 := by kernel_rfl
theorem ty_fldO_49_1 : fldO Tryz.prog 49 1 = some 1 := by kernel_rfl
theorem ty_tsz_60 : tsz Tryz.prog 60 = some 1 := by kernel_rfl
theorem ty_tagg_60 : tagg Tryz.prog 60 = some false := by kernel_rfl
theorem ty_slE_60 : slE Tryz.prog 60 = some 82 := by kernel_rfl
theorem ty_slS_60 : slS Tryz.prog 60 = some 6 := by kernel_rfl
theorem ty_isIntT_60 : isIntT Tryz.prog 60 = false := by kernel_rfl
theorem ty_tsz_61 : tsz Tryz.prog 61 = some 1 := by kernel_rfl
theorem ty_tagg_61 : tagg Tryz.prog 61 = some false := by kernel_rfl
theorem ty_slE_61 : slE Tryz.prog 61 = some 67 := by kernel_rfl
theorem ty_slS_61 : slS Tryz.prog 61 = some 5 := by kernel_rfl
theorem ty_isIntT_61 : isIntT Tryz.prog 61 = false := by kernel_rfl
theorem ty_tsz_63 : tsz Tryz.prog 63 = some 5 := by kernel_rfl
theorem ty_tagg_63 : tagg Tryz.prog 63 = some true := by kernel_rfl
theorem ty_arS_63 : arS Tryz.prog 63 = none := by kernel_rfl
theorem ty_stPl_63 : stPl Tryz.prog 63 = some [(0, 1), (1, 1), (2, 1), (3, 2)] := by kernel_rfl
theorem ty_tzero_63 : tzero Tryz.prog 63 = some [(.int .u64 0), (.slice none 0 0), (.slice none 0 0), (.slice none 0 0), (.slice none 0 0)] := by kernel_rfl
theorem ty_fldO_63_0 : fldO Tryz.prog 63 0 = some 0 := by kernel_rfl
theorem ty_fldO_63_1 : fldO Tryz.prog 63 1 = some 1 := by kernel_rfl
theorem ty_fldO_63_2 : fldO Tryz.prog 63 2 = some 2 := by kernel_rfl
theorem ty_fldO_63_3 : fldO Tryz.prog 63 3 = some 3 := by kernel_rfl
theorem ty_tsz_67 : tsz Tryz.prog 67 = some 5 := by kernel_rfl
theorem ty_tagg_67 : tagg Tryz.prog 67 = some true := by kernel_rfl
theorem ty_arS_67 : arS Tryz.prog 67 = none := by kernel_rfl
theorem ty_stPl_67 : stPl Tryz.prog 67 = some [(0, 1), (1, 1), (2, 1), (3, 1), (4, 1)] := by kernel_rfl
theorem ty_tby_67 : tby Tryz.prog 67 = some 72 := by kernel_rfl
theorem ty_tzero_67 : tzero Tryz.prog 67 = some [(.string ByteArray.empty), (.bool false), (.float .f64 0), (.string ByteArray.empty), (.slice none 0 0)] := by kernel_rfl
theorem ty_fldO_67_0 : fldO Tryz.prog 67 0 = some 0 := by kernel_rfl
theorem ty_fldO_67_1 : fldO Tryz.prog 67 1 = some 1 := by kernel_rfl
theorem ty_fldT_67_1 : fldT Tryz.prog 67 1 = some (4, 1) := by kernel_rfl
theorem ty_fldO_67_2 : fldO Tryz.prog 67 2 = some 2 := by kernel_rfl
theorem ty_fldO_67_3 : fldO Tryz.prog 67 3 = some 3 := by kernel_rfl
theorem ty_fldO_67_4 : fldO Tryz.prog 67 4 = some 4 := by kernel_rfl
theorem ty_tagg_80 : tagg Tryz.prog 80 = some false := by kernel_rfl
theorem ty_tsz_82 : tsz Tryz.prog 82 = some 6 := by kernel_rfl
theorem ty_tagg_82 : tagg Tryz.prog 82 = some true := by kernel_rfl
theorem ty_arS_82 : arS Tryz.prog 82 = none := by kernel_rfl
theorem ty_stPl_82 : stPl Tryz.prog 82 = some [(0, 1), (1, 1), (2, 1), (3, 1), (4, 1), (5, 1)] := by kernel_rfl
theorem ty_tby_82 : tby Tryz.prog 82 = some 56 := by kernel_rfl
theorem ty_tzero_82 : tzero Tryz.prog 82 = some [(.string ByteArray.empty), (.float .f64 0), (.int .u32 0), (.int .i64 0), (.int .i64 0), (.int .i64 0)] := by kernel_rfl
theorem ty_fldO_82_0 : fldO Tryz.prog 82 0 = some 0 := by kernel_rfl
theorem ty_fldO_82_1 : fldO Tryz.prog 82 1 = some 1 := by kernel_rfl
theorem ty_fldO_82_2 : fldO Tryz.prog 82 2 = some 2 := by kernel_rfl
theorem ty_fldO_82_3 : fldO Tryz.prog 82 3 = some 3 := by kernel_rfl
theorem ty_fldO_82_4 : fldO Tryz.prog 82 4 = some 4 := by kernel_rfl
theorem ty_fldO_82_5 : fldO Tryz.prog 82 5 = some 5 := by kernel_rfl
theorem ty_tsz_115 : tsz Tryz.prog 115 = some 1 := by kernel_rfl
theorem ty_tagg_115 : tagg Tryz.prog 115 = some false := by kernel_rfl
theorem ty_tzero_115 : tzero Tryz.prog 115 = some [(.pointer none)] := by kernel_rfl
theorem ty_arS_118 : arS Tryz.prog 118 = none := by kernel_rfl
theorem ty_stPl_118 : stPl Tryz.prog 118 = some [(0, 5), (5, 1)] := by kernel_rfl
theorem ty_tzero_118 : tzero Tryz.prog 118 = some [(.int .u64 0), (.slice none 0 0), (.slice none 0 0), (.slice none 0 0), (.slice none 0 0), (.int .i64 0)] := by kernel_rfl
theorem ty_fldO_118_0 : fldO Tryz.prog 118 0 = some 0 := by kernel_rfl
theorem ty_fldO_118_1 : fldO Tryz.prog 118 1 = some 5 := by kernel_rfl
theorem ty_intK_172 : intK Tryz.prog 172 = some .u64 := by kernel_rfl
theorem ty_hasU_172 : hasU Tryz.prog 172 = true := by kernel_rfl
theorem ty_tsz_237 : tsz Tryz.prog 237 = some 1 := by kernel_rfl
theorem ty_tagg_237 : tagg Tryz.prog 237 = some false := by kernel_rfl
theorem ty_intK_237 : intK Tryz.prog 237 = some .u64 := by kernel_rfl
theorem ty_tzero_237 : tzero Tryz.prog 237 = some [(.int .u64 0)] := by kernel_rfl
theorem body_20 : bodyB Tryz.prog 20 = true := by kernel_rfl
theorem body_21 : bodyB Tryz.prog 21 = true := by kernel_rfl
theorem body_22 : bodyB Tryz.prog 22 = true := by kernel_rfl
theorem body_23 : bodyB Tryz.prog 23 = true := by kernel_rfl
theorem body_24 : bodyB Tryz.prog 24 = true := by kernel_rfl
theorem body_25 : bodyB Tryz.prog 25 = true := by kernel_rfl
theorem body_26 : bodyB Tryz.prog 26 = true := by kernel_rfl
theorem body_27 : bodyB Tryz.prog 27 = true := by kernel_rfl
theorem body_28 : bodyB Tryz.prog 28 = true := by kernel_rfl
theorem body_29 : bodyB Tryz.prog 29 = true := by kernel_rfl
theorem body_30 : bodyB Tryz.prog 30 = true := by kernel_rfl
theorem body_31 : bodyB Tryz.prog 31 = true := by kernel_rfl
theorem body_32 : bodyB Tryz.prog 32 = true := by kernel_rfl
theorem body_34 : bodyB Tryz.prog 34 = true := by kernel_rfl
theorem body_35 : bodyB Tryz.prog 35 = true := by kernel_rfl
theorem body_48 : bodyB Tryz.prog 48 = true := by kernel_rfl
theorem body_49 : bodyB Tryz.prog 49 = true := by kernel_rfl
theorem body_55 : bodyB Tryz.prog 55 = true := by kernel_rfl
theorem body_56 : bodyB Tryz.prog 56 = true := by kernel_rfl
theorem body_57 : bodyB Tryz.prog 57 = true := by kernel_rfl
theorem body_58 : bodyB Tryz.prog 58 = true := by kernel_rfl
theorem body_59 : bodyB Tryz.prog 59 = true := by kernel_rfl
theorem body_60 : bodyB Tryz.prog 60 = true := by kernel_rfl
theorem body_61 : bodyB Tryz.prog 61 = true := by kernel_rfl
theorem body_62 : bodyB Tryz.prog 62 = true := by kernel_rfl
theorem body_63 : bodyB Tryz.prog 63 = true := by kernel_rfl
theorem body_64 : bodyB Tryz.prog 64 = true := by kernel_rfl
theorem body_65 : bodyB Tryz.prog 65 = true := by kernel_rfl
theorem body_66 : bodyB Tryz.prog 66 = true := by kernel_rfl
theorem body_67 : bodyB Tryz.prog 67 = true := by kernel_rfl
theorem body_68 : bodyB Tryz.prog 68 = true := by kernel_rfl
theorem body_69 : bodyB Tryz.prog 69 = true := by kernel_rfl
theorem body_70 : bodyB Tryz.prog 70 = true := by kernel_rfl
theorem body_71 : bodyB Tryz.prog 71 = true := by kernel_rfl
theorem body_72 : bodyB Tryz.prog 72 = true := by kernel_rfl
theorem body_73 : bodyB Tryz.prog 73 = true := by kernel_rfl
theorem body_74 : bodyB Tryz.prog 74 = true := by kernel_rfl
theorem body_75 : bodyB Tryz.prog 75 = true := by kernel_rfl
theorem body_76 : bodyB Tryz.prog 76 = true := by kernel_rfl
theorem body_77 : bodyB Tryz.prog 77 = true := by kernel_rfl
theorem body_78 : bodyB Tryz.prog 78 = true := by kernel_rfl
theorem body_79 : bodyB Tryz.prog 79 = true := by kernel_rfl
theorem body_80 : bodyB Tryz.prog 80 = true := by kernel_rfl
theorem body_81 : bodyB Tryz.prog 81 = true := by kernel_rfl
theorem body_82 : bodyB Tryz.prog 82 = true := by kernel_rfl
theorem body_83 : bodyB Tryz.prog 83 = true := by kernel_rfl
theorem body_84 : bodyB Tryz.prog 84 = true := by kernel_rfl
theorem body_85 : bodyB Tryz.prog 85 = true := by kernel_rfl
theorem body_86 : bodyB Tryz.prog 86 = true := by kernel_rfl
theorem body_87 : bodyB Tryz.prog 87 = true := by kernel_rfl
theorem body_88 : bodyB Tryz.prog 88 = true := by kernel_rfl
theorem body_91 : bodyB Tryz.prog 91 = true := by kernel_rfl
theorem body_95 : bodyB Tryz.prog 95 = true := by kernel_rfl
theorem body_102 : bodyB Tryz.prog 102 = true := by kernel_rfl
theorem body_105 : bodyB Tryz.prog 105 = true := by kernel_rfl
theorem body_110 : bodyB Tryz.prog 110 = true := by kernel_rfl
theorem body_111 : bodyB Tryz.prog 111 = true := by kernel_rfl
theorem body_112 : bodyB Tryz.prog 112 = true := by kernel_rfl
theorem body_113 : bodyB Tryz.prog 113 = true := by kernel_rfl
theorem body_114 : bodyB Tryz.prog 114 = true := by kernel_rfl
theorem body_115 : bodyB Tryz.prog 115 = true := by kernel_rfl
theorem body_116 : bodyB Tryz.prog 116 = true := by kernel_rfl
theorem body_117 : bodyB Tryz.prog 117 = true := by kernel_rfl
theorem body_118 : bodyB Tryz.prog 118 = true := by kernel_rfl
theorem body_119 : bodyB Tryz.prog 119 = true := by kernel_rfl
theorem body_120 : bodyB Tryz.prog 120 = true := by kernel_rfl
theorem body_121 : bodyB Tryz.prog 121 = true := by kernel_rfl
theorem body_122 : bodyB Tryz.prog 122 = true := by kernel_rfl
theorem body_123 : bodyB Tryz.prog 123 = true := by kernel_rfl
theorem body_124 : bodyB Tryz.prog 124 = true := by kernel_rfl
theorem body_125 : bodyB Tryz.prog 125 = true := by kernel_rfl
theorem body_126 : bodyB Tryz.prog 126 = true := by kernel_rfl
theorem body_127 : bodyB Tryz.prog 127 = true := by kernel_rfl
theorem body_128 : bodyB Tryz.prog 128 = true := by kernel_rfl
theorem body_129 : bodyB Tryz.prog 129 = true := by kernel_rfl
theorem body_130 : bodyB Tryz.prog 130 = true := by kernel_rfl
theorem body_131 : bodyB Tryz.prog 131 = true := by kernel_rfl
theorem body_132 : bodyB Tryz.prog 132 = true := by kernel_rfl
theorem body_133 : bodyB Tryz.prog 133 = true := by kernel_rfl
theorem body_135 : bodyB Tryz.prog 135 = true := by kernel_rfl
theorem body_136 : bodyB Tryz.prog 136 = true := by kernel_rfl
theorem body_137 : bodyB Tryz.prog 137 = true := by kernel_rfl
theorem body_153 : bodyB Tryz.prog 153 = true := by kernel_rfl
theorem body_154 : bodyB Tryz.prog 154 = true := by kernel_rfl
theorem body_155 : bodyB Tryz.prog 155 = true := by kernel_rfl
theorem body_156 : bodyB Tryz.prog 156 = true := by kernel_rfl
theorem body_159 : bodyB Tryz.prog 159 = true := by kernel_rfl
theorem body_160 : bodyB Tryz.prog 160 = true := by kernel_rfl
theorem body_161 : bodyB Tryz.prog 161 = true := by kernel_rfl
theorem body_162 : bodyB Tryz.prog 162 = true := by kernel_rfl
theorem body_163 : bodyB Tryz.prog 163 = true := by kernel_rfl
theorem body_164 : bodyB Tryz.prog 164 = true := by kernel_rfl
theorem body_165 : bodyB Tryz.prog 165 = true := by kernel_rfl
theorem body_166 : bodyB Tryz.prog 166 = true := by kernel_rfl
theorem body_169 : bodyB Tryz.prog 169 = true := by kernel_rfl
theorem body_170 : bodyB Tryz.prog 170 = true := by kernel_rfl
theorem body_172 : bodyB Tryz.prog 172 = true := by kernel_rfl
theorem body_173 : bodyB Tryz.prog 173 = true := by kernel_rfl
theorem body_174 : bodyB Tryz.prog 174 = true := by kernel_rfl
theorem body_175 : bodyB Tryz.prog 175 = true := by kernel_rfl
theorem body_176 : bodyB Tryz.prog 176 = true := by kernel_rfl
theorem body_177 : bodyB Tryz.prog 177 = true := by kernel_rfl
theorem body_195 : bodyB Tryz.prog 195 = true := by kernel_rfl
theorem body_197 : bodyB Tryz.prog 197 = true := by kernel_rfl
theorem body_198 : bodyB Tryz.prog 198 = true := by kernel_rfl
theorem body_199 : bodyB Tryz.prog 199 = true := by kernel_rfl
theorem body_200 : bodyB Tryz.prog 200 = true := by kernel_rfl
theorem body_201 : bodyB Tryz.prog 201 = true := by kernel_rfl
theorem body_202 : bodyB Tryz.prog 202 = true := by kernel_rfl
theorem body_203 : bodyB Tryz.prog 203 = true := by kernel_rfl
theorem body_204 : bodyB Tryz.prog 204 = true := by kernel_rfl
theorem body_206 : bodyB Tryz.prog 206 = true := by kernel_rfl
theorem body_219 : bodyB Tryz.prog 219 = true := by kernel_rfl
theorem body_220 : bodyB Tryz.prog 220 = true := by kernel_rfl
theorem body_222 : bodyB Tryz.prog 222 = true := by kernel_rfl
attribute [go_sem] ty_intK_2 ty_tsz_3 ty_tagg_3 ty_intK_3 ty_hasU_3 ty_tzero_3 ty_tagg_4 ty_isBoolT_4 ty_tsz_5 ty_tagg_5 ty_tby_5 ty_tzero_5
attribute [go_sem] ty_tsz_9 ty_tagg_9
attribute [go_sem] ty_isStr_9 ty_tby_9 ty_tzero_9
attribute [go_sem] ty_tagg_25 ty_hasU_25
attribute [go_sem] ty_tagg_37
attribute [go_sem] ty_tsz_38 ty_tagg_38 ty_slE_38 ty_slS_38 ty_isIntT_38
attribute [go_sem] ty_tsz_41 ty_tagg_41 ty_tzero_41 ty_tsz_42 ty_tagg_42 ty_slE_42 ty_slS_42 ty_isIntT_42 ty_tzero_42
attribute [go_sem] ty_tsz_49 ty_tagg_49 ty_arS_49 ty_stPl_49 ty_tzero_49 ty_fldO_49_0 ty_fldO_49_1
attribute [go_sem] ty_tsz_60 ty_tagg_60 ty_slE_60 ty_slS_60 ty_isIntT_60 ty_tsz_61 ty_tagg_61 ty_slE_61 ty_slS_61 ty_isIntT_61
attribute [go_sem] ty_tsz_63 ty_tagg_63 ty_arS_63 ty_stPl_63 ty_tzero_63 ty_fldO_63_0 ty_fldO_63_1 ty_fldO_63_2 ty_fldO_63_3
attribute [go_sem] ty_tsz_67 ty_tagg_67 ty_arS_67 ty_stPl_67 ty_tby_67 ty_tzero_67 ty_fldO_67_0 ty_fldO_67_1 ty_fldT_67_1 ty_fldO_67_2 ty_fldO_67_3 ty_fldO_67_4
attribute [go_sem] ty_tagg_80
attribute [go_sem] ty_tsz_82 ty_tagg_82 ty_arS_82 ty_stPl_82 ty_tby_82 ty_tzero_82 ty_fldO_82_0 ty_fldO_82_1 ty_fldO_82_2 ty_fldO_82_3 ty_fldO_82_4 ty_fldO_82_5
attribute [go_sem] ty_tsz_115 ty_tagg_115
attribute [go_sem] ty_tzero_115 ty_arS_118 ty_stPl_118 ty_tzero_118 ty_fldO_118_0 ty_fldO_118_1
attribute [go_sem] ty_intK_172 ty_hasU_172
attribute [go_sem] ty_tsz_237 ty_tagg_237 ty_intK_237 ty_tzero_237
theorem mixed : Tryz.prog.follows .mixedOrders = true := by kernel_rfl
end Go.Proofs.YtihgnpboabpchaaGreatDoor.Am
namespace Go.Proofs.YtihgnpboabpchaaGreatDoor
set_option linter.unusedSimpArgs false
set_option linter.unusedVariables false
set_option linter.unnecessarySimpa false
open Go Am
abbrev IntV (n : Int) : AV := .one (.p (.v (.int .i64 n)))
abbrev BoolV (b : Bool) : AV := .one (.p (.v (.bool b)))
def okPD : PD → Bool
 | .v x => x.oneCell'
 | .sl _ _ | .slc _ _ => true
def okEs (sz : Nat) (es : List (List PD)) : Prop := ∀ e ∈ es, e.length = sz ∧ ∀ d ∈ e, okPD d = true
theorem okEs_flat {sz : Nat} {es : List (List PD)} (o : okEs sz es) (h : Heap) : ∀ c ∈ es.flatten.map Cell.p, okC h c = true := by
 intro c hc
 obtain ⟨d, hd, rfl⟩ := List.mem_map.1 hc
 obtain ⟨e, he, hde⟩ := List.mem_flatten.1 hd
 have := (o e he).2 d hde
 cases d <;> exact this
theorem okEs_len {sz : Nat} {es : List (List PD)} (o : okEs sz es) : es.flatten.length = es.length * sz := (flat_get sz es (fun e he => (o e he).1)).1
theorem lowCs_p (b : Nat) (ds : List PD) : lowCs b (ds.map Cell.p) = true := lowCs_of fun c hc => by obtain ⟨d, _, rfl⟩ := List.mem_map.1 hc; rfl
theorem lowCs_app {b : Nat} {x y : List Cell} (h1 : lowCs b x = true) (h2 : lowCs b y = true) : lowCs b (x ++ y) = true :=
 lowCs_of fun c hc => by rcases List.mem_append.1 hc with h | h; exact lowCs_mem h1 c h; exact lowCs_mem h2 c h
theorem lowCs_junk (b k : Nat) : lowCs b (List.replicate k .junk) = true := lowCs_of fun c hc => by have := (List.mem_replicate.1 hc).2; subst this; rfl
abbrev rowB (ver : Nat) (es : List (List PD)) (T : List Cell) : Blk := ⟨ver, es.flatten.map .p ++ T⟩
def rowR (sz : Nat) (es : List (List PD)) (h : Heap) (b : Nat) (r : AV) (h' : Heap) : Prop :=
 ∃ ver cap T, es.length ≤ cap ∧ cap * sz = es.length * sz + T.length ∧ lowCs 0 T = true ∧ r = .one (.win b ver 0 es.length cap) ∧ h' = upd h b (rowB ver es T)
def idxFrom {α : Type} (f : α → Bool) : Nat → List α → Int
 | _, [] => -1
 | i, x :: r => if f x = true then (i : Int) else idxFrom f (i + 1) r
theorem cutH_id {b m : Nat} {h h0 : Heap} (hm : m = b) (ho : ∀ id, id < b → h id = h0 id) (hn : ∀ id, b ≤ id → h0 id = none) (hl : ∀ id blk, h0 id = some blk → ∀ c ∈ blk.cells, lowC b c = true) : cutH m h = h0 := by
 subst hm
 funext i
 rcases Nat.lt_or_ge i m with hi | hi
 ·exact cutH_outer (Nat.le_refl _) ho hl i hi
 ·rw [hn i hi]; unfold cutH; rw [if_neg (by omega)]
theorem cutV_clo {m : Nat} {f : Fn} {c : List Cell} (h : lowCs m c = true) : cutV m (.one (.clo f [] c)) = .one (.clo f [] c) := by
 simp [cutV, cutC, lowC, h, lowCs]
theorem getD_map {α : Type} (enc : α → List PD) (l : List α) (i : Nat) (h : i < l.length) : (l.map enc).getD i [] = enc l[i] := by simp [List.getD, h]
theorem flatten_take {α : Type} (sz : Nat) : ∀ (m : Nat) (es : List (List α)), (∀ e ∈ es, e.length = sz) → es.flatten.take (m * sz) = (es.take m).flatten
 | 0, es, _ => by simp
 | m + 1, [], _ => by simp
 | m + 1, e :: es, h => by
   have he : e.length = sz := h e (by simp)
   have ih := flatten_take sz m es (fun x hx => h x (by simp [hx]))
   rw [List.flatten_cons, List.take_succ_cons, List.flatten_cons, ← ih, List.take_append, List.take_of_length_le (by rw [he, Nat.add_mul]; omega)]
   congr 2
   rw [he, Nat.add_mul]; omega
theorem flatten_drop {α : Type} (sz : Nat) : ∀ (m : Nat) (es : List (List α)), (∀ e ∈ es, e.length = sz) → es.flatten.drop (m * sz) = (es.drop m).flatten
 | 0, es, _ => by simp
 | m + 1, [], _ => by simp
 | m + 1, e :: es, h => by
   have he : e.length = sz := h e (by simp)
   have ih := flatten_drop sz m es (fun x hx => h x (by simp [hx]))
   rw [List.flatten_cons, List.drop_succ_cons, ← ih, List.drop_append, List.drop_of_length_le (by rw [he, Nat.add_mul]; omega), List.nil_append]
   congr 1
   rw [he, Nat.add_mul]; omega
theorem okEs.take {sz : Nat} {es : List (List PD)} (o : okEs sz es) (k : Nat) : okEs sz (es.take k) := fun e he => o e (List.mem_of_mem_take he)
theorem okEs.drop {sz : Nat} {es : List (List PD)} (o : okEs sz es) (k : Nat) : okEs sz (es.drop k) := fun e he => o e (List.mem_of_mem_drop he)
theorem okEs.append {sz : Nat} {es fs : List (List PD)} (o : okEs sz es) (o' : okEs sz fs) : okEs sz (es ++ fs) := fun e he => (List.mem_append.1 he).elim (o e) (o' e)
theorem okEs.len {sz : Nat} {es : List (List PD)} (o : okEs sz es) : ∀ e ∈ es, e.length = sz := fun e he => (o e he).1
theorem srcA_row {h : Heap} {id ver sz m off cap : Nat} {es : List (List PD)} {T : List Cell} (j : Nat) (hb : h id = some (rowB ver es T)) (ho : okEs sz es) (hj : j + m ≤ es.length) (hoff : off = j * sz ∨ (m = 0 ∧ off = 0)) :
  srcA h sz (.one (.win id ver off m cap)) = some (m, ((es.drop j).take m).flatten.map .p) := by
 have hfl := okEs_len ho
 have hle2 : off + m * sz ≤ (rowB ver es T).cells.length := by
  rcases hoff with h0 | ⟨h0, h1⟩
  ·subst h0
   have := Nat.mul_le_mul_right sz hj
   rw [Nat.add_mul] at this
   simp only [List.length_append, List.length_map, hfl]
   omega
  ·subst h0; subst h1; simp
 simp only [srcA, hb]
 rw [if_pos ⟨trivial, hle2⟩]
 congr 2
 rcases hoff with h0 | ⟨h0, h1⟩
 ·subst h0
  rw [List.drop_append_of_le_length (by rw [List.length_map, hfl]; exact Nat.mul_le_mul_right sz (by omega)), ← List.map_drop, flatten_drop sz j es ho.len,
   List.take_append_of_le_length (by rw [List.length_map, okEs_len (ho.drop j), List.length_drop]; exact Nat.mul_le_mul_right sz (by omega)), ← List.map_take, flatten_take sz m _ (ho.drop j).len]
 ·subst h0; simp
theorem spl_row {sz i : Nat} {es fs : List (List PD)} (T : List Cell) (ho : okEs sz es) (hf : okEs sz fs) (hi : i + fs.length ≤ es.length) :
  spl (es.flatten.map .p ++ T) (i * sz) (fs.flatten.map .p) = (es.take i ++ fs).flatten.map .p ++ ((es.drop (i + fs.length)).flatten.map .p ++ T) := by
 have hfl := okEs_len ho
 unfold spl
 rw [List.length_map, okEs_len hf, ← Nat.add_mul]
 have h1 : i * sz ≤ (es.flatten.map Cell.p).length := by rw [List.length_map, hfl]; exact Nat.mul_le_mul_right sz (by omega)
 have h2 : (i + fs.length) * sz ≤ (es.flatten.map Cell.p).length := by rw [List.length_map, hfl]; exact Nat.mul_le_mul_right sz hi
 rw [List.take_append_of_le_length h1, List.drop_append_of_le_length h2, ← List.map_take, ← List.map_drop, flatten_take sz i es ho.len, flatten_drop sz _ es ho.len, List.flatten_append, List.map_append, List.append_assoc]
theorem repl_flat (z : List PD) (n : Nat) : repl (z.map Cell.p) n = (List.replicate n z).flatten.map .p := by
 induction n with
 | zero => rfl
 | succ n ih => rw [List.replicate_succ, List.flatten_cons, List.map_append, ← ih]; rfl
theorem rowB_app (ver : Nat) (es vs : List (List PD)) (T : List Cell) : rowB ver (es ++ vs) T = ⟨ver, es.flatten.map .p ++ (vs.flatten.map .p ++ T)⟩ := by
 show (⟨ver, (es ++ vs).flatten.map .p ++ T⟩ : Blk) = _
 rw [List.flatten_append, List.map_append, List.append_assoc]
theorem rowB_zeros (ver : Nat) (es : List (List PD)) (zs : List Value) (n : Nat) (T : List Cell) : (⟨ver, es.flatten.map .p ++ (repl (zs.map fun v => Cell.p (.v v)) n ++ T)⟩ : Blk) = rowB ver (es ++ List.replicate n (zs.map .v)) T := by
 rw [rowB_app, ← repl_flat, List.map_map]
 rfl
theorem spl_els {sz i off : Nat} {es fs : List (List PD)} (T : List Cell) (ho : okEs sz es) (hf : okEs sz fs) (hi : i + fs.length ≤ es.length) (ver : Nat) (hoff : off = i * sz) :
  (⟨ver, spl (es.flatten.map .p ++ T) off (fs.flatten.map .p)⟩ : Blk) = rowB ver (es.take i ++ (fs ++ es.drop (i + fs.length))) T := by
 subst hoff
 rw [spl_row T ho hf hi, rowB_app, List.flatten_append, List.map_append, List.flatten_append, List.map_append, List.append_assoc, List.append_assoc]
theorem spl_length {cs xs : List Cell} {off : Nat} (h : off + xs.length ≤ cs.length) : (spl cs off xs).length = cs.length := by
 unfold spl
 rw [List.length_append, List.length_append, List.length_take, List.length_drop]
 omega
theorem srcA_room {h : Heap} {id ver sz off m cap : Nat} {es : List (List PD)} {T : List Cell} (j : Nat) (hb : h id = some (rowB ver es T)) (ho : okEs sz es) (hj : j ≤ es.length) (hoff : off = j * sz) (hm : off + m * sz ≤ es.length * sz + T.length) (hq : es.length - j ≤ m) :
  ∃ xs, srcA h sz (.one (.win id ver off m cap)) = some (m, xs) ∧ xs.take ((es.length - j) * sz) = (es.drop j).flatten.map .p := by
 have hfl := okEs_len ho
 subst hoff
 refine ⟨_, by simp only [srcA, hb]; rw [if_pos ⟨trivial, by simp only [List.length_append, List.length_map, hfl]; exact hm⟩], ?_⟩
 have h1 := Nat.mul_le_mul_right sz hq
 rw [List.take_take, Nat.min_eq_left h1, List.drop_append_of_le_length (by rw [List.length_map, hfl]; exact Nat.mul_le_mul_right sz hj), ← List.map_drop, flatten_drop sz j es ho.len, List.take_left' (by rw [List.length_map, okEs_len (ho.drop j), List.length_drop])]
theorem spl_mid {X G Y xs : List Cell} {off : Nat} (h : off = X.length) (hg : xs.length = G.length) : spl (X ++ (G ++ Y)) off xs = X ++ (xs ++ Y) := by
 subst h
 unfold spl
 rw [List.take_left, hg, List.drop_append, List.drop_of_length_le (Nat.le_add_right _ _), List.nil_append, Nat.add_sub_cancel_left, List.drop_left]
theorem spl_ins {A B T V : List Cell} {o1 o2 : Nat} (h2 : o2 = A.length) (h1 : o1 = A.length + V.length) (hT : V.length ≤ T.length) : spl (spl (A ++ (B ++ T)) o1 B) o2 V = A ++ (V ++ (B ++ T.drop V.length)) := by
 have hd : B ++ T = (B ++ T).take V.length ++ (((B ++ T).drop V.length).take B.length ++ T.drop V.length) := by
  have e1 : T.drop V.length = ((B ++ T).drop V.length).drop B.length := by
   rw [List.drop_drop, Nat.add_comm, List.drop_append, List.drop_of_length_le (Nat.le_add_right _ _), List.nil_append]
   congr 1; omega
  rw [e1, List.take_append_drop, List.take_append_drop]
 have hg : ((B ++ T).take V.length).length = V.length := by rw [List.length_take, List.length_append]; omega
 have hh : (((B ++ T).drop V.length).take B.length).length = B.length := by rw [List.length_take, List.length_drop, List.length_append]; omega
 rw [hd, ← List.append_assoc A, spl_mid (by rw [List.length_append, hg, h1]) hh.symm, List.append_assoc A, spl_mid h2 hg.symm]
theorem okEs_replicate {sz : Nat} {z : List PD} (hl : z.length = sz) (hz : z.all okPD = true) (n : Nat) : okEs sz (List.replicate n z) := fun e he => by
 have := (List.mem_replicate.1 he).2
 subst this
 exact ⟨hl, fun d hd => List.all_eq_true.1 hz d hd⟩
theorem spl_tail {A T xs : List Cell} {off : Nat} (h : off = A.length) : spl (A ++ T) off xs = A ++ (xs ++ T.drop xs.length) := by
 subst h
 unfold spl
 rw [List.take_left, List.drop_append, List.drop_of_length_le (Nat.le_add_right _ _), List.nil_append, Nat.add_sub_cancel_left]
theorem lowCs_drop {b : Nat} {x : List Cell} (h : lowCs b x = true) (k : Nat) : lowCs b (x.drop k) = true := lowCs_of fun c hc => lowCs_mem h c (List.mem_of_mem_drop hc)
theorem lowCs_mono {m m' : Nat} (h : m ≤ m') {x : List Cell} (e : lowCs m x = true) : lowCs m' x = true := lowCs_of fun c hc => lowC_mono h (lowCs_mem e c hc)
theorem lowCs_repl {b : Nat} {zs : List Cell} (h : lowCs b zs = true) (n : Nat) : lowCs b (repl zs n) = true := by
 induction n with
 | zero => rfl
 | succ n ih => exact lowCs_app h ih
theorem frz_tup2 {h : Heap} {b : Nat} {x y x' y' : AV} (h1 : frzV h b x x') (h2 : frzV h b y y') : frzV h b (.tup [x, y]) (.tup [x', y']) := by
 refine .tup rfl (fun i c d hc hd => ?_)
 match i with
 | 0 => simp at hc hd; subst hc; subst hd; exact h1
 | 1 => simp at hc hd; subst hc; subst hd; exact h2
 | i + 2 => simp at hc
theorem frz_tup3 {h : Heap} {b : Nat} {x y z x' y' z' : AV} (h1 : frzV h b x x') (h2 : frzV h b y y') (h3 : frzV h b z z') : frzV h b (.tup [x, y, z]) (.tup [x', y', z']) := by
 refine .tup rfl (fun i c d hc hd => ?_)
 match i with
 | 0 => simp at hc hd; subst hc; subst hd; exact h1
 | 1 => simp at hc hd; subst hc; subst hd; exact h2
 | 2 => simp at hc hd; subst hc; subst hd; exact h3
 | i + 3 => simp at hc
theorem frz_p {h : Heap} {b : Nat} (d : PD) : frzC h b (.p d) (.p d) := .inl ⟨rfl, rfl⟩
theorem frz_nil {h : Heap} {b : Nat} (sz : Nat) : frzC h b (.p (.v (.slice none 0 0))) (.p (.sl sz [])) := .inr (.inl ⟨sz, rfl, rfl⟩)
theorem row_cells {sz : Nat} {es : List (List PD)} (ho : okEs sz es) (ver : Nat) (T : List Cell) : ∀ (i : Nat) (e : List PD), es[i]? = some e → ∀ (j : Nat) (x : PD), e[j]? = some x → (rowB ver es T).cells[0 + (i * sz + j)]? = some (.p x) := by
 intro i e he j x hx
 obtain ⟨f1, f2⟩ := flat_get sz es ho.len
 have hl := ho.len e (List.mem_of_getElem? he)
 have hj : j < sz := by rw [← hl]; exact (List.getElem?_eq_some_iff.1 hx).1
 have hi : i < es.length := (List.getElem?_eq_some_iff.1 he).1
 have hm := Nat.mul_le_mul_right sz (show i + 1 ≤ es.length by omega)
 rw [Nat.add_mul] at hm
 show (es.flatten.map Cell.p ++ T)[0 + (i * sz + j)]? = some (.p x)
 rw [Nat.zero_add, List.getElem?_append_left (by rw [List.length_map, f1]; omega), List.getElem?_map, f2 i j e he hj, hx]
 rfl
theorem frz_row0 {h : Heap} {b id ver cap sz : Nat} {es : List (List PD)} {T : List Cell} (hid : b ≤ id) (hb : h id = some (rowB ver es T)) (ho : okEs sz es) : frzC h b (.win id ver 0 es.length cap) (.p (.sl sz es)) :=
 .inr (.inr ⟨id, ver, 0, es.length, cap, sz, es, rowB ver es T, rfl, rfl, hid, hb, rfl, rfl, ho.len, row_cells ho ver T⟩)
theorem nil_sl {ι : Nat → Nat} {h : Heap} {bd : Nat} {w : World} {v : Value} (sz : Nat) (r : RCell ι h bd w (.p (.v (.slice none 0 0))) v) : RCell ι h bd w (.p (.sl sz [])) v := by
 cases r with
 | p hd => cases hd with
   | v => exact .p (RPD.sl (sz := sz) (es := []) none 0 (fun _ _ => undef) (Nat.le_refl _) (fun _ => rfl) (fun _ e => by cases e) (fun _ e => by cases e) (fun _ _ e => by simp at e) (fun _ _ e => by simp at e))
theorem renV_tup3 {h : Heap} {b : Nat} {L : List (Nat × List Cell)} {x y z x' y' z' : AV} (h1 : renV h b L x x') (h2 : renV h b L y y') (h3 : renV h b L z z') : renV h b L (.tup [x, y, z]) (.tup [x', y', z']) := by
 refine .tup rfl (fun i c d hc hd => ?_)
 match i with
 | 0 => simp at hc hd; subst hc; subst hd; exact h1
 | 1 => simp at hc hd; subst hc; subst hd; exact h2
 | 2 => simp at hc hd; subst hc; subst hd; exact h3
 | i + 3 => simp at hc
theorem renC_p {h : Heap} {b : Nat} {L : List (Nat × List Cell)} (d : PD) : renC h b L (.p d) (.p d) := .inl ⟨rfl, rfl⟩
theorem int_c0 : ((0 : Nat) : Int) = 0 := rfl
theorem row_push {sz ver len : Nat} {es fs : List (List PD)} {T : List Cell} (ho : okEs sz es) (hl : len = es.length) (r : Nat) :
  (⟨ver, List.take (len * sz) (es.flatten.map Cell.p ++ T) ++ (fs.flatten.map Cell.p ++ List.replicate r .junk)⟩ : Blk) = rowB ver (es ++ fs) (List.replicate r .junk) := by
 have h1 := okEs_len ho
 have : List.take (len * sz) (es.flatten.map Cell.p ++ T) = es.flatten.map Cell.p := by
  rw [List.take_append_of_le_length (by rw [List.length_map, h1, hl]; exact Nat.le_refl _)]
  exact List.take_of_length_le (by rw [List.length_map, h1, hl]; exact Nat.le_refl _)
 rw [this, rowB_app]
theorem row_part {sz i : Nat} {es : List (List PD)} {e : List PD} (T : List Cell) (ho : okEs sz es) (he : es[i]? = some e) : List.take sz (List.drop (i * sz) (es.flatten.map Cell.p ++ T)) = e.map Cell.p := by
 have hi : i < es.length := (List.getElem?_eq_some_iff.1 he).1
 have hel : es[i] = e := (List.getElem?_eq_some_iff.1 he).2
 have h1 := okEs_len ho
 have hm := Nat.mul_le_mul_right sz (show i + 1 ≤ es.length by omega)
 rw [Nat.add_mul] at hm
 have hd : es.flatten.drop (i * sz) = (es.drop i).flatten := flatten_drop sz i es ho.len
 rw [List.drop_append_of_le_length (by rw [List.length_map, h1]; omega), ← List.map_drop, hd, List.drop_eq_getElem_cons hi, List.flatten_cons, hel, List.map_append, List.append_assoc]
 have hle : (e.map Cell.p).length = sz := by rw [List.length_map]; exact ho.len e (List.mem_of_getElem? he)
 rw [List.take_append_of_le_length (by omega), List.take_of_length_le (by omega)]
end Go.Proofs.YtihgnpboabpchaaGreatDoor
namespace Go.Proofs.YtihgnpboabpchaaGreatDoor.Am
set_option linter.unusedSimpArgs false
set_option linter.unusedVariables false
set_option linter.unnecessarySimpa false
open Go
theorem ACalls.arg_eq {P : Program} {f : FuncId} {as1 as2 : List AV} {h : Heap} {b m : Nat} {R : AV → Heap → Prop} (c : ACalls P f as1 h b m R) (e : as2 = as1) : ACalls P f as2 h b m R := by rw [e]; exact c
theorem AWP.mid {P : Program} {C : Ctx} {Q : Exit → St → Prop} {s : St} {x y : Code} (M : St → Prop) (h : AWP P C x (thn M Q) s) (k : ∀ s, M s → AWP P C y Q s) : AWP P C (.seq x y) Q s :=
 .seq (h.mono fun e s' q => by cases e <;> first | exact k s' q | exact q)
theorem sub_delH (h : Heap) (m : Nat) : Sub (delH h m) h := fun _ b e => ⟨b, (delH_some e).2, rfl, .inr rfl⟩
theorem Sub.updN {a h : Heap} {k : Nat} {x : Blk} (s : Sub a h) (e : a k = none) : Sub a (Am.upd h k x) := s.upd fun b hb => by rw [e] at hb; cases hb
theorem AWP.rgD (S : List Tmp) (V : List AV) {P : Program} {C : Ctx} {Q : Exit → St → Prop} {s : St} {id : Nat} {ops : Array Oper} (M : List Nat) (hm : P.follows .mixedOrders = true) (hB : drawB S ops = true) (hN : dstsB C.N ops.toList = true)
  (e : ∀ K : FinT, (∀ t h n, Q .normal ⟨t, h, n⟩ → K t h n) → evD P C S V (M.foldl ers s.h) #[] ops.toList s.t s.h s.n K) (hg : (ops.all fun o => o.guard.isNone) = true) (hr : C.x.rd = none := by rfl) : AWP P C (.region id ops true) Q s := by
 have hsub : ∀ (M : List Nat) (h : Heap), Sub (M.foldl ers h) h := by
  intro M
  induction M with
  | nil => intro h; exact .refl h
  | cons m M ih => intro h; exact (ih (ers h m)).trans (sub_ers h m)
 refine AWP.regionD (V := V) hm hB hN (hsub M s.h) ?_ hr
 have hsame : ∀ (l : List Oper) (t : Nat → AV) (h : Heap) (n : Nat) (K : FinT), (∀ o ∈ l, o.guard = none) → evD P C S V (M.foldl ers s.h) #[] l t h n K → evD P C S V (M.foldl ers s.h) ops l t h n K := by
  intro l
  induction l with
  | nil => intro t h n K _ e; exact e
  | cons o l ih =>
    intro t h n K hgl e
    have hgo : o.guard = none := hgl o (by simp)
    have hw : ∀ (os : Array Oper) t, wantD os t o = some true := by intro os t; unfold wantD; rw [hgo]
    unfold evD at e ⊢
    split at e
    ·rename_i hs
     rw [if_pos hs]
     obtain ⟨v, hv, ok, e⟩ := e
     refine ⟨v, ?_, ?_, ih _ _ _ _ (fun o ho => hgl o (by simp [ho])) e⟩
     ·unfold valD at hv ⊢
      rw [hw] at hv ⊢
      exact hv
     ·unfold okD at ok ⊢
      rw [hw] at ok ⊢
      exact ok
    ·rename_i hs
     rw [if_neg hs]
     unfold sigD at e ⊢
     rw [hw] at e ⊢
     exact aop_mono (fun v h' n' ⟨s, e⟩ => ⟨s, ih _ _ _ _ (fun o ho => hgl o (by simp [ho])) e⟩) e
 refine hsame _ _ _ _ _ (fun o ho => ?_) (e _ (fun t h n k => k))
 have := Array.all_eq_true_iff_forall_mem.1 hg o (by simpa using ho)
 simpa using this
theorem AWP.known {P : Program} {C : Ctx} {Q : Exit → St → Prop} {c : Code} {t : Nat → AV} {h : Heap} {n : Nat} (k : (∀ id, C.b + n ≤ id → h id = none) → AWP P C c Q ⟨t, h, n⟩) : AWP P C c Q ⟨t, h, n⟩ :=
 fun a w ι I => k I.bound a w ι I
end Go.Proofs.YtihgnpboabpchaaGreatDoor.Am
