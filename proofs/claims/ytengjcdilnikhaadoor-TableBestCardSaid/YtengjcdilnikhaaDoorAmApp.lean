/-
  The abstract machine: append, calls in use, equality with nil, makes.
-/
import Derived.Test.YtengjcdilnikhaaDoorAmRun
import Derived.Laws.Append
import Derived.Lib.AppendStr
namespace Go.Proofs.YtengjcdilnikhaaDoor.Am
set_option linter.unusedSimpArgs false
set_option linter.unusedVariables false
set_option linter.unnecessarySimpa false
open Go

theorem CallR.use {P : Program} {C : Ctx} {E : Exit → St → Prop} {g : FuncId} {args : List AV} {dst : Option Tmp} {os : List Oper} {pre : List (Option Tmp)} {t : Nat → AV} {h : Heap} {n m : Nat} {K : FinT} {R : AV → Heap → Prop}
    (c : ACalls P g args h (C.b + n) m R) (hb : bodyB P g = true) (k : ∀ r h', R r h' → evOps P C E os (pre ++ [dst]) (putT t dst r) h' (n + m) K) : CallR P C E g args dst os pre t h n K :=
  .inl ⟨m, R, hb, c, k⟩

/-! ### equality with nil -/
theorem EqlR.nil_sl {P : Program} {C : Ctx} {E : Exit → St → Prop} {op : BinOp} {ty : TypeId} {ox oy : Operand} {dst : Option Tmp} {os : List Oper} {pre : List (Option Tmp)} {t : Nat → AV} {h : Heap} {n : Nat} {K : FinT} {sz : Nat} {es : List (List PD)}
    (ht : (slE P ty).isSome = true) (hop : op = .eql ∨ op = .neq)
    (k : ∀ g : Bool, (g = true → es = []) → evOps P C E os (pre ++ [dst]) (putT t dst (.one (.p (.v (.bool (if op = .eql then g else !g)))))) h n K) :
    EqlR P C E op ty ox oy (.one (.p (.sl sz es))) (.one (.p (.v (.slice none 0 0)))) dst os pre t h n K := by
  intro a w ι X Y I rx ry
  have hY := rav_v_inv ry
  subst hY
  obtain ⟨el, hel⟩ := slE_some ht
  obtain ⟨A, cap, U, rfl, g1, g2, _⟩ := sl_inv rx
  have heq : (Op.equal ty (.slice A es.length cap) (.slice none 0 0)).run P w = .ok A.isNone w := by
    have : ∀ d, (Op.equalIn (d + 1) ty (.slice A es.length cap) (.slice none 0 0)).run P w = .ok A.isNone w := by
      intro d
      cases A <;> simp only [Op.equalIn, Sem.run_bind, run_underlying hel, Result.andThen, Sem.run_pure] <;> rfl
    exact this 9999
  refine ⟨.bool (if op = .eql then A.isNone else !A.isNone), w, _, h, n, ι, ?_, k A.isNone (fun hg => ?_), I, rav_v _, .refl _ _ _ _⟩
  · rcases hop with rfl | rfl
    · simp only [Sem.run_bind, eqGuard_at_slice, Sem.run_pure, Result.andThen, binOp, heq, if_true]
    · simp only [Sem.run_bind, eqGuard_at_slice, Sem.run_pure, Result.andThen, binOp, heq, reduceCtorEq, if_false]
  · cases A with
    | none => have := g2 rfl; exact List.eq_nil_of_length_eq_zero (by omega)
    | some _ => cases hg

/-! ### append -/
def tby (P : Program) (t : TypeId) : Option Nat := (P.info? t).map (·.bytes)

/-- what can be read of a source: how many elements, and the cells -/
def srcA (h : Heap) (sz : Nat) : AV → Option (Nat × List Cell)
  | .one (.p (.sl z es)) => if z = sz then some (es.length, es.flatten.map .p) else none
  | .one (.win id ver off len _) => match h id with
    | some b => if b.ver = ver ∧ off + len * sz ≤ b.cells.length then some (len, (b.cells.drop off).take (len * sz)) else none
    | none => none
  | .one (.p (.v (.slice none 0 0))) => some (0, [])
  | .one (.p (.v (.string s))) => if sz = 1 then some (s.size, s.data.toList.map fun b => .p (.v (.int .u8 b.toNat))) else none
  | _ => none

theorem flat_get {α : Type} (sz : Nat) : ∀ (es : List (List α)), (∀ e ∈ es, e.length = sz) → es.flatten.length = es.length * sz ∧ ∀ (i j : Nat) (e : List α), es[i]? = some e → j < sz → es.flatten[i * sz + j]? = e[j]?
  | [], _ => ⟨by simp, fun i j e he => by simp at he⟩
  | e0 :: es, hs => by
    obtain ⟨ih1, ih2⟩ := flat_get sz es (fun e he => hs e (by simp [he]))
    have h0 : e0.length = sz := hs e0 (by simp)
    refine ⟨by simp [ih1, h0, Nat.add_mul]; omega, fun i j e he hj => ?_⟩
    cases i with
    | zero =>
      simp at he
      subst he
      simp only [List.flatten_cons, Nat.zero_mul, Nat.zero_add]
      rw [List.getElem?_append_left (by omega)]
    | succ i =>
      simp only [List.getElem?_cons_succ] at he
      have := ih2 i j e he hj
      simp only [List.flatten_cons]
      rw [List.getElem?_append_right (by rw [Nat.add_mul]; omega), ← this]
      congr 1
      rw [Nat.add_mul]
      omega

theorem divmod_lt {sz n k : Nat} (h : k < n * sz) : 0 < sz ∧ k / sz < n ∧ k % sz < sz ∧ k / sz * sz + k % sz = k := by
  have h0 : 0 < sz := by
    rcases Nat.eq_zero_or_pos sz with e | e
    · rw [e] at h; simp at h
    · exact e
  refine ⟨h0, ?_, Nat.mod_lt _ h0, ?_⟩
  · exact Nat.div_lt_of_lt_mul (by rw [Nat.mul_comm]; exact h)
  · rw [Nat.mul_comm]; exact Nat.div_add_mod k sz

theorem src_okk {P : Program} {ι : Nat → Nat} {h : Heap} {bd : Nat} {w : World} (H : HeapOK ι h bd w) {sz : Nat} {x : AV} {X : Value} (r : RAV ι h bd w x X) {m : Nat} {xs : List Cell} (e : srcA h sz x = some (m, xs)) :
    ∃ V : List Value, (Builtin.lenOf X).run P w = .ok m w ∧ (∀ k, k ≤ m → (Builtin.firstCells sz k X).run P w = .ok (V.take (k * sz)).toArray w) ∧ Reps ι h bd w xs V ∧ xs.length = m * sz := by
  unfold srcA at e
  split at e
  · rename_i z es
    split at e
    · rename_i hz
      subst hz
      simp only [Option.some.injEq, Prod.mk.injEq] at e
      obtain ⟨rfl, rfl⟩ := e
      obtain ⟨a, cap, U, rfl, g1, g2, g3, g4, g5, g6⟩ := sl_inv r
      obtain ⟨f1, f2⟩ := flat_get z es g4
      have hV : ∀ j v, ((List.range (es.length * z)).map fun k => U (k / z) (k % z))[j]? = some v → ∃ A : Addr, a = some A ∧ w.cell? (A.add j) = some v := by
        intro j v hj
        rw [List.getElem?_map] at hj
        have hlt : j < es.length * z := by
          rcases Nat.lt_or_ge j (es.length * z) with h' | h'
          · exact h'
          · rw [List.getElem?_eq_none (by simpa using h')] at hj; cases hj
        rw [List.getElem?_range hlt] at hj
        simp at hj
        subst hj
        obtain ⟨h0, hd, hm, heq⟩ := divmod_lt hlt
        have he : es[j / z]? = some es[j / z] := List.getElem?_eq_getElem hd
        have hl := g4 es[j / z] (List.getElem_mem hd)
        have hdd : es[j / z][j % z]? = some (es[j / z][j % z]'(by omega)) := List.getElem?_eq_getElem (by omega)
        obtain ⟨A, hA, _, hc⟩ := g5 _ _ he _ _ hdd
        refine ⟨A, hA, ?_⟩
        rw [addr_eta ((g3 A hA).resolve_left (fun hh => by rw [hh] at hd; simp at hd)), add_none]
        rw [heq] at hc
        exact hc
      refine ⟨(List.range (es.length * z)).map fun k => U (k / z) (k % z), rfl, fun k hk => ?_, ⟨by rw [List.length_map, List.length_map, f1, List.length_range], fun i c u hc hu => ?_⟩, by rw [List.length_map, f1]⟩
      · cases a with
        | none =>
          have : es.length = 0 := by have := g2 rfl; omega
          rw [this]
          simp only [Nat.zero_mul, List.range_zero, List.map_nil, List.take_nil]
          exact run_firstCells_none w z k 0 cap
        | some A =>
          refine run_firstCells_some w z k A es.length cap _ (by have := Nat.mul_le_mul_right z hk; rw [List.length_take, List.length_map, List.length_range]; omega) (fun j v hj => ?_)
          rw [List.getElem?_take] at hj
          split at hj
          case isFalse => cases hj
          obtain ⟨A', hA', hc⟩ := hV j v hj
          injection hA' with hA'
          subst hA'
          exact hc
      · rw [List.getElem?_map] at hu
        have hlt : i < es.length * z := by
          rcases Nat.lt_or_ge i (es.length * z) with h' | h'
          · exact h'
          · rw [List.getElem?_eq_none (by simpa using h')] at hu; cases hu
        rw [List.getElem?_range hlt] at hu
        simp at hu
        subst hu
        obtain ⟨h0, hd, hm, heq⟩ := divmod_lt hlt
        have he : es[i / z]? = some es[i / z] := List.getElem?_eq_getElem hd
        have hl := g4 es[i / z] (List.getElem_mem hd)
        have hdd : es[i / z][i % z]? = some (es[i / z][i % z]'(by omega)) := List.getElem?_eq_getElem (by omega)
        have hf := f2 (i / z) (i % z) _ he hm
        rw [heq, hdd] at hf
        rw [List.getElem?_map, hf] at hc
        simp at hc
        subst hc
        exact .p (g6 _ _ he _ _ hdd)
    · cases e
  · rename_i id ver off len cap
    split at e
    · rename_i b hb
      split at e
      · rename_i hc
        simp only [Option.some.injEq, Prod.mk.injEq] at e
        obtain ⟨rfl, rfl⟩ := e
        obtain ⟨hlc, hX⟩ := win_inv r (by unfold liveB; rw [hb]; simpa using hc.1)
        rcases hX with rfl | ⟨rfl, rfl, rfl⟩
        · by_cases hne : b.cells = []
          · have h0 : len * sz = 0 := by have := hc.2; rw [hne] at this; simp at this; omega
            refine ⟨[], rfl, fun k hk => ?_, by rw [hne]; simp [Reps], by rw [hne]; simp; omega⟩
            have := run_firstCells_some (P := P) w sz k ⟨ι id, off, none⟩ len cap [] (by have := Nat.mul_le_mul_right sz hk; simp; omega) (fun j v hj => by simp at hj)
            simpa using this
          · obtain ⟨c, ty, h1, h2, h3⟩ := H.blk id b hb hne
            refine ⟨(c.toList.drop off).take (len * sz), rfl, fun k hk => ?_, ⟨by simp [h2], fun i d u hd hu => ?_⟩, by simp; omega⟩
            · refine run_firstCells_some w sz k ⟨ι id, off, none⟩ len cap _ (by have := Nat.mul_le_mul_right sz hk; simp [h2]; omega) (fun j v hj => ?_)
              rw [List.getElem?_take] at hj
              split at hj
              case isFalse => cases hj
              rw [List.getElem?_take] at hj
              split at hj
              · rw [List.getElem?_drop] at hj
                rw [add_none]
                simpa [World.cell?, h1] using hj
              · cases hj
            · rw [List.getElem?_take] at hd hu
              split at hd
              · rename_i hi
                rw [if_pos hi] at hu
                rw [List.getElem?_drop] at hd hu
                exact h3 _ d u hd (by simpa using hu)
              · cases hd
        · refine ⟨[], rfl, fun k _ => by simpa using run_firstCells_none w sz k 0 0, by simp [Reps], by simp⟩
      · cases e
    · cases e
  · have hX := rav_v_inv r
    subst hX
    simp only [Option.some.injEq, Prod.mk.injEq] at e
    obtain ⟨rfl, rfl⟩ := e
    exact ⟨[], rfl, fun k _ => by simpa using run_firstCells_none w sz k 0 0, by simp [Reps], by simp⟩
  · have hX := rav_v_inv r
    subst hX
    rename_i s
    split at e
    · rename_i hz
      subst hz
      simp only [Option.some.injEq, Prod.mk.injEq] at e
      obtain ⟨rfl, rfl⟩ := e
      have e1 : (s.data.toList.map fun b => (Cell.p (.v (.int .u8 b.toNat)) : Cell)) = (s.data.toList.map fun b => Value.int .u8 b.toNat).map fun v => .p (.v v) := by rw [List.map_map]; rfl
      refine ⟨s.data.toList.map fun b => Value.int .u8 b.toNat, rfl, fun k _ => ?_, by rw [e1]; exact reps_vs _, by simp⟩
      simp only [Builtin.firstCells, Sem.run_pure, Nat.mul_one]
      congr 1
      apply Array.ext'
      simp
    · cases e
  · cases e

theorem src_ok {P : Program} {ι : Nat → Nat} {h : Heap} {bd : Nat} {w : World} (H : HeapOK ι h bd w) {sz : Nat} {x : AV} {X : Value} (r : RAV ι h bd w x X) {m : Nat} {xs : List Cell} (e : srcA h sz x = some (m, xs)) :
    ∃ V : List Value, (Builtin.lenOf X).run P w = .ok m w ∧ (Builtin.firstCells sz m X).run P w = .ok V.toArray w ∧ Reps ι h bd w xs V ∧ xs.length = m * sz := by
  obtain ⟨V, h1, h2, h3, h4⟩ := src_okk (P := P) H r e
  refine ⟨V, h1, ?_, h3, h4⟩
  rw [h2 m (Nat.le_refl _), List.take_of_length_le (by rw [h3.1, h4]; exact Nat.le_refl _)]

theorem srcA_okC_one {ι : Nat → Nat} {h : Heap} {bd : Nat} {w : World} {xs : List Cell} {V : List Value} (r : Reps ι h bd w xs V) (ok : ∀ c ∈ xs, okC h c = true) : ∀ u ∈ V, u.oneCell' = true := by
  intro u hu
  obtain ⟨j, hj⟩ := List.mem_iff_getElem?.1 hu
  have hlt : j < xs.length := by rw [← r.1]; exact (List.getElem?_eq_some_iff.1 hj).1
  exact (okC_run (r.2 j _ u (List.getElem?_eq_getElem hlt) hj) (ok _ (List.getElem_mem hlt))).1

theorem Inv.empty {C : Ctx} {ι : Nat → Nat} {s : St} {a : Act} {w : World} (I : Inv C ι s a w) (id : Nat) (b : Blk) (hb : s.h id = some b) (hbe : b.cells = []) (ver : Nat) (hver : b.ver ≤ ver) :
    Moves ι s.h (C.b + s.n) w ι (upd s.h id ⟨ver, []⟩) (C.b + s.n) w ∧ Inv C ι ⟨s.t, upd s.h id ⟨ver, []⟩, s.n⟩ a w := by
  have M : Moves ι s.h (C.b + s.n) w ι (upd s.h id ⟨ver, []⟩) (C.b + s.n) w := by
    refine ⟨Nat.le_refl _, fun b' hs _ i blk e ne => ?_, fun _ _ _ => rfl, fun i hi b' e => ?_⟩
    · by_cases h : i = id
      · subst h; rw [upd_same] at e; injection e with e; subst e; exact absurd rfl ne
      · rw [upd_ne _ _ _ _ h] at e; exact hs i blk e ne
    · by_cases h : i = id
      · subst h; rw [upd_same] at e; injection e with e; subst e; exact ⟨b, hb, hver, fun _ => rfl⟩
      · rw [upd_ne _ _ _ _ h] at e; exact ⟨b', e, Nat.le_refl _, fun _ => rfl⟩
  have hold : ∀ i b', upd s.h id ⟨ver, []⟩ i = some b' → b'.cells ≠ [] → i ≠ id ∧ s.h i = some b' := by
    intro i b' e ne
    by_cases h : i = id
    · subst h; rw [upd_same] at e; injection e with e; subst e; exact absurd rfl ne
    · rw [upd_ne _ _ _ _ h] at e; exact ⟨h, e⟩
  refine ⟨M, ⟨fun i hi b' e => ?_, fun i hi b' e ne => I.fresh i hi b' (hold i b' e ne).2 ne, fun i hi => ?_, ⟨fun i b' e ne => ?_, fun i j bi bj hi hj ni nj => I.heap.inj i j bi bj (hold i bi hi ni).2 (hold j bj hj nj).2 ni nj⟩, fun t => (I.tmps t).move M, I.ntmps, I.defers, I.keeps⟩⟩
  · have e' : upd s.h id ⟨ver, []⟩ i = some b' := e
    by_cases h : i = id
    · subst h
      rw [upd_same] at e'
      injection e' with e'
      subst e'
      obtain ⟨b0, k0, k1⟩ := I.outer i hi b hb
      exact ⟨b0, k0, k1.trans (G' := C.w.heap.size) ⟨hver, .inl ⟨by rw [hbe], rfl⟩⟩ (Nat.le_refl _)⟩
    · rw [upd_ne _ _ _ _ h] at e'
      exact I.outer i hi b' e'
  · show upd s.h id ⟨ver, []⟩ i = none
    have : i ≠ id := by intro h; subst h; rw [I.bound i hi] at hb; cases hb
    rw [upd_ne _ _ _ _ this]
    exact I.bound i hi
  · obtain ⟨c, ty, h1, h2, h3⟩ := I.heap.blk i b' (hold i b' e ne).2 ne
    exact ⟨c, ty, h1, h2, fun j d u hd hu => (h3 j d u hd hu).move M⟩

def isIntT (P : Program) (t : TypeId) : Bool :=
  match P.underlying t with
  | some (.int _) => true
  | none => true
  | _ => false

theorem isIntT_run {P : Program} {t : TypeId} (e : isIntT P t = false) : ∃ d, P.underlying t = some d ∧ ∀ k, d ≠ .int k := by
  unfold isIntT at e
  cases h : P.underlying t with
  | none => rw [h] at e; cases e
  | some d => rw [h] at e; refine ⟨d, rfl, fun k hk => ?_⟩; subst hk; cases e

theorem nextcap_le (n c : Nat) (h : c < n) : Builtin.nextslicecap n c ≤ 2 * n + 1000 := by
  have hg : ∀ k c, c < n → Builtin.growBy n k c ≤ 2 * n + 1000 := by
    intro k
    induction k with
    | zero => intro c hc; simp [Builtin.growBy]; omega
    | succ k ih =>
      intro c hc
      unfold Builtin.growBy
      split
      · omega
      · rcases Nat.lt_or_ge (c + (c + 768) / 4) n with h' | h'
        · exact ih _ h'
        · have : Builtin.growBy n k (c + (c + 768) / 4) = c + (c + 768) / 4 := by cases k <;> simp [Builtin.growBy, h']
          rw [this]; omega
  unfold Builtin.nextslicecap
  split
  · omega
  · split
    · omega
    · exact hg 4 c h

/-- append to a row of the call's own -/
theorem BiK.append_own {P : Program} {C : Ctx} {ty tx e : TypeId} {sz bytes : Nat} {zs : List Value} {id ver len cap m : Nat} {x : AV} {xs : List Cell} {h : Heap} {n : Nat} {K : KT} {blk : Blk}
    (ht : slE P ty = some e) (hs : tsz P e = some sz) (hz : tzero P e = some zs) (hzs : zs.length = sz) (hby : tby P e = some bytes) (htx : isIntT P tx = false) (hb : h id = some blk) (hv : blk.ver = ver)
    (hc : blk.cells.length = cap * sz) (hsrc : srcA h sz x = some (m, xs)) (hok : ∀ c ∈ xs, okC h c = true) (hroom : (len + m) * bytes ≤ 70368744177664) (hbytes : bytes ≤ 1000000) (hmax : len + m ≤ 4611686018427387904)
    (k : ∀ cap' r, len + m ≤ cap' → cap' * sz = (len + m) * sz + r → K (.one (.win id (ver + 1) 0 (len + m) cap')) (upd h id ⟨ver + 1, blk.cells.take (len * sz) ++ (xs ++ List.replicate r .junk)⟩) n) :
    BiK P C .append [ty, tx] [.one (.win id ver 0 len cap), x] h n K := by
  intro a w ι Vs I hVs tyR cs
  obtain ⟨hl, hVs⟩ := hVs
  match Vs, hl with
  | [X, Y], _ =>
    have rX := hVs 0 _ X rfl rfl
    have rY := hVs 1 _ Y rfl rfl
    have hlive : liveB h id ver = true := by unfold liveB; rw [hb]; simpa using hv
    obtain ⟨hlc, hX⟩ := win_inv rX hlive
    have hwh := win_hd rX
    obtain ⟨W, g1, g2, g3, g4⟩ := src_ok (P := P) I.heap rY hsrc
    obtain ⟨d, hd, hdk⟩ := isIntT_run htx
    obtain ⟨i, hi, his⟩ := tsz_info hs
    obtain ⟨i', z, hi', hiz, hzc⟩ := tzero_run hz
    have : i = i' := by rw [hi] at hi'; injection hi'
    subst this
    have hib : i.bytes = bytes := by unfold tby at hby; rw [hi] at hby; simpa using hby
    have h1 := srcA_okC_one g3 hok
    have hWl : W.length = m * sz := by rw [g3.1, g4]
    have hu := run_underlying (P := P) (slE_run ht) w
    have hux := run_underlying (P := P) hd w
    have hnotint : (match d with | .int _ => true | _ => false) = false := by cases d <;> first | rfl | exact absurd rfl (hdk _)
    -- the result, wherever the row lies
    have hres : ∀ (ι' : Nat → Nat) (h' : Heap) (w' : World) (cap' : Nat) (cs' : List Cell), h' = upd h id ⟨ver + 1, cs'⟩ → len + m ≤ cap' → RAV ι' h' (C.b + n) w' (.one (.win id (ver + 1) 0 (len + m) cap')) (.slice (some ⟨ι' id, 0, none⟩) (len + m) cap') := by
      intro ι' h' w' cap' cs' e hle
      subst e
      exact .one (.win hwh.1 (fun b e => by rw [upd_same] at e; injection e with e; subst e; exact Nat.le_refl _) (fun b e _ => ⟨hle, .inl rfl⟩))
    by_cases hfit : len + m ≤ cap
    · -- there is room
      by_cases hne : blk.cells = []
      · have hcap0 : cap * sz = 0 := by rw [← hc, hne]; rfl
        have hr0 : (len + m) * sz = 0 := Nat.eq_zero_of_le_zero (by rw [← hcap0]; exact Nat.mul_le_mul_right _ hfit)
        have hW0 : W = [] := List.eq_nil_of_length_eq_zero (by rw [hWl]; exact Nat.eq_zero_of_le_zero (by rw [← hr0]; exact Nat.mul_le_mul_right _ (by omega)))
        have hx0 : xs = [] := List.eq_nil_of_length_eq_zero (by rw [g4]; exact Nat.eq_zero_of_le_zero (by rw [← hr0]; exact Nat.mul_le_mul_right _ (by omega)))
        obtain ⟨M, I'⟩ := I.empty id blk hb hne (ver + 1) (by omega)
        have hk := k cap 0 hfit (by rw [hcap0, hr0])
        rw [hne, hx0] at hk
        simp only [List.take_nil, List.nil_append, List.replicate_zero] at hk
        rcases hX with rfl | ⟨rfl, hl0, hc0⟩
        · refine ⟨.slice (some ⟨ι id, 0, none⟩) (len + m) cap, w, _, _, n, ι, ?_, hk, I', hres ι _ w cap [] rfl hfit, M⟩
          simp only [builtin, Builtin.append_, Sem.run_bind, Sem.run_pure, Result.andThen, hu, hux, tsz_run hs, hnotint, List.size_toArray, List.getElem?_toArray, List.getElem?_cons_zero, List.getElem?_cons_succ, g1, if_false, Bool.false_eq_true]
          rw [if_pos hfit]
          simp only [Sem.run_bind, g2, Result.andThen, Bool.not_false, if_true, hW0, storeCells, Sem.run_pure]
        · subst hl0; subst hc0
          have hm0 : m = 0 := by omega
          subst hm0
          refine ⟨.slice none 0 0, w, _, _, n, ι, ?_, hk, I', .one (.win hwh.1 (fun b e => by rw [upd_same] at e; injection e with e; subst e; exact Nat.le_refl _) (fun b e _ => ⟨Nat.le_refl _, .inr ⟨rfl, rfl, rfl⟩⟩)), M⟩
          simp only [builtin, Builtin.append_, Sem.run_bind, Sem.run_pure, Result.andThen, hu, hux, tsz_run hs, hnotint, List.size_toArray, List.getElem?_toArray, List.getElem?_cons_zero, List.getElem?_cons_succ, g1, if_false, Bool.false_eq_true]
          rw [if_pos hfit]
          simp only [Sem.run_bind, g2, Result.andThen, Bool.not_false, if_true, Sem.run_pure]
      · obtain ⟨c, tyc, k1, k2, k3⟩ := I.heap.blk id blk hb hne
        have hX : X = .slice (some ⟨ι id, 0, none⟩) len cap := by
          rcases hX with hX | ⟨_, _, hc0⟩
          · exact hX
          · subst hc0; exact absurd (List.eq_nil_of_length_eq_zero (by rw [hc]; simp)) hne
        subst hX
        have hcs : c.size = cap * sz := by rw [k2, hc]
        have hle : (len + m) * sz ≤ cap * sz := Nat.mul_le_mul_right _ hfit
        rw [Nat.add_mul] at hle
        have hst := run_storeCells_at (P := P) (ι id) (len * sz) tyc W 0 c w k1 (by rw [hWl, hcs]; omega) h1
        have hrl : cap * sz = (len + m) * sz + (cap * sz - (len + m) * sz) := by rw [Nat.add_mul]; omega
        have hk := k cap _ hfit hrl
        obtain ⟨M, I'⟩ := I.write id blk hb hne (ver + 1) (by omega) (blk.cells.take (len * sz) ++ (xs ++ List.replicate (cap * sz - (len + m) * sz) .junk)) (c.toList.take (len * sz) ++ (W ++ c.toList.drop (len * sz + W.length))).toArray
          (by have := Nat.mul_le_mul_right sz hlc; simp only [List.length_append, List.length_take, List.length_replicate, hc, g4, Nat.add_mul]; omega)
          (by have := Nat.mul_le_mul_right sz hlc; simp only [List.size_toArray, List.length_append, List.length_take, List.length_replicate, List.length_drop, Array.length_toList, hcs, hc, g4, hWl, Nat.add_mul] <;> omega) (fun j d u hd hu => by
            simp only [List.getElem?_append, List.length_take, hc, g4, List.getElem?_take] at hd
            simp only [List.getElem?_toArray, List.getElem?_append, List.length_take, Array.length_toList, hcs, hWl, List.getElem?_take] at hu
            split at hd
            · rename_i hj
              rw [if_pos hj] at hu
              rw [if_pos (by omega)] at hd hu
              exact k3 j d u hd (by simpa using hu)
            · rename_i hj
              rw [if_neg hj] at hu
              split at hd
              · rename_i hj2
                rw [if_pos hj2] at hu
                exact g3.2 _ d u hd hu
              · have : d = .junk := by
                  have := List.mem_of_getElem? hd
                  simpa using (List.mem_replicate.1 this).2
                subst this
                exact .junk u)
        refine ⟨.slice (some ⟨ι id, 0, none⟩) (len + m) cap, _, _, _, n, ι, ?_, hk, I', hres ι _ _ cap _ rfl hfit, M⟩
        simp only [builtin, Builtin.append_, Sem.run_bind, Sem.run_pure, Result.andThen, hu, hux, tsz_run hs, hnotint, List.size_toArray, List.getElem?_toArray, List.getElem?_cons_zero, List.getElem?_cons_succ, g1, if_false, Bool.false_eq_true]
        rw [if_pos hfit]
        simp only [Sem.run_bind, g2, Result.andThen, Bool.not_false, if_true, add_none, Nat.zero_add, hst, Sem.run_pure]
        simp
    · -- a new row
      have rX' : RAV ι h (C.b + n) w.drew (.one (.win id ver 0 len cap)) X := rX.move (Moves.world (w := w) (w' := w.drew) (fun _ _ _ => rfl))
      have rY' : RAV ι h (C.b + n) w.drew x Y := rY.move (Moves.world (w := w) (w' := w.drew) (fun _ _ _ => rfl))
      have hsr : srcA h sz (.one (.win id ver 0 len cap)) = some (len, blk.cells.take (len * sz)) := by
        have hle := Nat.mul_le_mul_right sz hlc
        simp only [srcA, hb]
        rw [if_pos ⟨hv, by rw [hc, Nat.zero_add]; exact hle⟩, List.drop_zero]
      obtain ⟨O, _, o2, o3, o4⟩ := src_ok (P := P) (I.drew).heap rX' hsr
      obtain ⟨W2, _, q2, q3, q4⟩ := src_ok (P := P) (I.drew).heap rY' hsrc
      have hXs : ∃ A, X = .slice A len cap := by rcases hX with hX | ⟨hX, h1, h2⟩ <;> exact ⟨_, by rw [hX]; try rw [h1, h2]⟩
      obtain ⟨A, rfl⟩ := hXs
      have hcap : ∃ nc, (choose (.appendCap (len + m) cap e)).run P w = .ok nc w.drew ∧ len + m ≤ nc := by
        refine ⟨(Question.appendCap (len + m) cap e).cut (w.tape w.drawn (.appendCap (len + m) cap e)), ?_, ?_⟩
        · rw [run_choose]
          rfl
        · simp only [Question.cut]; omega
      obtain ⟨nc, hch, hnc⟩ := hcap
      have hzr : (zeroValue e).run P w.drew = .ok z w.drew := by simp [zeroValue, typeInfo, hi, hiz]
      have hzsz : z.cells.size = sz := by rw [← hzs, ← hzc]; simp
      have hrl : (Builtin.zeroCells z.cells (nc - (len + m))).size = (nc - (len + m)) * sz := by simp [Builtin.zeroCells, hzsz]
      have hcapm : nc * sz = (len + m) * sz + (nc - (len + m)) * sz := by rw [← Nat.add_mul]; congr 1; omega
      have hk := k nc _ hnc hcapm
      have hl1 := o3.1
      have hl2 := q3.1
      obtain ⟨M, I'⟩ := (I.drew).place id n (Nat.le_refl _) (by have := hwh.1; omega) (ver + 1) (fun b e => by have e' : h id = some b := e; rw [hb] at e'; injection e' with e'; subst e'; omega) (fun e => by have e' : h id = none := e; rw [hb] at e'; cases e')
        (blk.cells.take (len * sz) ++ (xs ++ List.replicate ((nc - (len + m)) * sz) .junk)) (O.toArray ++ W2.toArray ++ Builtin.zeroCells z.cells (nc - (len + m))) e
        (by simp [hl1, hl2, hrl]; omega) (fun j d u hd hu => by
          have hu' : (O ++ (W2 ++ (Builtin.zeroCells z.cells (nc - (len + m))).toList))[j]? = some u := by rw [← hu, ← Array.getElem?_toList]; simp
          rw [List.getElem?_append] at hd hu'
          rw [hl1] at hu'
          split at hd
          · rename_i hj
            rw [if_pos hj] at hu'
            exact o3.2 j d u hd hu'
          · rename_i hj
            rw [if_neg hj] at hu'
            rw [List.getElem?_append] at hd hu'
            rw [hl2] at hu'
            split at hd
            · rename_i hj2
              rw [if_pos hj2] at hu'
              exact q3.2 _ d u hd hu'
            · have : d = .junk := (List.mem_replicate.1 (List.mem_of_getElem? hd)).2
              subst this
              exact .junk u)
      refine ⟨.slice (some ⟨w.drew.heap.size, 0, none⟩) (len + m) nc, _, _, _, n, _, ?_, hk, I', ?_, ⟨M.hbd, M.stab, M.agree, M.blk⟩⟩
      · have h63 : ¬ (((len + m : Nat) : Int) > IntKind.i64.max ∧ (False ∨ i.bytes = 0)) := by rw [IntKind.max_i64]; omega
        have h48 : ¬ (Builtin.nextslicecap (len + m) cap * i.bytes > 2 ^ 48) := by
          have h1 := nextcap_le (len + m) cap (by omega)
          have h2 := Nat.mul_le_mul_right bytes h1
          rw [Nat.add_mul, Nat.mul_assoc] at h2
          rw [hib]
          omega
        have hti : (typeInfo e).run P w = .ok i w := by simp [typeInfo, hi]
        have hti' : (typeInfo e).run P w.drew = .ok i w.drew := by simp [typeInfo, hi]
        simp only [builtin, Builtin.append_, Sem.run_bind, Sem.run_pure, Result.andThen, hu, hux, tsz_run hs, hnotint, List.size_toArray, List.getElem?_toArray, List.getElem?_cons_zero, List.getElem?_cons_succ, g1, if_false, Bool.false_eq_true]
        rw [if_neg hfit]
        simp only [Sem.run_bind, Result.andThen, hti]
        rw [if_neg h63]
        simp only [Sem.run_bind, Result.andThen, hti]
        rw [if_neg h48]
        simp only [Sem.run_bind, Result.andThen, hch, hti', run_askRoom, o2, q2, hzr, Bool.not_false, if_true, newRow, run_newObj, Sem.run_pure]
        rfl
      · have := hres (ren ι id w.drew.heap.size) _ (w.drew.alloc (.cells (O.toArray ++ W2.toArray ++ Builtin.zeroCells z.cells (nc - (len + m))) e)) nc (blk.cells.take (len * sz) ++ (xs ++ List.replicate ((nc - (len + m)) * sz) .junk)) rfl hnc
        rw [ren_same] at this
        exact this

end Go.Proofs.YtengjcdilnikhaaDoor.Am
