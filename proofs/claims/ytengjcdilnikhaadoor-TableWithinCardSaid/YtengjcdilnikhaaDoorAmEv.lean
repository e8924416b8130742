/-
  The abstract machine: the evaluator of a region's operations; regions; how a body ends.
-/
import Derived.Test.YtengjcdilnikhaaDoorAmRun
namespace Go.Proofs.YtengjcdilnikhaaDoor.Am
set_option linter.unusedSimpArgs false
set_option linter.unusedVariables false
set_option linter.unnecessarySimpa false
open Go

/-- a builtin's value, semantically -/
def BiK (P : Program) (C : Ctx) (b : Builtin) (tys : List TypeId) (args : List AV) (h : Heap) (n : Nat) (K : KT) : Prop :=
  ∀ a w ι Vs, Inv C ι ⟨junkT, h, n⟩ a w → RAVs ι h (C.b + n) w args Vs → ∀ ty cs, ∃ v w' av h' n' ι', (builtin b tys.toArray ty cs Vs.toArray).run P w = .ok (.value v) w' ∧ K av h' n' ∧ Inv C ι' ⟨junkT, h', n'⟩ a w' ∧ RAV ι' h' (C.b + n') w' av v ∧
    Moves ι h (C.b + n) w ι' h' (C.b + n') w'

/-- an equality whose operands are no plain values, semantically -/
def EqlK (P : Program) (C : Ctx) (op : BinOp) (ty : TypeId) (ox oy : Operand) (x y : AV) (h : Heap) (n : Nat) (K : KT) : Prop :=
  ∀ a w ι X Y, Inv C ι ⟨junkT, h, n⟩ a w → RAV ι h (C.b + n) w x X → RAV ι h (C.b + n) w y Y → ∃ v w' av h' n' ι', (do eqGuard op ty ox oy X Y; binOp op ty X Y : Sem Value).run P w = .ok v w' ∧ K av h' n' ∧
    Inv C ι' ⟨junkT, h', n'⟩ a w' ∧ RAV ι' h' (C.b + n') w' av v ∧ Moves ι h (C.b + n) w ι' h' (C.b + n') w'

/-- a make of a slice, semantically -/
def MkK (P : Program) (C : Ctx) (ty : TypeId) (x y : AV) (h : Heap) (n : Nat) (K : KT) : Prop :=
  ∀ a w ι X Y, Inv C ι ⟨junkT, h, n⟩ a w → RAV ι h (C.b + n) w x X → RAV ι h (C.b + n) w y Y → ∃ v w' av h' n' ι', (Instr.makeSlice ty X Y).run P w = .ok v w' ∧ K av h' n' ∧
    Inv C ι' ⟨junkT, h', n'⟩ a w' ∧ RAV ι' h' (C.b + n') w' av v ∧ Moves ι h (C.b + n) w ι' h' (C.b + n') w'

/-- a truth value is parted at once where it is moved -/
def splitB (v : AV) (K : AV → Prop) : Prop :=
  match v with
  | .one (.p (.v (.bool g))) => (g = true → K (.one (.p (.v (.bool true))))) ∧ (g = false → K (.one (.p (.v (.bool false)))))
  | v => K v

def optK (x : Option AV) (K : AV → Prop) : Prop :=
  match x with
  | some v => K v
  | none => False

theorem optK_some (v : AV) (K : AV → Prop) : optK (some v) K = K v := rfl
theorem optK_ite (c : Prop) [Decidable c] (v : AV) (K : AV → Prop) : optK (if c then some v else none) K = (c ∧ K v) := by
  split <;> simp_all [optK]

def aop (P : Program) (C : Ctx) (o : Oper) (t : Nat → AV) (h : Heap) (n : Nat) (_E : Exit → St → Prop) (K : KT) : Prop :=
  match o.op with
  | .move x => splitB (val t x) fun v => K v h n
  | .binOp op ty x y _ => match binA P ty op (val t x) (val t y) with
    | some v => K v h n
    | none => EqlK P C op ty x y (val t x) (val t y) h n K
  | .box _ x => okA h (val t x) = true ∧ K (.one (.ptr (C.b + n) 0 0)) (upd h (C.b + n) ⟨0, cellsA (val t x)⟩) (n + 1)
  | .alloc ty => match tzero P ty with
    | some zs => K (.one (.ptr (C.b + n) 0 0)) (upd h (C.b + n) ⟨0, zs.map fun v => .p (.v v)⟩) (n + 1)
    | none => False
  | .buildSlice ty len parts => match bslA P h ty len (parts.toList.map fun (i, x) => (i, val t x)) with
    | some cs => K (.one (.win (C.b + n) 0 0 len len)) (upd h (C.b + n) ⟨0, cs⟩) (n + 1)
    | none => False
  | .store ty x v => match stA P ty h (val t x) (val t v) with
    | some h' => K (.one .junk) h' n
    | none => False
  | .makeSlice ty l c => MkK P C ty (val t l) (val t c) h n K
  | .call { callee := .value f, args := xs, argTypes := _ } => match val t f with
    | .one (.clo (.func g) first cap) => CallK P C g (first.map .one ++ (xs.toList.map (val t) ++ cap.map .one)) h n K
    | _ => False
  | .call { callee := .builtin .append, args := xs, argTypes := tys } => BiK P C .append tys.toList (xs.toList.map (val t)) h n K
  | .call { callee := .builtin .copy, args := xs, argTypes := tys } => BiK P C .copy tys.toList (xs.toList.map (val t)) h n K
  | .call { callee := .builtin .clear, args := xs, argTypes := tys } => BiK P C .clear tys.toList (xs.toList.map (val t)) h n K
  | _ => optK (sop P t h o) fun v => K v h n

theorem splitB_ok {v : AV} {K : AV → Prop} (e : splitB v K) : K v := by
  unfold splitB at e
  split at e
  · rename_i g; cases g
    · exact e.2 rfl
    · exact e.1 rfl
  · exact e

theorem optK_ok {x : Option AV} {K : AV → Prop} (e : optK x K) : ∃ v, x = some v ∧ K v := by
  cases x with
  | none => exact e.elim
  | some v => exact ⟨v, rfl, e⟩

theorem bi_ok {P : Program} {C : Ctx} {o : Oper} {t : Nat → AV} {h : Heap} {n : Nat} {E : Exit → St → Prop} {K : KT} {b : Builtin} {xs : Array Operand} {tys : Array TypeId} (ho : o.op = .call ⟨.builtin b, xs, tys⟩)
    (k : BiK P C b tys.toList (xs.toList.map (val t)) h n K) : AOp P C o ⟨t, h, n⟩ E K := by
  intro a w ι I next Q _ hn
  obtain ⟨v, w', av, h', n', ι', h1, h2, h3, h4, h5⟩ := k a w ι _ I.junk (ravs_map (val_ok I) xs.toList) o.type (constsOf xs)
  have hrun : (execOp a.eval o).run P w = .ok (.value v) w' := by
    obtain ⟨dst, op, ty, pos, after, guard⟩ := o
    simp only at ho
    subst ho
    rw [callee_builtin]
    have e2 : (List.map a.eval xs.toList).toArray = Array.map a.eval xs := by apply Array.ext'; simp
    rw [← e2]
    exact h1
  unfold Oper.wp
  rw [hrun, Oper.upon_value]
  exact hn v av h' n' ι' w' h2 (I.unjunk h3 h5) h4

section
variable (ρ : Operand → Value) (dst : Option Tmp) (ty0 : TypeId) (pos : String) (after : Array Edge) (guard : Option (Nat × Bool))
theorem ex_bin (op : BinOp) (ty u : TypeId) (x y : Operand) : execOp ρ ⟨dst, .binOp op ty x y u, ty0, pos, after, guard⟩ = (do pure (.value (← (do eqGuard op ty x y (ρ x) (ρ y); binOp op ty (ρ x) (ρ y) : Sem Value)))) := rfl
theorem ex_box (ty : TypeId) (x : Operand) : execOp ρ ⟨dst, .box ty x, ty0, pos, after, guard⟩ = (do pure (.value (← Instr.box ty (ρ x)))) := rfl
theorem ex_alloc (ty : TypeId) : execOp ρ ⟨dst, .alloc ty, ty0, pos, after, guard⟩ = (do pure (.value (← Instr.alloc ty true (.tuple #[])))) := rfl
theorem ex_bsl (ty : TypeId) (len : Nat) (parts : Array (Nat × Operand)) : execOp ρ ⟨dst, .buildSlice ty len parts, ty0, pos, after, guard⟩ = (do pure (.value (← Instr.buildSlice ty len (parts.map fun (i, x) => (i, ρ x))))) := rfl
theorem ex_mk (ty : TypeId) (l c : Operand) : execOp ρ ⟨dst, .makeSlice ty l c, ty0, pos, after, guard⟩ = (do pure (.value (← Instr.makeSlice ty (ρ l) (ρ c)))) := rfl
end

theorem aop_ok {P : Program} {C : Ctx} {o : Oper} {t : Nat → AV} {h : Heap} {n : Nat} {E : Exit → St → Prop} {K : KT} (e : aop P C o t h n E K) : AOp P C o ⟨t, h, n⟩ E K := by
  obtain ⟨dst, op, ty0, pos, after, guard⟩ := o
  unfold aop at e
  simp only at e
  split at e
  · exact AOp.of_sop (K := K) rfl (splitB_ok (K := fun v => K v h n) e)
  · rename_i op ty x y z
    split at e
    · rename_i v hv
      exact AOp.of_sop (K := K) (av := v) hv e
    · exact AOp.of_gives (K := K) (fun ρ => ex_bin ρ _ _ _ _ _ _ _ _ _ _) (fun a w ι I => let ⟨v, w', av, h', n', ι', h1, h2, h3, h4, h5⟩ := e a w ι _ _ I.junk (val_ok I x) (val_ok I y); ⟨v, w', av, h', n', ι', h1, h2, I.unjunk h3 h5, h4⟩)
  · rename_i ty x
    exact AOp.of_gives (K := K) (fun ρ => ex_box ρ _ _ _ _ _ _ _) (box_ok (K := K) e.1 e.2)
  · rename_i ty
    split at e
    · rename_i zs hz
      exact AOp.of_gives (K := K) (fun ρ => ex_alloc ρ _ _ _ _ _ _) (alloc_ok (K := K) hz e)
    · exact e.elim
  · rename_i ty len parts
    split at e
    · rename_i cs hc
      exact AOp.of_gives (K := K) (fun ρ => ex_bsl ρ _ _ _ _ _ _ _ _) (bsl_ok (K := K) hc e)
    · exact e.elim
  · rename_i ty x v
    split at e
    · rename_i h' hs
      exact st_ok (K := K) rfl hs e
    · exact e.elim
  · rename_i ty l c
    exact AOp.of_gives (K := K) (fun ρ => ex_mk ρ _ _ _ _ _ _ _ _) (fun a w ι I => let ⟨v, w', av, h', n', ι', h1, h2, h3, h4, h5⟩ := e a w ι _ _ I.junk (val_ok I l) (val_ok I c); ⟨v, w', av, h', n', ι', h1, h2, I.unjunk h3 h5, h4⟩)
  · rename_i f xs tys
    split at e
    · rename_i g first cap hf
      exact call_ok (K := K) rfl hf (by rw [List.append_assoc]; exact e)
    · exact e.elim
  · exact bi_ok (K := K) rfl e
  · exact bi_ok (K := K) rfl e
  · exact bi_ok (K := K) rfl e
  · obtain ⟨v, h1, h2⟩ := optK_ok (K := fun v => K v h n) e
    exact AOp.of_sop (K := K) h1 h2

/-! ### lists of operations -/
def dstsB (N : Nat) (l : List Oper) : Bool := l.all fun o => match o.dst with | some d => decide (d < N) | none => true

/-- what an operation yields that is not carried out -/
def undA : AV := .one (.p (.v (.tuple #[])))

def evOps (P : Program) (C : Ctx) (E : Exit → St → Prop) : List Oper → List (Option Tmp) → (Nat → AV) → Heap → Nat → ((Nat → AV) → Heap → Nat → Prop) → Prop
  | [], _, t, h, n, K => K t h n
  | o :: os, pre, t, h, n, K => match o.guard with
    | none => aop P C o t h n E fun v h' n' => evOps P C E os (pre ++ [o.dst]) (putT t o.dst v) h' n' K
    | some (j, want) => match pre[j]? with
      | some (some d) => match t d with
        | .one (.p (.v (.bool g))) => (g = want → aop P C o t h n E fun v h' n' => evOps P C E os (pre ++ [o.dst]) (putT t o.dst v) h' n' K) ∧
            (g = !want → evOps P C E os (pre ++ [o.dst]) (putT t o.dst undA) h n K)
        | .one (.p (.v (.tuple _))) => evOps P C E os (pre ++ [o.dst]) (putT t o.dst undA) h n K
        | _ => False
      | _ => False

/-- a region's operations, one behind the other -/
def wpL (P : Program) (ops : Array Oper) (Q : Exit → Act → World → Prop) : List Oper → Act → World → Prop
  | [], a, w => Q .normal a w
  | o :: rest, a, w => if Region.wanted o (yielded ops a.tmps) then o.wp P a w (wpL P ops Q rest) Q else wpL P ops Q rest (a.put o.dst undef) w
theorem wpL_nil {P : Program} {ops : Array Oper} {Q : Exit → Act → World → Prop} {a : Act} {w : World} (h : Q .normal a w) : wpL P ops Q [] a w := h
theorem wpL_step {P : Program} {ops : Array Oper} {Q : Exit → Act → World → Prop} {a : Act} {w : World} {rest : List Oper} {o : Oper}
    (h : ∀ K : Act → World → Prop, (∀ a w, wpL P ops Q rest a w → K a w) → if Region.wanted o (yielded ops a.tmps) then o.wp P a w K Q else K (a.put o.dst undef) w) : wpL P ops Q (o :: rest) a w := h _ (fun _ _ h => h)
theorem wpL_plain {P : Program} {ops : Array Oper} {Q : Exit → Act → World → Prop} {a : Act} {w : World} {rest : List Oper} {o : Oper} (hg : o.guard = none)
    (h : ∀ K : Act → World → Prop, (∀ a w, wpL P ops Q rest a w → K a w) → o.wp P a w K Q) : wpL P ops Q (o :: rest) a w :=
  wpL_step fun K hK => by simp only [Region.wanted, hg, if_true]; exact h K hK

theorem evOps_ok {P : Program} {C : Ctx} {E : Exit → St → Prop} {ops : Array Oper} {Q : Exit → Act → World → Prop} (hQ : ∀ e s' ι' a' w', E e s' → Inv C ι' s' a' w' → Q e a' w')
    (hN : dstsB C.N ops.toList = true) (K : (Nat → AV) → Heap → Nat → Prop) (hK : ∀ t h n ι a w, K t h n → Inv C ι ⟨t, h, n⟩ a w → Q .normal a w) :
    ∀ (l : List Oper) (pre : List (Option Tmp)) (t : Nat → AV) (h : Heap) (n : Nat), l = ops.toList.drop pre.length → pre = (ops.toList.take pre.length).map (·.dst) → evOps P C E l pre t h n K →
      ∀ a w ι, Inv C ι ⟨t, h, n⟩ a w → wpL P ops Q l a w := by
  intro l
  induction l with
  | nil =>
    intro pre t h n _ _ e a w ι I
    exact wpL_nil (hK t h n ι a w e I)
  | cons o os ih =>
    intro pre t h n hl hpre e a w ι I
    have hk : ops.toList[pre.length]? = some o := by
      have : (ops.toList.drop pre.length)[0]? = some o := by rw [← hl]; rfl
      simpa using this
    have hmem : o ∈ ops.toList := List.mem_of_getElem? hk
    have hd : dstOK C.N o.dst := by
      have := List.all_eq_true.1 hN o hmem
      unfold dstOK
      cases hdd : o.dst with
      | none => trivial
      | some d => rw [hdd] at this; simpa using this
    have hl' : os = ops.toList.drop (pre ++ [o.dst]).length := by
      have : (ops.toList.drop pre.length).drop 1 = os := by rw [← hl]; rfl
      rw [← this]; simp
    have hpre' : pre ++ [o.dst] = (ops.toList.take (pre ++ [o.dst]).length).map (·.dst) := by
      have hlt : pre.length < ops.toList.length := (List.getElem?_eq_some_iff.1 hk).1
      have h1 : ops.toList.take (pre.length + 1) = ops.toList.take pre.length ++ [o] := by
        rw [List.take_add_one, hk]; rfl
      rw [List.length_append, List.length_singleton, h1, List.map_append, ← hpre]
      rfl
    have go : aop P C o t h n E (fun v h' n' => evOps P C E os (pre ++ [o.dst]) (putT t o.dst v) h' n' K) → ∀ K' : Act → World → Prop, (∀ a w, wpL P ops Q os a w → K' a w) → o.wp P a w K' Q := by
      intro e' K' hK'
      refine aop_ok e' a w ι I K' Q hQ (fun v av h' n' ι' w' hk' I' hv => hK' _ _ ?_)
      exact ih (pre ++ [o.dst]) _ h' n' hl' hpre' hk' _ _ ι' (I'.put hd hv)
    unfold evOps at e
    split at e
    · rename_i hg
      exact wpL_plain hg (go e)
    · rename_i j want hg
      split at e
      · rename_i d hj
        split at e
        · rename_i g ht
          have hjl : j < pre.length := (List.getElem?_eq_some_iff.1 hj).1
          have hops : (ops[j]?).bind (·.dst) = some d := by
            rw [hpre] at hj
            simp only [List.getElem?_map, List.getElem?_take] at hj
            rw [if_pos hjl] at hj
            have h2 : ops.toList[j]? = ops[j]? := by simp
            rw [h2] at hj
            cases hh : ops[j]? with
            | none => rw [hh] at hj; simp at hj
            | some oj => rw [hh] at hj; simpa using hj
          have hd2 : d < C.N := by
            cases hh : ops[j]? with
            | none => rw [hh] at hops; simp at hops
            | some oj =>
              rw [hh] at hops
              have hm : oj ∈ ops.toList := List.mem_of_getElem? (i := j) (by simpa using hh)
              have := List.all_eq_true.1 hN oj hm
              simp only [Option.bind_some] at hops
              rw [hops] at this
              simpa using this
          have hy : yielded ops a.tmps j = some g := by
            have hr := I.tmps d
            simp only [ht] at hr
            have hv := rav_v_inv hr
            have hlt : d < a.tmps.size := by rw [I.ntmps]; exact hd2
            have : a.tmps[d]? = some (.bool g) := by
              have h2 : a.tmps.getD d undef = a.tmps[d] := by simp [Array.getD, hlt]
              rw [Array.getElem?_eq_getElem hlt, ← h2]
              exact congrArg some hv
            unfold yielded
            rw [hops]
            simp only [Option.bind_some, this]
          refine wpL_step (fun K' hK' => ?_)
          have hw : Region.wanted o (yielded ops a.tmps) = (g == want) := by
            unfold Region.wanted
            rw [hg]
            show (yielded ops a.tmps j == some want) = (g == want)
            rw [hy]
            cases g <;> cases want <;> rfl
          rw [hw]
          by_cases hgw : g = want
          · rw [if_pos (by simpa using hgw)]
            exact go (e.1 hgw) K' hK'
          · rw [if_neg (by simpa using hgw)]
            refine hK' _ _ (ih (pre ++ [o.dst]) _ h n hl' hpre' (e.2 (by cases g <;> cases want <;> first | rfl | exact absurd rfl hgw)) _ _ ι (Inv.put I hd (rav_v undef)))
        · rename_i xs ht
          have hjl : j < pre.length := (List.getElem?_eq_some_iff.1 hj).1
          have hops : (ops[j]?).bind (·.dst) = some d := by
            rw [hpre] at hj
            simp only [List.getElem?_map, List.getElem?_take] at hj
            rw [if_pos hjl] at hj
            have h2 : ops.toList[j]? = ops[j]? := by simp
            rw [h2] at hj
            cases hh : ops[j]? with
            | none => rw [hh] at hj; simp at hj
            | some oj => rw [hh] at hj; simpa using hj
          have hd2 : d < C.N := by
            cases hh : ops[j]? with
            | none => rw [hh] at hops; simp at hops
            | some oj =>
              rw [hh] at hops
              have hm : oj ∈ ops.toList := List.mem_of_getElem? (i := j) (by simpa using hh)
              have := List.all_eq_true.1 hN oj hm
              simp only [Option.bind_some] at hops
              rw [hops] at this
              simpa using this
          have hy : yielded ops a.tmps j = none := by
            have hr := I.tmps d
            simp only [ht] at hr
            have hv := rav_v_inv hr
            have hlt : d < a.tmps.size := by rw [I.ntmps]; exact hd2
            have : a.tmps[d]? = some (.tuple xs) := by
              have h2 : a.tmps.getD d undef = a.tmps[d] := by simp [Array.getD, hlt]
              rw [Array.getElem?_eq_getElem hlt, ← h2]
              exact congrArg some hv
            unfold yielded
            rw [hops]
            simp only [Option.bind_some, this]
          refine wpL_step (fun K' hK' => ?_)
          have hw : Region.wanted o (yielded ops a.tmps) = false := by
            unfold Region.wanted
            rw [hg]
            show (yielded ops a.tmps j == some want) = false
            rw [hy]
            rfl
          rw [hw, if_neg (by simp)]
          exact hK' _ _ (ih (pre ++ [o.dst]) _ h n hl' hpre' e _ _ ι (Inv.put I hd (rav_v undef)))
        · exact e.elim
      · exact e.elim

def regOps : Code → Array Oper
  | .region _ ops _ => ops
  | _ => #[]

def plainB (l : List Oper) : Bool := l.all fun o => match o.op with | .defer _ => false | _ => true
def regB (N : Nat) (l : List Oper) : Bool := dstsB N l && plainB l

theorem Oper.wp_in {P : Program} {C : Ctx} {o : Oper} {a : Act} {w : World} {next next' : Act → World → Prop} {Q : Exit → Act → World → Prop} (hp : ∀ c, o.op ≠ .defer c) (hn : ∀ a w, next a w → next' a w) (h : o.wp P a w next Q) : o.wpIn C.F 0 P a w next' Q := by
  refine ⟨fun f _ => C.F_fn f, ?_⟩
  rw [Oper.semAt_eq _ _ _ hp]
  unfold Oper.wp at h
  revert h
  cases hr : (execOp a.eval o).run P w with
  | ok x w' =>
    intro h
    cases x with
    | value v => exact hn _ _ h
    | skip => exact hn _ _ h
    | defer d => exact hn _ _ h
    | enter f args =>
      refine ⟨fun hh => (by cases hh), ?_⟩
      have h1 : CallsIn Fence.wide 0 P f args w' _ := callsIn_wide.2 h
      have h2 : CallsIn C.F 0 P f args w' _ := h1
      exact h2.mono fun e w'' q => by cases e <;> first | exact hn _ _ q | exact q
    | row r args =>
      refine ⟨fun hh => (by cases hh), fun c cs _ => ?_⟩
      obtain ⟨v, w'', q, st⟩ := h c cs
      exact ⟨v, w'', hn _ _ q, (StepsIn.of_steps st).mono fun m _ => fenced_wide P m⟩
    | _ => exact h.elim
  | halt x w' =>
    intro h
    cases x <;> first | exact h | exact h.elim

theorem wpL_in {P : Program} {C : Ctx} {ops : Array Oper} {Q : Exit → Act → World → Prop} : ∀ (l : List Oper) (a : Act) (w : World), plainB l = true → wpL P ops Q l a w → wpListIn C.F 0 P ops Q l a w
  | [], _, _, _, h => h
  | o :: os, a, w, hp, h => by
    simp only [plainB, List.all_cons, Bool.and_eq_true] at hp
    unfold wpL at h
    unfold wpListIn
    split
    · rename_i hw
      rw [if_pos hw] at h
      exact Oper.wp_in (fun c e => by rw [e] at hp; exact absurd (show false = true from hp.1) (by decide)) (fun a w => wpL_in os a w hp.2) h
    · rename_i hw
      rw [if_neg hw] at h
      exact ⟨fun f _ => C.F_fn f, wpL_in os _ w hp.2 h⟩

theorem AWP.region {P : Program} {C : Ctx} {Q : Exit → St → Prop} {s : St} {id : Nat} {ops : Array Oper} (hN : regB C.N ops.toList = true)
    (e : evOps P C Q ops.toList [] s.t s.h s.n (fun t h n => Q .normal ⟨t, h, n⟩)) : AWP P C (.region id ops false) Q s := by
  simp only [regB, Bool.and_eq_true] at hN
  intro a w ι I
  exact wpIn_region_list (wpL_in _ _ _ hN.2 (evOps_ok (Q := PostQ C Q) (fun _ s' ι' _ _ he I' => .inl ⟨s', ι', he, I'⟩) hN.1 _ (fun _ _ _ ι' _ _ hk I' => .inl ⟨_, ι', hk, I'⟩)
    ops.toList [] s.t s.h s.n rfl rfl e a w ι I))

/-! ### how a body ends -/
/-- what becomes of what is returned: own rows are read only, from now on -/
def frzC (h : Heap) (b : Nat) (c d : Cell) : Prop :=
  (c = d ∧ lowC b c = true) ∨ (∃ sz, c = .p (.v (.slice none 0 0)) ∧ d = .p (.sl sz [])) ∨
  (∃ id ver off len cap sz es blk, c = .win id ver off len cap ∧ d = .p (.sl sz es) ∧ b ≤ id ∧ h id = some blk ∧ blk.ver = ver ∧ es.length = len ∧
    (∀ e ∈ es, e.length = sz) ∧ (∀ (i : Nat) (e : List PD), es[i]? = some e → ∀ (j : Nat) (x : PD), e[j]? = some x → blk.cells[off + (i * sz + j)]? = some (.p x)))

inductive frzV (h : Heap) (b : Nat) : AV → AV → Prop
  | one {c d : Cell} (hc : frzC h b c d) : frzV h b (.one c) (.one d)
  | agg {cs ds : List Cell} (hl : ds.length = cs.length) (hc : ∀ (i : Nat) (c d : Cell), cs[i]? = some c → ds[i]? = some d → frzC h b c d) : frzV h b (.agg cs) (.agg ds)
  | tup {cs ds : List AV} (hl : ds.length = cs.length) (hc : ∀ (i : Nat) (c d : AV), cs[i]? = some c → ds[i]? = some d → frzV h b c d) : frzV h b (.tup cs) (.tup ds)

/-- the heap below b -/
def lowH (b : Nat) (h : Heap) : Heap := fun i => if i < b then h i else none

theorem lowH_some {b : Nat} {h : Heap} {i : Nat} {blk : Blk} (e : lowH b h i = some blk) : i < b ∧ h i = some blk := by
  unfold lowH at e
  split at e
  · exact ⟨by assumption, e⟩
  · cases e

theorem RCell.low {ι : Nat → Nat} {h : Heap} {bd : Nat} {w : World} {b : Nat} {c : Cell} {v : Value} (r : RCell ι h bd w c v) (hl : lowC b c = true) : RCell ι (lowH b h) b w c v := by
  have hst : ∀ x, stab ι h x → stab ι (lowH b h) x := fun x s id blk e ne => s id blk (lowH_some e).2 ne
  induction r with
  | p hd => exact .p (hd.mono (fun x s _ => hst x s) (fun _ _ _ => rfl))
  | junk v => exact .junk v
  | @ptr id ver off v hid hver hv =>
    simp only [lowC, decide_eq_true_eq] at hl
    exact .ptr hl (fun blk e => hver blk (lowH_some e).2) (fun blk e => hv blk (lowH_some e).2)
  | @ro cs A U hs hc =>
    refine .ro A U hs (fun j d hd => ?_)
    obtain ⟨h1, h2, h3⟩ := hc j d hd
    exact ⟨hst _ h1, h2, h3.mono (fun x s _ => hst x s) (fun _ _ _ => rfl)⟩
  | @win id ver off len cap v hid hver hv =>
    simp only [lowC, decide_eq_true_eq] at hl
    exact .win hl (fun blk e => hver blk (lowH_some e).2) (fun blk e => hv blk (lowH_some e).2)
  | clo F C' hF hC h1 h2 ih1 ih2 =>
    simp only [lowC, Bool.and_eq_true] at hl
    exact .clo F C' hF hC (fun i c u hc hu => ih1 i c u hc hu (lowCs_mem hl.1 c (List.mem_of_getElem? hc))) (fun i c u hc hu => ih2 i c u hc hu (lowCs_mem hl.2 c (List.mem_of_getElem? hc)))

theorem frzC_ok {ι : Nat → Nat} {h : Heap} {bd : Nat} {w : World} {b : Nat} {c d : Cell} {v : Value} (H : HeapOK ι h bd w) (r : RCell ι h bd w c v) (f : frzC h b c d) : RCell ι (lowH b h) b w d v := by
  rcases f with ⟨rfl, hl⟩ | ⟨sz, rfl, rfl⟩ | ⟨id, ver, off, len, cap, sz, es, blk, rfl, rfl, hb, hblk, hver, hlen, hsz, hcells⟩
  · exact r.low hl
  · cases r with
    | p hd => cases hd with
      | v =>
        have := RPD.sl (S := stab ι (lowH b h)) (w := w) (sz := sz) (es := []) none 0 (fun _ _ => undef) (Nat.le_refl _) (fun _ => rfl) (fun _ e => by cases e) (fun _ e => by cases e) (fun _ _ e => by simp at e) (fun _ _ e => by simp at e)
        exact .p this
  · cases r with
    | win hid hver' hv =>
      obtain ⟨hlc, hX⟩ := hv blk hblk hver
      have hst : ∀ x, stab ι h x → stab ι (lowH b h) x := fun x s id blk e ne => s id blk (lowH_some e).2 ne
      rcases hX with rfl | ⟨rfl, rfl, rfl⟩
      · by_cases hne : blk.cells = []
        · have := RPD.sl (S := stab ι (lowH b h)) (w := w) (sz := sz) (es := es) (some ⟨ι id, off, none⟩) cap (fun _ _ => undef) (by omega) (fun hn => by cases hn) (fun A hA => by injection hA with hA; subst hA; exact .inr rfl) hsz
            (fun i e he j x hx => by have := hcells i e he j x hx; rw [hne] at this; simp at this) (fun i e he j x hx => by have := hcells i e he j x hx; rw [hne] at this; simp at this)
          rw [hlen] at this
          exact .p this
        · obtain ⟨c, ty, g1, g2, g3⟩ := H.blk id blk hblk hne
          have hself : stab ι (lowH b h) (ι id) := by
            intro id' blk' e ne heq
            obtain ⟨hlt, e'⟩ := lowH_some e
            have := H.inj id' id blk' blk e' hblk ne hne heq
            omega
          have := RPD.sl (S := stab ι (lowH b h)) (w := w) (sz := sz) (es := es) (some ⟨ι id, off, none⟩) cap (fun i j => c.getD (off + (i * sz + j)) undef) (by omega) (fun hn => by cases hn) (fun A hA => by injection hA with hA; subst hA; exact .inr rfl) hsz
            (fun i e he j x hx => by
              have hx' := hcells i e he j x hx
              have hlt : off + (i * sz + j) < c.size := by rw [g2]; exact (List.getElem?_eq_some_iff.1 hx').1
              refine ⟨_, rfl, hself, ?_⟩
              simp [World.cell?, g1, Array.getD, hlt])
            (fun i e he j x hx => by
              have hx' := hcells i e he j x hx
              have hlt : off + (i * sz + j) < c.size := by rw [g2]; exact (List.getElem?_eq_some_iff.1 hx').1
              have hr := g3 _ _ _ hx' (Array.getElem?_eq_getElem hlt)
              cases hr with
              | p hd =>
                have e1 : c.getD (off + (i * sz + j)) undef = c[off + (i * sz + j)] := by simp [Array.getD, hlt]
                rw [e1]
                exact hd.mono (fun x s _ => hst x s) (fun _ _ _ => rfl))
          rw [hlen] at this
          exact .p this
      · have hes : es = [] := List.eq_nil_of_length_eq_zero hlen
        subst hes
        have := RPD.sl (S := stab ι (lowH b h)) (w := w) (sz := sz) (es := []) none 0 (fun _ _ => undef) (Nat.le_refl _) (fun _ => rfl) (fun _ e => by cases e) (fun _ e => by cases e) (fun _ _ e => by simp at e) (fun _ _ e => by simp at e)
        exact .p this

theorem frzV_ok {ι : Nat → Nat} {h : Heap} {bd : Nat} {w : World} {b : Nat} {c d : AV} {v : Value} (H : HeapOK ι h bd w) (f : frzV h b c d) (r : RAV ι h bd w c v) : RAV ι (lowH b h) b w d v := by
  induction f generalizing v with
  | one hc => cases r with | one hr => exact .one (frzC_ok H hr hc)
  | @agg cs ds hl hc =>
    cases r with
    | agg V hV hv =>
      refine .agg V (hV.trans hl.symm) (fun i d u hd hu => ?_)
      have hlt : i < cs.length := by rw [← hl]; exact (List.getElem?_eq_some_iff.1 hd).1
      exact frzC_ok H (hv i _ u (List.getElem?_eq_getElem hlt) hu) (hc i _ d (List.getElem?_eq_getElem hlt) hd)
  | @tup cs ds hl hc ih =>
    cases r with
    | tup V hV hv =>
      refine .tup V (hV.trans hl.symm) (fun i d u hd hu => ?_)
      have hlt : i < cs.length := by rw [← hl]; exact (List.getElem?_eq_some_iff.1 hd).1
      exact ih i _ d (List.getElem?_eq_getElem hlt) hd (hv i _ u (List.getElem?_eq_getElem hlt) hu)

theorem HeapOK.low {ι : Nat → Nat} {h : Heap} {bd : Nat} {w : World} {b : Nat} (H : HeapOK ι h bd w) (hl : ∀ id, id < b → ∀ blk, h id = some blk → ∀ c ∈ blk.cells, lowC b c = true) : HeapOK ι (lowH b h) b w := by
  refine ⟨fun id blk e ne => ?_, fun i j bi bj hi hj => H.inj i j bi bj (lowH_some hi).2 (lowH_some hj).2⟩
  obtain ⟨hlt, e'⟩ := lowH_some e
  obtain ⟨c, ty, h1, h2, h3⟩ := H.blk id blk e' ne
  exact ⟨c, ty, h1, h2, fun j d u hd hu => (h3 j d u hd hu).low (hl id hlt blk e' d (List.mem_of_getElem? hd))⟩

theorem RCell.lowOf {ι : Nat → Nat} {h : Heap} {bd : Nat} {w : World} {c : Cell} {v : Value} (r : RCell ι h bd w c v) : lowC bd c = true := by
  induction r with
  | p | junk | ro => rfl
  | ptr hid | win hid => simp only [lowC, decide_eq_true_eq]; exact hid
  | clo F C hF hC h1 h2 ih1 ih2 =>
    simp only [lowC, Bool.and_eq_true]
    refine ⟨lowCs_of fun c hc => ?_, lowCs_of fun c hc => ?_⟩
    · obtain ⟨i, hi⟩ := List.mem_iff_getElem?.1 hc
      have hlt : i < F.length := by rw [hF]; exact (List.getElem?_eq_some_iff.1 hi).1
      exact ih1 i c _ hi (List.getElem?_eq_getElem hlt)
    · obtain ⟨i, hi⟩ := List.mem_iff_getElem?.1 hc
      have hlt : i < C.length := by rw [hC]; exact (List.getElem?_eq_some_iff.1 hi).1
      exact ih2 i c _ hi (List.getElem?_eq_getElem hlt)

/-- the outer heap as it was: its cells are low -/
theorem HeapOK.lowCells {ι : Nat → Nat} {h : Heap} {b : Nat} {w : World} (H : HeapOK ι h b w) : ∀ id blk, h id = some blk → ∀ c ∈ blk.cells, lowC b c = true := by
  intro id blk e c hc
  have ne : blk.cells ≠ [] := by intro hh; rw [hh] at hc; cases hc
  obtain ⟨V, ty, h1, h2, h3⟩ := H.blk id blk e ne
  obtain ⟨i, hi⟩ := List.mem_iff_getElem?.1 hc
  have hlt : i < V.size := by rw [h2]; exact (List.getElem?_eq_some_iff.1 hi).1
  exact (h3 i c _ hi (Array.getElem?_eq_getElem hlt)).lowOf

def resV (P : Program) (h : Heap) (t : Nat → AV) : ResultVar → Option AV
  | .tmp i => some (t i)
  | .cell a ty => ldA P ty h (t a)

def resL (P : Program) (h : Heap) (t : Nat → AV) : List ResultVar → Option (List AV)
  | [] => some []
  | r :: rs => match resV P h t r with
    | some v => match resL P h t rs with
      | some vs => some (v :: vs)
      | none => none
    | none => none

def resA (P : Program) (h : Heap) (t : Nat → AV) (rs : List ResultVar) : Option AV :=
  match resL P h t rs with
  | some [v] => some v
  | some vs => some (.tup vs)
  | none => none

theorem ld_addr {P : Program} {ι : Nat → Nat} {h : Heap} {bd : Nat} {w : World} (H : HeapOK ι h bd w) {t : TypeId} {x av : AV} {X : Value} (r : RAV ι h bd w x X) (e : ldA P t h x = some av) :
    ∃ v, (do loadVar t (← asAddr X) : Sem Value).run P w = .ok v w ∧ RAV ι h bd w av v := by
  obtain ⟨v, h1, h2⟩ := ld_ok (P := P) H r e
  refine ⟨v, ?_, h2⟩
  have : ∃ A, X = .pointer (some A) := by
    unfold ldA at e
    split at e
    · rename_i id ver off
      split at e
      · rename_i b hb
        split at e
        · rename_i hv; exact ⟨_, ptr_inv r hb hv⟩
        · cases e
      · cases e
    · obtain ⟨A, U, hX, _⟩ := ro_inv r; exact ⟨A, hX⟩
    · cases e
  obtain ⟨A, rfl⟩ := this
  simpa [Instr.loadAt, Instr.sureAddr, asAddr] using h1

def resFn (tmps : Array Value) : ResultVar → Sem Value
  | .tmp t => pure (tmps.getD t undef)
  | .cell x t => do loadVar t (← asAddr (tmps.getD x undef))

theorem results_eq (fn : Func) (tmps : Array Value) : results fn tmps = (do let vs ← fn.results.mapM (resFn tmps); pure (if h : vs.size = 1 then vs[0] else .tuple vs)) := by
  have e : resFn tmps = (fun r => match r with | .tmp t => pure (tmps.getD t undef) | .cell x t => do loadVar t (← asAddr (tmps.getD x undef))) := by
    funext r
    cases r <;> rfl
  rw [e]
  rfl

theorem resL_ok {P : Program} {C : Ctx} {ι : Nat → Nat} {s : St} {a : Act} {w : World} (I : Inv C ι s a w) : ∀ (rs : List ResultVar) (vs : List AV), resL P s.h s.t rs = some vs →
    ∃ V : List Value, (rs.mapM (resFn a.tmps)).run P w = .ok V w ∧ RAVs ι s.h (C.b + s.n) w vs V
  | [], vs, e => by injection e with e; subst e; exact ⟨[], rfl, rfl, fun _ _ _ hh => by simp at hh⟩
  | r :: rs, vs, e => by
    unfold resL at e
    split at e
    · rename_i v hv
      split at e
      · rename_i vs' hvs
        injection e with e
        subst e
        obtain ⟨V, h1, h2⟩ := resL_ok I rs vs' hvs
        have hone : ∃ u, (resFn a.tmps r).run P w = .ok u w ∧ RAV ι s.h (C.b + s.n) w v u := by
          cases r with
          | tmp i => injection hv with hv; subst hv; exact ⟨_, rfl, I.tmps i⟩
          | cell x ty => exact ld_addr I.heap (I.tmps x) hv
        obtain ⟨u, g1, g2⟩ := hone
        refine ⟨u :: V, ?_, ⟨by simp [h2.1], fun i c u' hc hu => ?_⟩⟩
        · rw [List.mapM_cons]
          simp only [Sem.run_bind, g1, Result.andThen, h1, Sem.run_pure]
        · cases i with
          | zero => simp at hc hu; subst hc; subst hu; exact g2
          | succ i => exact h2.2 i c u' (by simpa using hc) (by simpa using hu)
      · cases e
    · cases e

theorem res_ok {P : Program} {C : Ctx} {ι : Nat → Nat} {s : St} {a : Act} {w : World} (I : Inv C ι s a w) {fn : Func} {av : AV} (e : resA P s.h s.t fn.results.toList = some av) :
    ∃ v, (results fn a.tmps).run P w = .ok v w ∧ RAV ι s.h (C.b + s.n) w av v := by
  unfold resA at e
  have main : ∀ vs, resL P s.h s.t fn.results.toList = some vs → ∃ V : List Value, (results fn a.tmps).run P w = .ok (if h : V.toArray.size = 1 then V.toArray[0] else .tuple V.toArray) w ∧ RAVs ι s.h (C.b + s.n) w vs V := by
    intro vs hvs
    obtain ⟨V, h1, h2⟩ := resL_ok I _ vs hvs
    refine ⟨V, ?_, h2⟩
    rw [results_eq, Array.mapM_eq_mapM_toList]
    simp only [Sem.run_bind, Sem.run_map, Result.andThen]
    rw [h1]
    rfl
  split at e
  · rename_i v hv
    injection e with e
    subst e
    obtain ⟨V, h1, h2⟩ := main _ hv
    obtain ⟨hl, hr⟩ := h2
    match V, hl with
    | [u], _ => exact ⟨u, h1, hr 0 _ u rfl rfl⟩
  · rename_i vs hne hv
    injection e with e
    subst e
    obtain ⟨V, h1, h2⟩ := main _ hv
    refine ⟨.tuple V.toArray, ?_, .tup V h2.1 h2.2⟩
    rw [h1]
    have : ¬ V.toArray.size = 1 := by
      intro h
      have hl := h2.1
      have : vs.length = 1 := by rw [← hl]; simpa using h
      match vs, this with
      | [x], _ => exact hne x rfl
    rw [dif_neg this]
  · cases e

/-- a body ends: what is returned, and the outer blocks, are low -/
theorem Ends.low {P : Program} {C : Ctx} {fn : Func} {R : AV → Heap → Prop} {s : St} {r0 r : AV} (hr : resA P s.h s.t fn.results.toList = some r0) (hf : frzV s.h C.b r0 r)
    (hl : ∀ id, id < C.b → ∀ blk, s.h id = some blk → ∀ c ∈ blk.cells, lowC C.b c = true) (hR : R r (lowH C.b s.h)) : Ends P C fn 0 R s := by
  intro a w ι I
  obtain ⟨v, h1, h2⟩ := res_ok (P := P) I hr
  refine ⟨v, r, lowH C.b s.h, ι, h1, hR, ⟨fun id hid b' e => I.outer id hid b' (lowH_some e).2, fun id hid b' e => ?_, fun id hid => ?_, I.heap.low hl, I.keeps⟩, frzV_ok I.heap hf h2⟩
  · have := (lowH_some e).1; omega
  · unfold lowH; rw [if_neg (by omega)]

theorem lowH_eq {b : Nat} {h h0 : Heap} (e : ∀ id, id < b → h id = h0 id) (n : ∀ id, b ≤ id → h0 id = none) : lowH b h = h0 := by
  funext id
  unfold lowH
  split
  · exact e id (by assumption)
  · rw [n id (by omega)]

theorem Ends.pure {P : Program} {C : Ctx} {fn : Func} {R : AV → Heap → Prop} {s : St} {r0 r : AV} (hn : ∀ id, C.b ≤ id → C.h id = none) (H : HeapOK C.ι C.h C.b C.w) (he : ∀ id, id < C.b → s.h id = C.h id)
    (hr : resA P s.h s.t fn.results.toList = some r0) (hf : frzV s.h C.b r0 r) (hR : R r C.h) : Ends P C fn 0 R s :=
  .low hr hf (fun id hid blk e => H.lowCells id blk (by rw [← he id hid]; exact e)) (by rw [lowH_eq he hn]; exact hR)

theorem lowEq_upd {b : Nat} {h h0 : Heap} {j : Nat} {x : Blk} (hj : b ≤ j) (e : ∀ id, id < b → h id = h0 id) : ∀ id, id < b → upd h j x id = h0 id :=
  fun id hid => by rw [upd_ne _ _ _ _ (by omega)]; exact e id hid

theorem frzV.v {h : Heap} {b : Nat} (x : Value) : frzV h b (.one (.p (.v x))) (.one (.p (.v x))) := .one (.inl ⟨rfl, rfl⟩)
theorem frzV.p {h : Heap} {b : Nat} (d : PD) : frzV h b (.one (.p d)) (.one (.p d)) := .one (.inl ⟨rfl, rfl⟩)

end Go.Proofs.YtengjcdilnikhaaDoor.Am
