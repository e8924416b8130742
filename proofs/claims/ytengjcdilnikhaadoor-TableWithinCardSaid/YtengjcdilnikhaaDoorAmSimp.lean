/-
  The abstract machine: what the evaluator's steps are simplified by.
-/
import Derived.Test.YtengjcdilnikhaaDoorAmEv
namespace Go.Proofs.YtengjcdilnikhaaDoor.Am
set_option linter.unusedSimpArgs false
set_option linter.unusedVariables false
set_option linter.unnecessarySimpa false
open Go

theorem updT_lit (t : Nat → AV) (d i : Nat) (v : AV) : updT t d v i = if i = d then v else t i := rfl
theorem putT_some (t : Nat → AV) (d : Nat) (v : AV) : putT t (some d) v = updT t d v := rfl
theorem putT_none (t : Nat → AV) (v : AV) : putT t none v = t := rfl
theorem upd_lit (h : Heap) (d i : Nat) (v : Blk) : upd h d v i = if i = d then some v else h i := rfl
theorem argsT_zero (x : AV) (xs : List AV) : argsT (x :: xs) 0 = x := rfl
theorem argsT_succ (x : AV) (xs : List AV) (n : Nat) : argsT (x :: xs) (n + 1) = argsT xs n := rfl
theorem argsT_nil (n : Nat) : argsT [] n = .one .junk := rfl

/-! ### one step, its way on in first-order words (nothing stands under a binder) -/
section
variable (P : Program) (C : Ctx) (E : Exit → St → Prop)
abbrev FinT := (Nat → AV) → Heap → Nat → Prop
abbrev bare (op : Op) : Oper := ⟨none, op, 0, "", #[], none⟩

/-- on with a value -/
def kV (x : Option AV) (dst : Option Tmp) (os : List Oper) (pre : List (Option Tmp)) (t : Nat → AV) (h : Heap) (n : Nat) (K : FinT) : Prop :=
  optK x fun v => evOps P C E os (pre ++ [dst]) (putT t dst v) h n K
/-- a truth value is parted -/
def kS (x : AV) (dst : Option Tmp) (os : List Oper) (pre : List (Option Tmp)) (t : Nat → AV) (h : Heap) (n : Nat) (K : FinT) : Prop :=
  splitB x fun v => evOps P C E os (pre ++ [dst]) (putT t dst v) h n K
/-- an equality -/
def kE (x : Option AV) (op : BinOp) (ty : TypeId) (ox oy : Operand) (a b : AV) (dst : Option Tmp) (os : List Oper) (pre : List (Option Tmp)) (t : Nat → AV) (h : Heap) (n : Nat) (K : FinT) : Prop :=
  match x with
  | some v => evOps P C E os (pre ++ [dst]) (putT t dst v) h n K
  | none => EqlK P C op ty ox oy a b h n fun v h' n' => evOps P C E os (pre ++ [dst]) (putT t dst v) h' n' K
def EqlR (op : BinOp) (ty : TypeId) (ox oy : Operand) (a b : AV) (dst : Option Tmp) (os : List Oper) (pre : List (Option Tmp)) (t : Nat → AV) (h : Heap) (n : Nat) (K : FinT) : Prop :=
  EqlK P C op ty ox oy a b h n fun v h' n' => evOps P C E os (pre ++ [dst]) (putT t dst v) h' n' K
/-- a new block -/
def kL (x : Option (List Cell)) (v : AV) (dst : Option Tmp) (os : List Oper) (pre : List (Option Tmp)) (t : Nat → AV) (h : Heap) (n : Nat) (K : FinT) : Prop :=
  match x with
  | some cs => evOps P C E os (pre ++ [dst]) (putT t dst v) (upd h (C.b + n) ⟨0, cs⟩) (n + 1) K
  | none => False
/-- on with a heap -/
def kH (x : Option Heap) (dst : Option Tmp) (os : List Oper) (pre : List (Option Tmp)) (t : Nat → AV) (n : Nat) (K : FinT) : Prop :=
  match x with
  | some h => evOps P C E os (pre ++ [dst]) (putT t dst (.one .junk)) h n K
  | none => False
def CallR (g : FuncId) (args : List AV) (dst : Option Tmp) (os : List Oper) (pre : List (Option Tmp)) (t : Nat → AV) (h : Heap) (n : Nat) (K : FinT) : Prop :=
  CallK P C g args h n fun v h' n' => evOps P C E os (pre ++ [dst]) (putT t dst v) h' n' K
def kC (f : AV) (args : List AV) (dst : Option Tmp) (os : List Oper) (pre : List (Option Tmp)) (t : Nat → AV) (h : Heap) (n : Nat) (K : FinT) : Prop :=
  match f with
  | .one (.clo (.func g) first cap) => CallR P C E g (first.map .one ++ (args ++ cap.map .one)) dst os pre t h n K
  | _ => False
def BiR (b : Builtin) (tys : List TypeId) (args : List AV) (dst : Option Tmp) (os : List Oper) (pre : List (Option Tmp)) (t : Nat → AV) (h : Heap) (n : Nat) (K : FinT) : Prop :=
  BiK P C b tys args h n fun v h' n' => evOps P C E os (pre ++ [dst]) (putT t dst v) h' n' K
def MkR (ty : TypeId) (x y : AV) (dst : Option Tmp) (os : List Oper) (pre : List (Option Tmp)) (t : Nat → AV) (h : Heap) (n : Nat) (K : FinT) : Prop :=
  MkK P C ty x y h n fun v h' n' => evOps P C E os (pre ++ [dst]) (putT t dst v) h' n' K
def step (op : Op) (dst : Option Tmp) (os : List Oper) (pre : List (Option Tmp)) (t : Nat → AV) (h : Heap) (n : Nat) (K : FinT) : Prop :=
  aop P C (bare op) t h n E fun v h' n' => evOps P C E os (pre ++ [dst]) (putT t dst v) h' n' K
/-- a guarded operation, its guard's value at hand -/
def kG (x : AV) (want : Bool) (op : Op) (dst : Option Tmp) (os : List Oper) (pre : List (Option Tmp)) (t : Nat → AV) (h : Heap) (n : Nat) (K : FinT) : Prop :=
  match x with
  | .one (.p (.v (.bool g))) => (g = want → step P C E op dst os pre t h n K) ∧ (g = !want → evOps P C E os (pre ++ [dst]) (putT t dst undA) h n K)
  | .one (.p (.v (.tuple _))) => evOps P C E os (pre ++ [dst]) (putT t dst undA) h n K
  | _ => False
def kGd (g : Option (Option Tmp)) (want : Bool) (op : Op) (dst : Option Tmp) (os : List Oper) (pre : List (Option Tmp)) (t : Nat → AV) (h : Heap) (n : Nat) (K : FinT) : Prop :=
  match g with
  | some (some d) => kG P C E (t d) want op dst os pre t h n K
  | _ => False

variable (dst : Option Tmp) (ty : TypeId) (pos : String) (after : Array Edge) (os : List Oper) (pre : List (Option Tmp)) (t : Nat → AV) (h : Heap) (n : Nat) (K : FinT)

theorem evOps_nil : evOps P C E [] pre t h n K = K t h n := rfl
theorem aop_bare (op : Op) (g : Option (Nat × Bool)) (K : KT) : aop P C ⟨dst, op, ty, pos, after, g⟩ t h n E K = aop P C (bare op) t h n E K := by
  unfold aop
  cases op <;> rfl
theorem evOps_plain (op : Op) : evOps P C E (⟨dst, op, ty, pos, after, none⟩ :: os) pre t h n K = step P C E op dst os pre t h n K := by
  rw [evOps]
  exact aop_bare P C E dst ty pos after t h n op none _
theorem evOps_guard (op : Op) (j : Nat) (want : Bool) : evOps P C E (⟨dst, op, ty, pos, after, some (j, want)⟩ :: os) pre t h n K = kGd P C E pre[j]? want op dst os pre t h n K := by
  rw [evOps]
  simp only [aop_bare]
  unfold kGd kG step
  rfl

theorem step_move (x : Operand) : step P C E (.move x) dst os pre t h n K = kS P C E (val t x) dst os pre t h n K := rfl
theorem step_assign (x : Operand) : step P C E (.assign x) dst os pre t h n K = evOps P C E os (pre ++ [dst]) (putT t dst (val t x)) h n K := rfl
def pickV (c a b : AV) : Option AV :=
  match c with
  | .one (.p (.v (.bool g))) => some (bif g then a else b)
  | _ => none
theorem step_pick (c a b : Operand) : step P C E (.pick c a b) dst os pre t h n K = kV P C E (pickV (val t c) (val t a) (val t b)) dst os pre t h n K := rfl
theorem step_load (x : Operand) : step P C E (.load ty x) dst os pre t h n K = kV P C E (ldA P ty h (val t x)) dst os pre t h n K := rfl
theorem step_fieldAddr (x : Operand) (f : Nat) : step P C E (.fieldAddr ty x f) dst os pre t h n K = kV P C E (fldA P ty h (val t x) f) dst os pre t h n K := rfl
theorem step_field (x : Operand) (f : Nat) : step P C E (.field ty x f) dst os pre t h n K = kV P C E (fieldA P ty (val t x) f) dst os pre t h n K := rfl
theorem step_indexAddr (x i : Operand) : step P C E (.indexAddr ty x i) dst os pre t h n K = kV P C E (idxA P ty h (val t x) (val t i)) dst os pre t h n K := rfl
theorem step_index (x i : Operand) : step P C E (.index ty x i) dst os pre t h n K = kV P C E (idxV P ty (val t x) (val t i)) dst os pre t h n K := rfl
theorem step_unOp (op : UnOp) (x : Operand) : step P C E (.unOp op ty x) dst os pre t h n K = kV P C E (unA op (val t x)) dst os pre t h n K := rfl
theorem step_convert (s d : TypeId) (x : Operand) : step P C E (.convert s d x) dst os pre t h n K = kV P C E (convA P s d (val t x)) dst os pre t h n K := rfl
theorem step_slice (x : Operand) (lo hi mx : Option Operand) : step P C E (.slice ty x lo hi mx) dst os pre t h n K = kV P C E (slcA P ty h (val t x) (lo.map (val t)) (hi.map (val t)) (mx.map (val t))) dst os pre t h n K := rfl
theorem step_extract (x : Operand) (i : Nat) : step P C E (.extract x i) dst os pre t h n K = kV P C E (exA (val t x) i) dst os pre t h n K := rfl
theorem step_nilCheck (x : Operand) : step P C E (.nilCheck x) dst os pre t h n K = kV P C E (nilV h (val t x)) dst os pre t h n K := rfl
theorem valP_mk (t : Nat → AV) (i : Nat) (x : Operand) : valP t (i, x) = (i, val t x) := rfl
theorem step_build (parts : Array (Nat × Operand)) : step P C E (.build ty parts) dst os pre t h n K = kV P C E (bldA P h ty (parts.toList.map (valP t))) dst os pre t h n K := rfl
def cloV (fn : Fn) (a b : Option (List Cell)) : Option AV :=
  match a, b with
  | some a, some b => some (.one (.clo fn a b))
  | _, _ => none
theorem step_makeFunc (fn : Fn) (first cap : Array Operand) : step P C E (.makeFunc fn first cap) dst os pre t h n K = kV P C E (cloV fn (cellOnes (first.toList.map (val t))) (cellOnes (cap.toList.map (val t)))) dst os pre t h n K := rfl
theorem step_binOp (op : BinOp) (u : TypeId) (x y : Operand) : step P C E (.binOp op ty x y u) dst os pre t h n K = kE P C E (binA P ty op (val t x) (val t y)) op ty x y (val t x) (val t y) dst os pre t h n K := rfl
theorem step_box (x : Operand) : step P C E (.box ty x) dst os pre t h n K = (okA h (val t x) = true ∧ evOps P C E os (pre ++ [dst]) (putT t dst (.one (.ptr (C.b + n) 0 0))) (upd h (C.b + n) ⟨0, cellsA (val t x)⟩) (n + 1) K) := rfl
def zeroC (P : Program) (ty : TypeId) : Option (List Cell) := (tzero P ty).map fun zs => zs.map fun v => .p (.v v)
theorem step_alloc : step P C E (.alloc ty) dst os pre t h n K = kL P C E (zeroC P ty) (.one (.ptr (C.b + n) 0 0)) dst os pre t h n K := by
  unfold step aop kL zeroC
  simp only
  cases tzero P ty <;> rfl
theorem step_buildSlice (len : Nat) (parts : Array (Nat × Operand)) : step P C E (.buildSlice ty len parts) dst os pre t h n K = kL P C E (bslA P h ty len (parts.toList.map (valP t))) (.one (.win (C.b + n) 0 0 len len)) dst os pre t h n K := by
  unfold step aop kL
  simp only
  show (match bslA P h ty len (parts.toList.map (valP t)) with | some cs => _ | none => _) = _
  cases bslA P h ty len (parts.toList.map (valP t)) <;> rfl
theorem step_store (x v : Operand) : step P C E (.store ty x v) dst os pre t h n K = kH P C E (stA P ty h (val t x) (val t v)) dst os pre t n K := by
  unfold step aop kH
  simp only
  cases stA P ty h (val t x) (val t v) <;> rfl
theorem step_makeSlice (l c : Operand) : step P C E (.makeSlice ty l c) dst os pre t h n K = MkR P C E ty (val t l) (val t c) dst os pre t h n K := rfl
theorem step_call (f : Operand) (xs : Array Operand) (tys : Array TypeId) : step P C E (.call ⟨.value f, xs, tys⟩) dst os pre t h n K = kC P C E (val t f) (xs.toList.map (val t)) dst os pre t h n K := rfl
theorem step_append (xs : Array Operand) (tys : Array TypeId) : step P C E (.call ⟨.builtin .append, xs, tys⟩) dst os pre t h n K = BiR P C E .append tys.toList (xs.toList.map (val t)) dst os pre t h n K := rfl
theorem step_copy (xs : Array Operand) (tys : Array TypeId) : step P C E (.call ⟨.builtin .copy, xs, tys⟩) dst os pre t h n K = BiR P C E .copy tys.toList (xs.toList.map (val t)) dst os pre t h n K := rfl
theorem step_clear (xs : Array Operand) (tys : Array TypeId) : step P C E (.call ⟨.builtin .clear, xs, tys⟩) dst os pre t h n K = BiR P C E .clear tys.toList (xs.toList.map (val t)) dst os pre t h n K := rfl
theorem step_len (x : Operand) : step P C E (.call ⟨.builtin .len, #[x], #[ty]⟩) dst os pre t h n K = kV P C E (lenA P ty h (val t x)) dst os pre t h n K := rfl
theorem step_cap (x : Operand) : step P C E (.call ⟨.builtin .cap, #[x], #[ty]⟩) dst os pre t h n K = kV P C E (capA P ty h (val t x)) dst os pre t h n K := rfl
theorem step_min (x y : Operand) (tys : Array TypeId) : step P C E (.call ⟨.builtin .min, #[x, y], tys⟩) dst os pre t h n K = kV P C E (mm2 false (val t x) (val t y)) dst os pre t h n K := rfl
theorem step_max (x y : Operand) (tys : Array TypeId) : step P C E (.call ⟨.builtin .max, #[x, y], tys⟩) dst os pre t h n K = kV P C E (mm2 true (val t x) (val t y)) dst os pre t h n K := rfl

theorem kV_some (v : AV) : kV P C E (some v) dst os pre t h n K = evOps P C E os (pre ++ [dst]) (putT t dst v) h n K := rfl
theorem kV_none : kV P C E none dst os pre t h n K = False := rfl
theorem kV_if (c : Prop) [Decidable c] (x : Option AV) : kV P C E (if c then x else none) dst os pre t h n K = (c ∧ kV P C E x dst os pre t h n K) := by
  unfold kV
  split <;> simp_all [optK]
theorem kE_some (v : AV) (op : BinOp) (ox oy : Operand) (a b : AV) : kE P C E (some v) op ty ox oy a b dst os pre t h n K = evOps P C E os (pre ++ [dst]) (putT t dst v) h n K := rfl
theorem kE_none (op : BinOp) (ox oy : Operand) (a b : AV) : kE P C E none op ty ox oy a b dst os pre t h n K = EqlR P C E op ty ox oy a b dst os pre t h n K := rfl
theorem kE_if (c : Prop) [Decidable c] (v : AV) (op : BinOp) (ox oy : Operand) (a b : AV) : kE P C E (if c then some v else none) op ty ox oy a b dst os pre t h n K =
    ((c → evOps P C E os (pre ++ [dst]) (putT t dst v) h n K) ∧ (¬ c → EqlR P C E op ty ox oy a b dst os pre t h n K)) := by
  unfold EqlR
  split <;> simp_all [kE]
theorem kL_some (cs : List Cell) (v : AV) : kL P C E (some cs) v dst os pre t h n K = evOps P C E os (pre ++ [dst]) (putT t dst v) (upd h (C.b + n) ⟨0, cs⟩) (n + 1) K := rfl
theorem kL_if (c : Prop) [Decidable c] (x : Option (List Cell)) (v : AV) : kL P C E (if c then x else none) v dst os pre t h n K = (c ∧ kL P C E x v dst os pre t h n K) := by
  split <;> simp_all [kL]
theorem kH_some (h' : Heap) : kH P C E (some h') dst os pre t n K = evOps P C E os (pre ++ [dst]) (putT t dst (.one .junk)) h' n K := rfl
theorem kH_if (c : Prop) [Decidable c] (x : Option Heap) : kH P C E (if c then x else none) dst os pre t n K = (c ∧ kH P C E x dst os pre t n K) := by
  split <;> simp_all [kH]
theorem kC_clo (g : FuncId) (first cap : List Cell) (args : List AV) : kC P C E (.one (.clo (.func g) first cap)) args dst os pre t h n K = CallR P C E g (first.map .one ++ (args ++ cap.map .one)) dst os pre t h n K := rfl
theorem kGd_some (d : Tmp) (want : Bool) (op : Op) : kGd P C E (some (some d)) want op dst os pre t h n K = kG P C E (t d) want op dst os pre t h n K := rfl
theorem kG_tt (op : Op) : kG P C E (.one (.p (.v (.bool true)))) true op dst os pre t h n K = step P C E op dst os pre t h n K := by simp [kG]
theorem kG_tf (op : Op) : kG P C E (.one (.p (.v (.bool true)))) false op dst os pre t h n K = evOps P C E os (pre ++ [dst]) (putT t dst undA) h n K := by simp [kG]
theorem kG_ft (op : Op) : kG P C E (.one (.p (.v (.bool false)))) true op dst os pre t h n K = evOps P C E os (pre ++ [dst]) (putT t dst undA) h n K := by simp [kG]
theorem kG_und (want : Bool) (op : Op) : kG P C E undA want op dst os pre t h n K = evOps P C E os (pre ++ [dst]) (putT t dst undA) h n K := rfl
theorem kS_und : kS P C E undA dst os pre t h n K = evOps P C E os (pre ++ [dst]) (putT t dst undA) h n K := rfl
theorem kG_ff (op : Op) : kG P C E (.one (.p (.v (.bool false)))) false op dst os pre t h n K = step P C E op dst os pre t h n K := by simp [kG]
theorem kS_true : kS P C E (.one (.p (.v (.bool true)))) dst os pre t h n K = evOps P C E os (pre ++ [dst]) (putT t dst (.one (.p (.v (.bool true))))) h n K := by simp [kS, splitB]
theorem kS_false : kS P C E (.one (.p (.v (.bool false)))) dst os pre t h n K = evOps P C E os (pre ++ [dst]) (putT t dst (.one (.p (.v (.bool false))))) h n K := by simp [kS, splitB]
/-- a truth value that is not known -/
theorem kS_any (g : Bool) : kS P C E (.one (.p (.v (.bool g)))) dst os pre t h n K = ((g = true → evOps P C E os (pre ++ [dst]) (putT t dst (.one (.p (.v (.bool true))))) h n K) ∧
    (g = false → evOps P C E os (pre ++ [dst]) (putT t dst (.one (.p (.v (.bool false))))) h n K)) := rfl
theorem kS_int (k : IntKind) (i : Int) : kS P C E (.one (.p (.v (.int k i)))) dst os pre t h n K = evOps P C E os (pre ++ [dst]) (putT t dst (.one (.p (.v (.int k i))))) h n K := rfl
theorem kS_float (k : FloatKind) (i : Nat) : kS P C E (.one (.p (.v (.float k i)))) dst os pre t h n K = evOps P C E os (pre ++ [dst]) (putT t dst (.one (.p (.v (.float k i))))) h n K := rfl
theorem kS_string (s : ByteArray) : kS P C E (.one (.p (.v (.string s)))) dst os pre t h n K = evOps P C E os (pre ++ [dst]) (putT t dst (.one (.p (.v (.string s))))) h n K := rfl
theorem kS_slice (a : Option Addr) (l c : Nat) : kS P C E (.one (.p (.v (.slice a l c)))) dst os pre t h n K = evOps P C E os (pre ++ [dst]) (putT t dst (.one (.p (.v (.slice a l c))))) h n K := rfl
theorem kS_pointer (a : Option Addr) : kS P C E (.one (.p (.v (.pointer a)))) dst os pre t h n K = evOps P C E os (pre ++ [dst]) (putT t dst (.one (.p (.v (.pointer a))))) h n K := rfl
theorem kS_nilFunc  : kS P C E (.one (.p (.v .nilFunc))) dst os pre t h n K = evOps P C E os (pre ++ [dst]) (putT t dst (.one (.p (.v .nilFunc)))) h n K := rfl
theorem kS_nilIface  : kS P C E (.one (.p (.v .nilIface))) dst os pre t h n K = evOps P C E os (pre ++ [dst]) (putT t dst (.one (.p (.v .nilIface)))) h n K := rfl
theorem kS_map (r : Option Nat) : kS P C E (.one (.p (.v (.map r)))) dst os pre t h n K = evOps P C E os (pre ++ [dst]) (putT t dst (.one (.p (.v (.map r))))) h n K := rfl
theorem kS_sl (z : Nat) (es : List (List PD)) : kS P C E (.one (.p (.sl z es))) dst os pre t h n K = evOps P C E os (pre ++ [dst]) (putT t dst (.one (.p (.sl z es)))) h n K := rfl
theorem kS_junk  : kS P C E (.one .junk) dst os pre t h n K = evOps P C E os (pre ++ [dst]) (putT t dst (.one .junk)) h n K := rfl
theorem kS_ptr (a b c : Nat) : kS P C E (.one (.ptr a b c)) dst os pre t h n K = evOps P C E os (pre ++ [dst]) (putT t dst (.one (.ptr a b c))) h n K := rfl
theorem kS_ro (a : List PD) : kS P C E (.one (.ro a)) dst os pre t h n K = evOps P C E os (pre ++ [dst]) (putT t dst (.one (.ro a))) h n K := rfl
theorem kS_win (a b c d e : Nat) : kS P C E (.one (.win a b c d e)) dst os pre t h n K = evOps P C E os (pre ++ [dst]) (putT t dst (.one (.win a b c d e))) h n K := rfl
theorem kS_clo (f : Fn) (a b : List Cell) : kS P C E (.one (.clo f a b)) dst os pre t h n K = evOps P C E os (pre ++ [dst]) (putT t dst (.one (.clo f a b))) h n K := rfl
theorem kS_agg (a : List Cell) : kS P C E (.agg a) dst os pre t h n K = evOps P C E os (pre ++ [dst]) (putT t dst (.agg a)) h n K := rfl
theorem kS_tup (a : List AV) : kS P C E (.tup a) dst os pre t h n K = evOps P C E os (pre ++ [dst]) (putT t dst (.tup a)) h n K := rfl

theorem kV_congr {x x' : Option AV} (e : x = x') : kV P C E x dst os pre t h n K = kV P C E x' dst os pre t h n K := by rw [e]
theorem kS_congr {x x' : AV} (e : x = x') : kS P C E x dst os pre t h n K = kS P C E x' dst os pre t h n K := by rw [e]
theorem kL_congr {x x' : Option (List Cell)} (v : AV) (e : x = x') : kL P C E x v dst os pre t h n K = kL P C E x' v dst os pre t h n K := by rw [e]
theorem kH_congr {x x' : Option Heap} (e : x = x') : kH P C E x dst os pre t n K = kH P C E x' dst os pre t n K := by rw [e]
theorem kGd_congr {x x' : Option (Option Tmp)} (want : Bool) (op : Op) (e : x = x') : kGd P C E x want op dst os pre t h n K = kGd P C E x' want op dst os pre t h n K := by rw [e]
theorem kG_congr {x x' : AV} (want : Bool) (op : Op) (e : x = x') : kG P C E x want op dst os pre t h n K = kG P C E x' want op dst os pre t h n K := by rw [e]
theorem kE_congr {x x' : Option AV} {a a' b b' : AV} (op : BinOp) (ox oy : Operand) (e : x = x') (ea : a = a') (eb : b = b') : kE P C E x op ty ox oy a b dst os pre t h n K = kE P C E x' op ty ox oy a' b' dst os pre t h n K := by rw [e, ea, eb]
theorem kC_congr {f f' : AV} {args args' : List AV} (e : f = f') (e2 : args = args') : kC P C E f args dst os pre t h n K = kC P C E f' args' dst os pre t h n K := by rw [e, e2]
theorem CallR_congr (g : FuncId) {args args' : List AV} (e : args = args') : CallR P C E g args dst os pre t h n K = CallR P C E g args' dst os pre t h n K := by rw [e]
theorem BiR_congr (b : Builtin) (tys : List TypeId) {args args' : List AV} (e : args = args') : BiR P C E b tys args dst os pre t h n K = BiR P C E b tys args' dst os pre t h n K := by rw [e]
theorem MkR_congr {x x' y y' : AV} (e : x = x') (e2 : y = y') : MkR P C E ty x y dst os pre t h n K = MkR P C E ty x' y' dst os pre t h n K := by rw [e, e2]
end

/-- a region, its ways on hidden -/
theorem AWP.reg {P : Program} {C : Ctx} {Q : Exit → St → Prop} {s : St} {id : Nat} {ops : Array Oper} (hN : regB C.N ops.toList = true)
    (e : ∀ (E : Exit → St → Prop) (K : FinT), (∀ e s, Q e s → E e s) → (∀ t h n, Q .normal ⟨t, h, n⟩ → K t h n) → evOps P C E ops.toList [] s.t s.h s.n K) : AWP P C (.region id ops false) Q s :=
  .region hN (e Q _ (fun _ _ h => h) (fun _ _ _ h => h))

/-- a region ahead of what follows -/
theorem AWP.seqReg {P : Program} {C : Ctx} {Q : Exit → St → Prop} {s : St} {id : Nat} {ops : Array Oper} {y : Code} (hN : regB C.N ops.toList = true)
    (e : ∀ (E : Exit → St → Prop) (K : FinT), (∀ e s, thn (AWP P C y Q) Q e s → E e s) → (∀ t h n, AWP P C y Q ⟨t, h, n⟩ → K t h n) → evOps P C E ops.toList [] s.t s.h s.n K) : AWP P C (.seq (.region id ops false) y) Q s :=
  .seq (.reg hN e)

theorem map_if {α β : Type} (c : Prop) [Decidable c] (x : Option α) (f : α → β) : Option.map f (if c then x else none) = if c then Option.map f x else none := by split <;> rfl
theorem bind_if {α β : Type} (c : Prop) [Decidable c] (x : Option α) (f : α → Option β) : Option.bind (if c then x else none) f = if c then Option.bind x f else none := by split <;> rfl
theorem map_some' {α β : Type} (f : α → β) (v : α) : Option.map f (some v) = some (f v) := rfl
theorem map_none' {α β : Type} (f : α → β) : Option.map f none = none := rfl
theorem bind_some' {α β : Type} (f : α → Option β) (v : α) : Option.bind (some v) f = f v := rfl
theorem bind_none' {α β : Type} (f : α → Option β) : Option.bind none f = none := rfl

theorem thn_normal (K : St → Prop) (Q : Exit → St → Prop) (s : St) : thn K Q .normal s = K s := rfl
theorem thn_ret (K : St → Prop) (Q : Exit → St → Prop) (s : St) : thn K Q .ret s = Q .ret s := rfl
theorem thn_exit (K : St → Prop) (Q : Exit → St → Prop) (s : St) (id : Nat) : thn K Q (.exit id) s = Q (.exit id) s := rfl
theorem thn_goto (K : St → Prop) (Q : Exit → St → Prop) (s : St) (id : Nat) : thn K Q (.goto id) s = Q (.goto id) s := rfl
theorem inBlk_normal (id : Nat) (Q : Exit → St → Prop) (s : St) : inBlk id Q .normal s = Q .normal s := rfl
theorem inBlk_ret (id : Nat) (Q : Exit → St → Prop) (s : St) : inBlk id Q .ret s = Q .ret s := rfl
theorem inBlk_goto (id l : Nat) (Q : Exit → St → Prop) (s : St) : inBlk id Q (.goto l) s = Q (.goto l) s := rfl
theorem inBlk_exit (id id' : Nat) (Q : Exit → St → Prop) (s : St) : inBlk id Q (.exit id') s = if id' = id then Q .normal s else Q (.exit id') s := rfl
theorem bodyQ_normal (P : Program) (C : Ctx) (fn : Func) (m : Nat) (R : AV → Heap → Prop) (s : St) : bodyQ P C fn m R .normal s = Ends P C fn m R s := rfl
theorem bodyQ_ret (P : Program) (C : Ctx) (fn : Func) (m : Nat) (R : AV → Heap → Prop) (s : St) : bodyQ P C fn m R .ret s = Ends P C fn m R s := rfl
theorem liveB_eq (h : Heap) (id ver : Nat) : liveB h id ver = match h id with | some b => decide (b.ver = ver) | none => false := rfl
theorem bool_true_eq : (true = false) = False := by simp
theorem bool_false_eq : (false = true) = False := by simp

attribute [congr] kV_congr kS_congr kL_congr kH_congr kGd_congr kG_congr kE_congr kC_congr CallR_congr BiR_congr MkR_congr
attribute [go_sem ↓] evOps_nil evOps_plain evOps_guard step_move step_assign step_pick step_load step_fieldAddr step_field step_indexAddr step_index step_unOp step_convert step_slice step_extract step_nilCheck step_build step_makeFunc step_binOp step_box step_alloc step_buildSlice step_store step_makeSlice step_call step_append step_copy step_clear step_len step_cap step_min step_max updT_lit upd_lit val putT_some putT_none thn_normal thn_ret thn_exit thn_goto inBlk_normal inBlk_ret inBlk_goto inBlk_exit bodyQ_normal bodyQ_ret
attribute [go_sem] argsT_zero argsT_succ argsT_nil kV_some kV_none kV_if kE_some kE_none kE_if kL_some kL_if kH_some kH_if kC_clo kGd_some kG_und kS_und kG_tt kG_tf kG_ft kG_ff kS_true kS_false kS_int kS_float kS_string kS_slice kS_pointer kS_nilFunc kS_nilIface kS_map kS_sl kS_junk kS_ptr kS_ro kS_win kS_clo kS_agg kS_tup map_if bind_if map_some' map_none' bind_some' bind_none'
  valP_mk pickV zeroC nilV cloV ofV okA okC cellsA ldA partA fldA idxA idxV intB shiftB strB floatB isShift binV eqV eqFs eqAV eqR binA unV unA convA fieldA intOfA bnd1 bndMx bndHi bndLo bndA slcA lenA capA exA mm2 spl fillA bldA cellOnes bslA stA liveB_eq repl resV resL resA
attribute [go_sem low] kS_any
attribute [go_sem] if_true if_false Nat.add_zero Nat.zero_add true_and and_true Nat.add_left_cancel_iff Nat.add_eq_left Nat.left_eq_add
  List.getElem?_cons_zero List.getElem?_cons_succ List.getElem?_nil List.take_zero List.take_succ_cons List.drop_zero List.drop_succ_cons List.take_nil List.drop_nil List.nil_append List.cons_append List.length_cons List.length_nil
  List.map_cons List.map_nil List.length_map ite_self Nat.sub_zero Nat.zero_mul Nat.one_mul or_true true_or Nat.zero_le Option.isSome_some Option.isSome_none List.append_nil List.all_cons List.all_nil Bool.and_true Bool.true_and Value.oneCell' decide_true decide_false Bool.not_true Bool.not_false forall_const false_implies implies_true
  bool_true_eq bool_false_eq cond_true cond_false gt_iff_lt ge_iff_le eq_self
end Go.Proofs.YtengjcdilnikhaaDoor.Am
