/-
  The abstract machine: the evaluator of regions whose order is open, and what it is simplified by.
-/
import Derived.Test.YtengjcdilnikhaaDoorAmDraw
namespace Go.Proofs.YtengjcdilnikhaaDoor.Am
set_option linter.unusedSimpArgs false
set_option linter.unusedVariables false
set_option linter.unnecessarySimpa false
open Go

/-- of one block no cells are known -/
def husk (b : Blk) : Blk := ⟨b.ver, []⟩
theorem husk_ver (b : Blk) : (husk b).ver = b.ver := rfl
theorem husk_cells (b : Blk) : (husk b).cells = [] := rfl
theorem husk_mk (v : Nat) (cs : List Cell) : husk ⟨v, cs⟩ = ⟨v, []⟩ := rfl
def ers (h : Heap) (m : Nat) : Heap := fun i => if i = m then (h i).map husk else h i
theorem ers_lit (h : Heap) (m i : Nat) : ers h m i = if i = m then (h i).map husk else h i := rfl
theorem sub_ers (h : Heap) (m : Nat) : Sub (ers h m) h := fun id b e => by
  unfold ers at e
  split at e
  · cases hb : h id with
    | none => rw [hb] at e; cases e
    | some b' => rw [hb] at e; injection e with e; subst e; exact ⟨b', rfl, rfl, .inl rfl⟩
  · exact ⟨b, e, rfl, .inr rfl⟩
theorem Sub.trans {a b c : Heap} (x : Sub a b) (y : Sub b c) : Sub a c := fun id k e => by
  obtain ⟨k1, h1, h2, h3⟩ := x id k e
  obtain ⟨k2, g1, g2, g3⟩ := y id k1 h1
  refine ⟨k2, g1, g2.trans h2, ?_⟩
  rcases h3 with h3 | rfl
  · exact .inl h3
  · exact g3
/-- a block is written of which no cells are known, or that is not known -/
theorem Sub.upd {a h : Heap} {k : Nat} {x : Blk} (s : Sub a h) (e : ∀ b, a k = some b → b.ver = x.ver ∧ b.cells = []) : Sub a (Am.upd h k x) := fun id b hb => by
  by_cases hi : id = k
  · subst hi; exact ⟨x, upd_same _ _ _, (e b hb).1.symm, .inl (e b hb).2⟩
  · obtain ⟨b', h1, h2⟩ := s id b hb
    exact ⟨b', by rw [upd_ne _ _ _ _ hi]; exact h1, h2⟩
theorem Sub.reupd {a h : Heap} {k : Nat} {x y : Blk} (s : Sub a (Am.upd h k y)) (e : ∀ b, a k = some b → b.ver = x.ver ∧ b.cells = []) : Sub a (Am.upd h k x) := fun id b hb => by
  by_cases hi : id = k
  · subst hi; exact ⟨x, upd_same _ _ _, (e b hb).1.symm, .inl (e b hb).2⟩
  · obtain ⟨b', h1, h2⟩ := s id b hb
    rw [upd_ne _ _ _ _ hi] at h1
    exact ⟨b', by rw [upd_ne _ _ _ _ hi]; exact h1, h2⟩
/-- a new block -/
theorem Sub.new {a h : Heap} {k : Nat} {x : Blk} (s : Sub a h) (e : h k = none) : Sub a (Am.upd h k x) := s.upd fun b hb => by
  obtain ⟨b', h1, _⟩ := s k b hb
  rw [e] at h1; cases h1

section
variable (P : Program) (C : Ctx) (S : List Tmp) (V : List AV) (hS : Heap) (ops : Array Oper)
def stepD (op : Op) (dst : Option Tmp) (os : List Oper) (t : Nat → AV) (h : Heap) (n : Nat) (K : FinT) : Prop :=
  if simpO S op dst = true then (if simpleB op = true then ∃ v, sopX P t hS (bare op) = some v ∧ evD P C S V hS ops os (putT t dst v) h n K
    else PureC P hS t op (lkS S V dst) ∧ evD P C S V hS ops os (putT t dst (lkS S V dst)) h n K)
  else aop P C (bare op) t h n (fun _ _ => False) fun v h' n' => Sub hS h' ∧ evD P C S V hS ops os (putT t dst v) h' n' K
def dV (x : Option AV) (dst : Option Tmp) (os : List Oper) (t : Nat → AV) (h : Heap) (n : Nat) (K : FinT) : Prop := optK x fun v => evD P C S V hS ops os (putT t dst v) h n K
def dH (x : Option Heap) (dst : Option Tmp) (os : List Oper) (t : Nat → AV) (n : Nat) (K : FinT) : Prop :=
  match x with
  | some h => Sub hS h ∧ evD P C S V hS ops os (putT t dst (.one .junk)) h n K
  | none => False
def CallD (g : FuncId) (args : List AV) (dst : Option Tmp) (os : List Oper) (t : Nat → AV) (h : Heap) (n : Nat) (K : FinT) : Prop :=
  CallK P C (fun _ _ => False) t g args h n fun v h' n' => Sub hS h' ∧ evD P C S V hS ops os (putT t dst v) h' n' K
def dC (f : AV) (args : List AV) (dst : Option Tmp) (os : List Oper) (t : Nat → AV) (h : Heap) (n : Nat) (K : FinT) : Prop :=
  match f with
  | .one (.clo (.func g) first cap) => CallD P C S V hS ops g (first.map .one ++ (args ++ cap.map .one)) dst os t h n K
  | _ => False
def dL (x : Option (List Cell)) (v : AV) (dst : Option Tmp) (os : List Oper) (t : Nat → AV) (h : Heap) (n : Nat) (K : FinT) : Prop :=
  match x with
  | some cs => Sub hS (upd h (C.b + n) ⟨0, cs⟩) ∧ evD P C S V hS ops os (putT t dst v) (upd h (C.b + n) ⟨0, cs⟩) (n + 1) K
  | none => False
/-- .. of a simple operation: by what is known all along, or by what is known now -/
def dVs (x : Option AV) (dst : Option Tmp) (os : List Oper) (t : Nat → AV) (h : Heap) (n : Nat) (K : FinT) : Prop := optK x fun v => Sub hS h ∧ evD P C S V hS ops os (putT t dst v) h n K
def dW (b : Bool) (x y : Option AV) (dst : Option Tmp) (os : List Oper) (t : Nat → AV) (h : Heap) (n : Nat) (K : FinT) : Prop := if b = true then dVs P C S V hS ops y dst os t h n K else dV P C S V hS ops x dst os t h n K
def dU (b : Bool) (op : Op) (x : Option AV) (dst : Option Tmp) (os : List Oper) (t : Nat → AV) (h : Heap) (n : Nat) (K : FinT) : Prop :=
  if b = true then aop P C (bare op) t h n (fun _ _ => False) (fun v h' n' => Sub hS h' ∧ evD P C S V hS ops os (putT t dst v) h' n' K) else dV P C S V hS ops x dst os t h n K
def dLb (b : Bool) (x : Option AV) (y : Option (List Cell)) (v : AV) (dst : Option Tmp) (os : List Oper) (t : Nat → AV) (h : Heap) (n : Nat) (K : FinT) : Prop :=
  if b = true then dL P C S V hS ops y v dst os t h n K else dV P C S V hS ops x dst os t h n K
def CallP (g : FuncId) (args : List AV) (v : AV) (dst : Option Tmp) (os : List Oper) (t : Nat → AV) (h : Heap) (n : Nat) (K : FinT) : Prop :=
  (bodyB P g = true ∧ ∀ h b, Sub hS h → ACalls P g args h b 0 (fun r h' => r = v ∧ h' = h)) ∧ evD P C S V hS ops os (putT t dst v) h n K
def pC (f : AV) (args : List AV) (v : AV) (dst : Option Tmp) (os : List Oper) (t : Nat → AV) (h : Heap) (n : Nat) (K : FinT) : Prop :=
  match f with
  | .one (.clo (.func g) first cap) => CallP P C S V hS ops g (first.map .one ++ (args ++ cap.map .one)) v dst os t h n K
  | _ => False
def callS (b : Bool) (f : AV) (args : List AV) (v : AV) (dst : Option Tmp) (os : List Oper) (t : Nat → AV) (h : Heap) (n : Nat) (K : FinT) : Prop :=
  if b = true then pC P C S V hS ops f args v dst os t h n K else dC P C S V hS ops f args dst os t h n K
def BiD (b : Builtin) (tys : List TypeId) (args : List AV) (dst : Option Tmp) (os : List Oper) (t : Nat → AV) (h : Heap) (n : Nat) (K : FinT) : Prop :=
  BiK P C b tys args h n fun v h' n' => Sub hS h' ∧ evD P C S V hS ops os (putT t dst v) h' n' K
def MkD (ty : TypeId) (x y : AV) (dst : Option Tmp) (os : List Oper) (t : Nat → AV) (h : Heap) (n : Nat) (K : FinT) : Prop :=
  MkK P C ty x y h n fun v h' n' => Sub hS h' ∧ evD P C S V hS ops os (putT t dst v) h' n' K
def dG (x : AV) (want : Bool) (op : Op) (dst : Option Tmp) (os : List Oper) (t : Nat → AV) (h : Heap) (n : Nat) (K : FinT) : Prop :=
  match x with
  | .one (.p (.v (.bool g))) => (g = want → stepD P C S V hS ops op dst os t h n K) ∧ (g = !want → evD P C S V hS ops os (putT t dst undA) h n K)
  | .one (.p (.v (.tuple _))) => evD P C S V hS ops os (putT t dst undA) h n K
  | _ => False
def dGd (g : Option Tmp) (want : Bool) (op : Op) (dst : Option Tmp) (os : List Oper) (t : Nat → AV) (h : Heap) (n : Nat) (K : FinT) : Prop :=
  match g with
  | some d => dG P C S V hS ops (t d) want op dst os t h n K
  | none => False

variable (dst : Option Tmp) (ty : TypeId) (pos : String) (after : Array Edge) (os : List Oper) (t : Nat → AV) (h : Heap) (n : Nat) (K : FinT)

theorem sopX_bare (op : Op) (g : Option (Nat × Bool)) : sopX P t h ⟨dst, op, ty, pos, after, g⟩ = sopX P t h (bare op) := by
  unfold sopX sop
  cases op <;> rfl

theorem evD_nil : evD P C S V hS ops [] t h n K = K t h n := rfl
theorem evD_plain (op : Op) : evD P C S V hS ops (⟨dst, op, ty, pos, after, none⟩ :: os) t h n K = stepD P C S V hS ops op dst os t h n K := by
  rw [evD]
  unfold stepD
  simp only [valD, sigD, wantD, okD, simpleP, sopX_bare, aop_bare]
  by_cases hc : simpO S op dst = true
  · by_cases hs : simpleB op = true
    · simp [hs, hc]
    · simp [hs, hc]
  · simp [hc]
theorem evD_guard (op : Op) (j : Nat) (want : Bool) : dGd P C S V hS ops ((ops[j]?).bind (·.dst)) want op dst os t h n K → evD P C S V hS ops (⟨dst, op, ty, pos, after, some (j, want)⟩ :: os) t h n K := by
  intro e
  rw [evD]
  unfold dGd dG at e
  cases hg : (ops[j]?).bind (·.dst) with
  | none => rw [hg] at e; exact e.elim
  | some d =>
    rw [hg] at e
    simp only at e
    split at e
    · rename_i g ht
      obtain ⟨e1, e2⟩ := e
      have hw : wantD ops t ⟨dst, op, ty, pos, after, some (j, want)⟩ = some (g == want) := by
        unfold wantD
        simp only [hg, ht]
      by_cases hgw : g = want
      · have e1 := e1 hgw
        have hw : wantD ops t ⟨dst, op, ty, pos, after, some (j, want)⟩ = some true := by rw [hw]; simp [hgw]
        unfold stepD at e1
        simp only [valD, sigD, hw, okD, simpleP, sopX_bare, aop_bare]
        by_cases hc : simpO S op dst = true
        · by_cases hs : simpleB op = true
          · simp [hs, hc] at e1 ⊢; exact e1
          · simp [hs, hc] at e1 ⊢; exact e1
        · simp [hc] at e1 ⊢; exact e1
      · have e2 := e2 (by cases g <;> cases want <;> first | rfl | exact absurd rfl hgw)
        have hw : wantD ops t ⟨dst, op, ty, pos, after, some (j, want)⟩ = some false := by rw [hw]; simp [hgw]
        simp only [valD, sigD, hw]
        split
        · exact ⟨_, rfl, .inr (.inl hw), e2⟩
        · exact e2
    · rename_i xs ht
      have hw : wantD ops t ⟨dst, op, ty, pos, after, some (j, want)⟩ = some false := by
        unfold wantD
        simp only [hg, ht]
      simp only [valD, sigD, hw]
      split
      · exact ⟨_, rfl, .inr (.inl hw), e⟩
      · exact e
    · exact e.elim

theorem stepD_simple {op : Op} {x : Option AV} (hs : simpleB op = true) (hc : isCallV op = false) (hx : sopX P t hS (bare op) = x) : stepD P C S V hS ops op dst os t h n K = dU P C S V hS ops (inS S dst) op x dst os t h n K := by
  unfold stepD dU dV optK simpO
  cases hi : inS S dst
  · simp only [Bool.false_eq_true, if_false, hs, if_true, hx]
    cases x with
    | none => simp
    | some v => simp
  · simp only [if_true, hc, Bool.false_eq_true, if_false]
theorem stepD_simple2 {op : Op} {x y : Option AV} (hs : simpleB op = true) (hc : isCallV op = false) (hx : sopX P t hS (bare op) = x) (hy : ∀ K', aop P C (bare op) t h n (fun _ _ => False) K' = optK y fun v => K' v h n) :
    stepD P C S V hS ops op dst os t h n K = dW P C S V hS ops (inS S dst) x y dst os t h n K := by
  rw [stepD_simple P C S V hS ops dst os t h n K hs hc hx]
  unfold dU dW dVs
  rw [hy]
theorem stepD_sig {op : Op} (hs : simpleB op = false) (hc : isCallV op = false) : stepD P C S V hS ops op dst os t h n K = aop P C (bare op) t h n (fun _ _ => False) fun v h' n' => Sub hS h' ∧ evD P C S V hS ops os (putT t dst v) h' n' K := by
  unfold stepD simpO
  rw [hs, hc]
  simp
theorem stepD_assign (x : Operand) : stepD P C S V hS ops (.assign x) dst os t h n K = dU P C S V hS ops (inS S dst) (.assign x) (some (val t x)) dst os t h n K := stepD_simple P C S V hS ops dst os t h n K rfl rfl rfl
theorem stepD_move (x : Operand) : stepD P C S V hS ops (.move x) dst os t h n K = dU P C S V hS ops (inS S dst) (.move x) (some (val t x)) dst os t h n K := stepD_simple P C S V hS ops dst os t h n K rfl rfl rfl
theorem stepD_pick (c a b : Operand) : stepD P C S V hS ops (.pick c a b) dst os t h n K = dU P C S V hS ops (inS S dst) (.pick c a b) (pickV (val t c) (val t a) (val t b)) dst os t h n K := stepD_simple P C S V hS ops dst os t h n K rfl rfl rfl
theorem stepD_load (x : Operand) : stepD P C S V hS ops (.load ty x) dst os t h n K = dW P C S V hS ops (inS S dst) (ldA P ty hS (val t x)) (ldA P ty h (val t x)) dst os t h n K := stepD_simple2 P C S V hS ops dst os t h n K rfl rfl rfl (fun _ => rfl)
theorem stepD_fieldAddr (x : Operand) (f : Nat) : stepD P C S V hS ops (.fieldAddr ty x f) dst os t h n K = dW P C S V hS ops (inS S dst) (fldA P ty hS (val t x) f) (fldA P ty h (val t x) f) dst os t h n K := stepD_simple2 P C S V hS ops dst os t h n K rfl rfl rfl (fun _ => rfl)
theorem stepD_field (x : Operand) (f : Nat) : stepD P C S V hS ops (.field ty x f) dst os t h n K = dU P C S V hS ops (inS S dst) (.field ty x f) (fieldA P ty (val t x) f) dst os t h n K := stepD_simple P C S V hS ops dst os t h n K rfl rfl rfl
theorem stepD_indexAddr (x i : Operand) : stepD P C S V hS ops (.indexAddr ty x i) dst os t h n K = dW P C S V hS ops (inS S dst) (idxA P ty hS (val t x) (val t i)) (idxA P ty h (val t x) (val t i)) dst os t h n K := stepD_simple2 P C S V hS ops dst os t h n K rfl rfl rfl (fun _ => rfl)
theorem stepD_index (x i : Operand) : stepD P C S V hS ops (.index ty x i) dst os t h n K = dU P C S V hS ops (inS S dst) (.index ty x i) (idxV P ty (val t x) (val t i)) dst os t h n K := stepD_simple P C S V hS ops dst os t h n K rfl rfl rfl
theorem stepD_unOp (op : UnOp) (x : Operand) : stepD P C S V hS ops (.unOp op ty x) dst os t h n K = dU P C S V hS ops (inS S dst) (.unOp op ty x) (unA op (val t x)) dst os t h n K := stepD_simple P C S V hS ops dst os t h n K rfl rfl rfl
theorem stepD_convert (s d : TypeId) (x : Operand) : stepD P C S V hS ops (.convert s d x) dst os t h n K = dW P C S V hS ops (inS S dst) (convA P hS s d (val t x)) (convA P h s d (val t x)) dst os t h n K := stepD_simple2 P C S V hS ops dst os t h n K rfl rfl rfl (fun _ => rfl)
theorem stepD_slice (x : Operand) (lo hi mx : Option Operand) : stepD P C S V hS ops (.slice ty x lo hi mx) dst os t h n K = dW P C S V hS ops (inS S dst) (slcA P ty hS (val t x) (lo.map (val t)) (hi.map (val t)) (mx.map (val t))) (slcA P ty h (val t x) (lo.map (val t)) (hi.map (val t)) (mx.map (val t))) dst os t h n K := stepD_simple2 P C S V hS ops dst os t h n K rfl rfl rfl (fun _ => rfl)
theorem stepD_extract (x : Operand) (i : Nat) : stepD P C S V hS ops (.extract x i) dst os t h n K = dU P C S V hS ops (inS S dst) (.extract x i) (exA (val t x) i) dst os t h n K := stepD_simple P C S V hS ops dst os t h n K rfl rfl rfl
theorem stepD_nilCheck (x : Operand) : stepD P C S V hS ops (.nilCheck x) dst os t h n K = dU P C S V hS ops (inS S dst) (.nilCheck x) (nilV hS (val t x)) dst os t h n K := stepD_simple P C S V hS ops dst os t h n K rfl rfl rfl
theorem stepD_build (parts : Array (Nat × Operand)) : stepD P C S V hS ops (.build ty parts) dst os t h n K = dU P C S V hS ops (inS S dst) (.build ty parts) (bldA P hS ty (parts.toList.map (valP t))) dst os t h n K := stepD_simple P C S V hS ops dst os t h n K rfl rfl rfl
theorem stepD_makeFunc (fn : Fn) (first cap : Array Operand) : stepD P C S V hS ops (.makeFunc fn first cap) dst os t h n K = dU P C S V hS ops (inS S dst) (.makeFunc fn first cap) (cloV fn (cellOnes (first.toList.map (val t))) (cellOnes (cap.toList.map (val t)))) dst os t h n K := stepD_simple P C S V hS ops dst os t h n K rfl rfl rfl
theorem stepD_binOp (op : BinOp) (u : TypeId) (x y : Operand) : stepD P C S V hS ops (.binOp op ty x y u) dst os t h n K = dU P C S V hS ops (inS S dst) (.binOp op ty x y u) (binA P ty op (val t x) (val t y)) dst os t h n K := stepD_simple P C S V hS ops dst os t h n K rfl rfl rfl
theorem stepD_buildSlice (len : Nat) (parts : Array (Nat × Operand)) : stepD P C S V hS ops (.buildSlice ty len parts) dst os t h n K = dLb P C S V hS ops (inS S dst) (bslP P hS ty len (parts.toList.map (valP t))) (bslA P h ty len (parts.toList.map (valP t))) (.one (.win (C.b + n) 0 0 len len)) dst os t h n K := by
  rw [stepD_simple P C S V hS ops dst os t h n K (op := .buildSlice ty len parts) rfl rfl rfl]
  unfold dU dLb dL
  cases inS S dst
  · rfl
  · simp only [if_true]
    unfold aop
    have e : (parts.toList.map (valP t)) = (parts.toList.map fun (i, x) => (i, val t x)) := rfl
    rw [e]
    simp only
    cases bslA P h ty len (parts.toList.map fun (i, x) => (i, val t x)) <;> rfl
theorem stepD_len (x : Operand) : stepD P C S V hS ops (.call ⟨.builtin .len, #[x], #[ty]⟩) dst os t h n K = dW P C S V hS ops (inS S dst) (lenA P ty hS (val t x)) (lenA P ty h (val t x)) dst os t h n K := stepD_simple2 P C S V hS ops dst os t h n K rfl rfl rfl (fun _ => rfl)
theorem stepD_cap (x : Operand) : stepD P C S V hS ops (.call ⟨.builtin .cap, #[x], #[ty]⟩) dst os t h n K = dW P C S V hS ops (inS S dst) (capA P ty hS (val t x)) (capA P ty h (val t x)) dst os t h n K := stepD_simple2 P C S V hS ops dst os t h n K rfl rfl rfl (fun _ => rfl)
theorem stepD_min (x y : Operand) (tys : Array TypeId) : stepD P C S V hS ops (.call ⟨.builtin .min, #[x, y], tys⟩) dst os t h n K = dU P C S V hS ops (inS S dst) (.call ⟨.builtin .min, #[x, y], tys⟩) (mm2 false (val t x) (val t y)) dst os t h n K := stepD_simple P C S V hS ops dst os t h n K rfl rfl rfl
theorem stepD_max (x y : Operand) (tys : Array TypeId) : stepD P C S V hS ops (.call ⟨.builtin .max, #[x, y], tys⟩) dst os t h n K = dU P C S V hS ops (inS S dst) (.call ⟨.builtin .max, #[x, y], tys⟩) (mm2 true (val t x) (val t y)) dst os t h n K := stepD_simple P C S V hS ops dst os t h n K rfl rfl rfl
theorem stepD_box (x : Operand) : stepD P C S V hS ops (.box ty x) dst os t h n K = (okA h (val t x) = true ∧ dL P C S V hS ops (some (cellsA (val t x))) (.one (.ptr (C.b + n) 0 0)) dst os t h n K) := by
  rw [stepD_sig P C S V hS ops dst os t h n K rfl rfl]; rfl
theorem stepD_alloc : stepD P C S V hS ops (.alloc ty) dst os t h n K = dL P C S V hS ops (zeroC P ty) (.one (.ptr (C.b + n) 0 0)) dst os t h n K := by
  rw [stepD_sig P C S V hS ops dst os t h n K rfl rfl]
  unfold aop dL zeroC
  simp only
  cases tzero P ty <;> rfl
theorem stepD_store (x v : Operand) : stepD P C S V hS ops (.store ty x v) dst os t h n K = dH P C S V hS ops (stA P ty h (val t x) (val t v)) dst os t n K := by
  rw [stepD_sig P C S V hS ops dst os t h n K rfl rfl]
  unfold aop dH
  simp only
  cases stA P ty h (val t x) (val t v) <;> rfl
theorem stepD_makeSlice (l c : Operand) : stepD P C S V hS ops (.makeSlice ty l c) dst os t h n K = MkD P C S V hS ops ty (val t l) (val t c) dst os t h n K := by
  rw [stepD_sig P C S V hS ops dst os t h n K rfl rfl]; rfl
theorem stepD_call (f : Operand) (xs : Array Operand) (tys : Array TypeId) : stepD P C S V hS ops (.call ⟨.value f, xs, tys⟩) dst os t h n K = callS P C S V hS ops (inS S dst) (val t f) (xs.toList.map (val t)) (lkS S V dst) dst os t h n K := by
  unfold stepD callS simpO
  simp only [simpleB, isCallV, Bool.false_eq_true, if_false]
  cases inS S dst
  case true =>
    simp only [if_true]
    unfold PureC pC CallP
    simp only
    cases hv : val t f with
    | one c => cases c with
      | clo fn first cap => cases fn with
        | func g => simp only
        | _ => simp
      | _ => simp
    | _ => simp
  · rfl
theorem stepD_append (xs : Array Operand) (tys : Array TypeId) : stepD P C S V hS ops (.call ⟨.builtin .append, xs, tys⟩) dst os t h n K = BiD P C S V hS ops .append tys.toList (xs.toList.map (val t)) dst os t h n K := by
  rw [stepD_sig P C S V hS ops dst os t h n K rfl rfl]; rfl
theorem stepD_copy (xs : Array Operand) (tys : Array TypeId) : stepD P C S V hS ops (.call ⟨.builtin .copy, xs, tys⟩) dst os t h n K = BiD P C S V hS ops .copy tys.toList (xs.toList.map (val t)) dst os t h n K := by
  rw [stepD_sig P C S V hS ops dst os t h n K rfl rfl]; rfl
theorem stepD_clear (xs : Array Operand) (tys : Array TypeId) : stepD P C S V hS ops (.call ⟨.builtin .clear, xs, tys⟩) dst os t h n K = BiD P C S V hS ops .clear tys.toList (xs.toList.map (val t)) dst os t h n K := by
  rw [stepD_sig P C S V hS ops dst os t h n K rfl rfl]; rfl

theorem dU_f (op : Op) (x : Option AV) : dU P C S V hS ops false op x dst os t h n K = dV P C S V hS ops x dst os t h n K := rfl
theorem dW_f (x y : Option AV) : dW P C S V hS ops false x y dst os t h n K = dV P C S V hS ops x dst os t h n K := rfl
theorem dW_t (x y : Option AV) : dW P C S V hS ops true x y dst os t h n K = dVs P C S V hS ops y dst os t h n K := rfl
theorem dLb_f (x : Option AV) (y : Option (List Cell)) (v : AV) : dLb P C S V hS ops false x y v dst os t h n K = dV P C S V hS ops x dst os t h n K := rfl
theorem dLb_t (x : Option AV) (y : Option (List Cell)) (v : AV) : dLb P C S V hS ops true x y v dst os t h n K = dL P C S V hS ops y v dst os t h n K := rfl
theorem dVs_some (v : AV) : dVs P C S V hS ops (some v) dst os t h n K = (Sub hS h ∧ evD P C S V hS ops os (putT t dst v) h n K) := rfl
theorem dVs_if (c : Prop) [Decidable c] (x : Option AV) : dVs P C S V hS ops (if c then x else none) dst os t h n K = (c ∧ dVs P C S V hS ops x dst os t h n K) := by
  unfold dVs
  split <;> simp_all [optK]
theorem dV_some (v : AV) : dV P C S V hS ops (some v) dst os t h n K = evD P C S V hS ops os (putT t dst v) h n K := rfl
theorem dV_none : dV P C S V hS ops none dst os t h n K = False := rfl
theorem dV_if (c : Prop) [Decidable c] (x : Option AV) : dV P C S V hS ops (if c then x else none) dst os t h n K = (c ∧ dV P C S V hS ops x dst os t h n K) := by
  unfold dV
  split <;> simp_all [optK]
theorem dH_some (h' : Heap) : dH P C S V hS ops (some h') dst os t n K = (Sub hS h' ∧ evD P C S V hS ops os (putT t dst (.one .junk)) h' n K) := rfl
theorem dH_if (c : Prop) [Decidable c] (x : Option Heap) : dH P C S V hS ops (if c then x else none) dst os t n K = (c ∧ dH P C S V hS ops x dst os t n K) := by
  split <;> simp_all [dH]
theorem dL_some (cs : List Cell) (v : AV) : dL P C S V hS ops (some cs) v dst os t h n K = (Sub hS (upd h (C.b + n) ⟨0, cs⟩) ∧ evD P C S V hS ops os (putT t dst v) (upd h (C.b + n) ⟨0, cs⟩) (n + 1) K) := rfl
theorem callS_t (f : AV) (args : List AV) (v : AV) : callS P C S V hS ops true f args v dst os t h n K = pC P C S V hS ops f args v dst os t h n K := rfl
theorem callS_f (f : AV) (args : List AV) (v : AV) : callS P C S V hS ops false f args v dst os t h n K = dC P C S V hS ops f args dst os t h n K := rfl
theorem pC_clo (g : FuncId) (first cap : List Cell) (args : List AV) (v : AV) : pC P C S V hS ops (.one (.clo (.func g) first cap)) args v dst os t h n K = CallP P C S V hS ops g (first.map .one ++ (args ++ cap.map .one)) v dst os t h n K := rfl
theorem dC_clo (g : FuncId) (first cap : List Cell) (args : List AV) : dC P C S V hS ops (.one (.clo (.func g) first cap)) args dst os t h n K = CallD P C S V hS ops g (first.map .one ++ (args ++ cap.map .one)) dst os t h n K := rfl
theorem dGd_some (d : Tmp) (want : Bool) (op : Op) : dGd P C S V hS ops (some d) want op dst os t h n K = dG P C S V hS ops (t d) want op dst os t h n K := rfl
theorem dG_bool (g want : Bool) (op : Op) : dG P C S V hS ops (.one (.p (.v (.bool g)))) want op dst os t h n K = ((g = want → stepD P C S V hS ops op dst os t h n K) ∧ (g = !want → evD P C S V hS ops os (putT t dst undA) h n K)) := rfl
theorem dG_und (want : Bool) (op : Op) : dG P C S V hS ops undA want op dst os t h n K = evD P C S V hS ops os (putT t dst undA) h n K := rfl

theorem dV_congr {x x' : Option AV} (e : x = x') : dV P C S V hS ops x dst os t h n K = dV P C S V hS ops x' dst os t h n K := by rw [e]
theorem dH_congr {x x' : Option Heap} (e : x = x') : dH P C S V hS ops x dst os t n K = dH P C S V hS ops x' dst os t n K := by rw [e]
theorem dL_congr {x x' : Option (List Cell)} (v : AV) (e : x = x') : dL P C S V hS ops x v dst os t h n K = dL P C S V hS ops x' v dst os t h n K := by rw [e]
theorem dC_congr {f f' : AV} {args args' : List AV} (e : f = f') (e2 : args = args') : dC P C S V hS ops f args dst os t h n K = dC P C S V hS ops f' args' dst os t h n K := by rw [e, e2]
theorem dU_congr {b b' : Bool} (op : Op) (x : Option AV) (e : b = b') : dU P C S V hS ops b op x dst os t h n K = dU P C S V hS ops b' op x dst os t h n K := by rw [e]
theorem dW_congr {b b' : Bool} (x y : Option AV) (e : b = b') : dW P C S V hS ops b x y dst os t h n K = dW P C S V hS ops b' x y dst os t h n K := by rw [e]
theorem dLb_congr {b b' : Bool} (x : Option AV) (y : Option (List Cell)) (v : AV) (e : b = b') : dLb P C S V hS ops b x y v dst os t h n K = dLb P C S V hS ops b' x y v dst os t h n K := by rw [e]
theorem dVs_congr {x x' : Option AV} (e : x = x') : dVs P C S V hS ops x dst os t h n K = dVs P C S V hS ops x' dst os t h n K := by rw [e]
theorem callS_congr {b b' : Bool} {f f' : AV} {args args' : List AV} {v v' : AV} (e0 : b = b') (e : f = f') (e2 : args = args') (e3 : v = v') : callS P C S V hS ops b f args v dst os t h n K = callS P C S V hS ops b' f' args' v' dst os t h n K := by rw [e0, e, e2, e3]
theorem pC_congr {f f' : AV} {args args' : List AV} {v v' : AV} (e : f = f') (e2 : args = args') (e3 : v = v') : pC P C S V hS ops f args v dst os t h n K = pC P C S V hS ops f' args' v' dst os t h n K := by rw [e, e2, e3]
theorem CallP_congr (g : FuncId) {args args' : List AV} {v v' : AV} (e2 : args = args') (e3 : v = v') : CallP P C S V hS ops g args v dst os t h n K = CallP P C S V hS ops g args' v' dst os t h n K := by rw [e2, e3]
theorem CallD_congr (g : FuncId) {args args' : List AV} (e : args = args') : CallD P C S V hS ops g args dst os t h n K = CallD P C S V hS ops g args' dst os t h n K := by rw [e]
theorem BiD_congr (b : Builtin) (tys : List TypeId) {args args' : List AV} (e : args = args') : BiD P C S V hS ops b tys args dst os t h n K = BiD P C S V hS ops b tys args' dst os t h n K := by rw [e]
theorem dGd_congr {x x' : Option Tmp} (want : Bool) (op : Op) (e : x = x') : dGd P C S V hS ops x want op dst os t h n K = dGd P C S V hS ops x' want op dst os t h n K := by rw [e]
theorem dG_congr {x x' : AV} (want : Bool) (op : Op) (e : x = x') : dG P C S V hS ops x want op dst os t h n K = dG P C S V hS ops x' want op dst os t h n K := by rw [e]
end

/-- a drawn region ahead of what follows; M: the blocks that it writes -/
theorem AWP.seqRegD (S : List Tmp) (V : List AV) {P : Program} {C : Ctx} {Q : Exit → St → Prop} {s : St} {id : Nat} {ops : Array Oper} {y : Code} (M : List Nat) (hm : P.follows .mixedOrders = true) (hB : drawB S ops = true) (hN : dstsB C.N ops.toList = true)
    (e : ∀ K : FinT, (∀ t h n, AWP P C y Q ⟨t, h, n⟩ → K t h n) → evD P C S V (M.foldl ers s.h) #[] ops.toList s.t s.h s.n K ∨ evD P C S V (M.foldl ers s.h) ops ops.toList s.t s.h s.n K) (hg : (ops.all fun o => o.guard.isNone) = true) (hr : C.x.rd = none := by rfl) : AWP P C (.seq (.region id ops true) y) Q s := by
  have hsub : ∀ (M : List Nat) (h : Heap), Sub (M.foldl ers h) h := by
    intro M
    induction M with
    | nil => intro h; exact .refl h
    | cons m M ih => intro h; exact (ih (ers h m)).trans (sub_ers h m)
  refine .seq (AWP.regionD (V := V) hm hB hN (hsub M s.h) ?_ hr)
  have hsame : ∀ (l : List Oper) (t : Nat → AV) (h : Heap) (n : Nat) (K : FinT), (∀ o ∈ l, o.guard = none) → evD P C S V (M.foldl ers s.h) #[] l t h n K → evD P C S V (M.foldl ers s.h) ops l t h n K := by
    intro l
    induction l with
    | nil => intro t h n K _ e; exact e
    | cons o l ih =>
      intro t h n K hgl e
      have hgo : o.guard = none := hgl o (by simp)
      have hw : ∀ (os : Array Oper) t, wantD os t o = some true := by intro os t; unfold wantD; rw [hgo]
      unfold evD at e ⊢
      split at e
      · rename_i hs
        rw [if_pos hs]
        obtain ⟨v, hv, ok, e⟩ := e
        refine ⟨v, ?_, ?_, ih _ _ _ _ (fun o ho => hgl o (by simp [ho])) e⟩
        · unfold valD at hv ⊢
          rw [hw] at hv ⊢
          exact hv
        · unfold okD at ok ⊢
          rw [hw] at ok ⊢
          exact ok
      · rename_i hs
        rw [if_neg hs]
        unfold sigD at e ⊢
        rw [hw] at e ⊢
        exact aop_mono (fun v h' n' ⟨s, e⟩ => ⟨s, ih _ _ _ _ (fun o ho => hgl o (by simp [ho])) e⟩) e
  have hgl : ∀ o ∈ ops.toList, o.guard = none := by
    intro o ho
    have := Array.all_eq_true_iff_forall_mem.1 hg o (by simpa using ho)
    simpa using this
  rcases e _ (fun t h n k => k) with e | e
  · exact hsame _ _ _ _ _ hgl e
  · exact e

/-- .. with guards -/
theorem AWP.seqRegDG (S : List Tmp) (V : List AV) {P : Program} {C : Ctx} {Q : Exit → St → Prop} {s : St} {id : Nat} {ops : Array Oper} {y : Code} (M : List Nat) (hm : P.follows .mixedOrders = true) (hB : drawB S ops = true) (hN : dstsB C.N ops.toList = true)
    (e : ∀ K : FinT, (∀ t h n, AWP P C y Q ⟨t, h, n⟩ → K t h n) → evD P C S V (M.foldl ers s.h) ops ops.toList s.t s.h s.n K) (hr : C.x.rd = none := by rfl) : AWP P C (.seq (.region id ops true) y) Q s := by
  have hsub : ∀ (M : List Nat) (h : Heap), Sub (M.foldl ers h) h := by
    intro M
    induction M with
    | nil => intro h; exact .refl h
    | cons m M ih => intro h; exact (ih (ers h m)).trans (sub_ers h m)
  exact .seq (AWP.regionD (V := V) hm hB hN (hsub M s.h) (e _ (fun t h n k => k)) hr)

/-- a drawn region whose last operation waits for all others -/
theorem AWP.seqRegDL (S : List Tmp) (V : List AV) {P : Program} {C : Ctx} {Q : Exit → St → Prop} {s : St} {id : Nat} {ops : Array Oper} {y : Code} (M : List Nat) (N : Nat) (hm : P.follows .mixedOrders = true) (hB : drawB S ops = true) (hLB : lastB ops = true) (hN : dstsB C.N ops.toList = true)
    (hsz : (ops.size == N + 1) = true) (hg : ((ops.toList.drop N).all fun o => o.guard.isNone) = true)
    (e : ∀ K : FinT, (∀ t h n, AWP P C y Q ⟨t, h, n⟩ → K t h n) → evD P C S V (M.foldl ers s.h) ops (ops.toList.take N) s.t s.h s.n (fun t h n => evOps P C (fun _ _ => False) (ops.toList.drop N) [] t h n K)) (hr : C.x.rd = none := by rfl) : AWP P C (.seq (.region id ops true) y) Q s := by
  have hsub : ∀ (M : List Nat) (h : Heap), Sub (M.foldl ers h) h := by
    intro M
    induction M with
    | nil => intro h; exact .refl h
    | cons m M ih => intro h; exact (ih (ers h m)).trans (sub_ers h m)
  have hsz' : ops.size = N + 1 := by simpa using hsz
  refine .seq (AWP.regionDL (V := V) hm hB hLB hN (hsub M s.h) ?_ hr)
  have hl : ops.toList.dropLast = ops.toList.take N := by rw [List.dropLast_eq_take]; simp [hsz']
  have hd : ops.toList.drop N = [ops[N]'(by omega)] := by
    rw [List.drop_eq_getElem_cons (by simp [hsz']), List.drop_of_length_le (by simp [hsz'])]
    simp
  rw [hl]
  rw [hd] at hg
  have hg' : (ops[N]'(by omega)).guard = none := by simpa using hg
  refine evD_mono _ _ _ _ (fun t h n k => ?_) (e _ (fun t h n k => k))
  rw [hd] at k
  unfold lastK
  have ho : ops[ops.size - 1]? = some (ops[N]'(by omega)) := by
    have hx : ops.size - 1 = N := by omega
    rw [hx]; exact Array.getElem?_eq_getElem (by omega)
  rw [ho]
  simp only [wantD, hg']
  unfold evOps at k
  rw [hg'] at k
  exact k

theorem evD_guardT {P : Program} {C : Ctx} {S : List Tmp} {V : List AV} {hS : Heap} {ops : Array Oper} {dst : Option Tmp} {ty : TypeId} {pos : String} {after : Array Edge} {os : List Oper} {t : Nat → AV} {h : Heap} {n : Nat} {K : FinT} {op : Op} {j : Nat} {want : Bool} (d : Tmp)
    (hd : (ops[j]?).bind (·.dst) = some d) (k : dG P C S V hS ops (t d) want op dst os t h n K) : evD P C S V hS ops (⟨dst, op, ty, pos, after, some (j, want)⟩ :: os) t h n K :=
  evD_guard _ _ _ _ _ _ _ _ _ _ _ _ _ _ _ _ _ _ (by rw [hd]; exact k)

theorem CallD.use {P : Program} {C : Ctx} {S : List Tmp} {V : List AV} {hS : Heap} {ops : Array Oper} {g : FuncId} {args : List AV} {dst : Option Tmp} {os : List Oper} {t : Nat → AV} {h : Heap} {n m : Nat} {K : FinT} {R : AV → Heap → Prop}
    (c : ACalls P g args h (C.b + n) m R) (hb : bodyB P g = true) (k : ∀ r h', R r h' → Sub hS h' ∧ evD P C S V hS ops os (putT t dst r) h' (n + m) K) : CallD P C S V hS ops g args dst os t h n K :=
  .inl ⟨m, R, hb, c, k⟩

/-- a call that is taken for simple: its contract, whatever the heap -/
theorem CallP.use {P : Program} {C : Ctx} {S : List Tmp} {V : List AV} {hS : Heap} {ops : Array Oper} {g : FuncId} {args : List AV} {v : AV} {dst : Option Tmp} {os : List Oper} {t : Nat → AV} {h : Heap} {n : Nat} {K : FinT}
    (c : ∀ h b, Sub hS h → ACalls P g args h b 0 (fun r h' => r = v ∧ h' = h)) (hb : bodyB P g = true) (k : evD P C S V hS ops os (putT t dst v) h n K) : CallP P C S V hS ops g args v dst os t h n K := ⟨⟨hb, c⟩, k⟩

attribute [congr] dU_congr dW_congr dLb_congr dVs_congr callS_congr pC_congr CallP_congr dV_congr dH_congr dL_congr dC_congr CallD_congr BiD_congr dGd_congr dG_congr
attribute [go_sem ↓] evD_nil evD_plain stepD_assign stepD_move stepD_pick stepD_load stepD_fieldAddr stepD_field stepD_indexAddr stepD_index stepD_unOp stepD_convert stepD_slice stepD_extract stepD_nilCheck stepD_build stepD_makeFunc stepD_binOp stepD_buildSlice stepD_len stepD_cap stepD_min stepD_max stepD_box stepD_alloc stepD_store stepD_makeSlice stepD_call stepD_append stepD_copy stepD_clear ers_lit
attribute [go_sem] husk_ver husk_cells husk_mk dV_some dV_none dV_if dH_some dH_if dU_f dW_f dW_t dLb_f dLb_t dVs_some dVs_if dL_some callS_t callS_f pC_clo inS lkS dC_clo dGd_some dG_bool dG_und bslP pdOf chunk List.foldl_nil List.foldl_cons
end Go.Proofs.YtengjcdilnikhaaDoor.Am
