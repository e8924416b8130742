/-
  The abstract machine: loops: what the cut leaves; small lemmas for walks; The abstract machine: a walk's steps, each by one word (what is to be computed stands as a default argument).
-/
import Derived.Test.YtengjcdilnikhaaDoorAmSimpD
import Derived.IntWalk
namespace Go.Proofs.YtengjcdilnikhaaDoor.Am
set_option linter.unusedSimpArgs false
set_option linter.unusedVariables false
set_option linter.unnecessarySimpa false
open Go

theorem cut_t (C : Ctx) (n : Nat) (s : St) (i : Nat) : (s.cut C n).t i = cutV (C.b + n) (s.t i) := rfl
theorem cut_h (C : Ctx) (n : Nat) (s : St) : (s.cut C n).h = cutH (C.b + n) s.h := rfl
theorem cut_n (C : Ctx) (n : Nat) (s : St) : (s.cut C n).n = n := rfl
theorem cutV_p (m : Nat) (d : PD) : cutV m (.one (.p d)) = .one (.p d) := rfl
theorem cutV_ro (m : Nat) (d : List PD) : cutV m (.one (.ro d)) = .one (.ro d) := rfl
theorem cutV_junk (m : Nat) : cutV m (.one .junk) = .one .junk := rfl
theorem cutV_ptr {m id ver off : Nat} (h : id < m) : cutV m (.one (.ptr id ver off)) = .one (.ptr id ver off) := by simp [cutV, cutC, lowC, h]
theorem cutV_win {m id ver off len cap : Nat} (h : id < m) : cutV m (.one (.win id ver off len cap)) = .one (.win id ver off len cap) := by simp [cutV, cutC, lowC, h]
theorem cutV_clo0 (m : Nat) (f : Fn) : cutV m (.one (.clo f [] [])) = .one (.clo f [] []) := rfl
theorem cutC_p (m : Nat) (d : PD) : cutC m (.p d) = .p d := rfl
theorem cutC_junk (m : Nat) : cutC m .junk = .junk := rfl
theorem cutC_ptr {m id ver off : Nat} (h : id < m) : cutC m (.ptr id ver off) = .ptr id ver off := by simp [cutC, lowC, h]
theorem cutC_win {m id ver off len cap : Nat} (h : id < m) : cutC m (.win id ver off len cap) = .win id ver off len cap := by simp [cutC, lowC, h]
theorem cutH_at {m : Nat} {h : Heap} {id : Nat} {b : Blk} (hl : id < m) (e : h id = some b) : cutH m h id = some ⟨b.ver, b.cells.map (cutC m)⟩ := by
  unfold cutH; rw [if_pos hl, e]; rfl
theorem map_cutC_p (m : Nat) (ds : List PD) : (ds.map Cell.p).map (cutC m) = ds.map .p := by
  rw [List.map_map]; rfl

/-- a block that stays as it is -/
theorem cutH_same {m : Nat} {h : Heap} {id : Nat} {b : Blk} (hl : id < m) (e : h id = some b) (hc : lowCs m b.cells = true) : cutH m h id = some b := by
  rw [cutH_at hl e]
  have : b.cells.map (cutC m) = b.cells := by
    have h1 : b.cells.map (cutC m) = b.cells.map (fun c => c) := List.map_congr_left (fun c hcm => by unfold cutC; rw [if_pos (lowCs_mem hc c hcm)])
    rw [h1]; simp
  rw [this]

theorem lowC_mono {m m' : Nat} (h : m ≤ m') {c : Cell} (e : lowC m c = true) : lowC m' c = true := by
  have : ∀ c, lowC m c = true → lowC m' c = true := by
    intro c
    induction c using lowC.induct (motive_2 := fun cs => lowCs m cs = true → lowCs m' cs = true) with
    | case1 | case2 | case3 => intro _; rfl
    | case4 | case5 => intro e; simp only [lowC, decide_eq_true_eq] at e ⊢; omega
    | case6 f c d ih1 ih2 => intro e; simp only [lowC, Bool.and_eq_true] at e ⊢; exact ⟨ih1 e.1, ih2 e.2⟩
    | case7 => rfl
    | case8 c cs ih1 ih2 => rename_i e; simp only [lowCs, Bool.and_eq_true] at e ⊢; exact ⟨ih1 e.1, ih2 e.2⟩
  exact this c e

/-- the outer blocks stay as they are -/
theorem cutH_outer {b m : Nat} {h h0 : Heap} (hm : b ≤ m) (e : ∀ id, id < b → h id = h0 id) (hl : ∀ id blk, h0 id = some blk → ∀ c ∈ blk.cells, lowC b c = true) : ∀ id, id < b → cutH m h id = h0 id := by
  intro id hid
  cases h1 : h0 id with
  | none => unfold cutH; rw [if_pos (by omega), e id hid, h1]; rfl
  | some blk => exact cutH_same (by omega) ((e id hid).trans h1) (lowCs_of fun c hc => lowC_mono hm (hl id blk h1 c hc))

theorem AWP.ifT {P : Program} {C : Ctx} {Q : Exit → St → Prop} {s : St} {c : Operand} {x y : Code} (hc : val s.t c = .one (.p (.v (.bool true)))) (h : AWP P C x Q s) : AWP P C (.cond c x y) Q s :=
  AWP.cond hc (fun _ => h) (fun h => by cases h)
theorem AWP.ifF {P : Program} {C : Ctx} {Q : Exit → St → Prop} {s : St} {c : Operand} {x y : Code} (hc : val s.t c = .one (.p (.v (.bool false)))) (h : AWP P C y Q s) : AWP P C (.cond c x y) Q s :=
  AWP.cond hc (fun h => by cases h) (fun _ => h)

theorem wrap_i64 {x : Int} (h1 : -9223372036854775808 ≤ x) (h2 : x ≤ 9223372036854775807) : IntKind.i64.wrap x = x := by
  exact IntWalk.i64_in x ⟨h1, h2⟩

/-- a loop with a measure of its own -/
theorem AWP.loopM {P : Program} {C : Ctx} {Q : Exit → St → Prop} {s : St} {c : Code} (n : Nat) (I : Nat → St → Prop) (m : Nat) (hn : s.n = n) (h0 : I m s)
    (round : ∀ m s, I m s → s.n = n → AWP P C c (thn (fun s' => n ≤ s'.n ∧ ∃ m', m' < m ∧ I m' (s'.cut C n)) Q) s) : AWP P C (.loop c) Q s := by
  intro a w ι hI b k cs hro hb hr
  have key : ∀ m s a w ι, I m s → s.n = n → Inv C ι s a w →
      ∃ e a' w', PostQ C Q e a' w' ∧ ArrivesIn (Machine.fenced P C.F) P (lone (b.atR a (.code c :: .inLoop c :: k)) cs w) b k cs e a' w' := by
    intro m
    induction m using Nat.strongRecOn with
    | _ m ih =>
      intro s a w ι hs hsn hinv
      obtain ⟨e, a₁, w₁, hq, harr⟩ := round m s hs hsn a w ι hinv b (.inLoop c :: k) cs hro hb hr
      rcases hq with ⟨s₁, ι₁, hq, hinv₁⟩ | ⟨rfl, he⟩
      · cases e with
        | normal =>
          obtain ⟨hle, m', hlt, hI₁⟩ := hq
          obtain ⟨e₂, a₂, w₂, hq₂, harr₂⟩ := ih m' hlt (s₁.cut C n) a₁ w₁ ι₁ hI₁ rfl (hinv₁.cut n hle)
          exact ⟨e₂, a₂, w₂, hq₂, .of_steps (StepsIn.trans harr (.one (fenced_calm hb hr rfl) stepR_inLoop)) harr₂⟩
        | exit id => exact ⟨_, a₁, w₁, .inl ⟨s₁, ι₁, hq, hinv₁⟩, .pass (x := .inLoop c) rfl (fun _ _ => .inl (by simp)) harr⟩
        | goto l => exact ⟨_, a₁, w₁, .inl ⟨s₁, ι₁, hq, hinv₁⟩, .pass (x := .inLoop c) rfl (fun _ _ => .inl (by simp)) harr⟩
        | ret => exact ⟨_, a₁, w₁, .inl ⟨s₁, ι₁, hq, hinv₁⟩, .pass (x := .inLoop c) rfl (fun _ _ => .inl (by simp)) harr⟩
        | panic ch => exact ⟨_, a₁, w₁, .inl ⟨s₁, ι₁, hq, hinv₁⟩, .pass (x := .inLoop c) rfl (fun _ _ => .inl (by simp)) harr⟩
        | outgrown => exact ⟨_, a₁, w₁, .inl ⟨s₁, ι₁, hq, hinv₁⟩, .pass (x := .inLoop c) rfl (fun _ _ => .inl (by simp)) harr⟩
      · exact ⟨_, a₁, w₁, .inr ⟨rfl, he⟩, .pass (x := .inLoop c) rfl (fun _ _ => .inl (by simp)) harr⟩
  obtain ⟨e, a', w', hq, harr⟩ := key _ s a w ι h0 hn hI
  exact ⟨e, a', w', hq, .of_steps (.one (fenced_calm hb hr rfl) stepR_loop) harr⟩

/-- a loop that goes up by one, to N -/
theorem AWP.loopUp {P : Program} {C : Ctx} {Q : Exit → St → Prop} {s : St} {c : Code} (n : Nat) (N : Nat) (I : Nat → St → Prop) (i0 : Nat) (hi0 : i0 ≤ N) (hn : s.n = n) (h0 : I i0 s)
    (round : ∀ i s, i ≤ N → I i s → s.n = n → AWP P C c (thn (fun s' => n ≤ s'.n ∧ i < N ∧ I (i + 1) (s'.cut C n)) Q) s) : AWP P C (.loop c) Q s := by
  refine AWP.loopM n (fun m s => ∃ i, i ≤ N ∧ m = N - i ∧ I i s) (N - i0) hn ⟨i0, hi0, rfl, h0⟩ ?_
  rintro m s ⟨i, hi, rfl, hI⟩ hsn
  refine (round i s hi hI hsn).mono (fun e s' => ?_)
  cases e with
  | normal => rintro ⟨h1, h2, h3⟩; exact ⟨h1, N - (i + 1), by omega, i + 1, h2, rfl, h3⟩
  | _ => exact fun h => h

attribute [go_sem] cut_t cut_h cut_n cutV_p cutV_ro cutV_junk cutV_clo0 cutC_p cutC_junk
end Go.Proofs.YtengjcdilnikhaaDoor.Am

namespace Go.Proofs.YtengjcdilnikhaaDoor.Am
set_option linter.unusedSimpArgs false
set_option linter.unusedVariables false
set_option linter.unnecessarySimpa false
open Go

theorem jn2 {a b : Prop} (x : a) (y : b) : a ∧ b := ⟨x, y⟩
theorem jn3 {a b c : Prop} (x : a) (y : b) (z : c) : a ∧ b ∧ c := ⟨x, y, z⟩
theorem jn4 {a b c d : Prop} (x : a) (y : b) (z : c) (u : d) : a ∧ b ∧ c ∧ d := ⟨x, y, z, u⟩
theorem jn5 {a b c d e : Prop} (x : a) (y : b) (z : c) (u : d) (v : e) : a ∧ b ∧ c ∧ d ∧ e := ⟨x, y, z, u, v⟩
theorem jn6 {a b c d e f : Prop} (x : a) (y : b) (z : c) (u : d) (v : e) (w : f) : a ∧ b ∧ c ∧ d ∧ e ∧ f := ⟨x, y, z, u, v, w⟩
theorem jn7 {a b c d e f g : Prop} (x : a) (y : b) (z : c) (u : d) (v : e) (w : f) (r : g) : a ∧ b ∧ c ∧ d ∧ e ∧ f ∧ g := ⟨x, y, z, u, v, w, r⟩

/-- an evaluation -/
theorem Ev {p q : Prop} (hq : q) (k : q → p := by intro hq; simp -implicitDefEqProofs only [go_sem, ↓reduceIte, Nat.reduceEqDiff, Nat.reduceAdd, Nat.reduceLT, Nat.reduceLeDiff, reduceCtorEq, Int.toNat_natCast]; exact hq) : p := k hq
theorem Evf {p q e : Prop} (f : e) (hq : q) (k : e → q → p := by intro f hq; simp -implicitDefEqProofs only [go_sem, ↓reduceIte, Nat.reduceEqDiff, Nat.reduceAdd, Nat.reduceLT, Nat.reduceLeDiff, reduceCtorEq, Int.toNat_natCast, f]; exact hq) : p := k f hq
/-- .. that ends the goal -/
theorem Ec {p : Prop} (k : p := by simp -implicitDefEqProofs only [go_sem, ↓reduceIte, Nat.reduceEqDiff, Nat.reduceAdd, Nat.reduceLT, Nat.reduceLeDiff, reduceCtorEq, Int.toNat_natCast]) : p := k
theorem Ecf {p e : Prop} (f : e) (k : e → p := by intro f; simp -implicitDefEqProofs only [go_sem, ↓reduceIte, Nat.reduceEqDiff, Nat.reduceAdd, Nat.reduceLT, Nat.reduceLeDiff, reduceCtorEq, Int.toNat_natCast, f]) : p := k f
/-- .. or the two sides are the same -/
theorem Er {p : Prop} (k : p := by first | (simp -implicitDefEqProofs only [go_sem, ↓reduceIte, Nat.reduceEqDiff, Nat.reduceAdd, Nat.reduceLT, Nat.reduceLeDiff, reduceCtorEq, Int.toNat_natCast]; first | done | rfl) | rfl) : p := k
theorem Erf {p e : Prop} (f : e) (k : e → p := by intro f; first | (simp -implicitDefEqProofs only [go_sem, ↓reduceIte, Nat.reduceEqDiff, Nat.reduceAdd, Nat.reduceLT, Nat.reduceLeDiff, reduceCtorEq, Int.toNat_natCast, f]; first | done | rfl) | rfl) : p := k f

section
variable {P : Program} {C : Ctx} {Q : Exit → St → Prop} {s : St} {id : Nat} {ops : Array Oper} {y : Code}
/-- a region and what follows; and on -/
theorem Rg {q : (Exit → St → Prop) → FinT → Prop} (hq : ∀ E K, (∀ e s, thn (AWP P C y Q) Q e s → E e s) → (∀ t h n, AWP P C y Q ⟨t, h, n⟩ → K t h n) → q E K)
    (k : (∀ E K, (∀ e s, thn (AWP P C y Q) Q e s → E e s) → (∀ t h n, AWP P C y Q ⟨t, h, n⟩ → K t h n) → q E K) → AWP P C (.seq (.region id ops false) y) Q s := by intro hq; refine AWP.seqReg (by kernel_rfl) (fun E K hE hK => ?_); simp -implicitDefEqProofs only [go_sem, ↓reduceIte, Nat.reduceEqDiff, Nat.reduceAdd, Nat.reduceLT, Nat.reduceLeDiff, reduceCtorEq, Int.toNat_natCast]; exact hq E K hE hK) : AWP P C (.seq (.region id ops false) y) Q s := k hq
theorem Rgf {e : Prop} {q : (Exit → St → Prop) → FinT → Prop} (f : e) (hq : ∀ E K, (∀ e s, thn (AWP P C y Q) Q e s → E e s) → (∀ t h n, AWP P C y Q ⟨t, h, n⟩ → K t h n) → q E K)
    (k : e → (∀ E K, (∀ e s, thn (AWP P C y Q) Q e s → E e s) → (∀ t h n, AWP P C y Q ⟨t, h, n⟩ → K t h n) → q E K) → AWP P C (.seq (.region id ops false) y) Q s := by intro f hq; refine AWP.seqReg (by kernel_rfl) (fun E K hE hK => ?_); simp -implicitDefEqProofs only [go_sem, ↓reduceIte, Nat.reduceEqDiff, Nat.reduceAdd, Nat.reduceLT, Nat.reduceLeDiff, reduceCtorEq, Int.toNat_natCast, f]; exact hq E K hE hK) : AWP P C (.seq (.region id ops false) y) Q s := k f hq
theorem Rk {q : Prop} (hq : q) (k : q → AWP P C (.seq (.region id ops false) y) Q s := by intro hq; refine AWP.seqReg (by kernel_rfl) (fun E K hE hK => ?_); simp -implicitDefEqProofs only [go_sem, ↓reduceIte, Nat.reduceEqDiff, Nat.reduceAdd, Nat.reduceLT, Nat.reduceLeDiff, reduceCtorEq, Int.toNat_natCast]; refine hK _ _ _ ?_; exact hq) : AWP P C (.seq (.region id ops false) y) Q s := k hq
theorem Rkf {e q : Prop} (f : e) (hq : q) (k : e → q → AWP P C (.seq (.region id ops false) y) Q s := by intro f hq; refine AWP.seqReg (by kernel_rfl) (fun E K hE hK => ?_); simp -implicitDefEqProofs only [go_sem, ↓reduceIte, Nat.reduceEqDiff, Nat.reduceAdd, Nat.reduceLT, Nat.reduceLeDiff, reduceCtorEq, Int.toNat_natCast, f]; refine hK _ _ _ ?_; exact hq) : AWP P C (.seq (.region id ops false) y) Q s := k f hq
/-- a region alone -/
theorem Ra {q : (Exit → St → Prop) → FinT → Prop} (hq : ∀ E K, (∀ e s, Q e s → E e s) → (∀ t h n, Q .normal ⟨t, h, n⟩ → K t h n) → q E K)
    (k : (∀ E K, (∀ e s, Q e s → E e s) → (∀ t h n, Q .normal ⟨t, h, n⟩ → K t h n) → q E K) → AWP P C (.region id ops false) Q s := by intro hq; refine AWP.reg (by kernel_rfl) (fun E K hE hK => ?_); simp -implicitDefEqProofs only [go_sem, ↓reduceIte, Nat.reduceEqDiff, Nat.reduceAdd, Nat.reduceLT, Nat.reduceLeDiff, reduceCtorEq, Int.toNat_natCast]; exact hq E K hE hK) : AWP P C (.region id ops false) Q s := k hq
theorem Raf {e : Prop} {q : (Exit → St → Prop) → FinT → Prop} (f : e) (hq : ∀ E K, (∀ e s, Q e s → E e s) → (∀ t h n, Q .normal ⟨t, h, n⟩ → K t h n) → q E K)
    (k : e → (∀ E K, (∀ e s, Q e s → E e s) → (∀ t h n, Q .normal ⟨t, h, n⟩ → K t h n) → q E K) → AWP P C (.region id ops false) Q s := by intro f hq; refine AWP.reg (by kernel_rfl) (fun E K hE hK => ?_); simp -implicitDefEqProofs only [go_sem, ↓reduceIte, Nat.reduceEqDiff, Nat.reduceAdd, Nat.reduceLT, Nat.reduceLeDiff, reduceCtorEq, Int.toNat_natCast, f]; exact hq E K hE hK) : AWP P C (.region id ops false) Q s := k f hq
/-- a branch -/
theorem Bt {c : Operand} {x : Code} (hq : AWP P C x Q s) (hc : val s.t c = .one (.p (.v (.bool true))) := by simp -implicitDefEqProofs only [go_sem, ↓reduceIte, Nat.reduceEqDiff, Nat.reduceAdd, Nat.reduceLT, Nat.reduceLeDiff, reduceCtorEq, Int.toNat_natCast]) : AWP P C (.cond c x y) Q s := AWP.ifT hc hq
theorem Btf {c : Operand} {x : Code} {e : Prop} (f : e) (hq : AWP P C x Q s) (hc : e → val s.t c = .one (.p (.v (.bool true))) := by intro f; simp -implicitDefEqProofs only [go_sem, ↓reduceIte, Nat.reduceEqDiff, Nat.reduceAdd, Nat.reduceLT, Nat.reduceLeDiff, reduceCtorEq, Int.toNat_natCast, f]) : AWP P C (.cond c x y) Q s := AWP.ifT (hc f) hq
theorem Bf {c : Operand} {x : Code} (hq : AWP P C y Q s) (hc : val s.t c = .one (.p (.v (.bool false))) := by simp -implicitDefEqProofs only [go_sem, ↓reduceIte, Nat.reduceEqDiff, Nat.reduceAdd, Nat.reduceLT, Nat.reduceLeDiff, reduceCtorEq, Int.toNat_natCast]) : AWP P C (.cond c x y) Q s := AWP.ifF hc hq
theorem Bff {c : Operand} {x : Code} {e : Prop} (f : e) (hq : AWP P C y Q s) (hc : e → val s.t c = .one (.p (.v (.bool false))) := by intro f; simp -implicitDefEqProofs only [go_sem, ↓reduceIte, Nat.reduceEqDiff, Nat.reduceAdd, Nat.reduceLT, Nat.reduceLeDiff, reduceCtorEq, Int.toNat_natCast, f]) : AWP P C (.cond c x y) Q s := AWP.ifF (hc f) hq
theorem Bs {c : Operand} {x : Code} {q : Prop} (hq : q) (hc : val s.t c = .one (.p (.v (.bool false))) := by simp -implicitDefEqProofs only [go_sem, ↓reduceIte, Nat.reduceEqDiff, Nat.reduceAdd, Nat.reduceLT, Nat.reduceLeDiff, reduceCtorEq, Int.toNat_natCast]) (k : q → Q .normal s := by intro hq; simp -implicitDefEqProofs only [go_sem, ↓reduceIte, Nat.reduceEqDiff, Nat.reduceAdd, Nat.reduceLT, Nat.reduceLeDiff, reduceCtorEq, Int.toNat_natCast]; exact hq) : AWP P C (.cond c x .skip) Q s := AWP.ifF hc (AWP.skip (k hq))
theorem Bsf {c : Operand} {x : Code} {q e : Prop} (f : e) (hq : q) (hc : e → val s.t c = .one (.p (.v (.bool false))) := by intro f; simp -implicitDefEqProofs only [go_sem, ↓reduceIte, Nat.reduceEqDiff, Nat.reduceAdd, Nat.reduceLT, Nat.reduceLeDiff, reduceCtorEq, Int.toNat_natCast, f]) (k : q → Q .normal s := by intro hq; simp -implicitDefEqProofs only [go_sem, ↓reduceIte, Nat.reduceEqDiff, Nat.reduceAdd, Nat.reduceLT, Nat.reduceLeDiff, reduceCtorEq, Int.toNat_natCast]; exact hq) : AWP P C (.cond c x .skip) Q s := AWP.ifF (hc f) (AWP.skip (k hq))
end

/-- numbers below b are as they were -/
theorem Ou {b : Nat} {hh h : Heap} (k : ∀ id, id < b → hh id = h id := by intro id (hid : id < b); simp -implicitDefEqProofs only [go_sem, ↓reduceIte, Nat.reduceEqDiff, Nat.reduceAdd, Nat.reduceLT, Nat.reduceLeDiff, reduceCtorEq, Int.toNat_natCast, show ¬ id = b by omega, show ¬ id = b + 1 by omega, show ¬ id = b + 2 by omega, show ¬ id = b + 3 by omega, show ¬ id = b + 4 by omega, show ¬ id = b + 5 by omega, show ¬ id = b + 6 by omega]) : ∀ id, id < b → hh id = h id := k
theorem Ouf {b : Nat} {hh h : Heap} {e : Prop} (ho : e) (k : e → ∀ id, id < b → hh id = h id := by intro ho id (hid : id < b); simp -implicitDefEqProofs only [go_sem, ↓reduceIte, Nat.reduceEqDiff, Nat.reduceAdd, Nat.reduceLT, Nat.reduceLeDiff, reduceCtorEq, Int.toNat_natCast, show ¬ id = b by omega, show ¬ id = b + 1 by omega, show ¬ id = b + 2 by omega, show ¬ id = b + 3 by omega, show ¬ id = b + 4 by omega, show ¬ id = b + 5 by omega, show ¬ id = b + 6 by omega, ho id hid]) : ∀ id, id < b → hh id = h id := k ho

/-- a call's contract -/
theorem Us {P : Program} {C : Ctx} {E : Exit → St → Prop} {g : FuncId} {args : List AV} {dst : Option Tmp} {os : List Oper} {pre : List (Option Tmp)} {t : Nat → AV} {h : Heap} {n m : Nat} {K : FinT} {r0 : AV} {h0 : Heap} {q : Prop}
    (c : ACalls P g args h (C.b + n) m (fun r h' => r = r0 ∧ h' = h0)) (hb : bodyB P g = true) (hq : q) (k : q → evOps P C E os (pre ++ [dst]) (putT t dst r0) h0 (n + m) K := by intro hq; simp -implicitDefEqProofs only [go_sem, ↓reduceIte, Nat.reduceEqDiff, Nat.reduceAdd, Nat.reduceLT, Nat.reduceLeDiff, reduceCtorEq, Int.toNat_natCast]; exact hq) : CallR P C E g args dst os pre t h n K :=
  CallR.use c hb (fun _ _ ⟨e1, e2⟩ => by rw [e1, e2]; exact k hq)
/-- .. in a drawn region -/
theorem Ud {P : Program} {C : Ctx} {S : List Tmp} {V : List AV} {ops : Array Oper} {g : FuncId} {args : List AV} {dst : Option Tmp} {os : List Oper} {t : Nat → AV} {h : Heap} {n m : Nat} {K : FinT} {r0 : AV} {q : Prop}
    (c : ACalls P g args h (C.b + n) m (fun r h' => r = r0 ∧ h' = h)) (hb : bodyB P g = true) (hq : q) (k : q → evD P C S V h ops os (putT t dst r0) h (n + m) K := by intro hq; simp -implicitDefEqProofs only [go_sem, ↓reduceIte, Nat.reduceEqDiff, Nat.reduceAdd, Nat.reduceLT, Nat.reduceLeDiff, reduceCtorEq, Int.toNat_natCast]; exact hq) : CallD P C S V h ops g args dst os t h n K :=
  CallD.use c hb (fun _ _ ⟨e1, e2⟩ => by rw [e1, e2]; exact ⟨Sub.refl _, k hq⟩)
/-- a guard in a drawn region -/
theorem Gd {P : Program} {C : Ctx} {S : List Tmp} {V : List AV} {hS : Heap} {ops : Array Oper} {dst : Option Tmp} {ty : TypeId} {pos : String} {after : Array Edge} {os : List Oper} {t : Nat → AV} {h : Heap} {n : Nat} {K : FinT} {op : Op} {j : Nat} {want : Bool} {q : Prop} (d : Tmp)
    (hq : q) (k : q → dG P C S V hS ops (t d) want op dst os t h n K := by intro hq; simp -implicitDefEqProofs only [go_sem, ↓reduceIte, Nat.reduceEqDiff, Nat.reduceAdd, Nat.reduceLT, Nat.reduceLeDiff, reduceCtorEq, Int.toNat_natCast]; exact hq) (hd : (ops[j]?).bind (·.dst) = some d := by rfl) : evD P C S V hS ops (⟨dst, op, ty, pos, after, some (j, want)⟩ :: os) t h n K := evD_guardT d hd (k hq)
theorem Gdf {P : Program} {C : Ctx} {S : List Tmp} {V : List AV} {hS : Heap} {ops : Array Oper} {dst : Option Tmp} {ty : TypeId} {pos : String} {after : Array Edge} {os : List Oper} {t : Nat → AV} {h : Heap} {n : Nat} {K : FinT} {op : Op} {j : Nat} {want : Bool} {q e : Prop} (d : Tmp)
    (f : e) (hq : q) (k : e → q → dG P C S V hS ops (t d) want op dst os t h n K := by intro f hq; simp -implicitDefEqProofs only [go_sem, ↓reduceIte, Nat.reduceEqDiff, Nat.reduceAdd, Nat.reduceLT, Nat.reduceLeDiff, reduceCtorEq, Int.toNat_natCast, f]; exact hq) (hd : (ops[j]?).bind (·.dst) = some d := by rfl) : evD P C S V hS ops (⟨dst, op, ty, pos, after, some (j, want)⟩ :: os) t h n K := evD_guardT d hd (k f hq)
end Go.Proofs.YtengjcdilnikhaaDoor.Am
