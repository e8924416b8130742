/-
  The abstract machine: loops: what the cut leaves; small lemmas for walks.
-/
import Derived.Test.YtengjcdilnikhaaDoorAmSimpD
import Derived.IntWalk
namespace Go.Proofs.YtengjcdilnikhaaDoor.Am
set_option linter.unusedSimpArgs false
set_option linter.unusedVariables false
set_option linter.unnecessarySimpa false
open Go

theorem cut_t (C : Ctx) (n : Nat) (s : St) (i : Nat) : (s.cut C n).t i = cutV (C.b + n) (s.t i) := rfl
theorem cut_h (C : Ctx) (n : Nat) (s : St) : (s.cut C n).h = cutH (C.b + n) s.h := rfl
theorem cut_n (C : Ctx) (n : Nat) (s : St) : (s.cut C n).n = n := rfl
theorem cutV_p (m : Nat) (d : PD) : cutV m (.one (.p d)) = .one (.p d) := rfl
theorem cutV_ro (m : Nat) (d : List PD) : cutV m (.one (.ro d)) = .one (.ro d) := rfl
theorem cutV_junk (m : Nat) : cutV m (.one .junk) = .one .junk := rfl
theorem cutV_ptr {m id ver off : Nat} (h : id < m) : cutV m (.one (.ptr id ver off)) = .one (.ptr id ver off) := by simp [cutV, cutC, lowC, h]
theorem cutV_win {m id ver off len cap : Nat} (h : id < m) : cutV m (.one (.win id ver off len cap)) = .one (.win id ver off len cap) := by simp [cutV, cutC, lowC, h]
theorem cutV_clo0 (m : Nat) (f : Fn) : cutV m (.one (.clo f [] [])) = .one (.clo f [] []) := rfl
theorem cutC_p (m : Nat) (d : PD) : cutC m (.p d) = .p d := rfl
theorem cutC_junk (m : Nat) : cutC m .junk = .junk := rfl
theorem cutC_ptr {m id ver off : Nat} (h : id < m) : cutC m (.ptr id ver off) = .ptr id ver off := by simp [cutC, lowC, h]
theorem cutC_win {m id ver off len cap : Nat} (h : id < m) : cutC m (.win id ver off len cap) = .win id ver off len cap := by simp [cutC, lowC, h]
theorem cutH_at {m : Nat} {h : Heap} {id : Nat} {b : Blk} (hl : id < m) (e : h id = some b) : cutH m h id = some ⟨b.ver, b.cells.map (cutC m)⟩ := by
  unfold cutH; rw [if_pos hl, e]; rfl
theorem map_cutC_p (m : Nat) (ds : List PD) : (ds.map Cell.p).map (cutC m) = ds.map .p := by
  rw [List.map_map]; rfl

/-- a block that stays as it is -/
theorem cutH_same {m : Nat} {h : Heap} {id : Nat} {b : Blk} (hl : id < m) (e : h id = some b) (hc : lowCs m b.cells = true) : cutH m h id = some b := by
  rw [cutH_at hl e]
  have : b.cells.map (cutC m) = b.cells := by
    have h1 : b.cells.map (cutC m) = b.cells.map (fun c => c) := List.map_congr_left (fun c hcm => by unfold cutC; rw [if_pos (lowCs_mem hc c hcm)])
    rw [h1]; simp
  rw [this]

theorem lowC_mono {m m' : Nat} (h : m ≤ m') {c : Cell} (e : lowC m c = true) : lowC m' c = true := by
  have : ∀ c, lowC m c = true → lowC m' c = true := by
    intro c
    induction c using lowC.induct (motive_2 := fun cs => lowCs m cs = true → lowCs m' cs = true) with
    | case1 | case2 | case3 => intro _; rfl
    | case4 | case5 => intro e; simp only [lowC, decide_eq_true_eq] at e ⊢; omega
    | case6 f c d ih1 ih2 => intro e; simp only [lowC, Bool.and_eq_true] at e ⊢; exact ⟨ih1 e.1, ih2 e.2⟩
    | case7 => rfl
    | case8 c cs ih1 ih2 => rename_i e; simp only [lowCs, Bool.and_eq_true] at e ⊢; exact ⟨ih1 e.1, ih2 e.2⟩
  exact this c e

/-- the outer blocks stay as they are -/
theorem cutH_outer {b m : Nat} {h h0 : Heap} (hm : b ≤ m) (e : ∀ id, id < b → h id = h0 id) (hl : ∀ id blk, h0 id = some blk → ∀ c ∈ blk.cells, lowC b c = true) : ∀ id, id < b → cutH m h id = h0 id := by
  intro id hid
  cases h1 : h0 id with
  | none => unfold cutH; rw [if_pos (by omega), e id hid, h1]; rfl
  | some blk => exact cutH_same (by omega) ((e id hid).trans h1) (lowCs_of fun c hc => lowC_mono hm (hl id blk h1 c hc))

theorem AWP.ifT {P : Program} {C : Ctx} {Q : Exit → St → Prop} {s : St} {c : Operand} {x y : Code} (hc : val s.t c = .one (.p (.v (.bool true)))) (h : AWP P C x Q s) : AWP P C (.cond c x y) Q s :=
  AWP.cond hc (fun _ => h) (fun h => by cases h)
theorem AWP.ifF {P : Program} {C : Ctx} {Q : Exit → St → Prop} {s : St} {c : Operand} {x y : Code} (hc : val s.t c = .one (.p (.v (.bool false)))) (h : AWP P C y Q s) : AWP P C (.cond c x y) Q s :=
  AWP.cond hc (fun h => by cases h) (fun _ => h)

theorem wrap_i64 {x : Int} (h1 : -9223372036854775808 ≤ x) (h2 : x ≤ 9223372036854775807) : IntKind.i64.wrap x = x := by
  exact IntWalk.i64_in x ⟨h1, h2⟩

/-- a loop with a measure of its own -/
theorem AWP.loopM {P : Program} {C : Ctx} {Q : Exit → St → Prop} {s : St} {c : Code} (n : Nat) (I : Nat → St → Prop) (m : Nat) (hn : s.n = n) (h0 : I m s)
    (round : ∀ m s, I m s → s.n = n → AWP P C c (thn (fun s' => n ≤ s'.n ∧ ∃ m', m' < m ∧ I m' (s'.cut C n)) Q) s) : AWP P C (.loop c) Q s := by
  intro a w ι hI b k cs hro hb hr
  have key : ∀ m s a w ι, I m s → s.n = n → Inv C ι s a w →
      ∃ e a' w', PostQ C Q e a' w' ∧ ArrivesIn (Machine.fenced P C.F) P (lone (b.atR a (.code c :: .inLoop c :: k)) cs w) b k cs e a' w' := by
    intro m
    induction m using Nat.strongRecOn with
    | _ m ih =>
      intro s a w ι hs hsn hinv
      obtain ⟨e, a₁, w₁, hq, harr⟩ := round m s hs hsn a w ι hinv b (.inLoop c :: k) cs hro hb hr
      rcases hq with ⟨s₁, ι₁, hq, hinv₁⟩ | ⟨rfl, he⟩
      · cases e with
        | normal =>
          obtain ⟨hle, m', hlt, hI₁⟩ := hq
          obtain ⟨e₂, a₂, w₂, hq₂, harr₂⟩ := ih m' hlt (s₁.cut C n) a₁ w₁ ι₁ hI₁ rfl (hinv₁.cut n hle)
          exact ⟨e₂, a₂, w₂, hq₂, .of_steps (StepsIn.trans harr (.one (fenced_calm hb hr rfl) stepR_inLoop)) harr₂⟩
        | exit id => exact ⟨_, a₁, w₁, .inl ⟨s₁, ι₁, hq, hinv₁⟩, .pass (x := .inLoop c) rfl (fun _ _ => .inl (by simp)) harr⟩
        | goto l => exact ⟨_, a₁, w₁, .inl ⟨s₁, ι₁, hq, hinv₁⟩, .pass (x := .inLoop c) rfl (fun _ _ => .inl (by simp)) harr⟩
        | ret => exact ⟨_, a₁, w₁, .inl ⟨s₁, ι₁, hq, hinv₁⟩, .pass (x := .inLoop c) rfl (fun _ _ => .inl (by simp)) harr⟩
        | panic ch => exact ⟨_, a₁, w₁, .inl ⟨s₁, ι₁, hq, hinv₁⟩, .pass (x := .inLoop c) rfl (fun _ _ => .inl (by simp)) harr⟩
        | outgrown => exact ⟨_, a₁, w₁, .inl ⟨s₁, ι₁, hq, hinv₁⟩, .pass (x := .inLoop c) rfl (fun _ _ => .inl (by simp)) harr⟩
      · exact ⟨_, a₁, w₁, .inr ⟨rfl, he⟩, .pass (x := .inLoop c) rfl (fun _ _ => .inl (by simp)) harr⟩
  obtain ⟨e, a', w', hq, harr⟩ := key _ s a w ι h0 hn hI
  exact ⟨e, a', w', hq, .of_steps (.one (fenced_calm hb hr rfl) stepR_loop) harr⟩

/-- a loop that goes up by one, to N -/
theorem AWP.loopUp {P : Program} {C : Ctx} {Q : Exit → St → Prop} {s : St} {c : Code} (n : Nat) (N : Nat) (I : Nat → St → Prop) (i0 : Nat) (hi0 : i0 ≤ N) (hn : s.n = n) (h0 : I i0 s)
    (round : ∀ i s, i ≤ N → I i s → s.n = n → AWP P C c (thn (fun s' => n ≤ s'.n ∧ i < N ∧ I (i + 1) (s'.cut C n)) Q) s) : AWP P C (.loop c) Q s := by
  refine AWP.loopM n (fun m s => ∃ i, i ≤ N ∧ m = N - i ∧ I i s) (N - i0) hn ⟨i0, hi0, rfl, h0⟩ ?_
  rintro m s ⟨i, hi, rfl, hI⟩ hsn
  refine (round i s hi hI hsn).mono (fun e s' => ?_)
  cases e with
  | normal => rintro ⟨h1, h2, h3⟩; exact ⟨h1, N - (i + 1), by omega, i + 1, h2, rfl, h3⟩
  | _ => exact fun h => h

attribute [go_sem] cut_t cut_h cut_n cutV_p cutV_ro cutV_junk cutV_clo0 cutC_p cutC_junk
end Go.Proofs.YtengjcdilnikhaaDoor.Am
