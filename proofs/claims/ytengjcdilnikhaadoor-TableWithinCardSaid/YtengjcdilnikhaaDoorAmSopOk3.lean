/-
  The abstract machine: operations that only compute and read do what is told of them (slices, literals, and all together).
-/
import Derived.Test.YtengjcdilnikhaaDoorAmSopOk2
namespace Go.Proofs.YtengjcdilnikhaaDoor.Am
set_option linter.unusedSimpArgs false
set_option linter.unusedVariables false
set_option linter.unnecessarySimpa false
open Go

variable {P : Program} {ι : Nat → Nat} {h : Heap} {bd : Nat} {w : World}

theorem bound_ok {x : AV} {X : Value} (r : RAV ι h bd w x X) {y : Nat} {c : BoundsCode} {n : Nat} (e : bnd1 x y = some n) :
    (Instr.sliceBound X y c).run P w = .ok n w ∧ n ≤ y := by
  unfold bnd1 intOfA at e
  split at e
  · rename_i k i
    have h1 := int_inv r
    subst h1
    simp only [Option.bind_some] at e
    split at e
    · rename_i hc
      injection e with e
      subst e
      exact ⟨by simp [Instr.sliceBound, asIntOf, hc], by omega⟩
    · cases e
  · cases e

theorem bndA_inv {len cap : Nat} {lo hi mx : Option AV} {l u m : Nat} (e : bndA len cap lo hi mx = some (l, u, m)) : bndMx cap mx = some m ∧ bndHi len m mx.isSome hi = some u ∧ bndLo u lo = some l := by
  unfold bndA at e
  cases h1 : bndMx cap mx with
  | none => rw [h1] at e; simp at e
  | some m' =>
    rw [h1] at e
    simp only [Option.bind_some] at e
    cases h2 : bndHi len m' mx.isSome hi with
    | none => rw [h2] at e; simp at e
    | some u' =>
      rw [h2] at e
      simp only [Option.bind_some] at e
      cases h3 : bndLo u' lo with
      | none => rw [h3] at e; simp at e
      | some l' =>
        rw [h3] at e
        simp only [Option.map_some, Option.some.injEq, Prod.mk.injEq] at e
        obtain ⟨rfl, rfl, rfl⟩ := e
        exact ⟨rfl, h2, h3⟩

theorem bnd_ok {t : Nat → AV} {ρ : Operand → Value} (rel : ∀ x, RAV ι h bd w (val t x) (ρ x)) {g : Bool} {len cap : Nat} {lo hi mx : Option Operand} {l u m : Nat} (hlc : len ≤ cap)
    (e : bndA len cap (lo.map (val t)) (hi.map (val t)) (mx.map (val t)) = some (l, u, m)) :
    (Instr.sliceBounds g len cap (lo.map ρ) (hi.map ρ) (mx.map ρ)).run P w = .ok (l, u, m) w ∧ l ≤ u ∧ u ≤ m ∧ m ≤ cap := by
  obtain ⟨e1, e2, e3⟩ := bndA_inv e
  have H1 : m ≤ cap ∧ (mx = none → m = cap) ∧ (∀ x, mx = some x → ∀ c, (Instr.sliceBound (ρ x) cap c).run P w = .ok m w) := by
    cases mx with
    | none => injection e1 with e1; subst e1; exact ⟨Nat.le_refl _, fun _ => rfl, fun x hx => (by cases hx)⟩
    | some x => refine ⟨(bound_ok (P := P) (c := .index) (rel x) e1).2, fun h => (by cases h), fun y hy c => ?_⟩; injection hy with hy; subst hy; exact (bound_ok (rel x) e1).1
  have H2 : u ≤ m ∧ (∀ x, hi = some x → ∀ c, (Instr.sliceBound (ρ x) m c).run P w = .ok u w) ∧ (hi = none → mx = none ∧ u = len) := by
    cases hi with
    | none =>
      cases mx with
      | none =>
        have e2' : len = u := by simpa [bndHi] using e2
        subst e2'
        exact ⟨by rw [H1.2.1 rfl]; exact hlc, fun x hx => (by cases hx), fun _ => ⟨rfl, rfl⟩⟩
      | some y => simp [bndHi] at e2
    | some x =>
      refine ⟨(bound_ok (P := P) (c := .index) (rel x) e2).2, fun y hy c => ?_, fun h => (by cases h)⟩
      injection hy with hy; subst hy; exact (bound_ok (rel x) e2).1
  have H3 : l ≤ u ∧ (lo = none → l = 0) ∧ (∀ x, lo = some x → ∀ c, (Instr.sliceBound (ρ x) u c).run P w = .ok l w) := by
    cases lo with
    | none => injection e3 with e3; subst e3; exact ⟨Nat.zero_le _, fun _ => rfl, fun x hx => (by cases hx)⟩
    | some x => refine ⟨(bound_ok (P := P) (c := .index) (rel x) e3).2, fun h => (by cases h), fun y hy c => ?_⟩; injection hy with hy; subst hy; exact (bound_ok (rel x) e3).1
  refine ⟨?_, H3.1, H2.1, H1.1⟩
  cases mx with
  | none =>
    have hm' := H1.2.1 rfl
    subst hm'
    cases hi with
    | none =>
      have hu' := (H2.2.2 rfl).2
      subst hu'
      cases lo with
      | none => have := H3.2.1 rfl; subst this; simp [Instr.sliceBounds]
      | some z => simp [Instr.sliceBounds, H3.2.2 z rfl]
    | some y =>
      cases lo with
      | none => have := H3.2.1 rfl; subst this; simp [Instr.sliceBounds, H2.2.1 y rfl]
      | some z => simp [Instr.sliceBounds, H2.2.1 y rfl, H3.2.2 z rfl]
  | some x =>
    cases hi with
    | none => have := (H2.2.2 rfl).1; cases this
    | some y =>
      cases lo with
      | none => have := H3.2.1 rfl; subst this; simp [Instr.sliceBounds, H1.2.2 x rfl, H2.2.1 y rfl]
      | some z => simp [Instr.sliceBounds, H1.2.2 x rfl, H2.2.1 y rfl, H3.2.2 z rfl]

theorem bnd1_mono {x : AV} {y y' n : Nat} (hy : y ≤ y') (e : bnd1 x y = some n) : bnd1 x y' = some n := by
  unfold bnd1 at e ⊢
  cases hi : intOfA x with
  | none => rw [hi] at e; simp at e
  | some i =>
    rw [hi] at e
    simp only [Option.bind_some] at e ⊢
    split at e
    · rename_i hc
      rw [if_pos ⟨hc.1, by omega⟩]
      exact e
    · cases e

theorem bnd_mono {len cap cap' : Nat} {lo hi mx : Option AV} {l u m : Nat} (hc : cap ≤ cap') (e : bndA len cap lo hi mx = some (l, u, m)) : ∃ m', bndA len cap' lo hi mx = some (l, u, m') := by
  obtain ⟨e1, e2, e3⟩ := bndA_inv e
  cases mx with
  | some v =>
    refine ⟨m, ?_⟩
    have e1' : bndMx cap' (some v) = some m := bnd1_mono hc e1
    simp only [bndA, e1', Option.bind_some, e2, e3, Option.map_some]
  | none =>
    injection e1 with e1
    subst e1
    refine ⟨cap', ?_⟩
    have e2' : bndHi len cap' (none : Option AV).isSome hi = some u := by
      cases hi with
      | none => exact e2
      | some v => exact bnd1_mono hc e2
    simp only [bndA, bndMx, Option.bind_some, e2', e3, Option.map_some]

theorem slc_ok {t : Nat → AV} {ρ : Operand → Value} (rel : ∀ x, RAV ι h bd w (val t x) (ρ x)) {ty : TypeId} {x : Operand} {lo hi mx : Option Operand} {av : AV}
    (e : slcA P ty h (val t x) (lo.map (val t)) (hi.map (val t)) (mx.map (val t)) = some av) :
    ∃ v, (Instr.sliceAt ty (ρ x) (lo.map ρ) (hi.map ρ) (mx.map ρ)).run P w = .ok v w ∧ RAV ι h bd w av v := by
  have r := rel x
  generalize ρ x = X at r
  unfold slcA at e
  split at e
  · rename_i s hx
    rw [hx] at r
    split at e
    · rename_i hc
      have hX := rav_v_inv r
      subst hX
      have hmx : mx = none := by cases mx with | none => rfl | some y => simp at hc
      subst hmx
      cases hb : bndA s.size s.size (lo.map (val t)) (hi.map (val t)) none with
      | none => rw [hb] at e; simp at e
      | some q =>
        obtain ⟨l, u, m⟩ := q
        rw [hb] at e
        simp only [Option.map_some, Option.some.injEq] at e
        subst e
        have hb' := (bnd_ok (P := P) rel (g := false) (mx := none) (Nat.le_refl _) hb).1
        exact ⟨_, by simp only [Option.map_none] at hb' ⊢; simp [Instr.sliceAt, Instr.slice, run_underlying (isStr_run hc.1), hb'], rav_v _⟩
    · cases e
  · rename_i sz es hx
    rw [hx] at r
    split at e
    · rename_i z hz
      split at e
      · rename_i hzz
        subst hzz
        obtain ⟨el, hu, hs⟩ := slS_run hz
        obtain ⟨a, cap, U, rfl, g1, g2, g3, g4, g5, g6⟩ := sl_inv r
        cases hb : bndA es.length es.length (lo.map (val t)) (hi.map (val t)) (mx.map (val t)) with
        | none => rw [hb] at e; simp at e
        | some q =>
          obtain ⟨l, u, m⟩ := q
          rw [hb] at e
          simp only [Option.map_some, Option.some.injEq] at e
          subst e
          obtain ⟨m', hb2⟩ := bnd_mono g1 hb
          obtain ⟨k1, k2, k3, k4⟩ := bnd_ok (P := P) rel (g := true) g1 hb2
          have hu2 : u ≤ es.length := by
            obtain ⟨_, _, q3, q4⟩ := bnd_ok (P := P) rel (g := true) (Nat.le_refl es.length) hb
            omega
          refine ⟨.slice (if m' = l then a else a.map (·.add (l * z))) (u - l) (m' - l), ?_, ?_⟩
          · simp [Instr.sliceAt, Instr.slice, run_underlying hu, k1, tsz_run hs]
          · have hlen : ((es.drop l).take (u - l)).length = u - l := by simp; omega
            have := RPD.sl (S := stab ι h) (w := w) (sz := z) (es := (es.drop l).take (u - l)) (if m' = l then a else a.map (·.add (l * z))) (m' - l) (fun i j => U (l + i) j) (by rw [hlen]; omega)
              (fun hn => by
                split at hn
                · omega
                · cases a with
                  | none => have := g2 rfl; omega
                  | some A => simp at hn)
              (fun A hA => by
                by_cases hz0 : (es.drop l).take (u - l) = []
                · exact .inl hz0
                · have hes : es ≠ [] := fun hh => hz0 (by rw [hh]; simp)
                  right
                  split at hA
                  · exact (g3 A hA).resolve_left hes
                  · cases a with
                    | none => simp at hA
                    | some B =>
                      simp at hA
                      subst hA
                      have := (g3 B rfl).resolve_left hes
                      unfold Addr.add
                      split <;> simp_all)
              (fun e he => g4 e (List.mem_of_mem_drop (List.mem_of_mem_take he)))
              (fun i e he j d hd => by
                have hi : i < u - l := by
                  rcases Nat.lt_or_ge i (u - l) with h' | h'
                  · exact h'
                  · rw [List.getElem?_take, if_neg (by omega)] at he; cases he
                rw [List.getElem?_take, if_pos hi, List.getElem?_drop] at he
                obtain ⟨A, hA, q1, q2⟩ := g5 _ e he j d hd
                subst hA
                have hsp := (g3 A rfl).resolve_left (fun hh => by rw [hh] at he; simp at he)
                have hne : ¬ m' = l := by omega
                rw [if_neg hne]
                refine ⟨⟨A.block, A.off + l * z, none⟩, ?_, q1, ?_⟩
                · simp only [Option.map_some]; rw [addr_eta hsp, add_none]
                · show w.cell? ⟨A.block, A.off + l * z + (i * z + j), none⟩ = _
                  rw [← q2]
                  congr 2
                  rw [Nat.add_mul]; omega)
              (fun i e he j d hd => by
                have hi : i < u - l := by
                  rcases Nat.lt_or_ge i (u - l) with h' | h'
                  · exact h'
                  · rw [List.getElem?_take, if_neg (by omega)] at he; cases he
                rw [List.getElem?_take, if_pos hi, List.getElem?_drop] at he
                exact g6 _ e he j d hd)
            rw [hlen] at this
            exact .one (.p this)
      · cases e
    · cases e
  · rename_i id ver off len cap hx
    rw [hx] at r
    split at e
    · rename_i z hz
      split at e
      · rename_i hl
        obtain ⟨el, hu, hs⟩ := slS_run hz
        obtain ⟨hlc, hX⟩ := win_inv r hl
        cases hb : bndA len cap (lo.map (val t)) (hi.map (val t)) (mx.map (val t)) with
        | none => rw [hb] at e; simp at e
        | some q =>
          obtain ⟨l, u, m⟩ := q
          rw [hb] at e
          simp only [Option.map_some, Option.some.injEq] at e
          subst e
          obtain ⟨k1, k2, k3, k4⟩ := bnd_ok (P := P) rel (g := true) hlc hb
          rcases hX with rfl | ⟨rfl, rfl, rfl⟩
          · refine ⟨.slice (some (if m = l then ⟨ι id, off, none⟩ else ⟨ι id, off + l * z, none⟩)) (u - l) (m - l), ?_, ?_⟩
            · simp only [Instr.sliceAt, Instr.slice, Sem.run_bind, run_underlying hu, Result.andThen, k1, tsz_run hs, Sem.run_pure, Option.map_some, add_none]
              split <;> rfl
            · refine .one (.win (win_hd r).1 (win_hd r).2 (fun _ _ _ => ⟨by omega, .inl ?_⟩))
              split <;> rfl
          · have hm : m = 0 := by omega
            have hu0 : u = 0 := by omega
            have hl0 : l = 0 := by omega
            subst hm; subst hu0; subst hl0
            refine ⟨.slice none 0 0, ?_, .one (.win (win_hd r).1 (win_hd r).2 (fun _ _ _ => ⟨by omega, .inr ⟨rfl, rfl, rfl⟩⟩))⟩
            simp [Instr.sliceAt, Instr.slice, run_underlying hu, k1, tsz_run hs]
      · cases e
    · cases e
  · rename_i id ver off hx
    rw [hx] at r
    split at e
    · rename_i n z hz
      split at e
      · rename_i hl
        obtain ⟨el, hu, hs⟩ := arS_run hz
        obtain ⟨b, hb', hv⟩ := live_run hl
        have hX := ptr_inv r hb' hv
        subst hX
        cases hb : bndA n n (lo.map (val t)) (hi.map (val t)) (mx.map (val t)) with
        | none => rw [hb] at e; simp at e
        | some q =>
          obtain ⟨l, u, m⟩ := q
          rw [hb] at e
          simp only [Option.map_some, Option.some.injEq] at e
          subst e
          obtain ⟨k1, k2, k3, k4⟩ := bnd_ok (P := P) rel (g := false) (Nat.le_refl n) hb
          refine ⟨.slice (some (if m = l then ⟨ι id, off, none⟩ else ⟨ι id, off + l * z, none⟩)) (u - l) (m - l), ?_, ?_⟩
          · simp only [Instr.sliceAt, Sem.run_bind, run_underlying hu, Instr.sureAddr, Result.andThen, k1, tsz_run hs, Sem.run_pure, add_none]
          · refine .one (.win (ptr_hd r).1 (ptr_hd r).2 (fun _ _ _ => ⟨by omega, .inl ?_⟩))
            split <;> rfl
      · cases e
    · cases e
  · cases e

end Go.Proofs.YtengjcdilnikhaaDoor.Am
