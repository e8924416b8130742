/-
  The abstract machine: operations that only compute and read do what is told of them (literals, and all together).
-/
import Derived.Test.YtengjcdilnikhaaDoorAmSopOk3
import Derived.Laws.Tables
namespace Go.Proofs.YtengjcdilnikhaaDoor.Am
set_option linter.unusedSimpArgs false
set_option linter.unusedVariables false
set_option linter.unnecessarySimpa false
open Go

variable {P : Program} {ι : Nat → Nat} {h : Heap} {bd : Nat} {w : World}

def Reps (ι : Nat → Nat) (h : Heap) (bd : Nat) (w : World) (cs : List Cell) (V : List Value) : Prop :=
  V.length = cs.length ∧ ∀ (i : Nat) (c : Cell) (u : Value), cs[i]? = some c → V[i]? = some u → RCell ι h bd w c u

theorem foldl_set (off : Nat) : ∀ (vs : List Value) (k : Nat) (cells : Array Value), off + k + vs.length ≤ cells.size →
    ((vs.zipIdx k).foldl (fun cs (x : Value × Nat) => cs.setIfInBounds (off + x.2) x.1) cells).toList = cells.toList.take (off + k) ++ (vs ++ cells.toList.drop (off + k + vs.length))
  | [], k, cells, _ => by simp
  | v :: vs, k, cells, hle => by
    simp only [List.length_cons] at hle
    rw [List.zipIdx_cons, List.foldl_cons, foldl_set off vs (k + 1) _ (by simp; omega)]
    have hlt : off + k < cells.toList.length := by simp; omega
    simp only [Array.toList_setIfInBounds, List.length_cons]
    apply List.ext_getElem?
    intro i
    simp only [List.getElem?_append, List.length_take, List.length_set, List.getElem?_take, List.getElem?_set, List.getElem?_cons, List.length_cons, List.getElem?_drop]
    have hl : cells.toList.length = cells.size := by simp
    rw [hl]
    by_cases h1 : i < off + k
    · have : off + k ≠ i := by omega
      simp [show i < min (off + (k + 1)) cells.size by omega, show i < min (off + k) cells.size by omega, show i < off + (k + 1) by omega, h1, this]
    · by_cases h2 : i = off + k
      · subst h2
        simp [show off + k < min (off + (k + 1)) cells.size by omega, show ¬ off + k < min (off + k) cells.size by omega, show off + k < off + (k + 1) by omega, show off + k - min (off + k) cells.size = 0 by omega]
        omega
      · have e1 : ¬ i < min (off + (k + 1)) cells.size := by omega
        have e2 : ¬ i < min (off + k) cells.size := by omega
        have e3 : i - min (off + k) cells.size = (i - min (off + (k + 1)) cells.size) + 1 := by omega
        simp only [e1, e2, if_false, e3]
        by_cases h3 : i - min (off + (k + 1)) cells.size < vs.length
        · simp [h3]
        · have : off + (k + 1) + vs.length + (i - min (off + (k + 1)) cells.size - vs.length) = off + k + (vs.length + 1) + (i - min (off + (k + 1)) cells.size + 1 - (vs.length + 1)) := by omega
          simp [h3, show ¬ off + k = off + (k + 1) + vs.length + (i - min (off + (k + 1)) cells.size - vs.length) by omega]
          congr 1
          omega

theorem Reps.spl {cs d : List Cell} {V D : List Value} {off : Nat} (r : Reps ι h bd w cs V) (q : Reps ι h bd w d D) (hle : off + d.length ≤ cs.length) :
    Reps ι h bd w (spl cs off d) (V.take off ++ (D ++ V.drop (off + D.length))) := by
  obtain ⟨hl, hv⟩ := r
  obtain ⟨ql, qv⟩ := q
  refine ⟨by simp [Am.spl, hl, ql], fun i c u hc hu => ?_⟩
  unfold Am.spl at hc
  simp only [List.getElem?_append, List.length_take, List.getElem?_take, List.getElem?_drop, hl, ql] at hc hu
  split at hc
  · rename_i h1
    rw [if_pos h1] at hu
    rw [if_pos (by omega)] at hc hu
    exact hv i c u hc hu
  · rename_i h1
    rw [if_neg h1] at hu
    split at hc
    · rename_i h2
      rw [if_pos h2] at hu
      exact qv _ c u hc hu
    · rename_i h2
      rw [if_neg h2] at hu
      exact hv _ c u hc hu

theorem okC_run {c : Cell} {v : Value} (r : RCell ι h bd w c v) (ok : okC h c = true) : v.oneCell' = true ∧ v.cells = #[v] := by
  cases r with
  | p hd => cases hd with
    | v x => refine ⟨ok, ?_⟩; cases v <;> first | rfl | (simp [okC, Value.oneCell'] at ok)
    | sl a cap U => exact ⟨rfl, rfl⟩
    | slc h => exact ⟨rfl, rfl⟩
  | junk v => cases ok
  | ptr hid hver hv =>
    obtain ⟨b, hb, he⟩ := live_run ok
    have := hv b hb he
    subst this
    exact ⟨rfl, rfl⟩
  | ro A U => exact ⟨rfl, rfl⟩
  | win hid hver hv =>
    obtain ⟨b, hb, he⟩ := live_run ok
    rcases (hv b hb he).2 with rfl | ⟨rfl, _⟩ <;> exact ⟨rfl, rfl⟩
  | clo F C => exact ⟨rfl, rfl⟩

theorem reps_one {c : Cell} {v : Value} (r : RCell ι h bd w c v) : Reps ι h bd w [c] [v] := by
  refine ⟨rfl, fun i d u hd hu => ?_⟩
  cases i with
  | zero => simp at hd hu; subst hd; subst hu; exact r
  | succ i => simp at hd

/-- the cells of a value -/
theorem reps_cells {x : AV} {X : Value} (r : RAV ι h bd w x X) (ok : ∀ c, x = .one c → okC h c = true) (ht : ∀ vs, x ≠ .tup vs) : Reps ι h bd w (cellsA x) X.cells.toList := by
  cases r with
  | one hc => rw [(okC_run hc (ok _ rfl)).2]; exact reps_one hc
  | agg V hl hv => exact ⟨hl, hv⟩
  | tup V hl hv => exact absurd rfl (ht _)

theorem fill_ok {place : Nat → Option (Nat × Nat)} : ∀ (parts : List (Nat × AV)) (PV : List (Nat × Value)), PV.length = parts.length →
    (∀ (k i : Nat) (x : AV), parts[k]? = some (i, x) → ∃ X, PV[k]? = some (i, X) ∧ RAV ι h bd w x X) →
    ∀ (cs : List Cell) (V : Array Value), Reps ι h bd w cs V.toList → ∀ cs', fillA h place cs parts = some cs' → ∃ V', Instr.fill place V PV = some V' ∧ Reps ι h bd w cs' V'.toList
  | [], PV, hl, _, cs, V, r, cs', e => by
    have : PV = [] := List.eq_nil_of_length_eq_zero hl
    subst this
    injection e with e
    subst e
    exact ⟨V, rfl, r⟩
  | (i, x) :: rest, PV, hl, hp, cs, V, r, cs', e => by
    obtain ⟨X, hX, rx⟩ := hp 0 i x rfl
    cases PV with
    | nil => simp at hX
    | cons p PV =>
      simp at hX
      subst hX
      have hp' : ∀ (k i : Nat) (x : AV), rest[k]? = some (i, x) → ∃ X, PV[k]? = some (i, X) ∧ RAV ι h bd w x X := fun k i x hk => hp (k + 1) i x (by simpa using hk)
      have hl' : PV.length = rest.length := by simpa using hl
      have main : ∀ (off size : Nat) (d : List Cell), place i = some (off, size) → Reps ι h bd w d X.cells.toList → d.length = size → off + d.length ≤ cs.length → fillA h place (spl cs off d) rest = some cs' →
          ∃ V', Instr.fill place V ((i, X) :: PV) = some V' ∧ Reps ι h bd w cs' V'.toList := by
        intro off size d hpl q hs hle e'
        have hq := q.1
        have hr := r.1
        simp only [Array.length_toList] at hq hr
        have hf : X.cells.zipIdx.foldl (fun cs (c, j) => cs.setIfInBounds (off + j) c) V = (V.toList.take off ++ (X.cells.toList ++ V.toList.drop (off + X.cells.toList.length))).toArray := by
          apply Array.ext'
          have := foldl_set off X.cells.toList 0 V (by simp; omega)
          rw [← Array.foldl_toList, Array.toList_zipIdx]
          simpa using this
        have q2 := Reps.spl r q hle
        obtain ⟨V', h1, h2⟩ := fill_ok rest PV hl' hp' _ (V.toList.take off ++ (X.cells.toList ++ V.toList.drop (off + X.cells.toList.length))).toArray (by simpa using q2) cs' e'
        refine ⟨V', ?_, h2⟩
        unfold Instr.fill
        simp only [hpl]
        have hc : (decide (X.cells.size ≠ size) || decide (off + X.cells.size > V.size)) = false := by simp; omega
        rw [hc, hf]
        exact h1
      unfold fillA at e
      split at e
      · rename_i off size hpl
        split at e
        · rename_i c
          split at e
          · rename_i hc
            refine main off size [c] hpl (reps_cells rx (fun c' h' => by injection h' with h'; subst h'; exact hc.1) (fun _ h' => by cases h')) hc.2.1.symm hc.2.2 e
          · cases e
        · rename_i d
          split at e
          · rename_i hc
            exact main off size d hpl (reps_cells rx (fun c' h' => by cases h') (fun _ h' => by cases h')) hc.1 hc.2 e
          · cases e
        · cases e
      · cases e

theorem reps_vs (vs : List Value) : Reps ι h bd w (vs.map fun v => .p (.v v)) vs := by
  refine ⟨by simp, fun i c u hc hu => ?_⟩
  rw [List.getElem?_map, hu] at hc
  simp at hc
  subst hc
  exact .p (.v u)

theorem tzero_run {t : TypeId} {zs : List Value} (e : tzero P t = some zs) : ∃ i z, P.info? t = some i ∧ i.zero = some z ∧ z.cells.toList = zs := by
  unfold tzero at e
  cases hi : P.info? t with
  | none => rw [hi] at e; simp at e
  | some i =>
    cases hz : i.zero with
    | none => rw [hi] at e; simp [hz] at e
    | some z => rw [hi] at e; simp [hz] at e; exact ⟨i, z, rfl, hz, e⟩

theorem tsz_info {t : TypeId} {n : Nat} (e : tsz P t = some n) : ∃ i, P.info? t = some i ∧ i.size = n := by
  unfold tsz at e
  cases hi : P.info? t with
  | none => rw [hi] at e; simp at e
  | some i => rw [hi] at e; simp at e; exact ⟨i, rfl, e⟩

theorem bld_ok {t : Nat → AV} {ρ : Operand → Value} (rel : ∀ x, RAV ι h bd w (val t x) (ρ x)) {ty : TypeId} {parts : Array (Nat × Operand)} {av : AV}
    (e : bldA P h ty (parts.toList.map fun (i, x) => (i, val t x)) = some av) :
    ∃ v, (Instr.build ty (parts.map fun (i, x) => (i, ρ x))).run P w = .ok v w ∧ RAV ι h bd w av v := by
  have hp : ∀ (k i : Nat) (x : AV), (parts.toList.map fun (i, x) => (i, val t x))[k]? = some (i, x) → ∃ X, ((parts.map fun (i, x) => (i, ρ x)).toList)[k]? = some (i, X) ∧ RAV ι h bd w x X := by
    intro k i x hk
    rw [List.getElem?_map] at hk
    cases hq : parts.toList[k]? with
    | none => rw [hq] at hk; simp at hk
    | some q =>
      obtain ⟨j, y⟩ := q
      rw [hq] at hk
      simp at hk
      obtain ⟨rfl, rfl⟩ := hk
      exact ⟨ρ y, by rw [Array.toList_map, List.getElem?_map, hq]; rfl, rel y⟩
  have hlen : ((parts.map fun (i, x) => (i, ρ x)).toList).length = (parts.toList.map fun (i, x) => (i, val t x)).length := by simp
  unfold bldA at e
  split at e
  · rename_i zs hz
    obtain ⟨it, z, hi, hiz, hzs⟩ := tzero_run hz
    have hz0 : Reps ι h bd w (zs.map fun v => .p (.v v)) z.cells.toList := by rw [hzs]; exact reps_vs zs
    split at e
    · rename_i n sz har
      obtain ⟨el, hu, hs⟩ := arS_run har
      obtain ⟨ie, hie, hies⟩ := tsz_info hs
      cases hf : fillA h (fun i => some (i * sz, sz)) (zs.map fun v => .p (.v v)) (parts.toList.map fun (i, x) => (i, val t x)) with
      | none => rw [hf] at e; simp at e
      | some cs' =>
        rw [hf] at e
        simp only [Option.map_some, Option.some.injEq] at e
        subst e
        obtain ⟨V', h1, h2⟩ := fill_ok _ _ hlen hp _ _ hz0 cs' hf
        refine ⟨.agg V', run_build w ty _ V' ?_, .agg V'.toList h2.1 h2.2⟩
        unfold Program.built
        rw [hi, hu]
        simp only [hiz, hie, hies]
        exact h1
    · split at e
      · rename_i pl hpl
        unfold stPl at hpl
        split at hpl
        · rename_i fs hu
          cases hf : fillA h (pl[·]?) (zs.map fun v => .p (.v v)) (parts.toList.map fun (i, x) => (i, val t x)) with
          | none => rw [hf] at e; simp at e
          | some cs' =>
            rw [hf] at e
            simp only [Option.map_some, Option.some.injEq] at e
            subst e
            obtain ⟨V', h1, h2⟩ := fill_ok _ _ hlen hp _ _ hz0 cs' hf
            refine ⟨.agg V', run_build w ty _ V' ?_, .agg V'.toList h2.1 h2.2⟩
            unfold Program.built
            rw [hi, hu]
            simp only [hiz, hpl]
            simpa using h1
        · cases hpl
      · cases e
  · cases e

theorem cellOnes_ok {t : Nat → AV} {ρ : Operand → Value} (rel : ∀ x, RAV ι h bd w (val t x) (ρ x)) : ∀ (xs : List Operand) (cs : List Cell), cellOnes (xs.map (val t)) = some cs → Reps ι h bd w cs (xs.map ρ)
  | [], cs, e => by injection e with e; subst e; exact ⟨rfl, fun _ _ _ hh => by simp at hh⟩
  | x :: xs, cs, e => by
    simp only [List.map_cons] at e
    have r := rel x
    generalize val t x = a at r e
    cases a with
    | one c =>
      simp only [cellOnes] at e
      cases hr : cellOnes (xs.map (val t)) with
      | none => rw [hr] at e; simp at e
      | some cs' =>
        rw [hr] at e
        simp at e
        subst e
        have ih := cellOnes_ok rel xs cs' hr
        refine ⟨by simp [ih.1], fun i d u hd hu => ?_⟩
        cases i with
        | zero => simp at hd hu; subst hd; subst hu; cases r with | one hc => exact hc
        | succ i => exact ih.2 i d u (by simpa using hd) (by simpa using hu)
    | agg cs => simp [cellOnes] at e
    | tup vs => simp [cellOnes] at e

def constsOf (xs : Array Operand) : Array Bool := xs.map fun | .const _ => true | _ => false

theorem callee_builtin (ρ : Operand → Value) (b : Builtin) (xs : Array Operand) (tys : Array TypeId) (dst : Option Tmp) (ty : TypeId) (pos : String) (after : Array Edge) (guard : Option (Nat × Bool)) :
    execOp ρ ⟨dst, .call ⟨.builtin b, xs, tys⟩, ty, pos, after, guard⟩ = builtin b tys ty (constsOf xs) (xs.map ρ) := by
  simp only [execOp, resolve, invoke]
  rfl

end Go.Proofs.YtengjcdilnikhaaDoor.Am
