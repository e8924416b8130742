/-
  Walks of package table: Del, Get, Few, Same (of one table with itself).
-/
import Derived.Test.YthnhpbihgalgeaaDoorTbW3
import Derived.Test.YthnhpbihgalgeaaDoorSlFl2
namespace Go.Proofs.YthnhpbihgalgeaaDoor
set_option linter.unusedSimpArgs false
set_option linter.unusedVariables false
set_option linter.unnecessarySimpa false
open Go Am
set_option maxRecDepth 100000

def zeroF : Fl := ⟨[], 0, 0, 0, 0, 0⟩
def getR (l : List Fl) (p : S) : Fl × Int := if checkT l ≠ 0 ∨ chkN p ≠ 0 then (zeroF, 1) else if hasL p l = true then (l.getD (kL p l) zeroF, 0) else (zeroF, 4)

/-! ### few -/
def fewT (l : List Fl) : Bool := l.all (fun f => decide (f.name.length ≤ 200)) && (decide (l.length ≤ 30) || (decide (256 ≤ l.length) && decide (l.length ≤ 258)))
def fewTI (l : List Fl) (h : Heap) (b i : Nat) (st : St) : Prop :=
  (∀ id, id < b → st.h id = h id) ∧ st.t 0 = FlsV l ∧ st.t 5 = FlsV l ∧ st.t 6 = IntV l.length ∧ st.t 7 = IntV (i : Nat) ∧ ∀ f ∈ l.take i, f.name.length ≤ 200

theorem fewT_ok (l : List Fl) (hl : l.length ≤ 9223372036854775807) (h : Heap) (b : Nat) : ACalls Tryd.prog 9 [FlsV l] h b 0 (fun r h' => r = BoolV (fewT l) ∧ h' = h) := by
  refine ACalls.enter Tryd.func9 rfl (by simp [Tryd.ntmps9]) (fun ι w hn H => ?_)
  have hlow := H.lowCells
  have hlm : (l.map encF).length = l.length := List.length_map _
  have fin : ∀ (t : Nat → AV) (hh : Heap) (n : Nat) (v : Bool), t 2 = BoolV v → (∀ id, id < b → hh id = h id) → v = fewT l → Am.Ends Tryd.prog ⟨Tryd.f9.ntmps, b, ι, h, w, x0⟩ Tryd.f9 0 (fun r h' => r = BoolV (fewT l) ∧ h' = h) ⟨t, hh, n⟩ := by
    intro t hh n v ht ho hv
    exact Ends.pure hn H ho (r0 := BoolV v) (by rw [show Tryd.f9.results.toList = [.tmp 2] from rfl]; exact Ecf @ht) (.v _) ⟨by rw [hv], rfl⟩
  refine Rk ?_
  refine AWP.seq ?_
  refine Rkf @hlm ?_
  refine AWP.block ?_
  refine AWP.loopM 0 (fun m st => ∃ i, i ≤ l.length ∧ m = l.length - i ∧ fewTI l h b i st) l.length rfl ⟨0, Nat.zero_le _, rfl, Ou, by exact Er, by exact Er, by exact Er, by exact Er, by simp⟩ ?_
  rintro m ⟨t, hh, n⟩ ⟨i, hi, rfl, ho, e0, e5, e6, e7, hok⟩ hn1
  simp only at ho e0 e5 e6 e7 hn1
  subst hn1
  refine Rkf (jn2 @e6 @e7) ?_
  refine AWP.seq ?_
  by_cases hlt : (i : Int) < l.length
  · have hw1 : IntKind.i64.wrap ((i : Int) + 1) = ((i + 1 : Nat) : Int) := by rw [wrap_i64 (by omega) (by omega)]; rfl
    have hi2 : i < l.length := by omega
    have hge := encF_getD l i hi2
    obtain ⟨f, hf⟩ : ∃ f, l[i] = f := ⟨_, rfl⟩
    have hfm : f ∈ l := by rw [← hf]; exact List.getElem_mem hi2
    rw [hf] at hge
    have hsz := mkS_size f.name
    refine Btf @hlt ?_
    refine AWP.skip ?_
    refine Ev ?_
    refine AWP.seq ?_
    refine AWP.block ?_
    refine Rgf (jn5 @e5 @e7 @hlm @hlt @hge) (fun E K hE hK => ?_)
    refine ⟨by omega, ?_⟩
    refine hK _ _ _ ?_; clear hE hK K E
    by_cases c1 : (200 : Int) < f.name.length
    · refine Rkf (jn2 @hsz @c1) ?_
      refine Bt ?_
      refine Rk ?_
      refine AWP.ret ?_
      refine Ev ?_
      refine fin _ _ _ false (by exact Er) (Ouf @ho) ?_
      symm
      unfold fewT
      rw [Bool.and_eq_false_iff]
      left
      rw [← Bool.not_eq_true, List.all_eq_true]
      intro hall
      have := hall f hfm
      simp only [decide_eq_true_eq] at this
      omega
    · refine Rkf (jn2 @hsz @c1) ?_
      refine Bf ?_
      refine AWP.skip ?_
      refine Ev ?_
      refine Raf (jn2 @e7 @hw1) (fun E K hE hK => ?_); refine hK _ _ _ ?_; clear hE hK K E
      exact ⟨l.length - (i + 1), by omega, i + 1, by omega, rfl, cutH_outer (Nat.le_refl _) (Ouf @ho) hlow, by exact Ecf @e0, by exact Ecf @e5, by exact Ecf @e6, by exact Er, fun x hx => by
        rw [List.take_add_one, List.getElem?_eq_getElem hi2, hf] at hx
        rcases List.mem_append.1 hx with hx | hx
        · exact hok x hx
        · simp at hx; subst hx; omega⟩
  · refine Bff @hlt ?_
    refine AWP.exit ?_
    refine Ev ?_
    have hil : i = l.length := by omega
    subst hil
    rw [List.take_length] at hok
    have hall : l.all (fun f => decide (f.name.length ≤ 200)) = true := by rw [List.all_eq_true]; intro x hx; simpa using hok x hx
    have hfw : fewT l = (decide (l.length ≤ 30) || (decide (256 ≤ l.length) && decide (l.length ≤ 258))) := by unfold fewT; rw [hall, Bool.true_and]
    by_cases c1 : (l.length : Int) ≤ 30
    · refine Rkf (jn3 @e0 @hlm @c1) ?_
      refine AWP.ret ?_
      exact fin _ _ _ true (by exact Er) ho (by rw [hfw, decide_eq_true (by omega)]; rfl)
    by_cases c2 : (256 : Int) ≤ l.length
    · refine Rkf (jn4 @e0 @hlm @c1 @c2) ?_
      refine AWP.ret ?_
      refine fin _ _ _ (decide ((l.length : Int) ≤ 258)) (by exact Er) ho ?_
      rw [hfw, decide_eq_false (show ¬ l.length ≤ 30 by omega), decide_eq_true (show 256 ≤ l.length by omega), Bool.false_or, Bool.true_and]
      exact decide_eq_decide.2 (by omega)
    · refine Rkf (jn4 @e0 @hlm @c1 @c2) ?_
      refine AWP.ret ?_
      exact fin _ _ _ false (by exact Er) ho (by rw [hfw, decide_eq_false (show ¬ l.length ≤ 30 by omega), decide_eq_false (show ¬ 256 ≤ l.length by omega)]; rfl)

end Go.Proofs.YthnhpbihgalgeaaDoor
