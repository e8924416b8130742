/-
  Commits and reads as values.
-/
import Derived.Test.YtengjcdilnikhaaDoorNmC1
import Derived.Test.YtengjcdilnikhaaDoorVaPure
import Derived.Test.YtengjcdilnikhaaDoorAmLend
namespace Go.Proofs.YtengjcdilnikhaaDoor
set_option linter.unusedSimpArgs false
set_option linter.unusedVariables false
set_option linter.unnecessarySimpa false
open Go Am

abbrev encD (d : Dn) : List PD := [.v (.int .u64 d.gen), .sl 1 (d.names.map encS)]
abbrev DoneV (d : Dn) : AV := .agg ((encD d).map .p)
abbrev DonesV (l : List Dn) : AV := .one (.p (.sl 2 (l.map encD)))
abbrev ReadsV (rn rd : List S) : AV := .agg [.p (.sl 1 (rn.map encS)), .p (.sl 1 (rd.map encS))]
abbrev U64V (n : Int) : AV := .one (.p (.v (.int .u64 n)))

theorem idxFrom_any {α : Type} (f : α → Bool) : ∀ (l : List α) (i : Nat), (0 ≤ idxFrom f i l ↔ l.any f = true) ∧ (idxFrom f i l < 0 → idxFrom f i l = -1)
  | [], i => by simp [idxFrom]
  | x :: l, i => by
    obtain ⟨h1, h2⟩ := idxFrom_any f l (i + 1)
    unfold idxFrom
    by_cases h : f x = true
    · rw [if_pos h]; simp [h]
    · rw [if_neg h]; simp only [List.any_cons, Bool.eq_false_iff.2 h, Bool.false_or]; exact ⟨h1, h2⟩

theorem idxFrom_find {α : Type} (f : α → Bool) : ∀ (l : List α) (i : Nat), (idxFrom f i l < 0 ∧ l.find? f = none) ∨ ∃ j, ∃ hj : j < l.length, idxFrom f i l = ((i + j : Nat) : Int) ∧ l.find? f = some l[j]
  | [], i => .inl ⟨by simp [idxFrom], rfl⟩
  | x :: l, i => by
    unfold idxFrom
    by_cases h : f x = true
    · exact .inr ⟨0, by simp, by rw [if_pos h]; simp, by simp [h]⟩
    · rw [if_neg h]
      rcases idxFrom_find f l (i + 1) with ⟨h1, h2⟩ | ⟨j, hj, h1, h2⟩
      · exact .inl ⟨h1, by simp [h, h2]⟩
      · exact .inr ⟨j + 1, by simp; omega, by rw [h1]; congr 1; omega, by simp [h, h2]⟩

theorem encD_getD (l : List Dn) (i : Nat) (h : i < l.length) : (l.map encD).getD i [] = [.v (.int .u64 l[i].gen), .sl 1 (l[i].names.map encS)] := by simp [List.getD, h]
theorem okEs_dn (l : List Dn) : okEs 2 (l.map encD) := fun e he => by
  obtain ⟨x, _, rfl⟩ := List.mem_map.1 he
  exact ⟨rfl, fun d hd => by simp at hd; rcases hd with rfl | rfl <;> rfl⟩

end Go.Proofs.YtengjcdilnikhaaDoor
