/-
  The rows of the laws on commits: arguments that came in; a world in which the listed tables lie.
-/
import Derived.Test.YtengjcdilnikhaaDoorCards
import Derived.Test.YtengjcdilnikhaaDoorTie
import Derived.Test.YtengjcdilnikhaaDoorAmCame
import Derived.Test.YtengjcdilnikhaaDoorAmTy
import Derived.Test.YtengjcdilnikhaaDoorVaSpec
import Derived.Lay
import Derived.MakeChecks
import Derived.SevenTiedAt
namespace Go.Proofs.YtengjcdilnikhaaDoor
set_option linter.unusedSimpArgs false
set_option linter.unusedVariables false
set_option linter.unnecessarySimpa false
open Go Am

theorem own_knob : ownKnob Tryd.prog.godebug = none := by kernel_rfl
theorem laid_out : laidOutB Tryd.prog = true := by kernel_rfl
theorem sh_strs : shAt Tryd.prog 8 23 = some [.sl [.str]] := by kernel_rfl
theorem sh_u64 : shAt Tryd.prog 8 26 = some [.int .u64] := by kernel_rfl
theorem sh_dones : shAt Tryd.prog 8 22 = some [.sl [.int .u64, .sl [.str]]] := by kernel_rfl
theorem sh_reads : shAt Tryd.prog 8 25 = some [.sl [.str], .sl [.str]] := by kernel_rfl

theorem arg_u64 {d : PD} (h : Fit (.int .u64) d) : ∃ n, AV.one (.p d) = U64V n ∧ 0 ≤ n ∧ n ≤ 18446744073709551615 := by
  obtain ⟨i, rfl, hw⟩ := h.int_inv
  exact ⟨i, rfl, bounds_u64 hw⟩
theorem fit_strs {d : PD} (h : Fit (.sl [.str]) d) : ∃ l : List S, d = .sl 1 (l.map encS) ∧ l.length ≤ maxLen := by
  obtain ⟨rows, rfl, hm, hr⟩ := h.sl_inv
  obtain ⟨l, rfl, hl⟩ := rows_map (enc := encS) (q := fun _ => True) (fun row hrow => by
    obtain ⟨d0, r0, rfl, f0, h0⟩ := (hr row hrow).cons
    obtain rfl := h0.nil
    obtain ⟨s, rfl, hs⟩ := f0.str_inv
    exact ⟨s.data.toList, by rw [encS, mkS_of], trivial⟩)
  exact ⟨l, rfl, by simpa using hm⟩
theorem arg_strs {d : PD} (h : Fit (.sl [.str]) d) : ∃ l : List S, AV.one (.p d) = ListV l ∧ l.length ≤ maxLen := by
  obtain ⟨l, rfl, hl⟩ := fit_strs h
  exact ⟨l, rfl, hl⟩
theorem arg_reads {ds : List PD} (h : FitAll [.sl [.str], .sl [.str]] ds) : ∃ x : List S × List S, AV.agg (ds.map .p) = ReadsV x.1 x.2 ∧ x.1.length ≤ maxLen ∧ x.2.length ≤ maxLen := by
  obtain ⟨d0, r0, rfl, f0, h0⟩ := h.cons
  obtain ⟨d1, r1, rfl, f1, h1⟩ := h0.cons
  obtain rfl := h1.nil
  obtain ⟨a, rfl, ha⟩ := fit_strs f0
  obtain ⟨b, rfl, hb⟩ := fit_strs f1
  exact ⟨(a, b), rfl, ha, hb⟩
theorem arg_dones {d : PD} (h : Fit (.sl [.int .u64, .sl [.str]]) d) : ∃ l : List Dn, AV.one (.p d) = DonesV l ∧ l.length ≤ maxLen ∧ ∀ d ∈ l, d.names.length ≤ maxLen ∧ 0 ≤ d.gen ∧ d.gen ≤ 18446744073709551615 := by
  obtain ⟨rows, rfl, hm, hr⟩ := h.sl_inv
  obtain ⟨l, rfl, hl⟩ := rows_map (enc := encD) (q := fun d => d.names.length ≤ maxLen ∧ 0 ≤ d.gen ∧ d.gen ≤ 18446744073709551615) (fun row hrow => by
    obtain ⟨d0, r0, rfl, f0, h0⟩ := (hr row hrow).cons
    obtain ⟨d1, r1, rfl, f1, h1⟩ := h0.cons
    obtain rfl := h1.nil
    obtain ⟨i, rfl, hi⟩ := f0.int_inv
    obtain ⟨x, rfl, hx⟩ := fit_strs f1
    exact ⟨⟨i, x⟩, rfl, hx, bounds_u64 hi⟩)
  exact ⟨l, rfl, by simpa using hm, hl⟩

theorem ravs_cons {ι : Nat → Nat} {h : Heap} {bd : Nat} {w : World} {a : AV} {al : List AV} {v : Value} {vs : List Value} (h1 : RAV ι h bd w a v) (h2 : RAVs ι h bd w al vs) : RAVs ι h bd w (a :: al) (v :: vs) := by
  refine ⟨by simp [h2.1], fun i c u hc hu => ?_⟩
  match i with
  | 0 => simp at hc hu; subst hc; subst hu; exact h1
  | i + 1 => exact h2.2 i c u (by simpa using hc) (by simpa using hu)
theorem ravs_nil {ι : Nat → Nat} {h : Heap} {bd : Nat} {w : World} : RAVs ι h bd w [] [] := ⟨rfl, fun _ _ _ e => by simp at e⟩

end Go.Proofs.YtengjcdilnikhaaDoor
