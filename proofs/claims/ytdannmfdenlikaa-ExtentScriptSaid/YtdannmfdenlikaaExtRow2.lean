/-
  The rows of the laws on extents: rows of small numbers that came in.
-/
import Derived.Test.YtdannmfdenlikaaExtRow
import Derived.Test.YtdannmfdenlikaaExtL4
namespace Go.Proofs.Ytdannmfdenlikaa
set_option linter.unusedSimpArgs false
set_option linter.unusedVariables false
set_option linter.unnecessarySimpa false
open Go Am

theorem sh_u8s : shAt Try.prog 8 38 = some [.sl [.int .u8]] := by kernel_rfl
theorem sh_i16s : shAt Try.prog 8 22 = some [.sl [.int .i16]] := by kernel_rfl
def encI16 (k : Int) : List PD := [.v (.int .i16 k)]

theorem arg_u8s {d : PD} (h : Fit (.sl [.int .u8]) d) : ∃ l : List Int, AV.one (.p d) = .one (.p (.sl 1 (l.map encU8))) ∧ ∀ k ∈ l, 0 ≤ k ∧ k ≤ 255 := by
  obtain ⟨rows, rfl, hm, hr⟩ := h.sl_inv
  obtain ⟨l, rfl, hl⟩ := rows_map (enc := encU8) (q := fun k => 0 ≤ k ∧ k ≤ 255) (fun row hrow => by
    obtain ⟨d0, r0, rfl, f0, h0⟩ := (hr row hrow).cons
    obtain rfl := h0.nil
    obtain ⟨i, rfl, hi⟩ := f0.int_inv
    exact ⟨i, rfl, bounds_u8 hi⟩)
  exact ⟨l, rfl, hl⟩

theorem arg_i16s {d : PD} (h : Fit (.sl [.int .i16]) d) : ∃ l : List Int, AV.one (.p d) = .one (.p (.sl 1 (l.map encI16))) ∧ ∀ k ∈ l, -32768 ≤ k ∧ k ≤ 32767 := by
  obtain ⟨rows, rfl, hm, hr⟩ := h.sl_inv
  obtain ⟨l, rfl, hl⟩ := rows_map (enc := encI16) (q := fun k => -32768 ≤ k ∧ k ≤ 32767) (fun row hrow => by
    obtain ⟨d0, r0, rfl, f0, h0⟩ := (hr row hrow).cons
    obtain rfl := h0.nil
    obtain ⟨i, rfl, hi⟩ := f0.int_inv
    exact ⟨i, rfl, bounds_i16 hi⟩)
  exact ⟨l, rfl, hl⟩

end Go.Proofs.Ytdannmfdenlikaa
