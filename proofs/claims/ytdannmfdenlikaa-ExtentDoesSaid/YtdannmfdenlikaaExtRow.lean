/-
  The rows of the laws on extents: arguments that came in.
-/
import Derived.Test.YtdannmfdenlikaaRows
import Derived.Test.YtdannmfdenlikaaAmCame
import Derived.Test.YtdannmfdenlikaaExtSpec
import Derived.Test.YtdannmfdenlikaaAmTy
namespace Go.Proofs.Ytdannmfdenlikaa
set_option linter.unusedSimpArgs false
set_option linter.unusedVariables false
set_option linter.unnecessarySimpa false
open Go Am

theorem own_knob : ownKnob Try.prog.godebug = none := by kernel_rfl
theorem laid_out : laidOutB Try.prog = true := by kernel_rfl
theorem sh_int : shAt Try.prog 8 3 = some [.int .i64] := by kernel_rfl
theorem sh_exts : shAt Try.prog 8 26 = some [.int .i64, .sl [.int .i64, .int .i64]] := by kernel_rfl
theorem sh_ext : shAt Try.prog 8 33 = some [.int .i64, .int .i64] := by kernel_rfl

def In64 (n : Int) : Prop := -9223372036854775808 ≤ n ∧ n ≤ 9223372036854775807

theorem arg_int {d : PD} (h : Fit (.int .i64) d) : ∃ n, AV.one (.p d) = IntV n ∧ In64 n := by
  obtain ⟨i, rfl, hw⟩ := h.int_inv
  exact ⟨i, rfl, bounds_i64 hw⟩

theorem ext_row {ds : List PD} (h : FitAll [.int .i64, .int .i64] ds) : ∃ e : Ext, ds = encE e ∧ In64 e.at_ ∧ In64 e.len := by
  obtain ⟨d0, r0, rfl, f0, h0⟩ := h.cons
  obtain ⟨d1, r1, rfl, f1, h1⟩ := h0.cons
  obtain rfl := h1.nil
  obtain ⟨i, rfl, hi⟩ := f0.int_inv
  obtain ⟨j, rfl, hj⟩ := f1.int_inv
  exact ⟨⟨i, j⟩, rfl, bounds_i64 hi, bounds_i64 hj⟩

theorem arg_ext {ds : List PD} (h : FitAll [.int .i64, .int .i64] ds) : ∃ e : Ext, AV.agg (ds.map .p) = ExtV e ∧ In64 e.at_ ∧ In64 e.len := by
  obtain ⟨e, rfl, h1, h2⟩ := ext_row h
  exact ⟨e, rfl, h1, h2⟩

theorem arg_exts {ds : List PD} (h : FitAll [.int .i64, .sl [.int .i64, .int .i64]] ds) : ∃ x : Exts, AV.agg (ds.map .p) = ExtsV x ∧ In64 x.size ∧ ∀ e ∈ x.free, In64 e.at_ ∧ In64 e.len := by
  obtain ⟨d0, r0, rfl, f0, h0⟩ := h.cons
  obtain ⟨d1, r1, rfl, f1, h1⟩ := h0.cons
  obtain rfl := h1.nil
  obtain ⟨i, rfl, hi⟩ := f0.int_inv
  obtain ⟨rows, rfl, hm, hr⟩ := f1.sl_inv
  obtain ⟨l, rfl, hl⟩ := rows_map (enc := encE) (q := fun e => In64 e.at_ ∧ In64 e.len) (fun row hrow => ext_row (hr row hrow))
  exact ⟨⟨i, l⟩, rfl, bounds_i64 hi, hl⟩

theorem ravs_cons {ι : Nat → Nat} {h : Heap} {bd : Nat} {w : World} {a : AV} {al : List AV} {v : Value} {vs : List Value} (h1 : RAV ι h bd w a v) (h2 : RAVs ι h bd w al vs) : RAVs ι h bd w (a :: al) (v :: vs) := by
  refine ⟨by simp [h2.1], fun i c u hc hu => ?_⟩
  match i with
  | 0 => simp at hc hu; subst hc; subst hu; exact h1
  | i + 1 => exact h2.2 i c u (by simpa using hc) (by simpa using hu)
theorem ravs_nil {ι : Nat → Nat} {h : Heap} {bd : Nat} {w : World} : RAVs ι h bd w [] [] := ⟨rfl, fun _ _ _ e => by simp at e⟩

end Go.Proofs.Ytdannmfdenlikaa
