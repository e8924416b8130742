/-
  The rows of the laws on texts of tables: arguments that came in.
-/
import Derived.Test.YthnhpbihgalgeaaDoorTbRow
import Derived.Test.YthnhpbihgalgeaaDoorWiSpec
namespace Go.Proofs.YthnhpbihgalgeaaDoor
set_option linter.unusedSimpArgs false
set_option linter.unusedVariables false
set_option linter.unnecessarySimpa false
open Go Am

theorem sh_oct : shAt Tryd.prog 8 25 = some [.sl [.int .u8]] := by kernel_rfl
theorem sh_int : shAt Tryd.prog 8 3 = some [.int .i64] := by kernel_rfl

theorem bounds_u32 {i : Int} (h : (Lit.int .u32 i).wf = true) : 0 ≤ i ∧ i < 4294967296 := by
  simp [Lit.wf, IntKind.min, IntKind.max, IntKind.bits, IntKind.signed] at h
  omega
theorem bounds_i64 {i : Int} (h : (Lit.int .i64 i).wf = true) : -9223372036854775808 ≤ i ∧ i ≤ 9223372036854775807 := by
  simp [Lit.wf, IntKind.min, IntKind.max, IntKind.bits, IntKind.signed] at h
  omega
theorem bounds_u8 {i : Int} (h : (Lit.int .u8 i).wf = true) : 0 ≤ i ∧ i < 256 := by
  simp [Lit.wf, IntKind.min, IntKind.max, IntKind.bits, IntKind.signed] at h
  omega

structure GoodF (f : Fl) : Prop where
  name : f.name.length ≤ maxLen
  rank : f.rank < 18446744073709551616
  sum : 0 ≤ f.sum ∧ f.sum < 4294967296

theorem fl_rowW {ds : List PD} (h : FitAll [.str, .flt .f64, .int .u32, .int .i64, .int .i64, .int .i64] ds) : ∃ f : Fl, ds = encF f ∧ GoodF f := by
  obtain ⟨d0, r0, rfl, f0, h0⟩ := h.cons
  obtain ⟨d1, r1, rfl, f1, h1⟩ := h0.cons
  obtain ⟨d2, r2, rfl, f2, h2⟩ := h1.cons
  obtain ⟨d3, r3, rfl, f3, h3⟩ := h2.cons
  obtain ⟨d4, r4, rfl, f4, h4⟩ := h3.cons
  obtain ⟨d5, r5, rfl, f5, h5⟩ := h4.cons
  obtain rfl := h5.nil
  obtain ⟨s, rfl, hs⟩ := f0.str_inv
  obtain ⟨r, rfl, hr⟩ := f1.flt_inv
  obtain ⟨i2, rfl, b2⟩ := f2.int_inv
  obtain ⟨i3, rfl, _⟩ := f3.int_inv
  obtain ⟨i4, rfl, _⟩ := f4.int_inv
  obtain ⟨i5, rfl, _⟩ := f5.int_inv
  refine ⟨⟨s.data.toList, r, i2, i3, i4, i5⟩, by rw [encF, mkS_of], ?_, bounds_f64 hr, bounds_u32 b2⟩
  rw [← mkS_size, mkS_of]; exact hs
theorem arg_flW {ds : List PD} (h : FitAll [.str, .flt .f64, .int .u32, .int .i64, .int .i64, .int .i64] ds) : ∃ f : Fl, AV.agg (ds.map .p) = FlV f ∧ GoodF f := by
  obtain ⟨f, rfl, hf⟩ := fl_rowW h
  exact ⟨f, rfl, hf⟩
theorem arg_flsW {d : PD} (h : Fit (.sl [.str, .flt .f64, .int .u32, .int .i64, .int .i64, .int .i64]) d) : ∃ l : List Fl, AV.one (.p d) = FlsV l ∧ l.length ≤ maxLen ∧ ∀ f ∈ l, GoodF f := by
  obtain ⟨rows, rfl, hm, hr⟩ := h.sl_inv
  obtain ⟨l, rfl, hl⟩ := rows_map (enc := encF) (q := fun f => GoodF f) (fun row hrow => fl_rowW (hr row hrow))
  exact ⟨l, rfl, by simpa using hm, hl⟩
theorem oct_row {ds : List PD} (h : FitAll [.int .u8] ds) : ∃ c : UInt8, ds = encO c ∧ True := by
  obtain ⟨d0, r0, rfl, f0, h0⟩ := h.cons
  obtain rfl := h0.nil
  obtain ⟨i, rfl, hi⟩ := f0.int_inv
  have hb := bounds_u8 hi
  refine ⟨UInt8.ofNat i.toNat, ?_, trivial⟩
  have : ((UInt8.ofNat i.toNat).toNat : Int) = i := by simp; omega
  rw [encO, this]
theorem arg_octs {d : PD} (h : Fit (.sl [.int .u8]) d) : ∃ s : S, AV.one (.p d) = OctV s ∧ s.length ≤ maxLen := by
  obtain ⟨rows, rfl, hm, hr⟩ := h.sl_inv
  obtain ⟨l, rfl, _⟩ := rows_map (enc := encO) (q := fun _ => True) (fun row hrow => oct_row (hr row hrow))
  exact ⟨l, rfl, by simpa using hm⟩
theorem arg_intW {d : PD} (h : Fit (.int .i64) d) : ∃ i : Int, AV.one (.p d) = IntV i ∧ -9223372036854775808 ≤ i ∧ i ≤ 9223372036854775807 := by
  obtain ⟨i, rfl, hi⟩ := h.int_inv
  exact ⟨i, rfl, bounds_i64 hi⟩
end Go.Proofs.YthnhpbihgalgeaaDoor
