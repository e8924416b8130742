/-
  The rows of the laws on tables: arguments that came in; a world in which the listed tables lie.
-/
import Derived.Test.YtengjcdilnikhaaDoorCards
import Derived.Test.YtengjcdilnikhaaDoorTie
import Derived.Test.YtengjcdilnikhaaDoorAmCame
import Derived.Test.YtengjcdilnikhaaDoorAmTy
import Derived.Test.YtengjcdilnikhaaDoorTbSpec
import Derived.Lay
import Derived.MakeChecks
import Derived.SevenTiedAt
namespace Go.Proofs.YtengjcdilnikhaaDoor
set_option linter.unusedSimpArgs false
set_option linter.unusedVariables false
set_option linter.unnecessarySimpa false
open Go Am

theorem own_knob : ownKnob Tryd.prog.godebug = none := by kernel_rfl
theorem laid_out : laidOutB Tryd.prog = true := by kernel_rfl
theorem sh_str : shAt Tryd.prog 8 9 = some [.str] := by kernel_rfl
theorem sh_fls : shAt Tryd.prog 8 53 = some [.sl [.str, .flt .f64, .int .u32, .int .i64, .int .i64, .int .i64]] := by kernel_rfl
theorem sh_fl : shAt Tryd.prog 8 60 = some [.str, .flt .f64, .int .u32, .int .i64, .int .i64, .int .i64] := by kernel_rfl

theorem arg_str {d : PD} (h : Fit .str d) : ∃ s : S, AV.one (.p d) = StrV s ∧ s.length ≤ maxLen := by
  obtain ⟨s, rfl, hs⟩ := h.str_inv
  refine ⟨s.data.toList, by rw [StrV, mkS_of], ?_⟩
  rw [← mkS_size, mkS_of]; exact hs
theorem fl_row {ds : List PD} (h : FitAll [.str, .flt .f64, .int .u32, .int .i64, .int .i64, .int .i64] ds) : ∃ f : Fl, ds = encF f ∧ f.name.length ≤ maxLen := by
  obtain ⟨d0, r0, rfl, f0, h0⟩ := h.cons
  obtain ⟨d1, r1, rfl, f1, h1⟩ := h0.cons
  obtain ⟨d2, r2, rfl, f2, h2⟩ := h1.cons
  obtain ⟨d3, r3, rfl, f3, h3⟩ := h2.cons
  obtain ⟨d4, r4, rfl, f4, h4⟩ := h3.cons
  obtain ⟨d5, r5, rfl, f5, h5⟩ := h4.cons
  obtain rfl := h5.nil
  obtain ⟨s, rfl, hs⟩ := f0.str_inv
  obtain ⟨r, rfl, _⟩ := f1.flt_inv
  obtain ⟨i2, rfl, _⟩ := f2.int_inv
  obtain ⟨i3, rfl, _⟩ := f3.int_inv
  obtain ⟨i4, rfl, _⟩ := f4.int_inv
  obtain ⟨i5, rfl, _⟩ := f5.int_inv
  refine ⟨⟨s.data.toList, r, i2, i3, i4, i5⟩, by rw [encF, mkS_of], ?_⟩
  rw [← mkS_size, mkS_of]; exact hs
theorem arg_fl {ds : List PD} (h : FitAll [.str, .flt .f64, .int .u32, .int .i64, .int .i64, .int .i64] ds) : ∃ f : Fl, AV.agg (ds.map .p) = FlV f ∧ f.name.length ≤ maxLen := by
  obtain ⟨f, rfl, hf⟩ := fl_row h
  exact ⟨f, rfl, hf⟩
theorem arg_fls {d : PD} (h : Fit (.sl [.str, .flt .f64, .int .u32, .int .i64, .int .i64, .int .i64]) d) : ∃ l : List Fl, AV.one (.p d) = FlsV l ∧ l.length ≤ maxLen := by
  obtain ⟨rows, rfl, hm, hr⟩ := h.sl_inv
  obtain ⟨l, rfl, hl⟩ := rows_map (enc := encF) (q := fun f => f.name.length ≤ maxLen) (fun row hrow => fl_row (hr row hrow))
  exact ⟨l, rfl, by simpa using hm⟩

theorem bounds_f64 {b : Nat} (h : (Lit.float .f64 b).wf = true) : b < 18446744073709551616 := by
  simp [Lit.wf] at h
  exact h
theorem fl_row2 {ds : List PD} (h : FitAll [.str, .flt .f64, .int .u32, .int .i64, .int .i64, .int .i64] ds) : ∃ f : Fl, ds = encF f ∧ f.rank < 18446744073709551616 := by
  obtain ⟨d0, r0, rfl, f0, h0⟩ := h.cons
  obtain ⟨d1, r1, rfl, f1, h1⟩ := h0.cons
  obtain ⟨d2, r2, rfl, f2, h2⟩ := h1.cons
  obtain ⟨d3, r3, rfl, f3, h3⟩ := h2.cons
  obtain ⟨d4, r4, rfl, f4, h4⟩ := h3.cons
  obtain ⟨d5, r5, rfl, f5, h5⟩ := h4.cons
  obtain rfl := h5.nil
  obtain ⟨s, rfl, hs⟩ := f0.str_inv
  obtain ⟨r, rfl, hr⟩ := f1.flt_inv
  obtain ⟨i2, rfl, _⟩ := f2.int_inv
  obtain ⟨i3, rfl, _⟩ := f3.int_inv
  obtain ⟨i4, rfl, _⟩ := f4.int_inv
  obtain ⟨i5, rfl, _⟩ := f5.int_inv
  exact ⟨⟨s.data.toList, r, i2, i3, i4, i5⟩, by rw [encF, mkS_of], bounds_f64 hr⟩
theorem arg_fls2 {d : PD} (h : Fit (.sl [.str, .flt .f64, .int .u32, .int .i64, .int .i64, .int .i64]) d) : ∃ l : List Fl, AV.one (.p d) = FlsV l ∧ l.length ≤ maxLen ∧ ∀ f ∈ l, f.rank < 18446744073709551616 := by
  obtain ⟨rows, rfl, hm, hr⟩ := h.sl_inv
  obtain ⟨l, rfl, hl⟩ := rows_map (enc := encF) (q := fun f => f.rank < 18446744073709551616) (fun row hrow => fl_row2 (hr row hrow))
  exact ⟨l, rfl, by simpa using hm, hl⟩

theorem ravs_cons {ι : Nat → Nat} {h : Heap} {bd : Nat} {w : World} {a : AV} {al : List AV} {v : Value} {vs : List Value} (h1 : RAV ι h bd w a v) (h2 : RAVs ι h bd w al vs) : RAVs ι h bd w (a :: al) (v :: vs) := by
  refine ⟨by simp [h2.1], fun i c u hc hu => ?_⟩
  match i with
  | 0 => simp at hc hu; subst hc; subst hu; exact h1
  | i + 1 => exact h2.2 i c u (by simpa using hc) (by simpa using hu)
theorem ravs_nil {ι : Nat → Nat} {h : Heap} {bd : Nat} {w : World} : RAVs ι h bd w [] [] := ⟨rfl, fun _ _ _ e => by simp at e⟩

end Go.Proofs.YtengjcdilnikhaaDoor
