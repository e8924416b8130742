/-
  Walks of package table: Same, of one table with itself; the ranks.
-/
import Derived.Test.YtengjcdilnikhaaDoorTbW4
namespace Go.Proofs.YtengjcdilnikhaaDoor
set_option linter.unusedSimpArgs false
set_option linter.unusedVariables false
set_option linter.unnecessarySimpa false
open Go Am
set_option maxRecDepth 100000

abbrev F64V (b : Nat) : AV := .one (.p (.v (.float .f64 b)))
theorem bits_run (args : Array Value) (w : World) : (callFunc 119 args).run Tryd.prog w = ((Extern.MathFloatBits.float64bits args).run Tryd.prog w).andThen fun v w' => .ok (.value v) w' :=
  run_callFunc_extern (fn := Tryd.f119) Tryd.func119 (by kernel_rfl) (by kernel_rfl) (by kernel_rfl) (e := Extern.MathFloatBits.float64bits) (by kernel_rfl) args w
theorem bits_ext {C : Ctx} {h : Heap} {n : Nat} {K : KT} {x : Nat} (k : K (.one (.p (.v (.int .u64 (x : Nat))))) h n) : ExtK Tryd.prog C 119 [F64V x] h n K := by
  intro a w ι Vs I hVs
  obtain ⟨hlen, hVs⟩ := hVs
  match Vs, hlen with
  | [X], _ =>
    have hX := rav_v_inv (hVs 0 _ X rfl rfl)
    subst hX
    refine ⟨.int .u64 x, w, _, h, n, ι, ?_, k, I, rav_v _, .refl _ _ _ _⟩
    rw [bits_run]
    rfl

theorem isNaN64_ok (x : Nat) (h : Heap) (b : Nat) : ACalls Tryd.prog 120 [F64V x] h b 0 (fun r h' => r = BoolV (FloatKind.f64.format.order x x != some .eq) ∧ h' = h) := by
  refine ACalls.enter Tryd.func120 rfl (by simp [Tryd.ntmps120]) (fun ι w hn H => ?_)
  refine Rk ?_
  refine Rk ?_
  refine AWP.ret ?_
  exact Ends.pure hn H (fun _ _ => rfl) (r0 := BoolV (FloatKind.f64.format.order x x != some .eq)) (by rw [show Tryd.f120.results.toList = [.tmp 2] from rfl]; exact Er) (.v _) ⟨rfl, rfl⟩

theorem signbit_ok (x : Nat) (h : Heap) (b : Nat) : ACalls Tryd.prog 121 [F64V x] h b 0 (fun r h' => r = BoolV (decide (IntKind.i64.wrap (x : Int) < 0)) ∧ h' = h) := by
  refine ACalls.enter Tryd.func121 rfl (by simp [Tryd.ntmps121]) (fun ι w hn H => ?_)
  refine Rk ?_
  refine Rg (fun E K hE hK => ?_)
  refine CallR.ext (bits_ext ?_)
  refine Ev ?_
  refine hK _ _ _ ?_; clear hE hK K E
  refine AWP.ret ?_
  exact Ends.pure hn H (fun _ _ => rfl) (r0 := BoolV (decide (IntKind.i64.wrap (x : Int) < 0))) (by rw [show Tryd.f121.results.toList = [.tmp 2] from rfl]; exact Er) (.v _) ⟨rfl, rfl⟩

theorem h00 : (FloatKind.f64.format.order 0 0 == some .eq) = true := by decide

end Go.Proofs.YtengjcdilnikhaaDoor
