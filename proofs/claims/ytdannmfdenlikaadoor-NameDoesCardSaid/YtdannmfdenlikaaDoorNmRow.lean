/-
  The rows of the laws on names: arguments that came in; a world in which the listed tables lie.
-/
import Derived.Test.YtdannmfdenlikaaDoorCards
import Derived.Test.YtdannmfdenlikaaDoorTie
import Derived.Test.YtdannmfdenlikaaDoorAmCame
import Derived.Test.YtdannmfdenlikaaDoorAmTy
import Derived.Lay
import Derived.MakeChecks
import Derived.SevenTiedAt
namespace Go.Proofs.YtdannmfdenlikaaDoor
set_option linter.unusedSimpArgs false
set_option linter.unusedVariables false
set_option linter.unnecessarySimpa false
open Go Am

theorem own_knob : ownKnob Tryd.prog.godebug = none := by kernel_rfl
theorem laid_out : laidOutB Tryd.prog = true := by kernel_rfl
theorem sh_str : shAt Tryd.prog 8 9 = some [.str] := by kernel_rfl

theorem arg_str {d : PD} (h : Fit .str d) : ∃ s : ByteArray, AV.one (.p d) = .one (.p (.v (.string s))) ∧ s.size ≤ maxLen := by
  cases h with
  | str hs => exact ⟨_, rfl, hs⟩

theorem ravs_cons {ι : Nat → Nat} {h : Heap} {bd : Nat} {w : World} {a : AV} {al : List AV} {v : Value} {vs : List Value} (h1 : RAV ι h bd w a v) (h2 : RAVs ι h bd w al vs) : RAVs ι h bd w (a :: al) (v :: vs) := by
  refine ⟨by simp [h2.1], fun i c u hc hu => ?_⟩
  match i with
  | 0 => simp at hc hu; subst hc; subst hu; exact h1
  | i + 1 => exact h2.2 i c u (by simpa using hc) (by simpa using hu)
theorem ravs_nil {ι : Nat → Nat} {h : Heap} {bd : Nat} {w : World} : RAVs ι h bd w [] [] := ⟨rfl, fun _ _ _ e => by simp at e⟩

end Go.Proofs.YtdannmfdenlikaaDoor
