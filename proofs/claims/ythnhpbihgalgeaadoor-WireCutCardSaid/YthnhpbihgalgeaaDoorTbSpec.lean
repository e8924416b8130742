/-
  Files as values.
-/
import Derived.Test.YthnhpbihgalgeaaDoorNmC1
import Derived.Test.YthnhpbihgalgeaaDoorTbPure
import Derived.Test.YthnhpbihgalgeaaDoorAmLend
namespace Go.Proofs.YthnhpbihgalgeaaDoor
set_option linter.unusedSimpArgs false
set_option linter.unusedVariables false
set_option linter.unnecessarySimpa false
open Go Am

abbrev encF (f : Fl) : List PD := [.v (.string (mkS f.name)), .v (.float .f64 f.rank), .v (.int .u32 f.sum), .v (.int .i64 f.blk), .v (.int .i64 f.frm), .v (.int .i64 f.len)]
abbrev FlV (f : Fl) : AV := .agg ((encF f).map .p)
abbrev FlsV (l : List Fl) : AV := .one (.p (.sl 6 (l.map encF)))

theorem encF_getD (l : List Fl) (i : Nat) (h : i < l.length) : (l.map encF).getD i [] = encF l[i] := by simp [List.getD, h]
theorem okEs_fl (l : List Fl) : okEs 6 (l.map encF) := fun e he => by
  obtain ⟨x, _, rfl⟩ := List.mem_map.1 he
  refine ⟨rfl, fun d hd => ?_⟩
  simp at hd
  rcases hd with rfl | rfl | rfl | rfl | rfl | rfl <;> rfl

end Go.Proofs.YthnhpbihgalgeaaDoor
