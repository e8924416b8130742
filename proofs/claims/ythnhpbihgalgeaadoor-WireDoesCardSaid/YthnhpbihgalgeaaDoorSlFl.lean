/-
  Go's package slices at one type of elements: Clone.
-/
import Derived.Test.YthnhpbihgalgeaaDoorSlBase
import Derived.Test.YthnhpbihgalgeaaDoorTbSpec
namespace Go.Proofs.YthnhpbihgalgeaaDoor
set_option linter.unusedSimpArgs false
set_option linter.unusedVariables false
set_option linter.unnecessarySimpa false
open Go Am
set_option maxRecDepth 100000

end Go.Proofs.YthnhpbihgalgeaaDoor
