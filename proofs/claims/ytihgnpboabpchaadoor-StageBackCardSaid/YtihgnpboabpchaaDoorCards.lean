/-
  DERIVED. GIVEN WITH THE SEED: THE CARDS: each row of YtihgnpboabpchaaDoorRows.lean that lists a variable, with what it lists TIED to the program's text (the seventh form; the later family's looks); each row that meets fmt, with fmt's text TOLD by the authors' own Lean function (tested against real Go, not proved from fmt's source: count such statements apart). THE CARD IS WHAT COUNTS. Prove the row's statement (the work); the ties are given (YtihgnpboabpchaaDoorTie.lean); close each card by the builder's one call (the guide's Derived/Test/ToyasCard.lean, 'card_holds'). Laid BY PROGRAM, IN A SANDBOX (cutbox-door.mjs). By AI agents, Wed Nov 11 2026. No macro, syntax, notation, axiom, sorry.
-/
import Derived.Test.YtihgnpboabpchaaDoorRows
import GoSem.ClaimSeven
namespace Go.Proofs.YtihgnpboabpchaaDoor
namespace Rows

/-- THE TIED CARD OF 'tansylaw20.StageBack'. -/
def stageBackCard : Claim7 := { stood := { row := stageBackRow, standIns := [], harness := (true, "89da0836e00b0f43140afeafd5ba581dbb8c387220654f60f2ba8cd3bc96df43"), looks := false }, kinds := [], alts := [], laidByText := true, laidKinds := [.data, .pinned], laidTests := true, laidLooks := .later }
def StageBackCardSaid : Prop := Claim7.holds Tryd.pinned (.plain (OpenSpec.ofChange stageBackSpec)) stageBackCard

/-- THE TIED CARD OF 'tansylaw20.StageWrites'. -/
def stageWritesCard : Claim7 := { stood := { row := stageWritesRow, standIns := [], harness := (true, "89da0836e00b0f43140afeafd5ba581dbb8c387220654f60f2ba8cd3bc96df43"), looks := false }, kinds := [], alts := [], laidByText := true, laidKinds := [.data, .pinned], laidTests := true, laidLooks := .later }
def StageWritesCardSaid : Prop := Claim7.holds Tryd.pinned (.plain (OpenSpec.ofChange stageWritesSpec)) stageWritesCard

/-- THE SECOND FORM's CARD OF 'tansylaw20.StageBack'. -/
def stageBackUptoCard : Claim7 := { stood := { row := stageBackUptoRow, standIns := [], harness := (true, "89da0836e00b0f43140afeafd5ba581dbb8c387220654f60f2ba8cd3bc96df43"), looks := false }, kinds := [], alts := [], laidByText := true, laidKinds := [.data, .pinned], laidTests := true, laidLooks := .later }
def StageBackUptoCardSaid : Prop := Claim7.holds Tryd.pinned (.plain (OpenSpec.upto stageBackSpec)) stageBackUptoCard

/-- THE SECOND FORM's CARD OF 'tansylaw20.StageWrites'. -/
def stageWritesUptoCard : Claim7 := { stood := { row := stageWritesUptoRow, standIns := [], harness := (true, "89da0836e00b0f43140afeafd5ba581dbb8c387220654f60f2ba8cd3bc96df43"), looks := false }, kinds := [], alts := [], laidByText := true, laidKinds := [.data, .pinned], laidTests := true, laidLooks := .later }
def StageWritesUptoCardSaid : Prop := Claim7.holds Tryd.pinned (.plain (OpenSpec.upto stageWritesSpec)) stageWritesUptoCard
end Rows
end Go.Proofs.YtihgnpboabpchaaDoor
