/-
  DERIVED. GIVEN WITH THE SEED: THE CARDS: each row of YtihgnpboabpchaaGreatDoorRows.lean that lists a variable, with what it lists TIED to the program's text (the seventh form; the later family's looks); each row that meets fmt, with fmt's text TOLD by the authors' own Lean function (tested against real Go, not proved from fmt's source: count such statements apart). THE CARD IS WHAT COUNTS. Prove the row's statement (the work); the ties are given (YtihgnpboabpchaaGreatDoorTie.lean); close each card by the builder's one call (the guide's Derived/Test/ToyasCard.lean, 'card_holds'). Laid BY PROGRAM, IN A SANDBOX (cutbox-door.mjs). By AI agents, Wed Nov 11 2026. No macro, syntax, notation, axiom, sorry.
-/
import Derived.Test.YtihgnpboabpchaaGreatDoorRows
import GoSem.ClaimSeven
namespace Go.Proofs.YtihgnpboabpchaaGreatDoor
namespace Rows

/-- THE TIED CARD OF 'tansylaw23.ModelAlone'. -/
def modelAloneCard : Claim7 := { stood := { row := modelAloneRow, standIns := [], harness := (true, "5bb44d60300ac8c1f70043b638d0dadcfaf27012b682a0076fc2239d94979822"), looks := false }, kinds := [], alts := [], laidByText := true, laidKinds := [.data, .pinned], laidTests := true, laidLooks := .later }
def ModelAloneCardSaid : Prop := Claim7.holds Tryz.pinned (.plain (OpenSpec.ofChange modelAloneSpec)) modelAloneCard

/-- THE TIED CARD OF 'tansylaw23.ModelMay'. -/
def modelMayCard : Claim7 := { stood := { row := modelMayRow, standIns := [], harness := (true, "5bb44d60300ac8c1f70043b638d0dadcfaf27012b682a0076fc2239d94979822"), looks := false }, kinds := [], alts := [], laidByText := true, laidKinds := [.data, .pinned], laidTests := true, laidLooks := .later }
def ModelMayCardSaid : Prop := Claim7.holds Tryz.pinned (.plain (OpenSpec.ofChange modelMaySpec)) modelMayCard

/-- THE TIED CARD OF 'tansylaw23.ModelSnap'. -/
def modelSnapCard : Claim7 := { stood := { row := modelSnapRow, standIns := [], harness := (true, "5bb44d60300ac8c1f70043b638d0dadcfaf27012b682a0076fc2239d94979822"), looks := false }, kinds := [], alts := [], laidByText := true, laidKinds := [.data, .pinned], laidTests := true, laidLooks := .later }
def ModelSnapCardSaid : Prop := Claim7.holds Tryz.pinned (.plain (OpenSpec.ofChange modelSnapSpec)) modelSnapCard

/-- THE TIED CARD OF 'tansylaw23.ModelOrder'. -/
def modelOrderCard : Claim7 := { stood := { row := modelOrderRow, standIns := [], harness := (true, "5bb44d60300ac8c1f70043b638d0dadcfaf27012b682a0076fc2239d94979822"), looks := false }, kinds := [], alts := [], laidByText := true, laidKinds := [.data, .pinned], laidTests := true, laidLooks := .later }
def ModelOrderCardSaid : Prop := Claim7.holds Tryz.pinned (.plain (OpenSpec.ofChange modelOrderSpec)) modelOrderCard

/-- THE TIED CARD OF 'tansylaw23.ModelLook'. -/
def modelLookCard : Claim7 := { stood := { row := modelLookRow, standIns := [], harness := (true, "5bb44d60300ac8c1f70043b638d0dadcfaf27012b682a0076fc2239d94979822"), looks := false }, kinds := [], alts := [], laidByText := true, laidKinds := [.data, .pinned], laidTests := true, laidLooks := .later }
def ModelLookCardSaid : Prop := Claim7.holds Tryz.pinned (.plain (OpenSpec.ofChange modelLookSpec)) modelLookCard

/-- THE TIED CARD OF 'tansylaw20.StageTells'. -/
def stageTellsCard : Claim7 := { stood := { row := stageTellsRow, standIns := [], harness := (true, "5bb44d60300ac8c1f70043b638d0dadcfaf27012b682a0076fc2239d94979822"), looks := false }, kinds := [], alts := [], laidByText := true, laidKinds := [.data, .pinned], laidTests := true, laidLooks := .later }
def StageTellsCardSaid : Prop := Claim7.holds Tryz.pinned (.plain (OpenSpec.ofChange stageTellsSpec)) stageTellsCard

/-- THE TIED CARD OF 'tansylaw20.StageMap'. -/
def stageMapCard : Claim7 := { stood := { row := stageMapRow, standIns := [], harness := (true, "5bb44d60300ac8c1f70043b638d0dadcfaf27012b682a0076fc2239d94979822"), looks := false }, kinds := [], alts := [], laidByText := true, laidKinds := [.data, .pinned], laidTests := true, laidLooks := .later }
def StageMapCardSaid : Prop := Claim7.holds Tryz.pinned (.plain (OpenSpec.ofChange stageMapSpec)) stageMapCard

/-- THE TIED CARD OF 'tansylaw20.StageReads'. -/
def stageReadsCard : Claim7 := { stood := { row := stageReadsRow, standIns := [], harness := (true, "5bb44d60300ac8c1f70043b638d0dadcfaf27012b682a0076fc2239d94979822"), looks := false }, kinds := [], alts := [], laidByText := true, laidKinds := [.data, .pinned], laidTests := true, laidLooks := .later }
def StageReadsCardSaid : Prop := Claim7.holds Tryz.pinned (.plain (OpenSpec.ofChange stageReadsSpec)) stageReadsCard

/-- THE SECOND FORM's CARD OF 'tansylaw23.ModelAlone'. -/
def modelAloneUptoCard : Claim7 := { stood := { row := modelAloneUptoRow, standIns := [], harness := (true, "5bb44d60300ac8c1f70043b638d0dadcfaf27012b682a0076fc2239d94979822"), looks := false }, kinds := [], alts := [], laidByText := true, laidKinds := [.data, .pinned], laidTests := true, laidLooks := .later }
def ModelAloneUptoCardSaid : Prop := Claim7.holds Tryz.pinned (.plain (OpenSpec.upto modelAloneSpec)) modelAloneUptoCard

/-- THE SECOND FORM's CARD OF 'tansylaw23.ModelMay'. -/
def modelMayUptoCard : Claim7 := { stood := { row := modelMayUptoRow, standIns := [], harness := (true, "5bb44d60300ac8c1f70043b638d0dadcfaf27012b682a0076fc2239d94979822"), looks := false }, kinds := [], alts := [], laidByText := true, laidKinds := [.data, .pinned], laidTests := true, laidLooks := .later }
def ModelMayUptoCardSaid : Prop := Claim7.holds Tryz.pinned (.plain (OpenSpec.upto modelMaySpec)) modelMayUptoCard

/-- THE SECOND FORM's CARD OF 'tansylaw23.ModelSnap'. -/
def modelSnapUptoCard : Claim7 := { stood := { row := modelSnapUptoRow, standIns := [], harness := (true, "5bb44d60300ac8c1f70043b638d0dadcfaf27012b682a0076fc2239d94979822"), looks := false }, kinds := [], alts := [], laidByText := true, laidKinds := [.data, .pinned], laidTests := true, laidLooks := .later }
def ModelSnapUptoCardSaid : Prop := Claim7.holds Tryz.pinned (.plain (OpenSpec.upto modelSnapSpec)) modelSnapUptoCard

/-- THE SECOND FORM's CARD OF 'tansylaw23.ModelOrder'. -/
def modelOrderUptoCard : Claim7 := { stood := { row := modelOrderUptoRow, standIns := [], harness := (true, "5bb44d60300ac8c1f70043b638d0dadcfaf27012b682a0076fc2239d94979822"), looks := false }, kinds := [], alts := [], laidByText := true, laidKinds := [.data, .pinned], laidTests := true, laidLooks := .later }
def ModelOrderUptoCardSaid : Prop := Claim7.holds Tryz.pinned (.plain (OpenSpec.upto modelOrderSpec)) modelOrderUptoCard

/-- THE SECOND FORM's CARD OF 'tansylaw23.ModelLook'. -/
def modelLookUptoCard : Claim7 := { stood := { row := modelLookUptoRow, standIns := [], harness := (true, "5bb44d60300ac8c1f70043b638d0dadcfaf27012b682a0076fc2239d94979822"), looks := false }, kinds := [], alts := [], laidByText := true, laidKinds := [.data, .pinned], laidTests := true, laidLooks := .later }
def ModelLookUptoCardSaid : Prop := Claim7.holds Tryz.pinned (.plain (OpenSpec.upto modelLookSpec)) modelLookUptoCard

/-- THE SECOND FORM's CARD OF 'tansylaw20.StageTells'. -/
def stageTellsUptoCard : Claim7 := { stood := { row := stageTellsUptoRow, standIns := [], harness := (true, "5bb44d60300ac8c1f70043b638d0dadcfaf27012b682a0076fc2239d94979822"), looks := false }, kinds := [], alts := [], laidByText := true, laidKinds := [.data, .pinned], laidTests := true, laidLooks := .later }
def StageTellsUptoCardSaid : Prop := Claim7.holds Tryz.pinned (.plain (OpenSpec.upto stageTellsSpec)) stageTellsUptoCard

/-- THE SECOND FORM's CARD OF 'tansylaw20.StageMap'. -/
def stageMapUptoCard : Claim7 := { stood := { row := stageMapUptoRow, standIns := [], harness := (true, "5bb44d60300ac8c1f70043b638d0dadcfaf27012b682a0076fc2239d94979822"), looks := false }, kinds := [], alts := [], laidByText := true, laidKinds := [.data, .pinned], laidTests := true, laidLooks := .later }
def StageMapUptoCardSaid : Prop := Claim7.holds Tryz.pinned (.plain (OpenSpec.upto stageMapSpec)) stageMapUptoCard

/-- THE SECOND FORM's CARD OF 'tansylaw20.StageReads'. -/
def stageReadsUptoCard : Claim7 := { stood := { row := stageReadsUptoRow, standIns := [], harness := (true, "5bb44d60300ac8c1f70043b638d0dadcfaf27012b682a0076fc2239d94979822"), looks := false }, kinds := [], alts := [], laidByText := true, laidKinds := [.data, .pinned], laidTests := true, laidLooks := .later }
def StageReadsUptoCardSaid : Prop := Claim7.holds Tryz.pinned (.plain (OpenSpec.upto stageReadsSpec)) stageReadsUptoCard
end Rows
end Go.Proofs.YtihgnpboabpchaaGreatDoor
