/-
  DERIVED. GIVEN WITH THE SEED: THE CARDS: each row of YtdannmfdenlikaaDoorRows.lean that lists a variable, with what it lists TIED to the program's text (the seventh form; the later family's looks); each row that meets fmt, with fmt's text TOLD by the authors' own Lean function (tested against real Go, not proved from fmt's source: count such statements apart). THE CARD IS WHAT COUNTS. Prove the row's statement (the work); the ties are given (YtdannmfdenlikaaDoorTie.lean); close each card by the builder's one call (the guide's Derived/Test/ToyasCard.lean, 'card_holds'). Laid BY PROGRAM, IN A SANDBOX (cutbox-door.mjs). By AI agents, Wed Nov 11 2026. No macro, syntax, notation, axiom, sorry.
-/
import Derived.Test.YtdannmfdenlikaaDoorRows
import GoSem.ClaimSeven
namespace Go.Proofs.YtdannmfdenlikaaDoor
namespace Rows

/-- THE TIED CARD OF 'tansylaw11.NameClean'. -/
def nameCleanCard : Claim7 := { stood := { row := nameCleanRow, standIns := [], harness := (true, "c24d1f9c4ddfeb1c397b2b83091477acb98149d357b892551bc02cdb15cf49ae"), looks := false }, kinds := [], alts := [], laidByText := true, laidKinds := [.data, .pinned], laidTests := true, laidLooks := .later }
def NameCleanCardSaid : Prop := Claim7.holds Tryd.pinned (.plain (OpenSpec.ofChange nameCleanSpec)) nameCleanCard

/-- THE TIED CARD OF 'tansylaw11.NameJoin'. -/
def nameJoinCard : Claim7 := { stood := { row := nameJoinRow, standIns := [], harness := (true, "c24d1f9c4ddfeb1c397b2b83091477acb98149d357b892551bc02cdb15cf49ae"), looks := false }, kinds := [], alts := [], laidByText := true, laidKinds := [.data, .pinned], laidTests := true, laidLooks := .later }
def NameJoinCardSaid : Prop := Claim7.holds Tryd.pinned (.plain (OpenSpec.ofChange nameJoinSpec)) nameJoinCard

/-- THE TIED CARD OF 'tansylaw11.NameSplit'. -/
def nameSplitCard : Claim7 := { stood := { row := nameSplitRow, standIns := [], harness := (true, "c24d1f9c4ddfeb1c397b2b83091477acb98149d357b892551bc02cdb15cf49ae"), looks := false }, kinds := [], alts := [], laidByText := true, laidKinds := [.data, .pinned], laidTests := true, laidLooks := .later }
def NameSplitCardSaid : Prop := Claim7.holds Tryd.pinned (.plain (OpenSpec.ofChange nameSplitSpec)) nameSplitCard

/-- THE TIED CARD OF 'tansylaw11.NameOrder'. -/
def nameOrderCard : Claim7 := { stood := { row := nameOrderRow, standIns := [], harness := (true, "c24d1f9c4ddfeb1c397b2b83091477acb98149d357b892551bc02cdb15cf49ae"), looks := false }, kinds := [], alts := [], laidByText := true, laidKinds := [.data, .pinned], laidTests := true, laidLooks := .later }
def NameOrderCardSaid : Prop := Claim7.holds Tryd.pinned (.plain (OpenSpec.ofChange nameOrderSpec)) nameOrderCard

/-- THE TIED CARD OF 'tansylaw11.NameTogether'. -/
def nameTogetherCard : Claim7 := { stood := { row := nameTogetherRow, standIns := [], harness := (true, "c24d1f9c4ddfeb1c397b2b83091477acb98149d357b892551bc02cdb15cf49ae"), looks := false }, kinds := [], alts := [], laidByText := true, laidKinds := [.data, .pinned], laidTests := true, laidLooks := .later }
def NameTogetherCardSaid : Prop := Claim7.holds Tryd.pinned (.plain (OpenSpec.ofChange nameTogetherSpec)) nameTogetherCard

/-- THE TIED CARD OF 'tansylaw11.NameDoes'. -/
def nameDoesCard : Claim7 := { stood := { row := nameDoesRow, standIns := [], harness := (true, "c24d1f9c4ddfeb1c397b2b83091477acb98149d357b892551bc02cdb15cf49ae"), looks := false }, kinds := [], alts := [], laidByText := true, laidKinds := [.data, .pinned], laidTests := true, laidLooks := .later }
def NameDoesCardSaid : Prop := Claim7.holds Tryd.pinned (.plain (OpenSpec.ofChange nameDoesSpec)) nameDoesCard

/-- THE SECOND FORM's CARD OF 'tansylaw11.NameClean'. -/
def nameCleanUptoCard : Claim7 := { stood := { row := nameCleanUptoRow, standIns := [], harness := (true, "c24d1f9c4ddfeb1c397b2b83091477acb98149d357b892551bc02cdb15cf49ae"), looks := false }, kinds := [], alts := [], laidByText := true, laidKinds := [.data, .pinned], laidTests := true, laidLooks := .later }
def NameCleanUptoCardSaid : Prop := Claim7.holds Tryd.pinned (.plain (OpenSpec.upto nameCleanSpec)) nameCleanUptoCard

/-- THE SECOND FORM's CARD OF 'tansylaw11.NameJoin'. -/
def nameJoinUptoCard : Claim7 := { stood := { row := nameJoinUptoRow, standIns := [], harness := (true, "c24d1f9c4ddfeb1c397b2b83091477acb98149d357b892551bc02cdb15cf49ae"), looks := false }, kinds := [], alts := [], laidByText := true, laidKinds := [.data, .pinned], laidTests := true, laidLooks := .later }
def NameJoinUptoCardSaid : Prop := Claim7.holds Tryd.pinned (.plain (OpenSpec.upto nameJoinSpec)) nameJoinUptoCard

/-- THE SECOND FORM's CARD OF 'tansylaw11.NameSplit'. -/
def nameSplitUptoCard : Claim7 := { stood := { row := nameSplitUptoRow, standIns := [], harness := (true, "c24d1f9c4ddfeb1c397b2b83091477acb98149d357b892551bc02cdb15cf49ae"), looks := false }, kinds := [], alts := [], laidByText := true, laidKinds := [.data, .pinned], laidTests := true, laidLooks := .later }
def NameSplitUptoCardSaid : Prop := Claim7.holds Tryd.pinned (.plain (OpenSpec.upto nameSplitSpec)) nameSplitUptoCard

/-- THE SECOND FORM's CARD OF 'tansylaw11.NameOrder'. -/
def nameOrderUptoCard : Claim7 := { stood := { row := nameOrderUptoRow, standIns := [], harness := (true, "c24d1f9c4ddfeb1c397b2b83091477acb98149d357b892551bc02cdb15cf49ae"), looks := false }, kinds := [], alts := [], laidByText := true, laidKinds := [.data, .pinned], laidTests := true, laidLooks := .later }
def NameOrderUptoCardSaid : Prop := Claim7.holds Tryd.pinned (.plain (OpenSpec.upto nameOrderSpec)) nameOrderUptoCard

/-- THE SECOND FORM's CARD OF 'tansylaw11.NameTogether'. -/
def nameTogetherUptoCard : Claim7 := { stood := { row := nameTogetherUptoRow, standIns := [], harness := (true, "c24d1f9c4ddfeb1c397b2b83091477acb98149d357b892551bc02cdb15cf49ae"), looks := false }, kinds := [], alts := [], laidByText := true, laidKinds := [.data, .pinned], laidTests := true, laidLooks := .later }
def NameTogetherUptoCardSaid : Prop := Claim7.holds Tryd.pinned (.plain (OpenSpec.upto nameTogetherSpec)) nameTogetherUptoCard

/-- THE SECOND FORM's CARD OF 'tansylaw11.NameDoes'. -/
def nameDoesUptoCard : Claim7 := { stood := { row := nameDoesUptoRow, standIns := [], harness := (true, "c24d1f9c4ddfeb1c397b2b83091477acb98149d357b892551bc02cdb15cf49ae"), looks := false }, kinds := [], alts := [], laidByText := true, laidKinds := [.data, .pinned], laidTests := true, laidLooks := .later }
def NameDoesUptoCardSaid : Prop := Claim7.holds Tryd.pinned (.plain (OpenSpec.upto nameDoesSpec)) nameDoesUptoCard
end Rows
end Go.Proofs.YtdannmfdenlikaaDoor
