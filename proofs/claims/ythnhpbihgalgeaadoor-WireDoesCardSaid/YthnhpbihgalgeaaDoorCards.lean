/-
  DERIVED. GIVEN WITH THE SEED: THE CARDS: each row of YthnhpbihgalgeaaDoorRows.lean that lists a variable, with what it lists TIED to the program's text (the seventh form; the later family's looks); each row that meets fmt, with fmt's text TOLD by the authors' own Lean function (tested against real Go, not proved from fmt's source: count such statements apart). THE CARD IS WHAT COUNTS. Prove the row's statement (the work); the ties are given (YthnhpbihgalgeaaDoorTie.lean); close each card by the builder's one call (the guide's Derived/Test/ToyasCard.lean, 'card_holds'). Laid BY PROGRAM, IN A SANDBOX (cutbox-door.mjs). By AI agents, Wed Nov 11 2026. No macro, syntax, notation, axiom, sorry.
-/
import Derived.Test.YthnhpbihgalgeaaDoorRows
import GoSem.ClaimSeven
namespace Go.Proofs.YthnhpbihgalgeaaDoor
namespace Rows

/-- THE TIED CARD OF 'tansylaw14.WireParts'. -/
def wirePartsCard : Claim7 := { stood := { row := wirePartsRow, standIns := [], harness := (true, "6a415bbc2874e0730756ef0aeb6a9c8fd8d2f78920867790939262eb021465ba"), looks := true }, kinds := [], alts := [], laidByText := true, laidKinds := [.data, .pinned], laidTests := true, laidLooks := .later }
def WirePartsCardSaid : Prop := Claim7.holds Tryd.pinned (.plain (OpenSpec.ofChange wirePartsSpec)) wirePartsCard

/-- THE TIED CARD OF 'tansylaw14.WireApart'. -/
def wireApartCard : Claim7 := { stood := { row := wireApartRow, standIns := [], harness := (true, "6a415bbc2874e0730756ef0aeb6a9c8fd8d2f78920867790939262eb021465ba"), looks := true }, kinds := [], alts := [], laidByText := true, laidKinds := [.data, .pinned], laidTests := true, laidLooks := .later }
def WireApartCardSaid : Prop := Claim7.holds Tryd.pinned (.plain (OpenSpec.ofChange wireApartSpec)) wireApartCard

/-- THE TIED CARD OF 'tansylaw14.WireCut'. -/
def wireCutCard : Claim7 := { stood := { row := wireCutRow, standIns := [], harness := (true, "6a415bbc2874e0730756ef0aeb6a9c8fd8d2f78920867790939262eb021465ba"), looks := true }, kinds := [], alts := [], laidByText := true, laidKinds := [.data, .pinned], laidTests := true, laidLooks := .later }
def WireCutCardSaid : Prop := Claim7.holds Tryd.pinned (.plain (OpenSpec.ofChange wireCutSpec)) wireCutCard

/-- THE TIED CARD OF 'tansylaw14.WireDoes'. -/
def wireDoesCard : Claim7 := { stood := { row := wireDoesRow, standIns := [], harness := (true, "6a415bbc2874e0730756ef0aeb6a9c8fd8d2f78920867790939262eb021465ba"), looks := true }, kinds := [], alts := [], laidByText := true, laidKinds := [.data, .pinned], laidTests := true, laidLooks := .later }
def WireDoesCardSaid : Prop := Claim7.holds Tryd.pinned (.plain (OpenSpec.ofChange wireDoesSpec)) wireDoesCard

/-- THE TIED CARD OF 'tansylaw14.WireBack'. -/
def wireBackCard : Claim7 := { stood := { row := wireBackRow, standIns := [], harness := (true, "6a415bbc2874e0730756ef0aeb6a9c8fd8d2f78920867790939262eb021465ba"), looks := true }, kinds := [], alts := [], laidByText := true, laidKinds := [.data, .pinned], laidTests := true, laidLooks := .later }
def WireBackCardSaid : Prop := Claim7.holds Tryd.pinned (.plain (OpenSpec.ofChange wireBackSpec)) wireBackCard

/-- THE SECOND FORM's CARD OF 'tansylaw14.WireParts'. -/
def wirePartsUptoCard : Claim7 := { stood := { row := wirePartsUptoRow, standIns := [], harness := (true, "6a415bbc2874e0730756ef0aeb6a9c8fd8d2f78920867790939262eb021465ba"), looks := true }, kinds := [], alts := [], laidByText := true, laidKinds := [.data, .pinned], laidTests := true, laidLooks := .later }
def WirePartsUptoCardSaid : Prop := Claim7.holds Tryd.pinned (.plain (OpenSpec.upto wirePartsSpec)) wirePartsUptoCard

/-- THE SECOND FORM's CARD OF 'tansylaw14.WireApart'. -/
def wireApartUptoCard : Claim7 := { stood := { row := wireApartUptoRow, standIns := [], harness := (true, "6a415bbc2874e0730756ef0aeb6a9c8fd8d2f78920867790939262eb021465ba"), looks := true }, kinds := [], alts := [], laidByText := true, laidKinds := [.data, .pinned], laidTests := true, laidLooks := .later }
def WireApartUptoCardSaid : Prop := Claim7.holds Tryd.pinned (.plain (OpenSpec.upto wireApartSpec)) wireApartUptoCard

/-- THE SECOND FORM's CARD OF 'tansylaw14.WireCut'. -/
def wireCutUptoCard : Claim7 := { stood := { row := wireCutUptoRow, standIns := [], harness := (true, "6a415bbc2874e0730756ef0aeb6a9c8fd8d2f78920867790939262eb021465ba"), looks := true }, kinds := [], alts := [], laidByText := true, laidKinds := [.data, .pinned], laidTests := true, laidLooks := .later }
def WireCutUptoCardSaid : Prop := Claim7.holds Tryd.pinned (.plain (OpenSpec.upto wireCutSpec)) wireCutUptoCard

/-- THE SECOND FORM's CARD OF 'tansylaw14.WireDoes'. -/
def wireDoesUptoCard : Claim7 := { stood := { row := wireDoesUptoRow, standIns := [], harness := (true, "6a415bbc2874e0730756ef0aeb6a9c8fd8d2f78920867790939262eb021465ba"), looks := true }, kinds := [], alts := [], laidByText := true, laidKinds := [.data, .pinned], laidTests := true, laidLooks := .later }
def WireDoesUptoCardSaid : Prop := Claim7.holds Tryd.pinned (.plain (OpenSpec.upto wireDoesSpec)) wireDoesUptoCard

/-- THE SECOND FORM's CARD OF 'tansylaw14.WireBack'. -/
def wireBackUptoCard : Claim7 := { stood := { row := wireBackUptoRow, standIns := [], harness := (true, "6a415bbc2874e0730756ef0aeb6a9c8fd8d2f78920867790939262eb021465ba"), looks := true }, kinds := [], alts := [], laidByText := true, laidKinds := [.data, .pinned], laidTests := true, laidLooks := .later }
def WireBackUptoCardSaid : Prop := Claim7.holds Tryd.pinned (.plain (OpenSpec.upto wireBackSpec)) wireBackUptoCard
end Rows
end Go.Proofs.YthnhpbihgalgeaaDoor
