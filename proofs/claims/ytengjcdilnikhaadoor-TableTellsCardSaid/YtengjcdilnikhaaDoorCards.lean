/-
  DERIVED. GIVEN WITH THE SEED: THE CARDS: each row of YtengjcdilnikhaaDoorRows.lean that lists a variable, with what it lists TIED to the program's text (the seventh form; the later family's looks); each row that meets fmt, with fmt's text TOLD by the authors' own Lean function (tested against real Go, not proved from fmt's source: count such statements apart). THE CARD IS WHAT COUNTS. Prove the row's statement (the work); the ties are given (YtengjcdilnikhaaDoorTie.lean); close each card by the builder's one call (the guide's Derived/Test/ToyasCard.lean, 'card_holds'). Laid BY PROGRAM, IN A SANDBOX (cutbox-door.mjs). By AI agents, Wed Nov 11 2026. No macro, syntax, notation, axiom, sorry.
-/
import Derived.Test.YtengjcdilnikhaaDoorRows
import GoSem.ClaimSeven
namespace Go.Proofs.YtengjcdilnikhaaDoor
namespace Rows

/-- THE TIED CARD OF 'tansylaw19.ValidAlone'. -/
def validAloneCard : Claim7 := { stood := { row := validAloneRow, standIns := [], harness := (true, "494b5dbe6ca9e853c0de2051054416cfb8b98b74a2719969e5300f4a5f7b85ce"), looks := false }, kinds := [], alts := [], laidByText := true, laidKinds := [.data, .pinned], laidTests := true, laidLooks := .later }
def ValidAloneCardSaid : Prop := Claim7.holds Tryd.pinned (.plain (OpenSpec.ofChange validAloneSpec)) validAloneCard

/-- THE TIED CARD OF 'tansylaw19.ValidTells'. -/
def validTellsCard : Claim7 := { stood := { row := validTellsRow, standIns := [], harness := (true, "494b5dbe6ca9e853c0de2051054416cfb8b98b74a2719969e5300f4a5f7b85ce"), looks := false }, kinds := [], alts := [], laidByText := true, laidKinds := [.data, .pinned], laidTests := true, laidLooks := .later }
def ValidTellsCardSaid : Prop := Claim7.holds Tryd.pinned (.plain (OpenSpec.ofChange validTellsSpec)) validTellsCard

/-- THE TIED CARD OF 'tansylaw19.ValidMore'. -/
def validMoreCard : Claim7 := { stood := { row := validMoreRow, standIns := [], harness := (true, "494b5dbe6ca9e853c0de2051054416cfb8b98b74a2719969e5300f4a5f7b85ce"), looks := false }, kinds := [], alts := [], laidByText := true, laidKinds := [.data, .pinned], laidTests := true, laidLooks := .later }
def ValidMoreCardSaid : Prop := Claim7.holds Tryd.pinned (.plain (OpenSpec.ofChange validMoreSpec)) validMoreCard

/-- THE TIED CARD OF 'tansylaw19.ValidAdd'. -/
def validAddCard : Claim7 := { stood := { row := validAddRow, standIns := [], harness := (true, "494b5dbe6ca9e853c0de2051054416cfb8b98b74a2719969e5300f4a5f7b85ce"), looks := false }, kinds := [], alts := [], laidByText := true, laidKinds := [.data, .pinned], laidTests := true, laidLooks := .later }
def ValidAddCardSaid : Prop := Claim7.holds Tryd.pinned (.plain (OpenSpec.ofChange validAddSpec)) validAddCard

/-- THE TIED CARD OF 'tansylaw19.ValidFirst'. -/
def validFirstCard : Claim7 := { stood := { row := validFirstRow, standIns := [], harness := (true, "494b5dbe6ca9e853c0de2051054416cfb8b98b74a2719969e5300f4a5f7b85ce"), looks := false }, kinds := [], alts := [], laidByText := true, laidKinds := [.data, .pinned], laidTests := true, laidLooks := .later }
def ValidFirstCardSaid : Prop := Claim7.holds Tryd.pinned (.plain (OpenSpec.ofChange validFirstSpec)) validFirstCard

/-- THE TIED CARD OF 'tansylaw19.ValidDoes'. -/
def validDoesCard : Claim7 := { stood := { row := validDoesRow, standIns := [], harness := (true, "494b5dbe6ca9e853c0de2051054416cfb8b98b74a2719969e5300f4a5f7b85ce"), looks := false }, kinds := [], alts := [], laidByText := true, laidKinds := [.data, .pinned], laidTests := true, laidLooks := .later }
def ValidDoesCardSaid : Prop := Claim7.holds Tryd.pinned (.plain (OpenSpec.ofChange validDoesSpec)) validDoesCard

/-- THE TIED CARD OF 'tansylaw13.TableMap'. -/
def tableMapCard : Claim7 := { stood := { row := tableMapRow, standIns := [], harness := (true, "494b5dbe6ca9e853c0de2051054416cfb8b98b74a2719969e5300f4a5f7b85ce"), looks := false }, kinds := [], alts := [], laidByText := true, laidKinds := [.data, .pinned], laidTests := true, laidLooks := .later }
def TableMapCardSaid : Prop := Claim7.holds Tryd.pinned (.plain (OpenSpec.ofChange tableMapSpec)) tableMapCard

/-- THE TIED CARD OF 'tansylaw13.TableOrder'. -/
def tableOrderCard : Claim7 := { stood := { row := tableOrderRow, standIns := [], harness := (true, "494b5dbe6ca9e853c0de2051054416cfb8b98b74a2719969e5300f4a5f7b85ce"), looks := false }, kinds := [], alts := [], laidByText := true, laidKinds := [.data, .pinned], laidTests := true, laidLooks := .later }
def TableOrderCardSaid : Prop := Claim7.holds Tryd.pinned (.plain (OpenSpec.ofChange tableOrderSpec)) tableOrderCard

/-- THE TIED CARD OF 'tansylaw13.TableWithin'. -/
def tableWithinCard : Claim7 := { stood := { row := tableWithinRow, standIns := [], harness := (true, "494b5dbe6ca9e853c0de2051054416cfb8b98b74a2719969e5300f4a5f7b85ce"), looks := false }, kinds := [], alts := [], laidByText := true, laidKinds := [.data, .pinned], laidTests := true, laidLooks := .later }
def TableWithinCardSaid : Prop := Claim7.holds Tryd.pinned (.plain (OpenSpec.ofChange tableWithinSpec)) tableWithinCard

/-- THE TIED CARD OF 'tansylaw13.TableDoes'. -/
def tableDoesCard : Claim7 := { stood := { row := tableDoesRow, standIns := [], harness := (true, "494b5dbe6ca9e853c0de2051054416cfb8b98b74a2719969e5300f4a5f7b85ce"), looks := false }, kinds := [], alts := [], laidByText := true, laidKinds := [.data, .pinned], laidTests := true, laidLooks := .later }
def TableDoesCardSaid : Prop := Claim7.holds Tryd.pinned (.plain (OpenSpec.ofChange tableDoesSpec)) tableDoesCard

/-- THE TIED CARD OF 'tansylaw13.TableBest'. -/
def tableBestCard : Claim7 := { stood := { row := tableBestRow, standIns := [], harness := (true, "494b5dbe6ca9e853c0de2051054416cfb8b98b74a2719969e5300f4a5f7b85ce"), looks := false }, kinds := [], alts := [], laidByText := true, laidKinds := [.data, .pinned], laidTests := true, laidLooks := .later }
def TableBestCardSaid : Prop := Claim7.holds Tryd.pinned (.plain (OpenSpec.ofChange tableBestSpec)) tableBestCard

/-- THE TIED CARD OF 'tansylaw13.TableTells'. -/
def tableTellsCard : Claim7 := { stood := { row := tableTellsRow, standIns := [], harness := (true, "494b5dbe6ca9e853c0de2051054416cfb8b98b74a2719969e5300f4a5f7b85ce"), looks := false }, kinds := [], alts := [], laidByText := true, laidKinds := [.data, .pinned], laidTests := true, laidLooks := .later }
def TableTellsCardSaid : Prop := Claim7.holds Tryd.pinned (.plain (OpenSpec.ofChange tableTellsSpec)) tableTellsCard

/-- THE SECOND FORM's CARD OF 'tansylaw19.ValidAlone'. -/
def validAloneUptoCard : Claim7 := { stood := { row := validAloneUptoRow, standIns := [], harness := (true, "494b5dbe6ca9e853c0de2051054416cfb8b98b74a2719969e5300f4a5f7b85ce"), looks := false }, kinds := [], alts := [], laidByText := true, laidKinds := [.data, .pinned], laidTests := true, laidLooks := .later }
def ValidAloneUptoCardSaid : Prop := Claim7.holds Tryd.pinned (.plain (OpenSpec.upto validAloneSpec)) validAloneUptoCard

/-- THE SECOND FORM's CARD OF 'tansylaw19.ValidTells'. -/
def validTellsUptoCard : Claim7 := { stood := { row := validTellsUptoRow, standIns := [], harness := (true, "494b5dbe6ca9e853c0de2051054416cfb8b98b74a2719969e5300f4a5f7b85ce"), looks := false }, kinds := [], alts := [], laidByText := true, laidKinds := [.data, .pinned], laidTests := true, laidLooks := .later }
def ValidTellsUptoCardSaid : Prop := Claim7.holds Tryd.pinned (.plain (OpenSpec.upto validTellsSpec)) validTellsUptoCard

/-- THE SECOND FORM's CARD OF 'tansylaw19.ValidMore'. -/
def validMoreUptoCard : Claim7 := { stood := { row := validMoreUptoRow, standIns := [], harness := (true, "494b5dbe6ca9e853c0de2051054416cfb8b98b74a2719969e5300f4a5f7b85ce"), looks := false }, kinds := [], alts := [], laidByText := true, laidKinds := [.data, .pinned], laidTests := true, laidLooks := .later }
def ValidMoreUptoCardSaid : Prop := Claim7.holds Tryd.pinned (.plain (OpenSpec.upto validMoreSpec)) validMoreUptoCard

/-- THE SECOND FORM's CARD OF 'tansylaw19.ValidAdd'. -/
def validAddUptoCard : Claim7 := { stood := { row := validAddUptoRow, standIns := [], harness := (true, "494b5dbe6ca9e853c0de2051054416cfb8b98b74a2719969e5300f4a5f7b85ce"), looks := false }, kinds := [], alts := [], laidByText := true, laidKinds := [.data, .pinned], laidTests := true, laidLooks := .later }
def ValidAddUptoCardSaid : Prop := Claim7.holds Tryd.pinned (.plain (OpenSpec.upto validAddSpec)) validAddUptoCard

/-- THE SECOND FORM's CARD OF 'tansylaw19.ValidFirst'. -/
def validFirstUptoCard : Claim7 := { stood := { row := validFirstUptoRow, standIns := [], harness := (true, "494b5dbe6ca9e853c0de2051054416cfb8b98b74a2719969e5300f4a5f7b85ce"), looks := false }, kinds := [], alts := [], laidByText := true, laidKinds := [.data, .pinned], laidTests := true, laidLooks := .later }
def ValidFirstUptoCardSaid : Prop := Claim7.holds Tryd.pinned (.plain (OpenSpec.upto validFirstSpec)) validFirstUptoCard

/-- THE SECOND FORM's CARD OF 'tansylaw19.ValidDoes'. -/
def validDoesUptoCard : Claim7 := { stood := { row := validDoesUptoRow, standIns := [], harness := (true, "494b5dbe6ca9e853c0de2051054416cfb8b98b74a2719969e5300f4a5f7b85ce"), looks := false }, kinds := [], alts := [], laidByText := true, laidKinds := [.data, .pinned], laidTests := true, laidLooks := .later }
def ValidDoesUptoCardSaid : Prop := Claim7.holds Tryd.pinned (.plain (OpenSpec.upto validDoesSpec)) validDoesUptoCard

/-- THE SECOND FORM's CARD OF 'tansylaw13.TableMap'. -/
def tableMapUptoCard : Claim7 := { stood := { row := tableMapUptoRow, standIns := [], harness := (true, "494b5dbe6ca9e853c0de2051054416cfb8b98b74a2719969e5300f4a5f7b85ce"), looks := false }, kinds := [], alts := [], laidByText := true, laidKinds := [.data, .pinned], laidTests := true, laidLooks := .later }
def TableMapUptoCardSaid : Prop := Claim7.holds Tryd.pinned (.plain (OpenSpec.upto tableMapSpec)) tableMapUptoCard

/-- THE SECOND FORM's CARD OF 'tansylaw13.TableOrder'. -/
def tableOrderUptoCard : Claim7 := { stood := { row := tableOrderUptoRow, standIns := [], harness := (true, "494b5dbe6ca9e853c0de2051054416cfb8b98b74a2719969e5300f4a5f7b85ce"), looks := false }, kinds := [], alts := [], laidByText := true, laidKinds := [.data, .pinned], laidTests := true, laidLooks := .later }
def TableOrderUptoCardSaid : Prop := Claim7.holds Tryd.pinned (.plain (OpenSpec.upto tableOrderSpec)) tableOrderUptoCard

/-- THE SECOND FORM's CARD OF 'tansylaw13.TableWithin'. -/
def tableWithinUptoCard : Claim7 := { stood := { row := tableWithinUptoRow, standIns := [], harness := (true, "494b5dbe6ca9e853c0de2051054416cfb8b98b74a2719969e5300f4a5f7b85ce"), looks := false }, kinds := [], alts := [], laidByText := true, laidKinds := [.data, .pinned], laidTests := true, laidLooks := .later }
def TableWithinUptoCardSaid : Prop := Claim7.holds Tryd.pinned (.plain (OpenSpec.upto tableWithinSpec)) tableWithinUptoCard

/-- THE SECOND FORM's CARD OF 'tansylaw13.TableDoes'. -/
def tableDoesUptoCard : Claim7 := { stood := { row := tableDoesUptoRow, standIns := [], harness := (true, "494b5dbe6ca9e853c0de2051054416cfb8b98b74a2719969e5300f4a5f7b85ce"), looks := false }, kinds := [], alts := [], laidByText := true, laidKinds := [.data, .pinned], laidTests := true, laidLooks := .later }
def TableDoesUptoCardSaid : Prop := Claim7.holds Tryd.pinned (.plain (OpenSpec.upto tableDoesSpec)) tableDoesUptoCard

/-- THE SECOND FORM's CARD OF 'tansylaw13.TableBest'. -/
def tableBestUptoCard : Claim7 := { stood := { row := tableBestUptoRow, standIns := [], harness := (true, "494b5dbe6ca9e853c0de2051054416cfb8b98b74a2719969e5300f4a5f7b85ce"), looks := false }, kinds := [], alts := [], laidByText := true, laidKinds := [.data, .pinned], laidTests := true, laidLooks := .later }
def TableBestUptoCardSaid : Prop := Claim7.holds Tryd.pinned (.plain (OpenSpec.upto tableBestSpec)) tableBestUptoCard

/-- THE SECOND FORM's CARD OF 'tansylaw13.TableTells'. -/
def tableTellsUptoCard : Claim7 := { stood := { row := tableTellsUptoRow, standIns := [], harness := (true, "494b5dbe6ca9e853c0de2051054416cfb8b98b74a2719969e5300f4a5f7b85ce"), looks := false }, kinds := [], alts := [], laidByText := true, laidKinds := [.data, .pinned], laidTests := true, laidLooks := .later }
def TableTellsUptoCardSaid : Prop := Claim7.holds Tryd.pinned (.plain (OpenSpec.upto tableTellsSpec)) tableTellsUptoCard
end Rows
end Go.Proofs.YtengjcdilnikhaaDoor
