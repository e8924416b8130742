/-
  NARROWER THAN 'FOR EVERY INPUT', by the rows' own cells (each row's printed sentence says how): ValidAlone: laid · ValidTells: laid · ValidMore: laid · ValidAdd: laid · ValidFirst: laid · ValidDoes: laid · TableMap: laid · TableOrder: laid · TableWithin: laid · TableDoes: laid · TableBest: laid · TableTells: laid.
  DERIVED. THE GIVEN ROWS OF THIS SEAT. 12 by the template 'for every input the law returns true; each argument reads behind the call as it read before'; 0 by the template 'total and deterministic' (their statements: YtengjcdilnikhaaDoorTotals.lean).
  GIVEN WITH THE SEED: the statements are not yours to turn. If you find one false, say at which input.
  Laid BY PROGRAM, IN A SANDBOX (cutbox-rows.mjs): the forced cells as the released guide's own fill.sh prints them over the translation be88620ce6e8b9be… (all of the seat's roots in one cut). By AI agents, Wed Nov 11 2026. No macro, syntax, notation, axiom, sorry.
-/
import Derived.Test.YtengjcdilnikhaaDoorChecked
import GoSem.PinnedTables
import GoSem.Claim
import GoSem.ClaimJoined
import GoSem.ClaimMapViews
import Derived.JoinedTies
import Derived.KernelRfl
namespace Go.Proofs.YtengjcdilnikhaaDoor
/- THE CELL 'sum', in the pinned program and in every row, IS THE sha256 OF THE DUMP (.gsa) THAT YtengjcdilnikhaaDoorProg.lean LOADS. Nothing in Lean hashes anything: it is a label: what it is worth is what the hold of that sum in a sandbox is worth. -/
noncomputable def Tryd.pinned : Pinned := { name := "ytengjcdilnikhaadoor", sum := "be88620ce6e8b9be112f960ade1fd0e505a3aba6a5e81458b458548fb7f7da3a", checked := Tryd.checked }
namespace Rows
def none {H : Type} : Left H := { results := [], args := [] }

/- WHAT THE LISTED PACKAGE-LEVEL VARIABLES READ AS WHEN THE CALL BEGINS. Each datum BY PROGRAM (the guide's laid-datum.mjs) off the statement by which the dump's own 'gosem.cut.vars' lays the variable. In a bare row this is a premise. The card (YtengjcdilnikhaaDoorCards.lean) ties it to the program's text. -/
def laid_unicode_utf8_acceptRanges {H : Type} : DataW H := .agg [.agg [.lit (.int .u8 128), .lit (.int .u8 191)], .agg [.lit (.int .u8 160), .lit (.int .u8 191)], .agg [.lit (.int .u8 128), .lit (.int .u8 159)], .agg [.lit (.int .u8 144), .lit (.int .u8 191)], .agg [.lit (.int .u8 128), .lit (.int .u8 143)], .agg [.lit (.int .u8 0), .lit (.int .u8 0)], .agg [.lit (.int .u8 0), .lit (.int .u8 0)], .agg [.lit (.int .u8 0), .lit (.int .u8 0)], .agg [.lit (.int .u8 0), .lit (.int .u8 0)], .agg [.lit (.int .u8 0), .lit (.int .u8 0)], .agg [.lit (.int .u8 0), .lit (.int .u8 0)], .agg [.lit (.int .u8 0), .lit (.int .u8 0)], .agg [.lit (.int .u8 0), .lit (.int .u8 0)], .agg [.lit (.int .u8 0), .lit (.int .u8 0)], .agg [.lit (.int .u8 0), .lit (.int .u8 0)], .agg [.lit (.int .u8 0), .lit (.int .u8 0)]]
/-- One of Go's own tables, pinned by name: the form's constant. -/
def laid_unicode_utf8_first : DataW Unit := Go.Pinned.utf8First

/-- 'tansylaw19.ValidAlone': WHATEVER THE INPUT: true; the input reads as it did. -/
def validAloneSpec : ChangeSpec := { name := "validAlone", fn := fun _ => fun
  | [d1, d2, d3] => { results := [.lit (.bool true)], args := [d1, d2, d3] }
  | _ => none }
def validAloneRow : OpenClaim := { program := "ytengjcdilnikhaadoor", sum := "be88620ce6e8b9be112f960ade1fd0e505a3aba6a5e81458b458548fb7f7da3a", func := "tansy/tansylaw19.ValidAlone", spec := "validAlone", inPlace := ["internal/bytealg.IndexByteString", "internal/bytealg.IndexString", "internal/abi.NoEscape", "internal/bytealg.MakeNoZero", "internal/bytealg.CountString"], unfollowed := true, recurses := true, named := ["unicode/utf8.first", "unicode/utf8.acceptRanges", "internal/bytealg.MaxLen"], apart := false, laid := [("unicode/utf8.acceptRanges", laid_unicode_utf8_acceptRanges), ("unicode/utf8.first", laid_unicode_utf8_first)] }
def ValidAloneSaid : Prop := validAloneRow.holds Tryd.pinned (OpenSpec.ofChange validAloneSpec)

/-- ITS FALSE NEIGHBOUR: 'it returns false'. Refute it at one input. -/
def validAloneWrong : ChangeSpec := { name := "validAlone", fn := fun _ => fun
  | [d1, d2, d3] => { results := [.lit (.bool false)], args := [d1, d2, d3] }
  | _ => none }
def ValidAloneWrongFalsely : Prop := validAloneRow.holds Tryd.pinned (OpenSpec.ofChange validAloneWrong)

/-- 'tansylaw19.ValidTells': WHATEVER THE INPUT: true; the input reads as it did. -/
def validTellsSpec : ChangeSpec := { name := "validTells", fn := fun _ => fun
  | [d1, d2, d3, d4] => { results := [.lit (.bool true)], args := [d1, d2, d3, d4] }
  | _ => none }
def validTellsRow : OpenClaim := { program := "ytengjcdilnikhaadoor", sum := "be88620ce6e8b9be112f960ade1fd0e505a3aba6a5e81458b458548fb7f7da3a", func := "tansy/tansylaw19.ValidTells", spec := "validTells", inPlace := ["internal/bytealg.IndexByteString", "internal/bytealg.IndexString", "internal/abi.NoEscape", "internal/bytealg.MakeNoZero", "internal/bytealg.CountString"], unfollowed := true, recurses := true, named := ["unicode/utf8.first", "unicode/utf8.acceptRanges", "internal/bytealg.MaxLen"], apart := false, laid := [("unicode/utf8.acceptRanges", laid_unicode_utf8_acceptRanges), ("unicode/utf8.first", laid_unicode_utf8_first)] }
def ValidTellsSaid : Prop := validTellsRow.holds Tryd.pinned (OpenSpec.ofChange validTellsSpec)

/-- ITS FALSE NEIGHBOUR: 'it returns false'. Refute it at one input. -/
def validTellsWrong : ChangeSpec := { name := "validTells", fn := fun _ => fun
  | [d1, d2, d3, d4] => { results := [.lit (.bool false)], args := [d1, d2, d3, d4] }
  | _ => none }
def ValidTellsWrongFalsely : Prop := validTellsRow.holds Tryd.pinned (OpenSpec.ofChange validTellsWrong)

/-- 'tansylaw19.ValidMore': WHATEVER THE INPUT: true; the input reads as it did. -/
def validMoreSpec : ChangeSpec := { name := "validMore", fn := fun _ => fun
  | [d1, d2] => { results := [.lit (.bool true)], args := [d1, d2] }
  | _ => none }
def validMoreRow : OpenClaim := { program := "ytengjcdilnikhaadoor", sum := "be88620ce6e8b9be112f960ade1fd0e505a3aba6a5e81458b458548fb7f7da3a", func := "tansy/tansylaw19.ValidMore", spec := "validMore", inPlace := ["internal/bytealg.IndexByteString", "internal/bytealg.IndexString", "internal/abi.NoEscape", "internal/bytealg.MakeNoZero", "internal/bytealg.CountString"], unfollowed := true, recurses := true, named := ["unicode/utf8.first", "unicode/utf8.acceptRanges", "internal/bytealg.MaxLen"], apart := false, laid := [("unicode/utf8.acceptRanges", laid_unicode_utf8_acceptRanges), ("unicode/utf8.first", laid_unicode_utf8_first)] }
def ValidMoreSaid : Prop := validMoreRow.holds Tryd.pinned (OpenSpec.ofChange validMoreSpec)

/-- ITS FALSE NEIGHBOUR: 'it returns false'. Refute it at one input. -/
def validMoreWrong : ChangeSpec := { name := "validMore", fn := fun _ => fun
  | [d1, d2] => { results := [.lit (.bool false)], args := [d1, d2] }
  | _ => none }
def ValidMoreWrongFalsely : Prop := validMoreRow.holds Tryd.pinned (OpenSpec.ofChange validMoreWrong)

/-- 'tansylaw19.ValidAdd': WHATEVER THE INPUT: true; the input reads as it did. -/
def validAddSpec : ChangeSpec := { name := "validAdd", fn := fun _ => fun
  | [d1, d2, d3, d4, d5] => { results := [.lit (.bool true)], args := [d1, d2, d3, d4, d5] }
  | _ => none }
def validAddRow : OpenClaim := { program := "ytengjcdilnikhaadoor", sum := "be88620ce6e8b9be112f960ade1fd0e505a3aba6a5e81458b458548fb7f7da3a", func := "tansy/tansylaw19.ValidAdd", spec := "validAdd", inPlace := ["internal/bytealg.IndexByteString", "internal/bytealg.IndexString", "internal/abi.NoEscape", "internal/bytealg.MakeNoZero", "internal/bytealg.CountString"], unfollowed := true, recurses := true, named := ["unicode/utf8.first", "unicode/utf8.acceptRanges", "internal/bytealg.MaxLen"], apart := false, laid := [("unicode/utf8.acceptRanges", laid_unicode_utf8_acceptRanges), ("unicode/utf8.first", laid_unicode_utf8_first)] }
def ValidAddSaid : Prop := validAddRow.holds Tryd.pinned (OpenSpec.ofChange validAddSpec)

/-- ITS FALSE NEIGHBOUR: 'it returns false'. Refute it at one input. -/
def validAddWrong : ChangeSpec := { name := "validAdd", fn := fun _ => fun
  | [d1, d2, d3, d4, d5] => { results := [.lit (.bool false)], args := [d1, d2, d3, d4, d5] }
  | _ => none }
def ValidAddWrongFalsely : Prop := validAddRow.holds Tryd.pinned (OpenSpec.ofChange validAddWrong)

/-- 'tansylaw19.ValidFirst': WHATEVER THE INPUT: true; the input reads as it did. -/
def validFirstSpec : ChangeSpec := { name := "validFirst", fn := fun _ => fun
  | [d1, d2, d3] => { results := [.lit (.bool true)], args := [d1, d2, d3] }
  | _ => none }
def validFirstRow : OpenClaim := { program := "ytengjcdilnikhaadoor", sum := "be88620ce6e8b9be112f960ade1fd0e505a3aba6a5e81458b458548fb7f7da3a", func := "tansy/tansylaw19.ValidFirst", spec := "validFirst", inPlace := ["internal/bytealg.IndexByteString", "internal/bytealg.IndexString", "internal/abi.NoEscape", "internal/bytealg.MakeNoZero", "internal/bytealg.CountString"], unfollowed := true, recurses := true, named := ["unicode/utf8.first", "unicode/utf8.acceptRanges", "internal/bytealg.MaxLen"], apart := false, laid := [("unicode/utf8.acceptRanges", laid_unicode_utf8_acceptRanges), ("unicode/utf8.first", laid_unicode_utf8_first)] }
def ValidFirstSaid : Prop := validFirstRow.holds Tryd.pinned (OpenSpec.ofChange validFirstSpec)

/-- ITS FALSE NEIGHBOUR: 'it returns false'. Refute it at one input. -/
def validFirstWrong : ChangeSpec := { name := "validFirst", fn := fun _ => fun
  | [d1, d2, d3] => { results := [.lit (.bool false)], args := [d1, d2, d3] }
  | _ => none }
def ValidFirstWrongFalsely : Prop := validFirstRow.holds Tryd.pinned (OpenSpec.ofChange validFirstWrong)

/-- 'tansylaw19.ValidDoes': WHATEVER THE INPUT: true; the input reads as it did. -/
def validDoesSpec : ChangeSpec := { name := "validDoes", fn := fun _ => fun
  | [d1, d2, d3, d4] => { results := [.lit (.bool true)], args := [d1, d2, d3, d4] }
  | _ => none }
def validDoesRow : OpenClaim := { program := "ytengjcdilnikhaadoor", sum := "be88620ce6e8b9be112f960ade1fd0e505a3aba6a5e81458b458548fb7f7da3a", func := "tansy/tansylaw19.ValidDoes", spec := "validDoes", inPlace := ["internal/bytealg.IndexByteString", "internal/bytealg.IndexString", "internal/abi.NoEscape", "internal/bytealg.MakeNoZero", "internal/bytealg.CountString"], unfollowed := true, recurses := true, named := ["unicode/utf8.first", "unicode/utf8.acceptRanges", "internal/bytealg.MaxLen"], apart := false, laid := [("unicode/utf8.acceptRanges", laid_unicode_utf8_acceptRanges), ("unicode/utf8.first", laid_unicode_utf8_first)] }
def ValidDoesSaid : Prop := validDoesRow.holds Tryd.pinned (OpenSpec.ofChange validDoesSpec)

/-- ITS FALSE NEIGHBOUR: 'it returns false'. Refute it at one input. -/
def validDoesWrong : ChangeSpec := { name := "validDoes", fn := fun _ => fun
  | [d1, d2, d3, d4] => { results := [.lit (.bool false)], args := [d1, d2, d3, d4] }
  | _ => none }
def ValidDoesWrongFalsely : Prop := validDoesRow.holds Tryd.pinned (OpenSpec.ofChange validDoesWrong)

/-- 'tansylaw13.TableMap': WHATEVER THE INPUT: true; the input reads as it did. -/
def tableMapSpec : ChangeSpec := { name := "tableMap", fn := fun _ => fun
  | [d1, d2] => { results := [.lit (.bool true)], args := [d1, d2] }
  | _ => none }
def tableMapRow : OpenClaim := { program := "ytengjcdilnikhaadoor", sum := "be88620ce6e8b9be112f960ade1fd0e505a3aba6a5e81458b458548fb7f7da3a", func := "tansy/tansylaw13.TableMap", spec := "tableMap", inPlace := ["internal/bytealg.IndexByteString", "internal/bytealg.IndexString", "internal/abi.NoEscape", "internal/bytealg.MakeNoZero", "internal/bytealg.CountString", "slices.overlaps[tansy/api.File]"], unfollowed := true, recurses := true, named := ["unicode/utf8.first", "unicode/utf8.acceptRanges", "internal/bytealg.MaxLen"], apart := false, laid := [("unicode/utf8.acceptRanges", laid_unicode_utf8_acceptRanges), ("unicode/utf8.first", laid_unicode_utf8_first)] }
def TableMapSaid : Prop := tableMapRow.holds Tryd.pinned (OpenSpec.ofChange tableMapSpec)

/-- ITS FALSE NEIGHBOUR: 'it returns false'. Refute it at one input. -/
def tableMapWrong : ChangeSpec := { name := "tableMap", fn := fun _ => fun
  | [d1, d2] => { results := [.lit (.bool false)], args := [d1, d2] }
  | _ => none }
def TableMapWrongFalsely : Prop := tableMapRow.holds Tryd.pinned (OpenSpec.ofChange tableMapWrong)

/-- 'tansylaw13.TableOrder': WHATEVER THE INPUT: true; the input reads as it did. -/
def tableOrderSpec : ChangeSpec := { name := "tableOrder", fn := fun _ => fun
  | [d1, d2, d3] => { results := [.lit (.bool true)], args := [d1, d2, d3] }
  | _ => none }
def tableOrderRow : OpenClaim := { program := "ytengjcdilnikhaadoor", sum := "be88620ce6e8b9be112f960ade1fd0e505a3aba6a5e81458b458548fb7f7da3a", func := "tansy/tansylaw13.TableOrder", spec := "tableOrder", inPlace := ["internal/bytealg.IndexByteString", "internal/bytealg.IndexString", "internal/abi.NoEscape", "internal/bytealg.MakeNoZero", "internal/bytealg.CountString", "slices.overlaps[tansy/api.File]", "math.Float64bits"], unfollowed := true, recurses := true, named := ["unicode/utf8.first", "unicode/utf8.acceptRanges", "internal/bytealg.MaxLen"], apart := false, laid := [("unicode/utf8.acceptRanges", laid_unicode_utf8_acceptRanges), ("unicode/utf8.first", laid_unicode_utf8_first)] }
def TableOrderSaid : Prop := tableOrderRow.holds Tryd.pinned (OpenSpec.ofChange tableOrderSpec)

/-- ITS FALSE NEIGHBOUR: 'it returns false'. Refute it at one input. -/
def tableOrderWrong : ChangeSpec := { name := "tableOrder", fn := fun _ => fun
  | [d1, d2, d3] => { results := [.lit (.bool false)], args := [d1, d2, d3] }
  | _ => none }
def TableOrderWrongFalsely : Prop := tableOrderRow.holds Tryd.pinned (OpenSpec.ofChange tableOrderWrong)

/-- 'tansylaw13.TableWithin': WHATEVER THE INPUT: true; the input reads as it did. -/
def tableWithinSpec : ChangeSpec := { name := "tableWithin", fn := fun _ => fun
  | [d1, d2] => { results := [.lit (.bool true)], args := [d1, d2] }
  | _ => none }
def tableWithinRow : OpenClaim := { program := "ytengjcdilnikhaadoor", sum := "be88620ce6e8b9be112f960ade1fd0e505a3aba6a5e81458b458548fb7f7da3a", func := "tansy/tansylaw13.TableWithin", spec := "tableWithin", inPlace := ["internal/bytealg.IndexByteString", "internal/bytealg.IndexString", "internal/abi.NoEscape", "internal/bytealg.MakeNoZero", "internal/bytealg.CountString", "slices.overlaps[tansy/api.File]", "math.Float64bits"], unfollowed := true, recurses := true, named := ["unicode/utf8.first", "unicode/utf8.acceptRanges", "internal/bytealg.MaxLen"], apart := false, laid := [("unicode/utf8.acceptRanges", laid_unicode_utf8_acceptRanges), ("unicode/utf8.first", laid_unicode_utf8_first)] }
def TableWithinSaid : Prop := tableWithinRow.holds Tryd.pinned (OpenSpec.ofChange tableWithinSpec)

/-- ITS FALSE NEIGHBOUR: 'it returns false'. Refute it at one input. -/
def tableWithinWrong : ChangeSpec := { name := "tableWithin", fn := fun _ => fun
  | [d1, d2] => { results := [.lit (.bool false)], args := [d1, d2] }
  | _ => none }
def TableWithinWrongFalsely : Prop := tableWithinRow.holds Tryd.pinned (OpenSpec.ofChange tableWithinWrong)

/-- 'tansylaw13.TableDoes': WHATEVER THE INPUT: true; the input reads as it did. -/
def tableDoesSpec : ChangeSpec := { name := "tableDoes", fn := fun _ => fun
  | [d1, d2, d3, d4, d5] => { results := [.lit (.bool true)], args := [d1, d2, d3, d4, d5] }
  | _ => none }
def tableDoesRow : OpenClaim := { program := "ytengjcdilnikhaadoor", sum := "be88620ce6e8b9be112f960ade1fd0e505a3aba6a5e81458b458548fb7f7da3a", func := "tansy/tansylaw13.TableDoes", spec := "tableDoes", inPlace := ["internal/bytealg.IndexByteString", "internal/bytealg.IndexString", "internal/abi.NoEscape", "internal/bytealg.MakeNoZero", "internal/bytealg.CountString", "slices.overlaps[tansy/api.File]", "math.Float64bits"], unfollowed := true, recurses := true, named := ["unicode/utf8.first", "unicode/utf8.acceptRanges", "internal/bytealg.MaxLen"], apart := false, laid := [("unicode/utf8.acceptRanges", laid_unicode_utf8_acceptRanges), ("unicode/utf8.first", laid_unicode_utf8_first)] }
def TableDoesSaid : Prop := tableDoesRow.holds Tryd.pinned (OpenSpec.ofChange tableDoesSpec)

/-- ITS FALSE NEIGHBOUR: 'it returns false'. Refute it at one input. -/
def tableDoesWrong : ChangeSpec := { name := "tableDoes", fn := fun _ => fun
  | [d1, d2, d3, d4, d5] => { results := [.lit (.bool false)], args := [d1, d2, d3, d4, d5] }
  | _ => none }
def TableDoesWrongFalsely : Prop := tableDoesRow.holds Tryd.pinned (OpenSpec.ofChange tableDoesWrong)

/-- 'tansylaw13.TableBest': WHATEVER THE INPUT: true; the input reads as it did. -/
def tableBestSpec : ChangeSpec := { name := "tableBest", fn := fun _ => fun
  | [d] => { results := [.lit (.bool true)], args := [d] }
  | _ => none }
def tableBestRow : OpenClaim := { program := "ytengjcdilnikhaadoor", sum := "be88620ce6e8b9be112f960ade1fd0e505a3aba6a5e81458b458548fb7f7da3a", func := "tansy/tansylaw13.TableBest", spec := "tableBest", inPlace := ["internal/bytealg.IndexByteString", "internal/bytealg.IndexString", "internal/abi.NoEscape", "internal/bytealg.MakeNoZero", "internal/bytealg.CountString", "slices.overlaps[tansy/api.File]", "math.Float64bits"], unfollowed := true, recurses := true, named := ["unicode/utf8.first", "unicode/utf8.acceptRanges", "internal/bytealg.MaxLen"], apart := false, laid := [("unicode/utf8.acceptRanges", laid_unicode_utf8_acceptRanges), ("unicode/utf8.first", laid_unicode_utf8_first)] }
def TableBestSaid : Prop := tableBestRow.holds Tryd.pinned (OpenSpec.ofChange tableBestSpec)

/-- ITS FALSE NEIGHBOUR: 'it returns false'. Refute it at one input. -/
def tableBestWrong : ChangeSpec := { name := "tableBest", fn := fun _ => fun
  | [d] => { results := [.lit (.bool false)], args := [d] }
  | _ => none }
def TableBestWrongFalsely : Prop := tableBestRow.holds Tryd.pinned (OpenSpec.ofChange tableBestWrong)

/-- 'tansylaw13.TableTells': WHATEVER THE INPUT: true; the input reads as it did. -/
def tableTellsSpec : ChangeSpec := { name := "tableTells", fn := fun _ => fun
  | [d1, d2] => { results := [.lit (.bool true)], args := [d1, d2] }
  | _ => none }
def tableTellsRow : OpenClaim := { program := "ytengjcdilnikhaadoor", sum := "be88620ce6e8b9be112f960ade1fd0e505a3aba6a5e81458b458548fb7f7da3a", func := "tansy/tansylaw13.TableTells", spec := "tableTells", inPlace := ["internal/bytealg.IndexByteString", "internal/bytealg.IndexString", "internal/abi.NoEscape", "internal/bytealg.MakeNoZero", "internal/bytealg.CountString", "slices.overlaps[tansy/api.File]", "math.Float64bits"], unfollowed := true, recurses := true, named := ["unicode/utf8.first", "unicode/utf8.acceptRanges", "internal/bytealg.MaxLen"], apart := false, laid := [("unicode/utf8.acceptRanges", laid_unicode_utf8_acceptRanges), ("unicode/utf8.first", laid_unicode_utf8_first)] }
def TableTellsSaid : Prop := tableTellsRow.holds Tryd.pinned (OpenSpec.ofChange tableTellsSpec)

/-- ITS FALSE NEIGHBOUR: 'it returns false'. Refute it at one input. -/
def tableTellsWrong : ChangeSpec := { name := "tableTells", fn := fun _ => fun
  | [d1, d2] => { results := [.lit (.bool false)], args := [d1, d2] }
  | _ => none }
def TableTellsWrongFalsely : Prop := tableTellsRow.holds Tryd.pinned (OpenSpec.ofChange tableTellsWrong)

/- THE SECOND FORM. 'bulk': how many values and letters a reading holds, each counted each time it is reached (what is shared counts as often as it is met; a slice's spare places count too). A statement '..UptoSaid' is the law's where the arguments, and the package variables that the reading takes, are together of bulk at most 1048576: NARROWER than '..Said'. Prove '..Said' where nothing that the law and all that it calls make is longer than what came in: it says more and counts as full. Else prove '..UptoSaid'. A law counts once. -/
mutual
def uptoBulk {H : Type} : DataW H → Nat
  | .lit (.string bytes) => bytes.length + 1
  | .lit _ => 1
  | .nil => 1
  | .ptr d => uptoBulk d + 1
  | .slice elems spare => uptoBulkAll elems + uptoBulkAll spare + 1
  | .agg parts => uptoBulkAll parts + 1
  | .iface _ d => uptoBulk d + 1
  | .map entries => uptoBulkEntries entries + 1
  | .held _ => 1
def uptoBulkAll {H : Type} : List (DataW H) → Nat
  | [] => 0
  | d :: r => uptoBulk d + uptoBulkAll r
def uptoBulkEntries {H : Type} : List (Lit × DataW H) → Nat
  | [] => 0
  | x :: r => uptoBulkEntry x + uptoBulkEntries r
def uptoBulkEntry {H : Type} : Lit × DataW H → Nat
  | (.string bytes, d) => bytes.length + uptoBulk d + 1
  | (_, d) => uptoBulk d + 1
 end
def uptoSmall : (H : Type) → List (DataW H) → Bool := fun _ ds => decide (uptoBulkAll ds ≤ 1048576)
def OpenSpec.upto (s : _root_.Go.ChangeSpec) : _root_.Go.OpenSpec := { _root_.Go.OpenSpec.ofChange s with cond := some uptoSmall }

/-- 'tansylaw19.ValidAlone', WHERE WHAT IT READS IS OF BULK AT MOST 1048576: true; the input reads as it did. -/
def validAloneUptoRow : OpenClaim := { program := "ytengjcdilnikhaadoor", sum := "be88620ce6e8b9be112f960ade1fd0e505a3aba6a5e81458b458548fb7f7da3a", func := "tansy/tansylaw19.ValidAlone", spec := "validAlone", inPlace := ["internal/bytealg.IndexByteString", "internal/bytealg.IndexString", "internal/abi.NoEscape", "internal/bytealg.MakeNoZero", "internal/bytealg.CountString"], unfollowed := true, recurses := true, named := ["unicode/utf8.first", "unicode/utf8.acceptRanges", "internal/bytealg.MaxLen"], apart := false, laid := [("unicode/utf8.acceptRanges", laid_unicode_utf8_acceptRanges), ("unicode/utf8.first", laid_unicode_utf8_first)], narrowed := true }
def ValidAloneUptoSaid : Prop := validAloneUptoRow.holds Tryd.pinned (OpenSpec.upto validAloneSpec)

/-- 'tansylaw19.ValidTells', WHERE WHAT IT READS IS OF BULK AT MOST 1048576: true; the input reads as it did. -/
def validTellsUptoRow : OpenClaim := { program := "ytengjcdilnikhaadoor", sum := "be88620ce6e8b9be112f960ade1fd0e505a3aba6a5e81458b458548fb7f7da3a", func := "tansy/tansylaw19.ValidTells", spec := "validTells", inPlace := ["internal/bytealg.IndexByteString", "internal/bytealg.IndexString", "internal/abi.NoEscape", "internal/bytealg.MakeNoZero", "internal/bytealg.CountString"], unfollowed := true, recurses := true, named := ["unicode/utf8.first", "unicode/utf8.acceptRanges", "internal/bytealg.MaxLen"], apart := false, laid := [("unicode/utf8.acceptRanges", laid_unicode_utf8_acceptRanges), ("unicode/utf8.first", laid_unicode_utf8_first)], narrowed := true }
def ValidTellsUptoSaid : Prop := validTellsUptoRow.holds Tryd.pinned (OpenSpec.upto validTellsSpec)

/-- 'tansylaw19.ValidMore', WHERE WHAT IT READS IS OF BULK AT MOST 1048576: true; the input reads as it did. -/
def validMoreUptoRow : OpenClaim := { program := "ytengjcdilnikhaadoor", sum := "be88620ce6e8b9be112f960ade1fd0e505a3aba6a5e81458b458548fb7f7da3a", func := "tansy/tansylaw19.ValidMore", spec := "validMore", inPlace := ["internal/bytealg.IndexByteString", "internal/bytealg.IndexString", "internal/abi.NoEscape", "internal/bytealg.MakeNoZero", "internal/bytealg.CountString"], unfollowed := true, recurses := true, named := ["unicode/utf8.first", "unicode/utf8.acceptRanges", "internal/bytealg.MaxLen"], apart := false, laid := [("unicode/utf8.acceptRanges", laid_unicode_utf8_acceptRanges), ("unicode/utf8.first", laid_unicode_utf8_first)], narrowed := true }
def ValidMoreUptoSaid : Prop := validMoreUptoRow.holds Tryd.pinned (OpenSpec.upto validMoreSpec)

/-- 'tansylaw19.ValidAdd', WHERE WHAT IT READS IS OF BULK AT MOST 1048576: true; the input reads as it did. -/
def validAddUptoRow : OpenClaim := { program := "ytengjcdilnikhaadoor", sum := "be88620ce6e8b9be112f960ade1fd0e505a3aba6a5e81458b458548fb7f7da3a", func := "tansy/tansylaw19.ValidAdd", spec := "validAdd", inPlace := ["internal/bytealg.IndexByteString", "internal/bytealg.IndexString", "internal/abi.NoEscape", "internal/bytealg.MakeNoZero", "internal/bytealg.CountString"], unfollowed := true, recurses := true, named := ["unicode/utf8.first", "unicode/utf8.acceptRanges", "internal/bytealg.MaxLen"], apart := false, laid := [("unicode/utf8.acceptRanges", laid_unicode_utf8_acceptRanges), ("unicode/utf8.first", laid_unicode_utf8_first)], narrowed := true }
def ValidAddUptoSaid : Prop := validAddUptoRow.holds Tryd.pinned (OpenSpec.upto validAddSpec)

/-- 'tansylaw19.ValidFirst', WHERE WHAT IT READS IS OF BULK AT MOST 1048576: true; the input reads as it did. -/
def validFirstUptoRow : OpenClaim := { program := "ytengjcdilnikhaadoor", sum := "be88620ce6e8b9be112f960ade1fd0e505a3aba6a5e81458b458548fb7f7da3a", func := "tansy/tansylaw19.ValidFirst", spec := "validFirst", inPlace := ["internal/bytealg.IndexByteString", "internal/bytealg.IndexString", "internal/abi.NoEscape", "internal/bytealg.MakeNoZero", "internal/bytealg.CountString"], unfollowed := true, recurses := true, named := ["unicode/utf8.first", "unicode/utf8.acceptRanges", "internal/bytealg.MaxLen"], apart := false, laid := [("unicode/utf8.acceptRanges", laid_unicode_utf8_acceptRanges), ("unicode/utf8.first", laid_unicode_utf8_first)], narrowed := true }
def ValidFirstUptoSaid : Prop := validFirstUptoRow.holds Tryd.pinned (OpenSpec.upto validFirstSpec)

/-- 'tansylaw19.ValidDoes', WHERE WHAT IT READS IS OF BULK AT MOST 1048576: true; the input reads as it did. -/
def validDoesUptoRow : OpenClaim := { program := "ytengjcdilnikhaadoor", sum := "be88620ce6e8b9be112f960ade1fd0e505a3aba6a5e81458b458548fb7f7da3a", func := "tansy/tansylaw19.ValidDoes", spec := "validDoes", inPlace := ["internal/bytealg.IndexByteString", "internal/bytealg.IndexString", "internal/abi.NoEscape", "internal/bytealg.MakeNoZero", "internal/bytealg.CountString"], unfollowed := true, recurses := true, named := ["unicode/utf8.first", "unicode/utf8.acceptRanges", "internal/bytealg.MaxLen"], apart := false, laid := [("unicode/utf8.acceptRanges", laid_unicode_utf8_acceptRanges), ("unicode/utf8.first", laid_unicode_utf8_first)], narrowed := true }
def ValidDoesUptoSaid : Prop := validDoesUptoRow.holds Tryd.pinned (OpenSpec.upto validDoesSpec)

/-- 'tansylaw13.TableMap', WHERE WHAT IT READS IS OF BULK AT MOST 1048576: true; the input reads as it did. -/
def tableMapUptoRow : OpenClaim := { program := "ytengjcdilnikhaadoor", sum := "be88620ce6e8b9be112f960ade1fd0e505a3aba6a5e81458b458548fb7f7da3a", func := "tansy/tansylaw13.TableMap", spec := "tableMap", inPlace := ["internal/bytealg.IndexByteString", "internal/bytealg.IndexString", "internal/abi.NoEscape", "internal/bytealg.MakeNoZero", "internal/bytealg.CountString", "slices.overlaps[tansy/api.File]"], unfollowed := true, recurses := true, named := ["unicode/utf8.first", "unicode/utf8.acceptRanges", "internal/bytealg.MaxLen"], apart := false, laid := [("unicode/utf8.acceptRanges", laid_unicode_utf8_acceptRanges), ("unicode/utf8.first", laid_unicode_utf8_first)], narrowed := true }
def TableMapUptoSaid : Prop := tableMapUptoRow.holds Tryd.pinned (OpenSpec.upto tableMapSpec)

/-- 'tansylaw13.TableOrder', WHERE WHAT IT READS IS OF BULK AT MOST 1048576: true; the input reads as it did. -/
def tableOrderUptoRow : OpenClaim := { program := "ytengjcdilnikhaadoor", sum := "be88620ce6e8b9be112f960ade1fd0e505a3aba6a5e81458b458548fb7f7da3a", func := "tansy/tansylaw13.TableOrder", spec := "tableOrder", inPlace := ["internal/bytealg.IndexByteString", "internal/bytealg.IndexString", "internal/abi.NoEscape", "internal/bytealg.MakeNoZero", "internal/bytealg.CountString", "slices.overlaps[tansy/api.File]", "math.Float64bits"], unfollowed := true, recurses := true, named := ["unicode/utf8.first", "unicode/utf8.acceptRanges", "internal/bytealg.MaxLen"], apart := false, laid := [("unicode/utf8.acceptRanges", laid_unicode_utf8_acceptRanges), ("unicode/utf8.first", laid_unicode_utf8_first)], narrowed := true }
def TableOrderUptoSaid : Prop := tableOrderUptoRow.holds Tryd.pinned (OpenSpec.upto tableOrderSpec)

/-- 'tansylaw13.TableWithin', WHERE WHAT IT READS IS OF BULK AT MOST 1048576: true; the input reads as it did. -/
def tableWithinUptoRow : OpenClaim := { program := "ytengjcdilnikhaadoor", sum := "be88620ce6e8b9be112f960ade1fd0e505a3aba6a5e81458b458548fb7f7da3a", func := "tansy/tansylaw13.TableWithin", spec := "tableWithin", inPlace := ["internal/bytealg.IndexByteString", "internal/bytealg.IndexString", "internal/abi.NoEscape", "internal/bytealg.MakeNoZero", "internal/bytealg.CountString", "slices.overlaps[tansy/api.File]", "math.Float64bits"], unfollowed := true, recurses := true, named := ["unicode/utf8.first", "unicode/utf8.acceptRanges", "internal/bytealg.MaxLen"], apart := false, laid := [("unicode/utf8.acceptRanges", laid_unicode_utf8_acceptRanges), ("unicode/utf8.first", laid_unicode_utf8_first)], narrowed := true }
def TableWithinUptoSaid : Prop := tableWithinUptoRow.holds Tryd.pinned (OpenSpec.upto tableWithinSpec)

/-- 'tansylaw13.TableDoes', WHERE WHAT IT READS IS OF BULK AT MOST 1048576: true; the input reads as it did. -/
def tableDoesUptoRow : OpenClaim := { program := "ytengjcdilnikhaadoor", sum := "be88620ce6e8b9be112f960ade1fd0e505a3aba6a5e81458b458548fb7f7da3a", func := "tansy/tansylaw13.TableDoes", spec := "tableDoes", inPlace := ["internal/bytealg.IndexByteString", "internal/bytealg.IndexString", "internal/abi.NoEscape", "internal/bytealg.MakeNoZero", "internal/bytealg.CountString", "slices.overlaps[tansy/api.File]", "math.Float64bits"], unfollowed := true, recurses := true, named := ["unicode/utf8.first", "unicode/utf8.acceptRanges", "internal/bytealg.MaxLen"], apart := false, laid := [("unicode/utf8.acceptRanges", laid_unicode_utf8_acceptRanges), ("unicode/utf8.first", laid_unicode_utf8_first)], narrowed := true }
def TableDoesUptoSaid : Prop := tableDoesUptoRow.holds Tryd.pinned (OpenSpec.upto tableDoesSpec)

/-- 'tansylaw13.TableBest', WHERE WHAT IT READS IS OF BULK AT MOST 1048576: true; the input reads as it did. -/
def tableBestUptoRow : OpenClaim := { program := "ytengjcdilnikhaadoor", sum := "be88620ce6e8b9be112f960ade1fd0e505a3aba6a5e81458b458548fb7f7da3a", func := "tansy/tansylaw13.TableBest", spec := "tableBest", inPlace := ["internal/bytealg.IndexByteString", "internal/bytealg.IndexString", "internal/abi.NoEscape", "internal/bytealg.MakeNoZero", "internal/bytealg.CountString", "slices.overlaps[tansy/api.File]", "math.Float64bits"], unfollowed := true, recurses := true, named := ["unicode/utf8.first", "unicode/utf8.acceptRanges", "internal/bytealg.MaxLen"], apart := false, laid := [("unicode/utf8.acceptRanges", laid_unicode_utf8_acceptRanges), ("unicode/utf8.first", laid_unicode_utf8_first)], narrowed := true }
def TableBestUptoSaid : Prop := tableBestUptoRow.holds Tryd.pinned (OpenSpec.upto tableBestSpec)

/-- 'tansylaw13.TableTells', WHERE WHAT IT READS IS OF BULK AT MOST 1048576: true; the input reads as it did. -/
def tableTellsUptoRow : OpenClaim := { program := "ytengjcdilnikhaadoor", sum := "be88620ce6e8b9be112f960ade1fd0e505a3aba6a5e81458b458548fb7f7da3a", func := "tansy/tansylaw13.TableTells", spec := "tableTells", inPlace := ["internal/bytealg.IndexByteString", "internal/bytealg.IndexString", "internal/abi.NoEscape", "internal/bytealg.MakeNoZero", "internal/bytealg.CountString", "slices.overlaps[tansy/api.File]", "math.Float64bits"], unfollowed := true, recurses := true, named := ["unicode/utf8.first", "unicode/utf8.acceptRanges", "internal/bytealg.MaxLen"], apart := false, laid := [("unicode/utf8.acceptRanges", laid_unicode_utf8_acceptRanges), ("unicode/utf8.first", laid_unicode_utf8_first)], narrowed := true }
def TableTellsUptoSaid : Prop := tableTellsUptoRow.holds Tryd.pinned (OpenSpec.upto tableTellsSpec)

end Rows
end Go.Proofs.YtengjcdilnikhaaDoor
