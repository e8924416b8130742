/-
  NARROWER THAN 'FOR EVERY INPUT', by the rows' own cells (each row's printed sentence says how): ModelAlone: laid · ModelMay: laid · ModelSnap: laid · ModelOrder: laid · ModelLook: laid · StageTells: laid · StageMap: laid · StageReads: laid.
  DERIVED. THE GIVEN ROWS OF THIS SEAT. 8 by the template 'for every input the law returns true; each argument reads behind the call as it read before'; 0 by the template 'total and deterministic' (their statements: YtihgnpboabpchaaGreatDoorTotals.lean).
  GIVEN WITH THE SEED: the statements are not yours to turn. If you find one false, say at which input.
  Laid BY PROGRAM, IN A SANDBOX (cutbox-rows.mjs): the forced cells as the released guide's own fill.sh prints them over the translation 785d5e244124126d… (all of the seat's roots in one cut). By AI agents, Wed Nov 11 2026. No macro, syntax, notation, axiom, sorry.
-/
import Derived.Test.YtihgnpboabpchaaGreatDoorChecked
import GoSem.PinnedTables
import GoSem.Claim
import GoSem.ClaimJoined
import GoSem.ClaimMapViews
import Derived.JoinedTies
import Derived.KernelRfl
namespace Go.Proofs.YtihgnpboabpchaaGreatDoor
/- THE CELL 'sum', in the pinned program and in every row, IS THE sha256 OF THE DUMP (.gsa) THAT YtihgnpboabpchaaGreatDoorProg.lean LOADS. Nothing in Lean hashes anything: it is a label: what it is worth is what the hold of that sum in a sandbox is worth. -/
noncomputable def Tryz.pinned : Pinned := { name := "ytihgnpboabpchaagreatdoor", sum := "785d5e244124126d9d8a38d4315c4e70d651c40b57fbc45b1d4ef892ffc5690b", checked := Tryz.checked }
namespace Rows
def none {H : Type} : Left H := { results := [], args := [] }

/- WHAT THE LISTED PACKAGE-LEVEL VARIABLES READ AS WHEN THE CALL BEGINS. Each datum BY PROGRAM (the guide's laid-datum.mjs) off the statement by which the dump's own 'gosem.cut.vars' lays the variable. In a bare row this is a premise. The card (YtihgnpboabpchaaGreatDoorCards.lean) ties it to the program's text. -/
def laid_unicode_utf8_acceptRanges {H : Type} : DataW H := .agg [.agg [.lit (.int .u8 128), .lit (.int .u8 191)], .agg [.lit (.int .u8 160), .lit (.int .u8 191)], .agg [.lit (.int .u8 128), .lit (.int .u8 159)], .agg [.lit (.int .u8 144), .lit (.int .u8 191)], .agg [.lit (.int .u8 128), .lit (.int .u8 143)], .agg [.lit (.int .u8 0), .lit (.int .u8 0)], .agg [.lit (.int .u8 0), .lit (.int .u8 0)], .agg [.lit (.int .u8 0), .lit (.int .u8 0)], .agg [.lit (.int .u8 0), .lit (.int .u8 0)], .agg [.lit (.int .u8 0), .lit (.int .u8 0)], .agg [.lit (.int .u8 0), .lit (.int .u8 0)], .agg [.lit (.int .u8 0), .lit (.int .u8 0)], .agg [.lit (.int .u8 0), .lit (.int .u8 0)], .agg [.lit (.int .u8 0), .lit (.int .u8 0)], .agg [.lit (.int .u8 0), .lit (.int .u8 0)], .agg [.lit (.int .u8 0), .lit (.int .u8 0)]]
/-- One of Go's own tables, pinned by name: the form's constant. -/
def laid_unicode_utf8_first : DataW Unit := Go.Pinned.utf8First

/-- 'tansylaw23.ModelAlone': WHATEVER THE INPUT: true; the input reads as it did. -/
def modelAloneSpec : ChangeSpec := { name := "modelAlone", fn := fun _ => fun
  | [d1, d2] => { results := [.lit (.bool true)], args := [d1, d2] }
  | _ => none }
def modelAloneRow : OpenClaim := { program := "ytihgnpboabpchaagreatdoor", sum := "785d5e244124126d9d8a38d4315c4e70d651c40b57fbc45b1d4ef892ffc5690b", func := "tansy/tansylaw23.ModelAlone", spec := "modelAlone", inPlace := ["math.Float64bits", "internal/bytealg.IndexByteString", "internal/bytealg.IndexString", "internal/abi.NoEscape", "internal/bytealg.MakeNoZero", "internal/bytealg.CountString", "math.Float64frombits", "slices.overlaps[tansy/api.Known]", "slices.overlaps[string]"], unfollowed := true, recurses := true, named := ["unicode/utf8.first", "unicode/utf8.acceptRanges", "internal/bytealg.MaxLen"], apart := false, laid := [("unicode/utf8.acceptRanges", laid_unicode_utf8_acceptRanges), ("unicode/utf8.first", laid_unicode_utf8_first)] }
def ModelAloneSaid : Prop := modelAloneRow.holds Tryz.pinned (OpenSpec.ofChange modelAloneSpec)

/-- ITS FALSE NEIGHBOUR: 'it returns false'. Refute it at one input. -/
def modelAloneWrong : ChangeSpec := { name := "modelAlone", fn := fun _ => fun
  | [d1, d2] => { results := [.lit (.bool false)], args := [d1, d2] }
  | _ => none }
def ModelAloneWrongFalsely : Prop := modelAloneRow.holds Tryz.pinned (OpenSpec.ofChange modelAloneWrong)

/-- 'tansylaw23.ModelMay': WHATEVER THE INPUT: true; the input reads as it did. -/
def modelMaySpec : ChangeSpec := { name := "modelMay", fn := fun _ => fun
  | [d] => { results := [.lit (.bool true)], args := [d] }
  | _ => none }
def modelMayRow : OpenClaim := { program := "ytihgnpboabpchaagreatdoor", sum := "785d5e244124126d9d8a38d4315c4e70d651c40b57fbc45b1d4ef892ffc5690b", func := "tansy/tansylaw23.ModelMay", spec := "modelMay", inPlace := ["math.Float64bits", "internal/bytealg.IndexByteString", "internal/bytealg.IndexString", "internal/abi.NoEscape", "internal/bytealg.MakeNoZero", "internal/bytealg.CountString", "math.Float64frombits", "slices.overlaps[tansy/api.Known]", "slices.overlaps[string]"], unfollowed := true, recurses := true, named := ["unicode/utf8.first", "unicode/utf8.acceptRanges", "internal/bytealg.MaxLen"], apart := false, laid := [("unicode/utf8.acceptRanges", laid_unicode_utf8_acceptRanges), ("unicode/utf8.first", laid_unicode_utf8_first)] }
def ModelMaySaid : Prop := modelMayRow.holds Tryz.pinned (OpenSpec.ofChange modelMaySpec)

/-- ITS FALSE NEIGHBOUR: 'it returns false'. Refute it at one input. -/
def modelMayWrong : ChangeSpec := { name := "modelMay", fn := fun _ => fun
  | [d] => { results := [.lit (.bool false)], args := [d] }
  | _ => none }
def ModelMayWrongFalsely : Prop := modelMayRow.holds Tryz.pinned (OpenSpec.ofChange modelMayWrong)

/-- 'tansylaw23.ModelSnap': WHATEVER THE INPUT: true; the input reads as it did. -/
def modelSnapSpec : ChangeSpec := { name := "modelSnap", fn := fun _ => fun
  | [d1, d2, d3] => { results := [.lit (.bool true)], args := [d1, d2, d3] }
  | _ => none }
def modelSnapRow : OpenClaim := { program := "ytihgnpboabpchaagreatdoor", sum := "785d5e244124126d9d8a38d4315c4e70d651c40b57fbc45b1d4ef892ffc5690b", func := "tansy/tansylaw23.ModelSnap", spec := "modelSnap", inPlace := ["math.Float64bits", "internal/bytealg.IndexByteString", "internal/bytealg.IndexString", "internal/abi.NoEscape", "internal/bytealg.MakeNoZero", "internal/bytealg.CountString", "math.Float64frombits", "slices.overlaps[tansy/api.Known]", "slices.overlaps[string]"], unfollowed := true, recurses := true, named := ["unicode/utf8.first", "unicode/utf8.acceptRanges", "internal/bytealg.MaxLen"], apart := false, laid := [("unicode/utf8.acceptRanges", laid_unicode_utf8_acceptRanges), ("unicode/utf8.first", laid_unicode_utf8_first)] }
def ModelSnapSaid : Prop := modelSnapRow.holds Tryz.pinned (OpenSpec.ofChange modelSnapSpec)

/-- ITS FALSE NEIGHBOUR: 'it returns false'. Refute it at one input. -/
def modelSnapWrong : ChangeSpec := { name := "modelSnap", fn := fun _ => fun
  | [d1, d2, d3] => { results := [.lit (.bool false)], args := [d1, d2, d3] }
  | _ => none }
def ModelSnapWrongFalsely : Prop := modelSnapRow.holds Tryz.pinned (OpenSpec.ofChange modelSnapWrong)

/-- 'tansylaw23.ModelOrder': WHATEVER THE INPUT: true; the input reads as it did. -/
def modelOrderSpec : ChangeSpec := { name := "modelOrder", fn := fun _ => fun
  | [d] => { results := [.lit (.bool true)], args := [d] }
  | _ => none }
def modelOrderRow : OpenClaim := { program := "ytihgnpboabpchaagreatdoor", sum := "785d5e244124126d9d8a38d4315c4e70d651c40b57fbc45b1d4ef892ffc5690b", func := "tansy/tansylaw23.ModelOrder", spec := "modelOrder", inPlace := ["math.Float64bits", "internal/bytealg.IndexByteString", "internal/bytealg.IndexString", "internal/abi.NoEscape", "internal/bytealg.MakeNoZero", "internal/bytealg.CountString", "math.Float64frombits", "slices.overlaps[tansy/api.Known]", "slices.overlaps[string]"], unfollowed := true, recurses := true, named := ["unicode/utf8.first", "unicode/utf8.acceptRanges", "internal/bytealg.MaxLen"], apart := false, laid := [("unicode/utf8.acceptRanges", laid_unicode_utf8_acceptRanges), ("unicode/utf8.first", laid_unicode_utf8_first)] }
def ModelOrderSaid : Prop := modelOrderRow.holds Tryz.pinned (OpenSpec.ofChange modelOrderSpec)

/-- ITS FALSE NEIGHBOUR: 'it returns false'. Refute it at one input. -/
def modelOrderWrong : ChangeSpec := { name := "modelOrder", fn := fun _ => fun
  | [d] => { results := [.lit (.bool false)], args := [d] }
  | _ => none }
def ModelOrderWrongFalsely : Prop := modelOrderRow.holds Tryz.pinned (OpenSpec.ofChange modelOrderWrong)

/-- 'tansylaw23.ModelLook': WHATEVER THE INPUT: true; the input reads as it did. -/
def modelLookSpec : ChangeSpec := { name := "modelLook", fn := fun _ => fun
  | [d1, d2] => { results := [.lit (.bool true)], args := [d1, d2] }
  | _ => none }
def modelLookRow : OpenClaim := { program := "ytihgnpboabpchaagreatdoor", sum := "785d5e244124126d9d8a38d4315c4e70d651c40b57fbc45b1d4ef892ffc5690b", func := "tansy/tansylaw23.ModelLook", spec := "modelLook", inPlace := ["math.Float64bits", "internal/bytealg.IndexByteString", "internal/bytealg.IndexString", "internal/abi.NoEscape", "internal/bytealg.MakeNoZero", "internal/bytealg.CountString", "math.Float64frombits", "slices.overlaps[tansy/api.Known]", "slices.overlaps[string]"], unfollowed := true, recurses := true, named := ["unicode/utf8.first", "unicode/utf8.acceptRanges", "internal/bytealg.MaxLen"], apart := false, laid := [("unicode/utf8.acceptRanges", laid_unicode_utf8_acceptRanges), ("unicode/utf8.first", laid_unicode_utf8_first)] }
def ModelLookSaid : Prop := modelLookRow.holds Tryz.pinned (OpenSpec.ofChange modelLookSpec)

/-- ITS FALSE NEIGHBOUR: 'it returns false'. Refute it at one input. -/
def modelLookWrong : ChangeSpec := { name := "modelLook", fn := fun _ => fun
  | [d1, d2] => { results := [.lit (.bool false)], args := [d1, d2] }
  | _ => none }
def ModelLookWrongFalsely : Prop := modelLookRow.holds Tryz.pinned (OpenSpec.ofChange modelLookWrong)

/-- 'tansylaw20.StageTells': WHATEVER THE INPUT: true; the input reads as it did. -/
def stageTellsSpec : ChangeSpec := { name := "stageTells", fn := fun _ => fun
  | [d1, d2, d3] => { results := [.lit (.bool true)], args := [d1, d2, d3] }
  | _ => none }
def stageTellsRow : OpenClaim := { program := "ytihgnpboabpchaagreatdoor", sum := "785d5e244124126d9d8a38d4315c4e70d651c40b57fbc45b1d4ef892ffc5690b", func := "tansy/tansylaw20.StageTells", spec := "stageTells", inPlace := ["internal/bytealg.IndexByteString", "internal/bytealg.IndexString", "internal/abi.NoEscape", "internal/bytealg.MakeNoZero", "internal/bytealg.CountString", "math.Float64bits", "math.Float64frombits", "slices.overlaps[tansy/api.Edit]", "slices.overlaps[string]"], unfollowed := true, recurses := true, named := ["unicode/utf8.first", "unicode/utf8.acceptRanges", "internal/bytealg.MaxLen"], apart := false, laid := [("unicode/utf8.acceptRanges", laid_unicode_utf8_acceptRanges), ("unicode/utf8.first", laid_unicode_utf8_first)] }
def StageTellsSaid : Prop := stageTellsRow.holds Tryz.pinned (OpenSpec.ofChange stageTellsSpec)

/-- ITS FALSE NEIGHBOUR: 'it returns false'. Refute it at one input. -/
def stageTellsWrong : ChangeSpec := { name := "stageTells", fn := fun _ => fun
  | [d1, d2, d3] => { results := [.lit (.bool false)], args := [d1, d2, d3] }
  | _ => none }
def StageTellsWrongFalsely : Prop := stageTellsRow.holds Tryz.pinned (OpenSpec.ofChange stageTellsWrong)

/-- 'tansylaw20.StageMap': WHATEVER THE INPUT: true; the input reads as it did. -/
def stageMapSpec : ChangeSpec := { name := "stageMap", fn := fun _ => fun
  | [d1, d2, d3] => { results := [.lit (.bool true)], args := [d1, d2, d3] }
  | _ => none }
def stageMapRow : OpenClaim := { program := "ytihgnpboabpchaagreatdoor", sum := "785d5e244124126d9d8a38d4315c4e70d651c40b57fbc45b1d4ef892ffc5690b", func := "tansy/tansylaw20.StageMap", spec := "stageMap", inPlace := ["internal/bytealg.IndexByteString", "internal/bytealg.IndexString", "internal/abi.NoEscape", "internal/bytealg.MakeNoZero", "internal/bytealg.CountString", "math.Float64bits", "math.Float64frombits", "slices.overlaps[tansy/api.Edit]", "slices.overlaps[string]"], unfollowed := true, recurses := true, named := ["unicode/utf8.first", "unicode/utf8.acceptRanges", "internal/bytealg.MaxLen"], apart := false, laid := [("unicode/utf8.acceptRanges", laid_unicode_utf8_acceptRanges), ("unicode/utf8.first", laid_unicode_utf8_first)] }
def StageMapSaid : Prop := stageMapRow.holds Tryz.pinned (OpenSpec.ofChange stageMapSpec)

/-- ITS FALSE NEIGHBOUR: 'it returns false'. Refute it at one input. -/
def stageMapWrong : ChangeSpec := { name := "stageMap", fn := fun _ => fun
  | [d1, d2, d3] => { results := [.lit (.bool false)], args := [d1, d2, d3] }
  | _ => none }
def StageMapWrongFalsely : Prop := stageMapRow.holds Tryz.pinned (OpenSpec.ofChange stageMapWrong)

/-- 'tansylaw20.StageReads': WHATEVER THE INPUT: true; the input reads as it did. -/
def stageReadsSpec : ChangeSpec := { name := "stageReads", fn := fun _ => fun
  | [d1, d2, d3] => { results := [.lit (.bool true)], args := [d1, d2, d3] }
  | _ => none }
def stageReadsRow : OpenClaim := { program := "ytihgnpboabpchaagreatdoor", sum := "785d5e244124126d9d8a38d4315c4e70d651c40b57fbc45b1d4ef892ffc5690b", func := "tansy/tansylaw20.StageReads", spec := "stageReads", inPlace := ["internal/bytealg.IndexByteString", "internal/bytealg.IndexString", "internal/abi.NoEscape", "internal/bytealg.MakeNoZero", "internal/bytealg.CountString", "math.Float64bits", "math.Float64frombits", "slices.overlaps[tansy/api.Edit]", "slices.overlaps[string]"], unfollowed := true, recurses := true, named := ["unicode/utf8.first", "unicode/utf8.acceptRanges", "internal/bytealg.MaxLen"], apart := false, laid := [("unicode/utf8.acceptRanges", laid_unicode_utf8_acceptRanges), ("unicode/utf8.first", laid_unicode_utf8_first)] }
def StageReadsSaid : Prop := stageReadsRow.holds Tryz.pinned (OpenSpec.ofChange stageReadsSpec)

/-- ITS FALSE NEIGHBOUR: 'it returns false'. Refute it at one input. -/
def stageReadsWrong : ChangeSpec := { name := "stageReads", fn := fun _ => fun
  | [d1, d2, d3] => { results := [.lit (.bool false)], args := [d1, d2, d3] }
  | _ => none }
def StageReadsWrongFalsely : Prop := stageReadsRow.holds Tryz.pinned (OpenSpec.ofChange stageReadsWrong)

/- THE SECOND FORM. 'bulk': how many values and letters a reading holds, each counted each time it is reached (what is shared counts as often as it is met; a slice's spare places count too). A statement '..UptoSaid' is the law's where the arguments, and the package variables that the reading takes, are together of bulk at most 1048576: NARROWER than '..Said'. Prove '..Said' where nothing that the law and all that it calls make is longer than what came in: it says more and counts as full. Else prove '..UptoSaid'. A law counts once. -/
mutual
def uptoBulk {H : Type} : DataW H → Nat
  | .lit (.string bytes) => bytes.length + 1
  | .lit _ => 1
  | .nil => 1
  | .ptr d => uptoBulk d + 1
  | .slice elems spare => uptoBulkAll elems + uptoBulkAll spare + 1
  | .agg parts => uptoBulkAll parts + 1
  | .iface _ d => uptoBulk d + 1
  | .map entries => uptoBulkEntries entries + 1
  | .held _ => 1
def uptoBulkAll {H : Type} : List (DataW H) → Nat
  | [] => 0
  | d :: r => uptoBulk d + uptoBulkAll r
def uptoBulkEntries {H : Type} : List (Lit × DataW H) → Nat
  | [] => 0
  | x :: r => uptoBulkEntry x + uptoBulkEntries r
def uptoBulkEntry {H : Type} : Lit × DataW H → Nat
  | (.string bytes, d) => bytes.length + uptoBulk d + 1
  | (_, d) => uptoBulk d + 1
 end
def uptoSmall : (H : Type) → List (DataW H) → Bool := fun _ ds => decide (uptoBulkAll ds ≤ 1048576)
def OpenSpec.upto (s : _root_.Go.ChangeSpec) : _root_.Go.OpenSpec := { _root_.Go.OpenSpec.ofChange s with cond := some uptoSmall }

/-- 'tansylaw23.ModelAlone', WHERE WHAT IT READS IS OF BULK AT MOST 1048576: true; the input reads as it did. -/
def modelAloneUptoRow : OpenClaim := { program := "ytihgnpboabpchaagreatdoor", sum := "785d5e244124126d9d8a38d4315c4e70d651c40b57fbc45b1d4ef892ffc5690b", func := "tansy/tansylaw23.ModelAlone", spec := "modelAlone", inPlace := ["math.Float64bits", "internal/bytealg.IndexByteString", "internal/bytealg.IndexString", "internal/abi.NoEscape", "internal/bytealg.MakeNoZero", "internal/bytealg.CountString", "math.Float64frombits", "slices.overlaps[tansy/api.Known]", "slices.overlaps[string]"], unfollowed := true, recurses := true, named := ["unicode/utf8.first", "unicode/utf8.acceptRanges", "internal/bytealg.MaxLen"], apart := false, laid := [("unicode/utf8.acceptRanges", laid_unicode_utf8_acceptRanges), ("unicode/utf8.first", laid_unicode_utf8_first)], narrowed := true }
def ModelAloneUptoSaid : Prop := modelAloneUptoRow.holds Tryz.pinned (OpenSpec.upto modelAloneSpec)

/-- 'tansylaw23.ModelMay', WHERE WHAT IT READS IS OF BULK AT MOST 1048576: true; the input reads as it did. -/
def modelMayUptoRow : OpenClaim := { program := "ytihgnpboabpchaagreatdoor", sum := "785d5e244124126d9d8a38d4315c4e70d651c40b57fbc45b1d4ef892ffc5690b", func := "tansy/tansylaw23.ModelMay", spec := "modelMay", inPlace := ["math.Float64bits", "internal/bytealg.IndexByteString", "internal/bytealg.IndexString", "internal/abi.NoEscape", "internal/bytealg.MakeNoZero", "internal/bytealg.CountString", "math.Float64frombits", "slices.overlaps[tansy/api.Known]", "slices.overlaps[string]"], unfollowed := true, recurses := true, named := ["unicode/utf8.first", "unicode/utf8.acceptRanges", "internal/bytealg.MaxLen"], apart := false, laid := [("unicode/utf8.acceptRanges", laid_unicode_utf8_acceptRanges), ("unicode/utf8.first", laid_unicode_utf8_first)], narrowed := true }
def ModelMayUptoSaid : Prop := modelMayUptoRow.holds Tryz.pinned (OpenSpec.upto modelMaySpec)

/-- 'tansylaw23.ModelSnap', WHERE WHAT IT READS IS OF BULK AT MOST 1048576: true; the input reads as it did. -/
def modelSnapUptoRow : OpenClaim := { program := "ytihgnpboabpchaagreatdoor", sum := "785d5e244124126d9d8a38d4315c4e70d651c40b57fbc45b1d4ef892ffc5690b", func := "tansy/tansylaw23.ModelSnap", spec := "modelSnap", inPlace := ["math.Float64bits", "internal/bytealg.IndexByteString", "internal/bytealg.IndexString", "internal/abi.NoEscape", "internal/bytealg.MakeNoZero", "internal/bytealg.CountString", "math.Float64frombits", "slices.overlaps[tansy/api.Known]", "slices.overlaps[string]"], unfollowed := true, recurses := true, named := ["unicode/utf8.first", "unicode/utf8.acceptRanges", "internal/bytealg.MaxLen"], apart := false, laid := [("unicode/utf8.acceptRanges", laid_unicode_utf8_acceptRanges), ("unicode/utf8.first", laid_unicode_utf8_first)], narrowed := true }
def ModelSnapUptoSaid : Prop := modelSnapUptoRow.holds Tryz.pinned (OpenSpec.upto modelSnapSpec)

/-- 'tansylaw23.ModelOrder', WHERE WHAT IT READS IS OF BULK AT MOST 1048576: true; the input reads as it did. -/
def modelOrderUptoRow : OpenClaim := { program := "ytihgnpboabpchaagreatdoor", sum := "785d5e244124126d9d8a38d4315c4e70d651c40b57fbc45b1d4ef892ffc5690b", func := "tansy/tansylaw23.ModelOrder", spec := "modelOrder", inPlace := ["math.Float64bits", "internal/bytealg.IndexByteString", "internal/bytealg.IndexString", "internal/abi.NoEscape", "internal/bytealg.MakeNoZero", "internal/bytealg.CountString", "math.Float64frombits", "slices.overlaps[tansy/api.Known]", "slices.overlaps[string]"], unfollowed := true, recurses := true, named := ["unicode/utf8.first", "unicode/utf8.acceptRanges", "internal/bytealg.MaxLen"], apart := false, laid := [("unicode/utf8.acceptRanges", laid_unicode_utf8_acceptRanges), ("unicode/utf8.first", laid_unicode_utf8_first)], narrowed := true }
def ModelOrderUptoSaid : Prop := modelOrderUptoRow.holds Tryz.pinned (OpenSpec.upto modelOrderSpec)

/-- 'tansylaw23.ModelLook', WHERE WHAT IT READS IS OF BULK AT MOST 1048576: true; the input reads as it did. -/
def modelLookUptoRow : OpenClaim := { program := "ytihgnpboabpchaagreatdoor", sum := "785d5e244124126d9d8a38d4315c4e70d651c40b57fbc45b1d4ef892ffc5690b", func := "tansy/tansylaw23.ModelLook", spec := "modelLook", inPlace := ["math.Float64bits", "internal/bytealg.IndexByteString", "internal/bytealg.IndexString", "internal/abi.NoEscape", "internal/bytealg.MakeNoZero", "internal/bytealg.CountString", "math.Float64frombits", "slices.overlaps[tansy/api.Known]", "slices.overlaps[string]"], unfollowed := true, recurses := true, named := ["unicode/utf8.first", "unicode/utf8.acceptRanges", "internal/bytealg.MaxLen"], apart := false, laid := [("unicode/utf8.acceptRanges", laid_unicode_utf8_acceptRanges), ("unicode/utf8.first", laid_unicode_utf8_first)], narrowed := true }
def ModelLookUptoSaid : Prop := modelLookUptoRow.holds Tryz.pinned (OpenSpec.upto modelLookSpec)

/-- 'tansylaw20.StageTells', WHERE WHAT IT READS IS OF BULK AT MOST 1048576: true; the input reads as it did. -/
def stageTellsUptoRow : OpenClaim := { program := "ytihgnpboabpchaagreatdoor", sum := "785d5e244124126d9d8a38d4315c4e70d651c40b57fbc45b1d4ef892ffc5690b", func := "tansy/tansylaw20.StageTells", spec := "stageTells", inPlace := ["internal/bytealg.IndexByteString", "internal/bytealg.IndexString", "internal/abi.NoEscape", "internal/bytealg.MakeNoZero", "internal/bytealg.CountString", "math.Float64bits", "math.Float64frombits", "slices.overlaps[tansy/api.Edit]", "slices.overlaps[string]"], unfollowed := true, recurses := true, named := ["unicode/utf8.first", "unicode/utf8.acceptRanges", "internal/bytealg.MaxLen"], apart := false, laid := [("unicode/utf8.acceptRanges", laid_unicode_utf8_acceptRanges), ("unicode/utf8.first", laid_unicode_utf8_first)], narrowed := true }
def StageTellsUptoSaid : Prop := stageTellsUptoRow.holds Tryz.pinned (OpenSpec.upto stageTellsSpec)

/-- 'tansylaw20.StageMap', WHERE WHAT IT READS IS OF BULK AT MOST 1048576: true; the input reads as it did. -/
def stageMapUptoRow : OpenClaim := { program := "ytihgnpboabpchaagreatdoor", sum := "785d5e244124126d9d8a38d4315c4e70d651c40b57fbc45b1d4ef892ffc5690b", func := "tansy/tansylaw20.StageMap", spec := "stageMap", inPlace := ["internal/bytealg.IndexByteString", "internal/bytealg.IndexString", "internal/abi.NoEscape", "internal/bytealg.MakeNoZero", "internal/bytealg.CountString", "math.Float64bits", "math.Float64frombits", "slices.overlaps[tansy/api.Edit]", "slices.overlaps[string]"], unfollowed := true, recurses := true, named := ["unicode/utf8.first", "unicode/utf8.acceptRanges", "internal/bytealg.MaxLen"], apart := false, laid := [("unicode/utf8.acceptRanges", laid_unicode_utf8_acceptRanges), ("unicode/utf8.first", laid_unicode_utf8_first)], narrowed := true }
def StageMapUptoSaid : Prop := stageMapUptoRow.holds Tryz.pinned (OpenSpec.upto stageMapSpec)

/-- 'tansylaw20.StageReads', WHERE WHAT IT READS IS OF BULK AT MOST 1048576: true; the input reads as it did. -/
def stageReadsUptoRow : OpenClaim := { program := "ytihgnpboabpchaagreatdoor", sum := "785d5e244124126d9d8a38d4315c4e70d651c40b57fbc45b1d4ef892ffc5690b", func := "tansy/tansylaw20.StageReads", spec := "stageReads", inPlace := ["internal/bytealg.IndexByteString", "internal/bytealg.IndexString", "internal/abi.NoEscape", "internal/bytealg.MakeNoZero", "internal/bytealg.CountString", "math.Float64bits", "math.Float64frombits", "slices.overlaps[tansy/api.Edit]", "slices.overlaps[string]"], unfollowed := true, recurses := true, named := ["unicode/utf8.first", "unicode/utf8.acceptRanges", "internal/bytealg.MaxLen"], apart := false, laid := [("unicode/utf8.acceptRanges", laid_unicode_utf8_acceptRanges), ("unicode/utf8.first", laid_unicode_utf8_first)], narrowed := true }
def StageReadsUptoSaid : Prop := stageReadsUptoRow.holds Tryz.pinned (OpenSpec.upto stageReadsSpec)

end Rows
end Go.Proofs.YtihgnpboabpchaaGreatDoor
