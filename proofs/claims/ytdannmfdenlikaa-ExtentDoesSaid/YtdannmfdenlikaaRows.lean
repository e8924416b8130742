/-
  No cell of these rows narrows 'for every input' (looked for: loops, veiled, ifaces, maps, wideKeys, modest, calm, conditions, laid).
  DERIVED. THE GIVEN ROWS OF THIS SEAT. 6 by the template 'for every input the law returns true; each argument reads behind the call as it read before'; 0 by the template 'total and deterministic' (their statements: YtdannmfdenlikaaTotals.lean).
  GIVEN WITH THE SEED: the statements are not yours to turn. If you find one false, say at which input.
  Laid BY PROGRAM, IN A SANDBOX (cutbox-rows.mjs): the forced cells as the released guide's own fill.sh prints them over the translation 865ec793803e5a8b… (all of the seat's roots in one cut). By AI agents, Wed Nov 11 2026. No macro, syntax, notation, axiom, sorry.
-/
import Derived.Test.YtdannmfdenlikaaChecked
import GoSem.Claim
import GoSem.ClaimJoined
import GoSem.ClaimMapViews
import Derived.JoinedTies
import Derived.KernelRfl
namespace Go.Proofs.Ytdannmfdenlikaa
/- THE CELL 'sum', in the pinned program and in every row, IS THE sha256 OF THE DUMP (.gsa) THAT YtdannmfdenlikaaProg.lean LOADS. Nothing in Lean hashes anything: it is a label: what it is worth is what the hold of that sum in a sandbox is worth. -/
noncomputable def Try.pinned : Pinned := { name := "ytdannmfdenlikaa", sum := "865ec793803e5a8bf4ee6b869a167e928cce9e9250b1407f1fb43652f6ac2e9b", checked := Try.checked }
namespace Rows
def none {H : Type} : Left H := { results := [], args := [] }

/-- 'tansylaw02.ExtentScript': WHATEVER THE INPUT: true; the input reads as it did. -/
def extentScriptSpec : ChangeSpec := { name := "extentScript", fn := fun _ => fun
  | [d1, d2] => { results := [.lit (.bool true)], args := [d1, d2] }
  | _ => none }
def extentScriptRow : OpenClaim := { program := "ytdannmfdenlikaa", sum := "865ec793803e5a8bf4ee6b869a167e928cce9e9250b1407f1fb43652f6ac2e9b", func := "tansy/tansylaw02.ExtentScript", spec := "extentScript", inPlace := ["slices.overlaps[tansy/api.Extent]"], unfollowed := true, recurses := true, apart := false }
def ExtentScriptSaid : Prop := extentScriptRow.holds Try.pinned (OpenSpec.ofChange extentScriptSpec)

/-- ITS FALSE NEIGHBOUR: 'it returns false'. Refute it at one input. -/
def extentScriptWrong : ChangeSpec := { name := "extentScript", fn := fun _ => fun
  | [d1, d2] => { results := [.lit (.bool false)], args := [d1, d2] }
  | _ => none }
def ExtentScriptWrongFalsely : Prop := extentScriptRow.holds Try.pinned (OpenSpec.ofChange extentScriptWrong)

/-- 'tansylaw02.ExtentWhole': WHATEVER THE INPUT: true; the input reads as it did. -/
def extentWholeSpec : ChangeSpec := { name := "extentWhole", fn := fun _ => fun
  | [d1, d2, d3] => { results := [.lit (.bool true)], args := [d1, d2, d3] }
  | _ => none }
def extentWholeRow : OpenClaim := { program := "ytdannmfdenlikaa", sum := "865ec793803e5a8bf4ee6b869a167e928cce9e9250b1407f1fb43652f6ac2e9b", func := "tansy/tansylaw02.ExtentWhole", spec := "extentWhole", inPlace := ["slices.overlaps[tansy/api.Extent]"], unfollowed := true, recurses := true, apart := false }
def ExtentWholeSaid : Prop := extentWholeRow.holds Try.pinned (OpenSpec.ofChange extentWholeSpec)

/-- ITS FALSE NEIGHBOUR: 'it returns false'. Refute it at one input. -/
def extentWholeWrong : ChangeSpec := { name := "extentWhole", fn := fun _ => fun
  | [d1, d2, d3] => { results := [.lit (.bool false)], args := [d1, d2, d3] }
  | _ => none }
def ExtentWholeWrongFalsely : Prop := extentWholeRow.holds Try.pinned (OpenSpec.ofChange extentWholeWrong)

/-- 'tansylaw02.ExtentFirst': WHATEVER THE INPUT: true; the input reads as it did. -/
def extentFirstSpec : ChangeSpec := { name := "extentFirst", fn := fun _ => fun
  | [d1, d2, d3] => { results := [.lit (.bool true)], args := [d1, d2, d3] }
  | _ => none }
def extentFirstRow : OpenClaim := { program := "ytdannmfdenlikaa", sum := "865ec793803e5a8bf4ee6b869a167e928cce9e9250b1407f1fb43652f6ac2e9b", func := "tansy/tansylaw02.ExtentFirst", spec := "extentFirst", inPlace := ["slices.overlaps[tansy/api.Extent]"], unfollowed := true, recurses := true, apart := false }
def ExtentFirstSaid : Prop := extentFirstRow.holds Try.pinned (OpenSpec.ofChange extentFirstSpec)

/-- ITS FALSE NEIGHBOUR: 'it returns false'. Refute it at one input. -/
def extentFirstWrong : ChangeSpec := { name := "extentFirst", fn := fun _ => fun
  | [d1, d2, d3] => { results := [.lit (.bool false)], args := [d1, d2, d3] }
  | _ => none }
def ExtentFirstWrongFalsely : Prop := extentFirstRow.holds Try.pinned (OpenSpec.ofChange extentFirstWrong)

/-- 'tansylaw02.ExtentOrder': WHATEVER THE INPUT: true; the input reads as it did. -/
def extentOrderSpec : ChangeSpec := { name := "extentOrder", fn := fun _ => fun
  | [d1, d2, d3] => { results := [.lit (.bool true)], args := [d1, d2, d3] }
  | _ => none }
def extentOrderRow : OpenClaim := { program := "ytdannmfdenlikaa", sum := "865ec793803e5a8bf4ee6b869a167e928cce9e9250b1407f1fb43652f6ac2e9b", func := "tansy/tansylaw02.ExtentOrder", spec := "extentOrder", inPlace := ["slices.overlaps[tansy/api.Extent]"], unfollowed := true, recurses := true, apart := false }
def ExtentOrderSaid : Prop := extentOrderRow.holds Try.pinned (OpenSpec.ofChange extentOrderSpec)

/-- ITS FALSE NEIGHBOUR: 'it returns false'. Refute it at one input. -/
def extentOrderWrong : ChangeSpec := { name := "extentOrder", fn := fun _ => fun
  | [d1, d2, d3] => { results := [.lit (.bool false)], args := [d1, d2, d3] }
  | _ => none }
def ExtentOrderWrongFalsely : Prop := extentOrderRow.holds Try.pinned (OpenSpec.ofChange extentOrderWrong)

/-- 'tansylaw02.ExtentDoes': WHATEVER THE INPUT: true; the input reads as it did. -/
def extentDoesSpec : ChangeSpec := { name := "extentDoes", fn := fun _ => fun
  | [d1, d2, d3, d4, d5] => { results := [.lit (.bool true)], args := [d1, d2, d3, d4, d5] }
  | _ => none }
def extentDoesRow : OpenClaim := { program := "ytdannmfdenlikaa", sum := "865ec793803e5a8bf4ee6b869a167e928cce9e9250b1407f1fb43652f6ac2e9b", func := "tansy/tansylaw02.ExtentDoes", spec := "extentDoes", inPlace := ["slices.overlaps[tansy/api.Extent]"], unfollowed := true, recurses := true, apart := false }
def ExtentDoesSaid : Prop := extentDoesRow.holds Try.pinned (OpenSpec.ofChange extentDoesSpec)

/-- ITS FALSE NEIGHBOUR: 'it returns false'. Refute it at one input. -/
def extentDoesWrong : ChangeSpec := { name := "extentDoes", fn := fun _ => fun
  | [d1, d2, d3, d4, d5] => { results := [.lit (.bool false)], args := [d1, d2, d3, d4, d5] }
  | _ => none }
def ExtentDoesWrongFalsely : Prop := extentDoesRow.holds Try.pinned (OpenSpec.ofChange extentDoesWrong)

/-- 'tansylaw02.ExtentBack': WHATEVER THE INPUT: true; the input reads as it did. -/
def extentBackSpec : ChangeSpec := { name := "extentBack", fn := fun _ => fun
  | [d1, d2, d3] => { results := [.lit (.bool true)], args := [d1, d2, d3] }
  | _ => none }
def extentBackRow : OpenClaim := { program := "ytdannmfdenlikaa", sum := "865ec793803e5a8bf4ee6b869a167e928cce9e9250b1407f1fb43652f6ac2e9b", func := "tansy/tansylaw02.ExtentBack", spec := "extentBack", inPlace := ["slices.overlaps[tansy/api.Extent]"], unfollowed := true, recurses := true, apart := false }
def ExtentBackSaid : Prop := extentBackRow.holds Try.pinned (OpenSpec.ofChange extentBackSpec)

/-- ITS FALSE NEIGHBOUR: 'it returns false'. Refute it at one input. -/
def extentBackWrong : ChangeSpec := { name := "extentBack", fn := fun _ => fun
  | [d1, d2, d3] => { results := [.lit (.bool false)], args := [d1, d2, d3] }
  | _ => none }
def ExtentBackWrongFalsely : Prop := extentBackRow.holds Try.pinned (OpenSpec.ofChange extentBackWrong)

/- THE SECOND FORM. 'bulk': how many values and letters a reading holds, each counted each time it is reached (what is shared counts as often as it is met; a slice's spare places count too). A statement '..UptoSaid' is the law's where the arguments, and the package variables that the reading takes, are together of bulk at most 1048576: NARROWER than '..Said'. Prove '..Said' where nothing that the law and all that it calls make is longer than what came in: it says more and counts as full. Else prove '..UptoSaid'. A law counts once. -/
mutual
def uptoBulk {H : Type} : DataW H → Nat
  | .lit (.string bytes) => bytes.length + 1
  | .lit _ => 1
  | .nil => 1
  | .ptr d => uptoBulk d + 1
  | .slice elems spare => uptoBulkAll elems + uptoBulkAll spare + 1
  | .agg parts => uptoBulkAll parts + 1
  | .iface _ d => uptoBulk d + 1
  | .map entries => uptoBulkEntries entries + 1
  | .held _ => 1
def uptoBulkAll {H : Type} : List (DataW H) → Nat
  | [] => 0
  | d :: r => uptoBulk d + uptoBulkAll r
def uptoBulkEntries {H : Type} : List (Lit × DataW H) → Nat
  | [] => 0
  | x :: r => uptoBulkEntry x + uptoBulkEntries r
def uptoBulkEntry {H : Type} : Lit × DataW H → Nat
  | (.string bytes, d) => bytes.length + uptoBulk d + 1
  | (_, d) => uptoBulk d + 1
 end
def uptoSmall : (H : Type) → List (DataW H) → Bool := fun _ ds => decide (uptoBulkAll ds ≤ 1048576)
def OpenSpec.upto (s : _root_.Go.ChangeSpec) : _root_.Go.OpenSpec := { _root_.Go.OpenSpec.ofChange s with cond := some uptoSmall }

/-- 'tansylaw02.ExtentScript', WHERE WHAT IT READS IS OF BULK AT MOST 1048576: true; the input reads as it did. -/
def extentScriptUptoRow : OpenClaim := { program := "ytdannmfdenlikaa", sum := "865ec793803e5a8bf4ee6b869a167e928cce9e9250b1407f1fb43652f6ac2e9b", func := "tansy/tansylaw02.ExtentScript", spec := "extentScript", inPlace := ["slices.overlaps[tansy/api.Extent]"], unfollowed := true, recurses := true, apart := false, narrowed := true }
def ExtentScriptUptoSaid : Prop := extentScriptUptoRow.holds Try.pinned (OpenSpec.upto extentScriptSpec)

/-- 'tansylaw02.ExtentWhole', WHERE WHAT IT READS IS OF BULK AT MOST 1048576: true; the input reads as it did. -/
def extentWholeUptoRow : OpenClaim := { program := "ytdannmfdenlikaa", sum := "865ec793803e5a8bf4ee6b869a167e928cce9e9250b1407f1fb43652f6ac2e9b", func := "tansy/tansylaw02.ExtentWhole", spec := "extentWhole", inPlace := ["slices.overlaps[tansy/api.Extent]"], unfollowed := true, recurses := true, apart := false, narrowed := true }
def ExtentWholeUptoSaid : Prop := extentWholeUptoRow.holds Try.pinned (OpenSpec.upto extentWholeSpec)

/-- 'tansylaw02.ExtentFirst', WHERE WHAT IT READS IS OF BULK AT MOST 1048576: true; the input reads as it did. -/
def extentFirstUptoRow : OpenClaim := { program := "ytdannmfdenlikaa", sum := "865ec793803e5a8bf4ee6b869a167e928cce9e9250b1407f1fb43652f6ac2e9b", func := "tansy/tansylaw02.ExtentFirst", spec := "extentFirst", inPlace := ["slices.overlaps[tansy/api.Extent]"], unfollowed := true, recurses := true, apart := false, narrowed := true }
def ExtentFirstUptoSaid : Prop := extentFirstUptoRow.holds Try.pinned (OpenSpec.upto extentFirstSpec)

/-- 'tansylaw02.ExtentOrder', WHERE WHAT IT READS IS OF BULK AT MOST 1048576: true; the input reads as it did. -/
def extentOrderUptoRow : OpenClaim := { program := "ytdannmfdenlikaa", sum := "865ec793803e5a8bf4ee6b869a167e928cce9e9250b1407f1fb43652f6ac2e9b", func := "tansy/tansylaw02.ExtentOrder", spec := "extentOrder", inPlace := ["slices.overlaps[tansy/api.Extent]"], unfollowed := true, recurses := true, apart := false, narrowed := true }
def ExtentOrderUptoSaid : Prop := extentOrderUptoRow.holds Try.pinned (OpenSpec.upto extentOrderSpec)

/-- 'tansylaw02.ExtentDoes', WHERE WHAT IT READS IS OF BULK AT MOST 1048576: true; the input reads as it did. -/
def extentDoesUptoRow : OpenClaim := { program := "ytdannmfdenlikaa", sum := "865ec793803e5a8bf4ee6b869a167e928cce9e9250b1407f1fb43652f6ac2e9b", func := "tansy/tansylaw02.ExtentDoes", spec := "extentDoes", inPlace := ["slices.overlaps[tansy/api.Extent]"], unfollowed := true, recurses := true, apart := false, narrowed := true }
def ExtentDoesUptoSaid : Prop := extentDoesUptoRow.holds Try.pinned (OpenSpec.upto extentDoesSpec)

/-- 'tansylaw02.ExtentBack', WHERE WHAT IT READS IS OF BULK AT MOST 1048576: true; the input reads as it did. -/
def extentBackUptoRow : OpenClaim := { program := "ytdannmfdenlikaa", sum := "865ec793803e5a8bf4ee6b869a167e928cce9e9250b1407f1fb43652f6ac2e9b", func := "tansy/tansylaw02.ExtentBack", spec := "extentBack", inPlace := ["slices.overlaps[tansy/api.Extent]"], unfollowed := true, recurses := true, apart := false, narrowed := true }
def ExtentBackUptoSaid : Prop := extentBackUptoRow.holds Try.pinned (OpenSpec.upto extentBackSpec)

end Rows
end Go.Proofs.Ytdannmfdenlikaa
