/-
  No cell of these rows narrows 'for every input' (looked for: loops, veiled, ifaces, maps, wideKeys, modest, calm, conditions, laid).
  DERIVED. THE GIVEN ROWS OF THIS SEAT. 14 by the template 'for every input the law returns true; each argument reads behind the call as it read before'; 0 by the template 'total and deterministic' (their statements: YtnpdjifiohneoaaTotals.lean).
  GIVEN WITH THE SEED: the statements are not yours to turn. If you find one false, say at which input.
  Laid BY PROGRAM, IN A SANDBOX (cutbox-rows.mjs): the forced cells as the released guide's own fill.sh prints them over the translation 1a4f6ac9b0b2bdbe… (all of the seat's roots in one cut). By AI agents, Wed Nov 11 2026. No macro, syntax, notation, axiom, sorry.
-/
import Derived.Test.YtnpdjifiohneoaaChecked
import GoSem.Claim
import GoSem.ClaimJoined
import GoSem.ClaimMapViews
import Derived.JoinedTies
import Derived.KernelRfl
namespace Go.Proofs.Ytnpdjifiohneoaa
/- THE CELL 'sum', in the pinned program and in every row, IS THE sha256 OF THE DUMP (.gsa) THAT YtnpdjifiohneoaaProg.lean LOADS. Nothing in Lean hashes anything: it is a label: what it is worth is what the hold of that sum in a sandbox is worth. -/
noncomputable def Try.pinned : Pinned := { name := "ytnpdjifiohneoaa", sum := "1a4f6ac9b0b2bdbe09f540c3def560bff84f77ffe56099f3792f86729cac91bb", checked := Try.checked }
namespace Rows
def none {H : Type} : Left H := { results := [], args := [] }

/-- 'masterdisclaw40.MetadataExtents': WHATEVER THE INPUT: true; the input reads as it did. -/
def metadataExtentsSpec : ChangeSpec := { name := "metadataExtents", fn := fun _ => fun
  | [d1, d2, d3] => { results := [.lit (.bool true)], args := [d1, d2, d3] }
  | _ => none }
def metadataExtentsRow : OpenClaim := { program := "ytnpdjifiohneoaa", sum := "1a4f6ac9b0b2bdbe09f540c3def560bff84f77ffe56099f3792f86729cac91bb", func := "masterdisc/masterdisclaw40.MetadataExtents", spec := "metadataExtents", unfollowed := true, recurses := true, apart := false }
def MetadataExtentsSaid : Prop := metadataExtentsRow.holds Try.pinned (OpenSpec.ofChange metadataExtentsSpec)

/-- ITS FALSE NEIGHBOUR: 'it returns false'. Refute it at one input. -/
def metadataExtentsWrong : ChangeSpec := { name := "metadataExtents", fn := fun _ => fun
  | [d1, d2, d3] => { results := [.lit (.bool false)], args := [d1, d2, d3] }
  | _ => none }
def MetadataExtentsWrongFalsely : Prop := metadataExtentsRow.holds Try.pinned (OpenSpec.ofChange metadataExtentsWrong)

/-- 'masterdisclaw40.MetadataLocates': WHATEVER THE INPUT: true; the input reads as it did. -/
def metadataLocatesSpec : ChangeSpec := { name := "metadataLocates", fn := fun _ => fun
  | [d1, d2] => { results := [.lit (.bool true)], args := [d1, d2] }
  | _ => none }
def metadataLocatesRow : OpenClaim := { program := "ytnpdjifiohneoaa", sum := "1a4f6ac9b0b2bdbe09f540c3def560bff84f77ffe56099f3792f86729cac91bb", func := "masterdisc/masterdisclaw40.MetadataLocates", spec := "metadataLocates", unfollowed := true, recurses := true, apart := false }
def MetadataLocatesSaid : Prop := metadataLocatesRow.holds Try.pinned (OpenSpec.ofChange metadataLocatesSpec)

/-- ITS FALSE NEIGHBOUR: 'it returns false'. Refute it at one input. -/
def metadataLocatesWrong : ChangeSpec := { name := "metadataLocates", fn := fun _ => fun
  | [d1, d2] => { results := [.lit (.bool false)], args := [d1, d2] }
  | _ => none }
def MetadataLocatesWrongFalsely : Prop := metadataLocatesRow.holds Try.pinned (OpenSpec.ofChange metadataLocatesWrong)

/-- 'masterdisclaw40.MetadataOrder': WHATEVER THE INPUT: true; the input reads as it did. -/
def metadataOrderSpec : ChangeSpec := { name := "metadataOrder", fn := fun _ => fun
  | [d1, d2] => { results := [.lit (.bool true)], args := [d1, d2] }
  | _ => none }
def metadataOrderRow : OpenClaim := { program := "ytnpdjifiohneoaa", sum := "1a4f6ac9b0b2bdbe09f540c3def560bff84f77ffe56099f3792f86729cac91bb", func := "masterdisc/masterdisclaw40.MetadataOrder", spec := "metadataOrder", unfollowed := true, recurses := true, apart := false }
def MetadataOrderSaid : Prop := metadataOrderRow.holds Try.pinned (OpenSpec.ofChange metadataOrderSpec)

/-- ITS FALSE NEIGHBOUR: 'it returns false'. Refute it at one input. -/
def metadataOrderWrong : ChangeSpec := { name := "metadataOrder", fn := fun _ => fun
  | [d1, d2] => { results := [.lit (.bool false)], args := [d1, d2] }
  | _ => none }
def MetadataOrderWrongFalsely : Prop := metadataOrderRow.holds Try.pinned (OpenSpec.ofChange metadataOrderWrong)

/-- 'masterdisclaw40.MetadataRounds': WHATEVER THE INPUT: true; the input reads as it did. -/
def metadataRoundsSpec : ChangeSpec := { name := "metadataRounds", fn := fun _ => fun
  | [d] => { results := [.lit (.bool true)], args := [d] }
  | _ => none }
def metadataRoundsRow : OpenClaim := { program := "ytnpdjifiohneoaa", sum := "1a4f6ac9b0b2bdbe09f540c3def560bff84f77ffe56099f3792f86729cac91bb", func := "masterdisc/masterdisclaw40.MetadataRounds", spec := "metadataRounds", unfollowed := true, recurses := true, apart := false }
def MetadataRoundsSaid : Prop := metadataRoundsRow.holds Try.pinned (OpenSpec.ofChange metadataRoundsSpec)

/-- ITS FALSE NEIGHBOUR: 'it returns false'. Refute it at one input. -/
def metadataRoundsWrong : ChangeSpec := { name := "metadataRounds", fn := fun _ => fun
  | [d] => { results := [.lit (.bool false)], args := [d] }
  | _ => none }
def MetadataRoundsWrongFalsely : Prop := metadataRoundsRow.holds Try.pinned (OpenSpec.ofChange metadataRoundsWrong)

/-- 'masterdisclaw33.AllocationEncodes': WHATEVER THE INPUT: true; the input reads as it did. -/
def allocationEncodesSpec : ChangeSpec := { name := "allocationEncodes", fn := fun _ => fun
  | [d] => { results := [.lit (.bool true)], args := [d] }
  | _ => none }
def allocationEncodesRow : OpenClaim := { program := "ytnpdjifiohneoaa", sum := "1a4f6ac9b0b2bdbe09f540c3def560bff84f77ffe56099f3792f86729cac91bb", func := "masterdisc/masterdisclaw33.AllocationEncodes", spec := "allocationEncodes", unfollowed := true, recurses := true, apart := false }
def AllocationEncodesSaid : Prop := allocationEncodesRow.holds Try.pinned (OpenSpec.ofChange allocationEncodesSpec)

/-- ITS FALSE NEIGHBOUR: 'it returns false'. Refute it at one input. -/
def allocationEncodesWrong : ChangeSpec := { name := "allocationEncodes", fn := fun _ => fun
  | [d] => { results := [.lit (.bool false)], args := [d] }
  | _ => none }
def AllocationEncodesWrongFalsely : Prop := allocationEncodesRow.holds Try.pinned (OpenSpec.ofChange allocationEncodesWrong)

/-- 'masterdisclaw33.AllocationJoins': WHATEVER THE INPUT: true; the input reads as it did. -/
def allocationJoinsSpec : ChangeSpec := { name := "allocationJoins", fn := fun _ => fun
  | [d] => { results := [.lit (.bool true)], args := [d] }
  | _ => none }
def allocationJoinsRow : OpenClaim := { program := "ytnpdjifiohneoaa", sum := "1a4f6ac9b0b2bdbe09f540c3def560bff84f77ffe56099f3792f86729cac91bb", func := "masterdisc/masterdisclaw33.AllocationJoins", spec := "allocationJoins", unfollowed := true, recurses := true, apart := false }
def AllocationJoinsSaid : Prop := allocationJoinsRow.holds Try.pinned (OpenSpec.ofChange allocationJoinsSpec)

/-- ITS FALSE NEIGHBOUR: 'it returns false'. Refute it at one input. -/
def allocationJoinsWrong : ChangeSpec := { name := "allocationJoins", fn := fun _ => fun
  | [d] => { results := [.lit (.bool false)], args := [d] }
  | _ => none }
def AllocationJoinsWrongFalsely : Prop := allocationJoinsRow.holds Try.pinned (OpenSpec.ofChange allocationJoinsWrong)

/-- 'masterdisclaw33.AllocationCuts': WHATEVER THE INPUT: true; the input reads as it did. -/
def allocationCutsSpec : ChangeSpec := { name := "allocationCuts", fn := fun _ => fun
  | [d1, d2] => { results := [.lit (.bool true)], args := [d1, d2] }
  | _ => none }
def allocationCutsRow : OpenClaim := { program := "ytnpdjifiohneoaa", sum := "1a4f6ac9b0b2bdbe09f540c3def560bff84f77ffe56099f3792f86729cac91bb", func := "masterdisc/masterdisclaw33.AllocationCuts", spec := "allocationCuts", unfollowed := true, recurses := true, apart := false }
def AllocationCutsSaid : Prop := allocationCutsRow.holds Try.pinned (OpenSpec.ofChange allocationCutsSpec)

/-- ITS FALSE NEIGHBOUR: 'it returns false'. Refute it at one input. -/
def allocationCutsWrong : ChangeSpec := { name := "allocationCuts", fn := fun _ => fun
  | [d1, d2] => { results := [.lit (.bool false)], args := [d1, d2] }
  | _ => none }
def AllocationCutsWrongFalsely : Prop := allocationCutsRow.holds Try.pinned (OpenSpec.ofChange allocationCutsWrong)

/-- 'masterdisclaw33.AllocationFinds': WHATEVER THE INPUT: true; the input reads as it did. -/
def allocationFindsSpec : ChangeSpec := { name := "allocationFinds", fn := fun _ => fun
  | [d1, d2, d3, d4] => { results := [.lit (.bool true)], args := [d1, d2, d3, d4] }
  | _ => none }
def allocationFindsRow : OpenClaim := { program := "ytnpdjifiohneoaa", sum := "1a4f6ac9b0b2bdbe09f540c3def560bff84f77ffe56099f3792f86729cac91bb", func := "masterdisc/masterdisclaw33.AllocationFinds", spec := "allocationFinds", unfollowed := true, recurses := true, apart := false }
def AllocationFindsSaid : Prop := allocationFindsRow.holds Try.pinned (OpenSpec.ofChange allocationFindsSpec)

/-- ITS FALSE NEIGHBOUR: 'it returns false'. Refute it at one input. -/
def allocationFindsWrong : ChangeSpec := { name := "allocationFinds", fn := fun _ => fun
  | [d1, d2, d3, d4] => { results := [.lit (.bool false)], args := [d1, d2, d3, d4] }
  | _ => none }
def AllocationFindsWrongFalsely : Prop := allocationFindsRow.holds Try.pinned (OpenSpec.ofChange allocationFindsWrong)

/-- 'masterdisclaw33.AllocationLocates': WHATEVER THE INPUT: true; the input reads as it did. -/
def allocationLocatesSpec : ChangeSpec := { name := "allocationLocates", fn := fun _ => fun
  | [d1, d2] => { results := [.lit (.bool true)], args := [d1, d2] }
  | _ => none }
def allocationLocatesRow : OpenClaim := { program := "ytnpdjifiohneoaa", sum := "1a4f6ac9b0b2bdbe09f540c3def560bff84f77ffe56099f3792f86729cac91bb", func := "masterdisc/masterdisclaw33.AllocationLocates", spec := "allocationLocates", unfollowed := true, recurses := true, apart := false }
def AllocationLocatesSaid : Prop := allocationLocatesRow.holds Try.pinned (OpenSpec.ofChange allocationLocatesSpec)

/-- ITS FALSE NEIGHBOUR: 'it returns false'. Refute it at one input. -/
def allocationLocatesWrong : ChangeSpec := { name := "allocationLocates", fn := fun _ => fun
  | [d1, d2] => { results := [.lit (.bool false)], args := [d1, d2] }
  | _ => none }
def AllocationLocatesWrongFalsely : Prop := allocationLocatesRow.holds Try.pinned (OpenSpec.ofChange allocationLocatesWrong)

/-- 'masterdisclaw40.MetadataReads': WHATEVER THE INPUT: true; the input reads as it did. -/
def metadataReadsSpec : ChangeSpec := { name := "metadataReads", fn := fun _ => fun
  | [d1, d2, d3] => { results := [.lit (.bool true)], args := [d1, d2, d3] }
  | _ => none }
def metadataReadsRow : OpenClaim := { program := "ytnpdjifiohneoaa", sum := "1a4f6ac9b0b2bdbe09f540c3def560bff84f77ffe56099f3792f86729cac91bb", func := "masterdisc/masterdisclaw40.MetadataReads", spec := "metadataReads", unfollowed := true, recurses := true, apart := false }
def MetadataReadsSaid : Prop := metadataReadsRow.holds Try.pinned (OpenSpec.ofChange metadataReadsSpec)

/-- ITS FALSE NEIGHBOUR: 'it returns false'. Refute it at one input. -/
def metadataReadsWrong : ChangeSpec := { name := "metadataReads", fn := fun _ => fun
  | [d1, d2, d3] => { results := [.lit (.bool false)], args := [d1, d2, d3] }
  | _ => none }
def MetadataReadsWrongFalsely : Prop := metadataReadsRow.holds Try.pinned (OpenSpec.ofChange metadataReadsWrong)

/-- 'masterdisclaw40.MetadataMirrors': WHATEVER THE INPUT: true; the input reads as it did. -/
def metadataMirrorsSpec : ChangeSpec := { name := "metadataMirrors", fn := fun _ => fun
  | [d1, d2, d3, d4] => { results := [.lit (.bool true)], args := [d1, d2, d3, d4] }
  | _ => none }
def metadataMirrorsRow : OpenClaim := { program := "ytnpdjifiohneoaa", sum := "1a4f6ac9b0b2bdbe09f540c3def560bff84f77ffe56099f3792f86729cac91bb", func := "masterdisc/masterdisclaw40.MetadataMirrors", spec := "metadataMirrors", unfollowed := true, recurses := true, apart := false }
def MetadataMirrorsSaid : Prop := metadataMirrorsRow.holds Try.pinned (OpenSpec.ofChange metadataMirrorsSpec)

/-- ITS FALSE NEIGHBOUR: 'it returns false'. Refute it at one input. -/
def metadataMirrorsWrong : ChangeSpec := { name := "metadataMirrors", fn := fun _ => fun
  | [d1, d2, d3, d4] => { results := [.lit (.bool false)], args := [d1, d2, d3, d4] }
  | _ => none }
def MetadataMirrorsWrongFalsely : Prop := metadataMirrorsRow.holds Try.pinned (OpenSpec.ofChange metadataMirrorsWrong)

/-- 'masterdisclaw33.AllocationDecodes': WHATEVER THE INPUT: true; the input reads as it did. -/
def allocationDecodesSpec : ChangeSpec := { name := "allocationDecodes", fn := fun _ => fun
  | [d1, d2] => { results := [.lit (.bool true)], args := [d1, d2] }
  | _ => none }
def allocationDecodesRow : OpenClaim := { program := "ytnpdjifiohneoaa", sum := "1a4f6ac9b0b2bdbe09f540c3def560bff84f77ffe56099f3792f86729cac91bb", func := "masterdisc/masterdisclaw33.AllocationDecodes", spec := "allocationDecodes", unfollowed := true, recurses := true, apart := false }
def AllocationDecodesSaid : Prop := allocationDecodesRow.holds Try.pinned (OpenSpec.ofChange allocationDecodesSpec)

/-- ITS FALSE NEIGHBOUR: 'it returns false'. Refute it at one input. -/
def allocationDecodesWrong : ChangeSpec := { name := "allocationDecodes", fn := fun _ => fun
  | [d1, d2] => { results := [.lit (.bool false)], args := [d1, d2] }
  | _ => none }
def AllocationDecodesWrongFalsely : Prop := allocationDecodesRow.holds Try.pinned (OpenSpec.ofChange allocationDecodesWrong)

/-- 'masterdisclaw33.AllocationReturns': WHATEVER THE INPUT: true; the input reads as it did. -/
def allocationReturnsSpec : ChangeSpec := { name := "allocationReturns", fn := fun _ => fun
  | [d] => { results := [.lit (.bool true)], args := [d] }
  | _ => none }
def allocationReturnsRow : OpenClaim := { program := "ytnpdjifiohneoaa", sum := "1a4f6ac9b0b2bdbe09f540c3def560bff84f77ffe56099f3792f86729cac91bb", func := "masterdisc/masterdisclaw33.AllocationReturns", spec := "allocationReturns", unfollowed := true, recurses := true, apart := false }
def AllocationReturnsSaid : Prop := allocationReturnsRow.holds Try.pinned (OpenSpec.ofChange allocationReturnsSpec)

/-- ITS FALSE NEIGHBOUR: 'it returns false'. Refute it at one input. -/
def allocationReturnsWrong : ChangeSpec := { name := "allocationReturns", fn := fun _ => fun
  | [d] => { results := [.lit (.bool false)], args := [d] }
  | _ => none }
def AllocationReturnsWrongFalsely : Prop := allocationReturnsRow.holds Try.pinned (OpenSpec.ofChange allocationReturnsWrong)

/-- 'masterdisclaw33.AllocationDescriptors': WHATEVER THE INPUT: true; the input reads as it did. -/
def allocationDescriptorsSpec : ChangeSpec := { name := "allocationDescriptors", fn := fun _ => fun
  | [d1, d2, d3, d4, d5] => { results := [.lit (.bool true)], args := [d1, d2, d3, d4, d5] }
  | _ => none }
def allocationDescriptorsRow : OpenClaim := { program := "ytnpdjifiohneoaa", sum := "1a4f6ac9b0b2bdbe09f540c3def560bff84f77ffe56099f3792f86729cac91bb", func := "masterdisc/masterdisclaw33.AllocationDescriptors", spec := "allocationDescriptors", inPlace := ["internal/abi.NoEscape", "internal/bytealg.MakeNoZero"], unfollowed := true, recurses := true, apart := false }
def AllocationDescriptorsSaid : Prop := allocationDescriptorsRow.holds Try.pinned (OpenSpec.ofChange allocationDescriptorsSpec)

/-- ITS FALSE NEIGHBOUR: 'it returns false'. Refute it at one input. -/
def allocationDescriptorsWrong : ChangeSpec := { name := "allocationDescriptors", fn := fun _ => fun
  | [d1, d2, d3, d4, d5] => { results := [.lit (.bool false)], args := [d1, d2, d3, d4, d5] }
  | _ => none }
def AllocationDescriptorsWrongFalsely : Prop := allocationDescriptorsRow.holds Try.pinned (OpenSpec.ofChange allocationDescriptorsWrong)

/- THE SECOND FORM. 'bulk': how many values and letters a reading holds, each counted each time it is reached (what is shared counts as often as it is met; a slice's spare places count too). A statement '..UptoSaid' is the law's where the arguments, and the package variables that the reading takes, are together of bulk at most 1048576: NARROWER than '..Said'. Prove '..Said' where nothing that the law and all that it calls make is longer than what came in: it says more and counts as full. Else prove '..UptoSaid'. A law counts once. -/
mutual
def uptoBulk {H : Type} : DataW H → Nat
  | .lit (.string bytes) => bytes.length + 1
  | .lit _ => 1
  | .nil => 1
  | .ptr d => uptoBulk d + 1
  | .slice elems spare => uptoBulkAll elems + uptoBulkAll spare + 1
  | .agg parts => uptoBulkAll parts + 1
  | .iface _ d => uptoBulk d + 1
  | .map entries => uptoBulkEntries entries + 1
  | .held _ => 1
def uptoBulkAll {H : Type} : List (DataW H) → Nat
  | [] => 0
  | d :: r => uptoBulk d + uptoBulkAll r
def uptoBulkEntries {H : Type} : List (Lit × DataW H) → Nat
  | [] => 0
  | x :: r => uptoBulkEntry x + uptoBulkEntries r
def uptoBulkEntry {H : Type} : Lit × DataW H → Nat
  | (.string bytes, d) => bytes.length + uptoBulk d + 1
  | (_, d) => uptoBulk d + 1
 end
def uptoSmall : (H : Type) → List (DataW H) → Bool := fun _ ds => decide (uptoBulkAll ds ≤ 1048576)
def OpenSpec.upto (s : _root_.Go.ChangeSpec) : _root_.Go.OpenSpec := { _root_.Go.OpenSpec.ofChange s with cond := some uptoSmall }

/-- 'masterdisclaw40.MetadataExtents', WHERE WHAT IT READS IS OF BULK AT MOST 1048576: true; the input reads as it did. -/
def metadataExtentsUptoRow : OpenClaim := { program := "ytnpdjifiohneoaa", sum := "1a4f6ac9b0b2bdbe09f540c3def560bff84f77ffe56099f3792f86729cac91bb", func := "masterdisc/masterdisclaw40.MetadataExtents", spec := "metadataExtents", unfollowed := true, recurses := true, apart := false, narrowed := true }
def MetadataExtentsUptoSaid : Prop := metadataExtentsUptoRow.holds Try.pinned (OpenSpec.upto metadataExtentsSpec)

/-- 'masterdisclaw40.MetadataLocates', WHERE WHAT IT READS IS OF BULK AT MOST 1048576: true; the input reads as it did. -/
def metadataLocatesUptoRow : OpenClaim := { program := "ytnpdjifiohneoaa", sum := "1a4f6ac9b0b2bdbe09f540c3def560bff84f77ffe56099f3792f86729cac91bb", func := "masterdisc/masterdisclaw40.MetadataLocates", spec := "metadataLocates", unfollowed := true, recurses := true, apart := false, narrowed := true }
def MetadataLocatesUptoSaid : Prop := metadataLocatesUptoRow.holds Try.pinned (OpenSpec.upto metadataLocatesSpec)

/-- 'masterdisclaw40.MetadataOrder', WHERE WHAT IT READS IS OF BULK AT MOST 1048576: true; the input reads as it did. -/
def metadataOrderUptoRow : OpenClaim := { program := "ytnpdjifiohneoaa", sum := "1a4f6ac9b0b2bdbe09f540c3def560bff84f77ffe56099f3792f86729cac91bb", func := "masterdisc/masterdisclaw40.MetadataOrder", spec := "metadataOrder", unfollowed := true, recurses := true, apart := false, narrowed := true }
def MetadataOrderUptoSaid : Prop := metadataOrderUptoRow.holds Try.pinned (OpenSpec.upto metadataOrderSpec)

/-- 'masterdisclaw40.MetadataRounds', WHERE WHAT IT READS IS OF BULK AT MOST 1048576: true; the input reads as it did. -/
def metadataRoundsUptoRow : OpenClaim := { program := "ytnpdjifiohneoaa", sum := "1a4f6ac9b0b2bdbe09f540c3def560bff84f77ffe56099f3792f86729cac91bb", func := "masterdisc/masterdisclaw40.MetadataRounds", spec := "metadataRounds", unfollowed := true, recurses := true, apart := false, narrowed := true }
def MetadataRoundsUptoSaid : Prop := metadataRoundsUptoRow.holds Try.pinned (OpenSpec.upto metadataRoundsSpec)

/-- 'masterdisclaw33.AllocationEncodes', WHERE WHAT IT READS IS OF BULK AT MOST 1048576: true; the input reads as it did. -/
def allocationEncodesUptoRow : OpenClaim := { program := "ytnpdjifiohneoaa", sum := "1a4f6ac9b0b2bdbe09f540c3def560bff84f77ffe56099f3792f86729cac91bb", func := "masterdisc/masterdisclaw33.AllocationEncodes", spec := "allocationEncodes", unfollowed := true, recurses := true, apart := false, narrowed := true }
def AllocationEncodesUptoSaid : Prop := allocationEncodesUptoRow.holds Try.pinned (OpenSpec.upto allocationEncodesSpec)

/-- 'masterdisclaw33.AllocationJoins', WHERE WHAT IT READS IS OF BULK AT MOST 1048576: true; the input reads as it did. -/
def allocationJoinsUptoRow : OpenClaim := { program := "ytnpdjifiohneoaa", sum := "1a4f6ac9b0b2bdbe09f540c3def560bff84f77ffe56099f3792f86729cac91bb", func := "masterdisc/masterdisclaw33.AllocationJoins", spec := "allocationJoins", unfollowed := true, recurses := true, apart := false, narrowed := true }
def AllocationJoinsUptoSaid : Prop := allocationJoinsUptoRow.holds Try.pinned (OpenSpec.upto allocationJoinsSpec)

/-- 'masterdisclaw33.AllocationCuts', WHERE WHAT IT READS IS OF BULK AT MOST 1048576: true; the input reads as it did. -/
def allocationCutsUptoRow : OpenClaim := { program := "ytnpdjifiohneoaa", sum := "1a4f6ac9b0b2bdbe09f540c3def560bff84f77ffe56099f3792f86729cac91bb", func := "masterdisc/masterdisclaw33.AllocationCuts", spec := "allocationCuts", unfollowed := true, recurses := true, apart := false, narrowed := true }
def AllocationCutsUptoSaid : Prop := allocationCutsUptoRow.holds Try.pinned (OpenSpec.upto allocationCutsSpec)

/-- 'masterdisclaw33.AllocationFinds', WHERE WHAT IT READS IS OF BULK AT MOST 1048576: true; the input reads as it did. -/
def allocationFindsUptoRow : OpenClaim := { program := "ytnpdjifiohneoaa", sum := "1a4f6ac9b0b2bdbe09f540c3def560bff84f77ffe56099f3792f86729cac91bb", func := "masterdisc/masterdisclaw33.AllocationFinds", spec := "allocationFinds", unfollowed := true, recurses := true, apart := false, narrowed := true }
def AllocationFindsUptoSaid : Prop := allocationFindsUptoRow.holds Try.pinned (OpenSpec.upto allocationFindsSpec)

/-- 'masterdisclaw33.AllocationLocates', WHERE WHAT IT READS IS OF BULK AT MOST 1048576: true; the input reads as it did. -/
def allocationLocatesUptoRow : OpenClaim := { program := "ytnpdjifiohneoaa", sum := "1a4f6ac9b0b2bdbe09f540c3def560bff84f77ffe56099f3792f86729cac91bb", func := "masterdisc/masterdisclaw33.AllocationLocates", spec := "allocationLocates", unfollowed := true, recurses := true, apart := false, narrowed := true }
def AllocationLocatesUptoSaid : Prop := allocationLocatesUptoRow.holds Try.pinned (OpenSpec.upto allocationLocatesSpec)

/-- 'masterdisclaw40.MetadataReads', WHERE WHAT IT READS IS OF BULK AT MOST 1048576: true; the input reads as it did. -/
def metadataReadsUptoRow : OpenClaim := { program := "ytnpdjifiohneoaa", sum := "1a4f6ac9b0b2bdbe09f540c3def560bff84f77ffe56099f3792f86729cac91bb", func := "masterdisc/masterdisclaw40.MetadataReads", spec := "metadataReads", unfollowed := true, recurses := true, apart := false, narrowed := true }
def MetadataReadsUptoSaid : Prop := metadataReadsUptoRow.holds Try.pinned (OpenSpec.upto metadataReadsSpec)

/-- 'masterdisclaw40.MetadataMirrors', WHERE WHAT IT READS IS OF BULK AT MOST 1048576: true; the input reads as it did. -/
def metadataMirrorsUptoRow : OpenClaim := { program := "ytnpdjifiohneoaa", sum := "1a4f6ac9b0b2bdbe09f540c3def560bff84f77ffe56099f3792f86729cac91bb", func := "masterdisc/masterdisclaw40.MetadataMirrors", spec := "metadataMirrors", unfollowed := true, recurses := true, apart := false, narrowed := true }
def MetadataMirrorsUptoSaid : Prop := metadataMirrorsUptoRow.holds Try.pinned (OpenSpec.upto metadataMirrorsSpec)

/-- 'masterdisclaw33.AllocationDecodes', WHERE WHAT IT READS IS OF BULK AT MOST 1048576: true; the input reads as it did. -/
def allocationDecodesUptoRow : OpenClaim := { program := "ytnpdjifiohneoaa", sum := "1a4f6ac9b0b2bdbe09f540c3def560bff84f77ffe56099f3792f86729cac91bb", func := "masterdisc/masterdisclaw33.AllocationDecodes", spec := "allocationDecodes", unfollowed := true, recurses := true, apart := false, narrowed := true }
def AllocationDecodesUptoSaid : Prop := allocationDecodesUptoRow.holds Try.pinned (OpenSpec.upto allocationDecodesSpec)

/-- 'masterdisclaw33.AllocationReturns', WHERE WHAT IT READS IS OF BULK AT MOST 1048576: true; the input reads as it did. -/
def allocationReturnsUptoRow : OpenClaim := { program := "ytnpdjifiohneoaa", sum := "1a4f6ac9b0b2bdbe09f540c3def560bff84f77ffe56099f3792f86729cac91bb", func := "masterdisc/masterdisclaw33.AllocationReturns", spec := "allocationReturns", unfollowed := true, recurses := true, apart := false, narrowed := true }
def AllocationReturnsUptoSaid : Prop := allocationReturnsUptoRow.holds Try.pinned (OpenSpec.upto allocationReturnsSpec)

/-- 'masterdisclaw33.AllocationDescriptors', WHERE WHAT IT READS IS OF BULK AT MOST 1048576: true; the input reads as it did. -/
def allocationDescriptorsUptoRow : OpenClaim := { program := "ytnpdjifiohneoaa", sum := "1a4f6ac9b0b2bdbe09f540c3def560bff84f77ffe56099f3792f86729cac91bb", func := "masterdisc/masterdisclaw33.AllocationDescriptors", spec := "allocationDescriptors", inPlace := ["internal/abi.NoEscape", "internal/bytealg.MakeNoZero"], unfollowed := true, recurses := true, apart := false, narrowed := true }
def AllocationDescriptorsUptoSaid : Prop := allocationDescriptorsUptoRow.holds Try.pinned (OpenSpec.upto allocationDescriptorsSpec)

end Rows
end Go.Proofs.Ytnpdjifiohneoaa
