/-
  No cell of these rows narrows 'for every input' (looked for: loops, veiled, ifaces, maps, wideKeys, modest, calm, conditions, laid).
  DERIVED. THE GIVEN ROWS OF THIS SEAT. 15 by the template 'for every input the law returns true; each argument reads behind the call as it read before'; 0 by the template 'total and deterministic' (their statements: YtdhoajjlokccfaaTotals.lean).
  GIVEN WITH THE SEED: the statements are not yours to turn. If you find one false, say at which input.
  Laid BY PROGRAM, IN A SANDBOX (cutbox-rows.mjs): the forced cells as the released guide's own fill.sh prints them over the translation d9b49d79f24da0e0… (all of the seat's roots in one cut). By AI agents, Wed Nov 11 2026. No macro, syntax, notation, axiom, sorry.
-/
import Derived.Test.YtdhoajjlokccfaaChecked
import GoSem.Claim
import GoSem.ClaimJoined
import GoSem.ClaimMapViews
import Derived.JoinedTies
import Derived.KernelRfl
namespace Go.Proofs.Ytdhoajjlokccfaa
/- THE CELL 'sum', in the pinned program and in every row, IS THE sha256 OF THE DUMP (.gsa) THAT YtdhoajjlokccfaaProg.lean LOADS. Nothing in Lean hashes anything: it is a label: what it is worth is what the hold of that sum in a sandbox is worth. -/
noncomputable def Try.pinned : Pinned := { name := "ytdhoajjlokccfaa", sum := "d9b49d79f24da0e057cc9798603f944842d54528060b21f01acbdf014b397c78", checked := Try.checked }
namespace Rows
def none {H : Type} : Left H := { results := [], args := [] }

/-- 'masterdisclaw40.MetadataExtents': WHATEVER THE INPUT: true; the input reads as it did. -/
def metadataExtentsSpec : ChangeSpec := { name := "metadataExtents", fn := fun _ => fun
  | [d1, d2, d3] => { results := [.lit (.bool true)], args := [d1, d2, d3] }
  | _ => none }
def metadataExtentsRow : OpenClaim := { program := "ytdhoajjlokccfaa", sum := "d9b49d79f24da0e057cc9798603f944842d54528060b21f01acbdf014b397c78", func := "masterdisc/masterdisclaw40.MetadataExtents", spec := "metadataExtents", unfollowed := true, recurses := true, apart := false }
def MetadataExtentsSaid : Prop := metadataExtentsRow.holds Try.pinned (OpenSpec.ofChange metadataExtentsSpec)

/-- ITS FALSE NEIGHBOUR: 'it returns false'. Refute it at one input. -/
def metadataExtentsWrong : ChangeSpec := { name := "metadataExtents", fn := fun _ => fun
  | [d1, d2, d3] => { results := [.lit (.bool false)], args := [d1, d2, d3] }
  | _ => none }
def MetadataExtentsWrongFalsely : Prop := metadataExtentsRow.holds Try.pinned (OpenSpec.ofChange metadataExtentsWrong)

/-- 'masterdisclaw40.MetadataLocates': WHATEVER THE INPUT: true; the input reads as it did. -/
def metadataLocatesSpec : ChangeSpec := { name := "metadataLocates", fn := fun _ => fun
  | [d1, d2] => { results := [.lit (.bool true)], args := [d1, d2] }
  | _ => none }
def metadataLocatesRow : OpenClaim := { program := "ytdhoajjlokccfaa", sum := "d9b49d79f24da0e057cc9798603f944842d54528060b21f01acbdf014b397c78", func := "masterdisc/masterdisclaw40.MetadataLocates", spec := "metadataLocates", unfollowed := true, recurses := true, apart := false }
def MetadataLocatesSaid : Prop := metadataLocatesRow.holds Try.pinned (OpenSpec.ofChange metadataLocatesSpec)

/-- ITS FALSE NEIGHBOUR: 'it returns false'. Refute it at one input. -/
def metadataLocatesWrong : ChangeSpec := { name := "metadataLocates", fn := fun _ => fun
  | [d1, d2] => { results := [.lit (.bool false)], args := [d1, d2] }
  | _ => none }
def MetadataLocatesWrongFalsely : Prop := metadataLocatesRow.holds Try.pinned (OpenSpec.ofChange metadataLocatesWrong)

/-- 'masterdisclaw40.MetadataOrder': WHATEVER THE INPUT: true; the input reads as it did. -/
def metadataOrderSpec : ChangeSpec := { name := "metadataOrder", fn := fun _ => fun
  | [d1, d2] => { results := [.lit (.bool true)], args := [d1, d2] }
  | _ => none }
def metadataOrderRow : OpenClaim := { program := "ytdhoajjlokccfaa", sum := "d9b49d79f24da0e057cc9798603f944842d54528060b21f01acbdf014b397c78", func := "masterdisc/masterdisclaw40.MetadataOrder", spec := "metadataOrder", unfollowed := true, recurses := true, apart := false }
def MetadataOrderSaid : Prop := metadataOrderRow.holds Try.pinned (OpenSpec.ofChange metadataOrderSpec)

/-- ITS FALSE NEIGHBOUR: 'it returns false'. Refute it at one input. -/
def metadataOrderWrong : ChangeSpec := { name := "metadataOrder", fn := fun _ => fun
  | [d1, d2] => { results := [.lit (.bool false)], args := [d1, d2] }
  | _ => none }
def MetadataOrderWrongFalsely : Prop := metadataOrderRow.holds Try.pinned (OpenSpec.ofChange metadataOrderWrong)

/-- 'masterdisclaw40.MetadataRounds': WHATEVER THE INPUT: true; the input reads as it did. -/
def metadataRoundsSpec : ChangeSpec := { name := "metadataRounds", fn := fun _ => fun
  | [d] => { results := [.lit (.bool true)], args := [d] }
  | _ => none }
def metadataRoundsRow : OpenClaim := { program := "ytdhoajjlokccfaa", sum := "d9b49d79f24da0e057cc9798603f944842d54528060b21f01acbdf014b397c78", func := "masterdisc/masterdisclaw40.MetadataRounds", spec := "metadataRounds", unfollowed := true, recurses := true, apart := false }
def MetadataRoundsSaid : Prop := metadataRoundsRow.holds Try.pinned (OpenSpec.ofChange metadataRoundsSpec)

/-- ITS FALSE NEIGHBOUR: 'it returns false'. Refute it at one input. -/
def metadataRoundsWrong : ChangeSpec := { name := "metadataRounds", fn := fun _ => fun
  | [d] => { results := [.lit (.bool false)], args := [d] }
  | _ => none }
def MetadataRoundsWrongFalsely : Prop := metadataRoundsRow.holds Try.pinned (OpenSpec.ofChange metadataRoundsWrong)

/-- 'masterdisclaw33.AllocationCuts': WHATEVER THE INPUT: true; the input reads as it did. -/
def allocationCutsSpec : ChangeSpec := { name := "allocationCuts", fn := fun _ => fun
  | [d1, d2] => { results := [.lit (.bool true)], args := [d1, d2] }
  | _ => none }
def allocationCutsRow : OpenClaim := { program := "ytdhoajjlokccfaa", sum := "d9b49d79f24da0e057cc9798603f944842d54528060b21f01acbdf014b397c78", func := "masterdisc/masterdisclaw33.AllocationCuts", spec := "allocationCuts", unfollowed := true, recurses := true, apart := false }
def AllocationCutsSaid : Prop := allocationCutsRow.holds Try.pinned (OpenSpec.ofChange allocationCutsSpec)

/-- ITS FALSE NEIGHBOUR: 'it returns false'. Refute it at one input. -/
def allocationCutsWrong : ChangeSpec := { name := "allocationCuts", fn := fun _ => fun
  | [d1, d2] => { results := [.lit (.bool false)], args := [d1, d2] }
  | _ => none }
def AllocationCutsWrongFalsely : Prop := allocationCutsRow.holds Try.pinned (OpenSpec.ofChange allocationCutsWrong)

/-- 'masterdisclaw40.MetadataReads': WHATEVER THE INPUT: true; the input reads as it did. -/
def metadataReadsSpec : ChangeSpec := { name := "metadataReads", fn := fun _ => fun
  | [d1, d2, d3] => { results := [.lit (.bool true)], args := [d1, d2, d3] }
  | _ => none }
def metadataReadsRow : OpenClaim := { program := "ytdhoajjlokccfaa", sum := "d9b49d79f24da0e057cc9798603f944842d54528060b21f01acbdf014b397c78", func := "masterdisc/masterdisclaw40.MetadataReads", spec := "metadataReads", unfollowed := true, recurses := true, apart := false }
def MetadataReadsSaid : Prop := metadataReadsRow.holds Try.pinned (OpenSpec.ofChange metadataReadsSpec)

/-- ITS FALSE NEIGHBOUR: 'it returns false'. Refute it at one input. -/
def metadataReadsWrong : ChangeSpec := { name := "metadataReads", fn := fun _ => fun
  | [d1, d2, d3] => { results := [.lit (.bool false)], args := [d1, d2, d3] }
  | _ => none }
def MetadataReadsWrongFalsely : Prop := metadataReadsRow.holds Try.pinned (OpenSpec.ofChange metadataReadsWrong)

/-- 'masterdisclaw40.MetadataMirrors': WHATEVER THE INPUT: true; the input reads as it did. -/
def metadataMirrorsSpec : ChangeSpec := { name := "metadataMirrors", fn := fun _ => fun
  | [d1, d2, d3, d4] => { results := [.lit (.bool true)], args := [d1, d2, d3, d4] }
  | _ => none }
def metadataMirrorsRow : OpenClaim := { program := "ytdhoajjlokccfaa", sum := "d9b49d79f24da0e057cc9798603f944842d54528060b21f01acbdf014b397c78", func := "masterdisc/masterdisclaw40.MetadataMirrors", spec := "metadataMirrors", unfollowed := true, recurses := true, apart := false }
def MetadataMirrorsSaid : Prop := metadataMirrorsRow.holds Try.pinned (OpenSpec.ofChange metadataMirrorsSpec)

/-- ITS FALSE NEIGHBOUR: 'it returns false'. Refute it at one input. -/
def metadataMirrorsWrong : ChangeSpec := { name := "metadataMirrors", fn := fun _ => fun
  | [d1, d2, d3, d4] => { results := [.lit (.bool false)], args := [d1, d2, d3, d4] }
  | _ => none }
def MetadataMirrorsWrongFalsely : Prop := metadataMirrorsRow.holds Try.pinned (OpenSpec.ofChange metadataMirrorsWrong)

/-- 'masterdisclaw41.SpacebitmapMarks': WHATEVER THE INPUT: true; the input reads as it did. -/
def spacebitmapMarksSpec : ChangeSpec := { name := "spacebitmapMarks", fn := fun _ => fun
  | [d1, d2, d3, d4] => { results := [.lit (.bool true)], args := [d1, d2, d3, d4] }
  | _ => none }
def spacebitmapMarksRow : OpenClaim := { program := "ytdhoajjlokccfaa", sum := "d9b49d79f24da0e057cc9798603f944842d54528060b21f01acbdf014b397c78", func := "masterdisc/masterdisclaw41.SpacebitmapMarks", spec := "spacebitmapMarks", inPlace := ["internal/abi.NoEscape", "internal/bytealg.MakeNoZero"], unfollowed := true, recurses := true, apart := false }
def SpacebitmapMarksSaid : Prop := spacebitmapMarksRow.holds Try.pinned (OpenSpec.ofChange spacebitmapMarksSpec)

/-- ITS FALSE NEIGHBOUR: 'it returns false'. Refute it at one input. -/
def spacebitmapMarksWrong : ChangeSpec := { name := "spacebitmapMarks", fn := fun _ => fun
  | [d1, d2, d3, d4] => { results := [.lit (.bool false)], args := [d1, d2, d3, d4] }
  | _ => none }
def SpacebitmapMarksWrongFalsely : Prop := spacebitmapMarksRow.holds Try.pinned (OpenSpec.ofChange spacebitmapMarksWrong)

/-- 'masterdisclaw41.SpacebitmapAllocates': WHATEVER THE INPUT: true; the input reads as it did. -/
def spacebitmapAllocatesSpec : ChangeSpec := { name := "spacebitmapAllocates", fn := fun _ => fun
  | [d1, d2, d3] => { results := [.lit (.bool true)], args := [d1, d2, d3] }
  | _ => none }
def spacebitmapAllocatesRow : OpenClaim := { program := "ytdhoajjlokccfaa", sum := "d9b49d79f24da0e057cc9798603f944842d54528060b21f01acbdf014b397c78", func := "masterdisc/masterdisclaw41.SpacebitmapAllocates", spec := "spacebitmapAllocates", inPlace := ["internal/abi.NoEscape", "internal/bytealg.MakeNoZero"], unfollowed := true, recurses := true, apart := false }
def SpacebitmapAllocatesSaid : Prop := spacebitmapAllocatesRow.holds Try.pinned (OpenSpec.ofChange spacebitmapAllocatesSpec)

/-- ITS FALSE NEIGHBOUR: 'it returns false'. Refute it at one input. -/
def spacebitmapAllocatesWrong : ChangeSpec := { name := "spacebitmapAllocates", fn := fun _ => fun
  | [d1, d2, d3] => { results := [.lit (.bool false)], args := [d1, d2, d3] }
  | _ => none }
def SpacebitmapAllocatesWrongFalsely : Prop := spacebitmapAllocatesRow.holds Try.pinned (OpenSpec.ofChange spacebitmapAllocatesWrong)

/-- 'masterdisclaw41.SpacebitmapDescriptors': WHATEVER THE INPUT: true; the input reads as it did. -/
def spacebitmapDescriptorsSpec : ChangeSpec := { name := "spacebitmapDescriptors", fn := fun _ => fun
  | [d1, d2, d3, d4] => { results := [.lit (.bool true)], args := [d1, d2, d3, d4] }
  | _ => none }
def spacebitmapDescriptorsRow : OpenClaim := { program := "ytdhoajjlokccfaa", sum := "d9b49d79f24da0e057cc9798603f944842d54528060b21f01acbdf014b397c78", func := "masterdisc/masterdisclaw41.SpacebitmapDescriptors", spec := "spacebitmapDescriptors", inPlace := ["internal/abi.NoEscape", "internal/bytealg.MakeNoZero"], unfollowed := true, recurses := true, apart := false }
def SpacebitmapDescriptorsSaid : Prop := spacebitmapDescriptorsRow.holds Try.pinned (OpenSpec.ofChange spacebitmapDescriptorsSpec)

/-- ITS FALSE NEIGHBOUR: 'it returns false'. Refute it at one input. -/
def spacebitmapDescriptorsWrong : ChangeSpec := { name := "spacebitmapDescriptors", fn := fun _ => fun
  | [d1, d2, d3, d4] => { results := [.lit (.bool false)], args := [d1, d2, d3, d4] }
  | _ => none }
def SpacebitmapDescriptorsWrongFalsely : Prop := spacebitmapDescriptorsRow.holds Try.pinned (OpenSpec.ofChange spacebitmapDescriptorsWrong)

/-- 'masterdisclaw41.SpacebitmapReturns': WHATEVER THE INPUT: true; the input reads as it did. -/
def spacebitmapReturnsSpec : ChangeSpec := { name := "spacebitmapReturns", fn := fun _ => fun
  | [d1, d2, d3] => { results := [.lit (.bool true)], args := [d1, d2, d3] }
  | _ => none }
def spacebitmapReturnsRow : OpenClaim := { program := "ytdhoajjlokccfaa", sum := "d9b49d79f24da0e057cc9798603f944842d54528060b21f01acbdf014b397c78", func := "masterdisc/masterdisclaw41.SpacebitmapReturns", spec := "spacebitmapReturns", inPlace := ["internal/abi.NoEscape", "internal/bytealg.MakeNoZero"], unfollowed := true, recurses := true, apart := false }
def SpacebitmapReturnsSaid : Prop := spacebitmapReturnsRow.holds Try.pinned (OpenSpec.ofChange spacebitmapReturnsSpec)

/-- ITS FALSE NEIGHBOUR: 'it returns false'. Refute it at one input. -/
def spacebitmapReturnsWrong : ChangeSpec := { name := "spacebitmapReturns", fn := fun _ => fun
  | [d1, d2, d3] => { results := [.lit (.bool false)], args := [d1, d2, d3] }
  | _ => none }
def SpacebitmapReturnsWrongFalsely : Prop := spacebitmapReturnsRow.holds Try.pinned (OpenSpec.ofChange spacebitmapReturnsWrong)

/-- 'masterdisclaw41.SpacebitmapRuns': WHATEVER THE INPUT: true; the input reads as it did. -/
def spacebitmapRunsSpec : ChangeSpec := { name := "spacebitmapRuns", fn := fun _ => fun
  | [d1, d2] => { results := [.lit (.bool true)], args := [d1, d2] }
  | _ => none }
def spacebitmapRunsRow : OpenClaim := { program := "ytdhoajjlokccfaa", sum := "d9b49d79f24da0e057cc9798603f944842d54528060b21f01acbdf014b397c78", func := "masterdisc/masterdisclaw41.SpacebitmapRuns", spec := "spacebitmapRuns", inPlace := ["internal/abi.NoEscape", "internal/bytealg.MakeNoZero"], unfollowed := true, recurses := true, apart := false }
def SpacebitmapRunsSaid : Prop := spacebitmapRunsRow.holds Try.pinned (OpenSpec.ofChange spacebitmapRunsSpec)

/-- ITS FALSE NEIGHBOUR: 'it returns false'. Refute it at one input. -/
def spacebitmapRunsWrong : ChangeSpec := { name := "spacebitmapRuns", fn := fun _ => fun
  | [d1, d2] => { results := [.lit (.bool false)], args := [d1, d2] }
  | _ => none }
def SpacebitmapRunsWrongFalsely : Prop := spacebitmapRunsRow.holds Try.pinned (OpenSpec.ofChange spacebitmapRunsWrong)

/-- 'masterdisclaw41.SpacebitmapTakes': WHATEVER THE INPUT: true; the input reads as it did. -/
def spacebitmapTakesSpec : ChangeSpec := { name := "spacebitmapTakes", fn := fun _ => fun
  | [d1, d2, d3] => { results := [.lit (.bool true)], args := [d1, d2, d3] }
  | _ => none }
def spacebitmapTakesRow : OpenClaim := { program := "ytdhoajjlokccfaa", sum := "d9b49d79f24da0e057cc9798603f944842d54528060b21f01acbdf014b397c78", func := "masterdisc/masterdisclaw41.SpacebitmapTakes", spec := "spacebitmapTakes", inPlace := ["internal/abi.NoEscape", "internal/bytealg.MakeNoZero"], unfollowed := true, recurses := true, apart := false }
def SpacebitmapTakesSaid : Prop := spacebitmapTakesRow.holds Try.pinned (OpenSpec.ofChange spacebitmapTakesSpec)

/-- ITS FALSE NEIGHBOUR: 'it returns false'. Refute it at one input. -/
def spacebitmapTakesWrong : ChangeSpec := { name := "spacebitmapTakes", fn := fun _ => fun
  | [d1, d2, d3] => { results := [.lit (.bool false)], args := [d1, d2, d3] }
  | _ => none }
def SpacebitmapTakesWrongFalsely : Prop := spacebitmapTakesRow.holds Try.pinned (OpenSpec.ofChange spacebitmapTakesWrong)

/-- 'masterdisclaw41.SpacebitmapFits': WHATEVER THE INPUT: true; the input reads as it did. -/
def spacebitmapFitsSpec : ChangeSpec := { name := "spacebitmapFits", fn := fun _ => fun
  | [d1, d2, d3] => { results := [.lit (.bool true)], args := [d1, d2, d3] }
  | _ => none }
def spacebitmapFitsRow : OpenClaim := { program := "ytdhoajjlokccfaa", sum := "d9b49d79f24da0e057cc9798603f944842d54528060b21f01acbdf014b397c78", func := "masterdisc/masterdisclaw41.SpacebitmapFits", spec := "spacebitmapFits", inPlace := ["internal/abi.NoEscape", "internal/bytealg.MakeNoZero"], unfollowed := true, recurses := true, apart := false }
def SpacebitmapFitsSaid : Prop := spacebitmapFitsRow.holds Try.pinned (OpenSpec.ofChange spacebitmapFitsSpec)

/-- ITS FALSE NEIGHBOUR: 'it returns false'. Refute it at one input. -/
def spacebitmapFitsWrong : ChangeSpec := { name := "spacebitmapFits", fn := fun _ => fun
  | [d1, d2, d3] => { results := [.lit (.bool false)], args := [d1, d2, d3] }
  | _ => none }
def SpacebitmapFitsWrongFalsely : Prop := spacebitmapFitsRow.holds Try.pinned (OpenSpec.ofChange spacebitmapFitsWrong)

/-- 'masterdisclaw33.AllocationDescriptors': WHATEVER THE INPUT: true; the input reads as it did. -/
def allocationDescriptorsSpec : ChangeSpec := { name := "allocationDescriptors", fn := fun _ => fun
  | [d1, d2, d3, d4, d5] => { results := [.lit (.bool true)], args := [d1, d2, d3, d4, d5] }
  | _ => none }
def allocationDescriptorsRow : OpenClaim := { program := "ytdhoajjlokccfaa", sum := "d9b49d79f24da0e057cc9798603f944842d54528060b21f01acbdf014b397c78", func := "masterdisc/masterdisclaw33.AllocationDescriptors", spec := "allocationDescriptors", inPlace := ["internal/abi.NoEscape", "internal/bytealg.MakeNoZero"], unfollowed := true, recurses := true, apart := false }
def AllocationDescriptorsSaid : Prop := allocationDescriptorsRow.holds Try.pinned (OpenSpec.ofChange allocationDescriptorsSpec)

/-- ITS FALSE NEIGHBOUR: 'it returns false'. Refute it at one input. -/
def allocationDescriptorsWrong : ChangeSpec := { name := "allocationDescriptors", fn := fun _ => fun
  | [d1, d2, d3, d4, d5] => { results := [.lit (.bool false)], args := [d1, d2, d3, d4, d5] }
  | _ => none }
def AllocationDescriptorsWrongFalsely : Prop := allocationDescriptorsRow.holds Try.pinned (OpenSpec.ofChange allocationDescriptorsWrong)

/- THE SECOND FORM. 'bulk': how many values and letters a reading holds, each counted each time it is reached (what is shared counts as often as it is met; a slice's spare places count too). A statement '..UptoSaid' is the law's where the arguments, and the package variables that the reading takes, are together of bulk at most 1048576: NARROWER than '..Said'. Prove '..Said' where nothing that the law and all that it calls make is longer than what came in: it says more and counts as full. Else prove '..UptoSaid'. A law counts once. -/
mutual
def uptoBulk {H : Type} : DataW H → Nat
  | .lit (.string bytes) => bytes.length + 1
  | .lit _ => 1
  | .nil => 1
  | .ptr d => uptoBulk d + 1
  | .slice elems spare => uptoBulkAll elems + uptoBulkAll spare + 1
  | .agg parts => uptoBulkAll parts + 1
  | .iface _ d => uptoBulk d + 1
  | .map entries => uptoBulkEntries entries + 1
  | .held _ => 1
def uptoBulkAll {H : Type} : List (DataW H) → Nat
  | [] => 0
  | d :: r => uptoBulk d + uptoBulkAll r
def uptoBulkEntries {H : Type} : List (Lit × DataW H) → Nat
  | [] => 0
  | x :: r => uptoBulkEntry x + uptoBulkEntries r
def uptoBulkEntry {H : Type} : Lit × DataW H → Nat
  | (.string bytes, d) => bytes.length + uptoBulk d + 1
  | (_, d) => uptoBulk d + 1
 end
def uptoSmall : (H : Type) → List (DataW H) → Bool := fun _ ds => decide (uptoBulkAll ds ≤ 1048576)
def OpenSpec.upto (s : _root_.Go.ChangeSpec) : _root_.Go.OpenSpec := { _root_.Go.OpenSpec.ofChange s with cond := some uptoSmall }

/-- 'masterdisclaw40.MetadataExtents', WHERE WHAT IT READS IS OF BULK AT MOST 1048576: true; the input reads as it did. -/
def metadataExtentsUptoRow : OpenClaim := { program := "ytdhoajjlokccfaa", sum := "d9b49d79f24da0e057cc9798603f944842d54528060b21f01acbdf014b397c78", func := "masterdisc/masterdisclaw40.MetadataExtents", spec := "metadataExtents", unfollowed := true, recurses := true, apart := false, narrowed := true }
def MetadataExtentsUptoSaid : Prop := metadataExtentsUptoRow.holds Try.pinned (OpenSpec.upto metadataExtentsSpec)

/-- 'masterdisclaw40.MetadataLocates', WHERE WHAT IT READS IS OF BULK AT MOST 1048576: true; the input reads as it did. -/
def metadataLocatesUptoRow : OpenClaim := { program := "ytdhoajjlokccfaa", sum := "d9b49d79f24da0e057cc9798603f944842d54528060b21f01acbdf014b397c78", func := "masterdisc/masterdisclaw40.MetadataLocates", spec := "metadataLocates", unfollowed := true, recurses := true, apart := false, narrowed := true }
def MetadataLocatesUptoSaid : Prop := metadataLocatesUptoRow.holds Try.pinned (OpenSpec.upto metadataLocatesSpec)

/-- 'masterdisclaw40.MetadataOrder', WHERE WHAT IT READS IS OF BULK AT MOST 1048576: true; the input reads as it did. -/
def metadataOrderUptoRow : OpenClaim := { program := "ytdhoajjlokccfaa", sum := "d9b49d79f24da0e057cc9798603f944842d54528060b21f01acbdf014b397c78", func := "masterdisc/masterdisclaw40.MetadataOrder", spec := "metadataOrder", unfollowed := true, recurses := true, apart := false, narrowed := true }
def MetadataOrderUptoSaid : Prop := metadataOrderUptoRow.holds Try.pinned (OpenSpec.upto metadataOrderSpec)

/-- 'masterdisclaw40.MetadataRounds', WHERE WHAT IT READS IS OF BULK AT MOST 1048576: true; the input reads as it did. -/
def metadataRoundsUptoRow : OpenClaim := { program := "ytdhoajjlokccfaa", sum := "d9b49d79f24da0e057cc9798603f944842d54528060b21f01acbdf014b397c78", func := "masterdisc/masterdisclaw40.MetadataRounds", spec := "metadataRounds", unfollowed := true, recurses := true, apart := false, narrowed := true }
def MetadataRoundsUptoSaid : Prop := metadataRoundsUptoRow.holds Try.pinned (OpenSpec.upto metadataRoundsSpec)

/-- 'masterdisclaw33.AllocationCuts', WHERE WHAT IT READS IS OF BULK AT MOST 1048576: true; the input reads as it did. -/
def allocationCutsUptoRow : OpenClaim := { program := "ytdhoajjlokccfaa", sum := "d9b49d79f24da0e057cc9798603f944842d54528060b21f01acbdf014b397c78", func := "masterdisc/masterdisclaw33.AllocationCuts", spec := "allocationCuts", unfollowed := true, recurses := true, apart := false, narrowed := true }
def AllocationCutsUptoSaid : Prop := allocationCutsUptoRow.holds Try.pinned (OpenSpec.upto allocationCutsSpec)

/-- 'masterdisclaw40.MetadataReads', WHERE WHAT IT READS IS OF BULK AT MOST 1048576: true; the input reads as it did. -/
def metadataReadsUptoRow : OpenClaim := { program := "ytdhoajjlokccfaa", sum := "d9b49d79f24da0e057cc9798603f944842d54528060b21f01acbdf014b397c78", func := "masterdisc/masterdisclaw40.MetadataReads", spec := "metadataReads", unfollowed := true, recurses := true, apart := false, narrowed := true }
def MetadataReadsUptoSaid : Prop := metadataReadsUptoRow.holds Try.pinned (OpenSpec.upto metadataReadsSpec)

/-- 'masterdisclaw40.MetadataMirrors', WHERE WHAT IT READS IS OF BULK AT MOST 1048576: true; the input reads as it did. -/
def metadataMirrorsUptoRow : OpenClaim := { program := "ytdhoajjlokccfaa", sum := "d9b49d79f24da0e057cc9798603f944842d54528060b21f01acbdf014b397c78", func := "masterdisc/masterdisclaw40.MetadataMirrors", spec := "metadataMirrors", unfollowed := true, recurses := true, apart := false, narrowed := true }
def MetadataMirrorsUptoSaid : Prop := metadataMirrorsUptoRow.holds Try.pinned (OpenSpec.upto metadataMirrorsSpec)

/-- 'masterdisclaw41.SpacebitmapMarks', WHERE WHAT IT READS IS OF BULK AT MOST 1048576: true; the input reads as it did. -/
def spacebitmapMarksUptoRow : OpenClaim := { program := "ytdhoajjlokccfaa", sum := "d9b49d79f24da0e057cc9798603f944842d54528060b21f01acbdf014b397c78", func := "masterdisc/masterdisclaw41.SpacebitmapMarks", spec := "spacebitmapMarks", inPlace := ["internal/abi.NoEscape", "internal/bytealg.MakeNoZero"], unfollowed := true, recurses := true, apart := false, narrowed := true }
def SpacebitmapMarksUptoSaid : Prop := spacebitmapMarksUptoRow.holds Try.pinned (OpenSpec.upto spacebitmapMarksSpec)

/-- 'masterdisclaw41.SpacebitmapAllocates', WHERE WHAT IT READS IS OF BULK AT MOST 1048576: true; the input reads as it did. -/
def spacebitmapAllocatesUptoRow : OpenClaim := { program := "ytdhoajjlokccfaa", sum := "d9b49d79f24da0e057cc9798603f944842d54528060b21f01acbdf014b397c78", func := "masterdisc/masterdisclaw41.SpacebitmapAllocates", spec := "spacebitmapAllocates", inPlace := ["internal/abi.NoEscape", "internal/bytealg.MakeNoZero"], unfollowed := true, recurses := true, apart := false, narrowed := true }
def SpacebitmapAllocatesUptoSaid : Prop := spacebitmapAllocatesUptoRow.holds Try.pinned (OpenSpec.upto spacebitmapAllocatesSpec)

/-- 'masterdisclaw41.SpacebitmapDescriptors', WHERE WHAT IT READS IS OF BULK AT MOST 1048576: true; the input reads as it did. -/
def spacebitmapDescriptorsUptoRow : OpenClaim := { program := "ytdhoajjlokccfaa", sum := "d9b49d79f24da0e057cc9798603f944842d54528060b21f01acbdf014b397c78", func := "masterdisc/masterdisclaw41.SpacebitmapDescriptors", spec := "spacebitmapDescriptors", inPlace := ["internal/abi.NoEscape", "internal/bytealg.MakeNoZero"], unfollowed := true, recurses := true, apart := false, narrowed := true }
def SpacebitmapDescriptorsUptoSaid : Prop := spacebitmapDescriptorsUptoRow.holds Try.pinned (OpenSpec.upto spacebitmapDescriptorsSpec)

/-- 'masterdisclaw41.SpacebitmapReturns', WHERE WHAT IT READS IS OF BULK AT MOST 1048576: true; the input reads as it did. -/
def spacebitmapReturnsUptoRow : OpenClaim := { program := "ytdhoajjlokccfaa", sum := "d9b49d79f24da0e057cc9798603f944842d54528060b21f01acbdf014b397c78", func := "masterdisc/masterdisclaw41.SpacebitmapReturns", spec := "spacebitmapReturns", inPlace := ["internal/abi.NoEscape", "internal/bytealg.MakeNoZero"], unfollowed := true, recurses := true, apart := false, narrowed := true }
def SpacebitmapReturnsUptoSaid : Prop := spacebitmapReturnsUptoRow.holds Try.pinned (OpenSpec.upto spacebitmapReturnsSpec)

/-- 'masterdisclaw41.SpacebitmapRuns', WHERE WHAT IT READS IS OF BULK AT MOST 1048576: true; the input reads as it did. -/
def spacebitmapRunsUptoRow : OpenClaim := { program := "ytdhoajjlokccfaa", sum := "d9b49d79f24da0e057cc9798603f944842d54528060b21f01acbdf014b397c78", func := "masterdisc/masterdisclaw41.SpacebitmapRuns", spec := "spacebitmapRuns", inPlace := ["internal/abi.NoEscape", "internal/bytealg.MakeNoZero"], unfollowed := true, recurses := true, apart := false, narrowed := true }
def SpacebitmapRunsUptoSaid : Prop := spacebitmapRunsUptoRow.holds Try.pinned (OpenSpec.upto spacebitmapRunsSpec)

/-- 'masterdisclaw41.SpacebitmapTakes', WHERE WHAT IT READS IS OF BULK AT MOST 1048576: true; the input reads as it did. -/
def spacebitmapTakesUptoRow : OpenClaim := { program := "ytdhoajjlokccfaa", sum := "d9b49d79f24da0e057cc9798603f944842d54528060b21f01acbdf014b397c78", func := "masterdisc/masterdisclaw41.SpacebitmapTakes", spec := "spacebitmapTakes", inPlace := ["internal/abi.NoEscape", "internal/bytealg.MakeNoZero"], unfollowed := true, recurses := true, apart := false, narrowed := true }
def SpacebitmapTakesUptoSaid : Prop := spacebitmapTakesUptoRow.holds Try.pinned (OpenSpec.upto spacebitmapTakesSpec)

/-- 'masterdisclaw41.SpacebitmapFits', WHERE WHAT IT READS IS OF BULK AT MOST 1048576: true; the input reads as it did. -/
def spacebitmapFitsUptoRow : OpenClaim := { program := "ytdhoajjlokccfaa", sum := "d9b49d79f24da0e057cc9798603f944842d54528060b21f01acbdf014b397c78", func := "masterdisc/masterdisclaw41.SpacebitmapFits", spec := "spacebitmapFits", inPlace := ["internal/abi.NoEscape", "internal/bytealg.MakeNoZero"], unfollowed := true, recurses := true, apart := false, narrowed := true }
def SpacebitmapFitsUptoSaid : Prop := spacebitmapFitsUptoRow.holds Try.pinned (OpenSpec.upto spacebitmapFitsSpec)

/-- 'masterdisclaw33.AllocationDescriptors', WHERE WHAT IT READS IS OF BULK AT MOST 1048576: true; the input reads as it did. -/
def allocationDescriptorsUptoRow : OpenClaim := { program := "ytdhoajjlokccfaa", sum := "d9b49d79f24da0e057cc9798603f944842d54528060b21f01acbdf014b397c78", func := "masterdisc/masterdisclaw33.AllocationDescriptors", spec := "allocationDescriptors", inPlace := ["internal/abi.NoEscape", "internal/bytealg.MakeNoZero"], unfollowed := true, recurses := true, apart := false, narrowed := true }
def AllocationDescriptorsUptoSaid : Prop := allocationDescriptorsUptoRow.holds Try.pinned (OpenSpec.upto allocationDescriptorsSpec)

end Rows
end Go.Proofs.Ytdhoajjlokccfaa
