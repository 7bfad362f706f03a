/-
  No cell of these rows narrows 'for every input' (looked for: loops, veiled, ifaces, maps, wideKeys, modest, calm, conditions, laid).
  DERIVED. THE GIVEN ROWS OF THIS SEAT. 8 by the template 'for every input the law returns true; each argument reads behind the call as it read before'; 0 by the template 'total and deterministic' (their statements: YtifmhobgfcigbaaTotals.lean).
  GIVEN WITH THE SEED: the statements are not yours to turn. If you find one false, say at which input.
  Laid BY PROGRAM, IN A SANDBOX (cutbox-rows.mjs): the forced cells as the released guide's own fill.sh prints them over the translation 9196944709c4a363… (all of the seat's roots in one cut). By AI agents, Wed Nov 11 2026. No macro, syntax, notation, axiom, sorry.
-/
import Derived.Test.YtifmhobgfcigbaaChecked
import GoSem.Claim
import GoSem.ClaimJoined
import GoSem.ClaimMapViews
import Derived.JoinedTies
import Derived.KernelRfl
namespace Go.Proofs.Ytifmhobgfcigbaa
/- THE CELL 'sum', in the pinned program and in every row, IS THE sha256 OF THE DUMP (.gsa) THAT YtifmhobgfcigbaaProg.lean LOADS. Nothing in Lean hashes anything: it is a label: what it is worth is what the hold of that sum in a sandbox is worth. -/
noncomputable def Try.pinned : Pinned := { name := "ytifmhobgfcigbaa", sum := "9196944709c4a363631284146f3b45535b48aff27dd9000c4c9e3de9165b3a1a", checked := Try.checked }
namespace Rows
def none {H : Type} : Left H := { results := [], args := [] }

/-- 'masterdisclaw31.UdftagDetects': WHATEVER THE INPUT: true; the input reads as it did. -/
def udftagDetectsSpec : ChangeSpec := { name := "udftagDetects", fn := fun _ => fun
  | [d1, d2, d3, d4, d5, d6] => { results := [.lit (.bool true)], args := [d1, d2, d3, d4, d5, d6] }
  | _ => none }
def udftagDetectsRow : OpenClaim := { program := "ytifmhobgfcigbaa", sum := "9196944709c4a363631284146f3b45535b48aff27dd9000c4c9e3de9165b3a1a", func := "masterdisc/masterdisclaw31.UdftagDetects", spec := "udftagDetects", unfollowed := true, recurses := true, apart := false }
def UdftagDetectsSaid : Prop := udftagDetectsRow.holds Try.pinned (OpenSpec.ofChange udftagDetectsSpec)

/-- ITS FALSE NEIGHBOUR: 'it returns false'. Refute it at one input. -/
def udftagDetectsWrong : ChangeSpec := { name := "udftagDetects", fn := fun _ => fun
  | [d1, d2, d3, d4, d5, d6] => { results := [.lit (.bool false)], args := [d1, d2, d3, d4, d5, d6] }
  | _ => none }
def UdftagDetectsWrongFalsely : Prop := udftagDetectsRow.holds Try.pinned (OpenSpec.ofChange udftagDetectsWrong)

/-- 'masterdisclaw31.UdftagOpens': WHATEVER THE INPUT: true; the input reads as it did. -/
def udftagOpensSpec : ChangeSpec := { name := "udftagOpens", fn := fun _ => fun
  | [d1, d2, d3] => { results := [.lit (.bool true)], args := [d1, d2, d3] }
  | _ => none }
def udftagOpensRow : OpenClaim := { program := "ytifmhobgfcigbaa", sum := "9196944709c4a363631284146f3b45535b48aff27dd9000c4c9e3de9165b3a1a", func := "masterdisc/masterdisclaw31.UdftagOpens", spec := "udftagOpens", unfollowed := true, recurses := true, apart := false }
def UdftagOpensSaid : Prop := udftagOpensRow.holds Try.pinned (OpenSpec.ofChange udftagOpensSpec)

/-- ITS FALSE NEIGHBOUR: 'it returns false'. Refute it at one input. -/
def udftagOpensWrong : ChangeSpec := { name := "udftagOpens", fn := fun _ => fun
  | [d1, d2, d3] => { results := [.lit (.bool false)], args := [d1, d2, d3] }
  | _ => none }
def UdftagOpensWrongFalsely : Prop := udftagOpensRow.holds Try.pinned (OpenSpec.ofChange udftagOpensWrong)

/-- 'masterdisclaw31.UdftagReturns': WHATEVER THE INPUT: true; the input reads as it did. -/
def udftagReturnsSpec : ChangeSpec := { name := "udftagReturns", fn := fun _ => fun
  | [d1, d2, d3, d4, d5] => { results := [.lit (.bool true)], args := [d1, d2, d3, d4, d5] }
  | _ => none }
def udftagReturnsRow : OpenClaim := { program := "ytifmhobgfcigbaa", sum := "9196944709c4a363631284146f3b45535b48aff27dd9000c4c9e3de9165b3a1a", func := "masterdisc/masterdisclaw31.UdftagReturns", spec := "udftagReturns", unfollowed := true, recurses := true, apart := false }
def UdftagReturnsSaid : Prop := udftagReturnsRow.holds Try.pinned (OpenSpec.ofChange udftagReturnsSpec)

/-- ITS FALSE NEIGHBOUR: 'it returns false'. Refute it at one input. -/
def udftagReturnsWrong : ChangeSpec := { name := "udftagReturns", fn := fun _ => fun
  | [d1, d2, d3, d4, d5] => { results := [.lit (.bool false)], args := [d1, d2, d3, d4, d5] }
  | _ => none }
def UdftagReturnsWrongFalsely : Prop := udftagReturnsRow.holds Try.pinned (OpenSpec.ofChange udftagReturnsWrong)

/-- 'masterdisclaw31.UdftagRelocates': WHATEVER THE INPUT: true; the input reads as it did. -/
def udftagRelocatesSpec : ChangeSpec := { name := "udftagRelocates", fn := fun _ => fun
  | [d1, d2] => { results := [.lit (.bool true)], args := [d1, d2] }
  | _ => none }
def udftagRelocatesRow : OpenClaim := { program := "ytifmhobgfcigbaa", sum := "9196944709c4a363631284146f3b45535b48aff27dd9000c4c9e3de9165b3a1a", func := "masterdisc/masterdisclaw31.UdftagRelocates", spec := "udftagRelocates", unfollowed := true, recurses := true, apart := false }
def UdftagRelocatesSaid : Prop := udftagRelocatesRow.holds Try.pinned (OpenSpec.ofChange udftagRelocatesSpec)

/-- ITS FALSE NEIGHBOUR: 'it returns false'. Refute it at one input. -/
def udftagRelocatesWrong : ChangeSpec := { name := "udftagRelocates", fn := fun _ => fun
  | [d1, d2] => { results := [.lit (.bool false)], args := [d1, d2] }
  | _ => none }
def UdftagRelocatesWrongFalsely : Prop := udftagRelocatesRow.holds Try.pinned (OpenSpec.ofChange udftagRelocatesWrong)

/-- 'masterdisclaw31.UdftagMoves': WHATEVER THE INPUT: true; the input reads as it did. -/
def udftagMovesSpec : ChangeSpec := { name := "udftagMoves", fn := fun _ => fun
  | [d1, d2, d3] => { results := [.lit (.bool true)], args := [d1, d2, d3] }
  | _ => none }
def udftagMovesRow : OpenClaim := { program := "ytifmhobgfcigbaa", sum := "9196944709c4a363631284146f3b45535b48aff27dd9000c4c9e3de9165b3a1a", func := "masterdisc/masterdisclaw31.UdftagMoves", spec := "udftagMoves", unfollowed := true, recurses := true, apart := false }
def UdftagMovesSaid : Prop := udftagMovesRow.holds Try.pinned (OpenSpec.ofChange udftagMovesSpec)

/-- ITS FALSE NEIGHBOUR: 'it returns false'. Refute it at one input. -/
def udftagMovesWrong : ChangeSpec := { name := "udftagMoves", fn := fun _ => fun
  | [d1, d2, d3] => { results := [.lit (.bool false)], args := [d1, d2, d3] }
  | _ => none }
def UdftagMovesWrongFalsely : Prop := udftagMovesRow.holds Try.pinned (OpenSpec.ofChange udftagMovesWrong)

/-- 'masterdisclaw31.UdftagFaults': WHATEVER THE INPUT: true; the input reads as it did. -/
def udftagFaultsSpec : ChangeSpec := { name := "udftagFaults", fn := fun _ => fun
  | [d1, d2] => { results := [.lit (.bool true)], args := [d1, d2] }
  | _ => none }
def udftagFaultsRow : OpenClaim := { program := "ytifmhobgfcigbaa", sum := "9196944709c4a363631284146f3b45535b48aff27dd9000c4c9e3de9165b3a1a", func := "masterdisc/masterdisclaw31.UdftagFaults", spec := "udftagFaults", unfollowed := true, recurses := true, apart := false }
def UdftagFaultsSaid : Prop := udftagFaultsRow.holds Try.pinned (OpenSpec.ofChange udftagFaultsSpec)

/-- ITS FALSE NEIGHBOUR: 'it returns false'. Refute it at one input. -/
def udftagFaultsWrong : ChangeSpec := { name := "udftagFaults", fn := fun _ => fun
  | [d1, d2] => { results := [.lit (.bool false)], args := [d1, d2] }
  | _ => none }
def UdftagFaultsWrongFalsely : Prop := udftagFaultsRow.holds Try.pinned (OpenSpec.ofChange udftagFaultsWrong)

/-- 'masterdisclaw31.UdftagSeals': WHATEVER THE INPUT: true; the input reads as it did. -/
def udftagSealsSpec : ChangeSpec := { name := "udftagSeals", fn := fun _ => fun
  | [d1, d2, d3, d4] => { results := [.lit (.bool true)], args := [d1, d2, d3, d4] }
  | _ => none }
def udftagSealsRow : OpenClaim := { program := "ytifmhobgfcigbaa", sum := "9196944709c4a363631284146f3b45535b48aff27dd9000c4c9e3de9165b3a1a", func := "masterdisc/masterdisclaw31.UdftagSeals", spec := "udftagSeals", inPlace := ["internal/abi.NoEscape", "internal/bytealg.MakeNoZero"], unfollowed := true, recurses := true, apart := false }
def UdftagSealsSaid : Prop := udftagSealsRow.holds Try.pinned (OpenSpec.ofChange udftagSealsSpec)

/-- ITS FALSE NEIGHBOUR: 'it returns false'. Refute it at one input. -/
def udftagSealsWrong : ChangeSpec := { name := "udftagSeals", fn := fun _ => fun
  | [d1, d2, d3, d4] => { results := [.lit (.bool false)], args := [d1, d2, d3, d4] }
  | _ => none }
def UdftagSealsWrongFalsely : Prop := udftagSealsRow.holds Try.pinned (OpenSpec.ofChange udftagSealsWrong)

/-- 'masterdisclaw31.UdftagPads': WHATEVER THE INPUT: true; the input reads as it did. -/
def udftagPadsSpec : ChangeSpec := { name := "udftagPads", fn := fun _ => fun
  | [d1, d2, d3, d4] => { results := [.lit (.bool true)], args := [d1, d2, d3, d4] }
  | _ => none }
def udftagPadsRow : OpenClaim := { program := "ytifmhobgfcigbaa", sum := "9196944709c4a363631284146f3b45535b48aff27dd9000c4c9e3de9165b3a1a", func := "masterdisc/masterdisclaw31.UdftagPads", spec := "udftagPads", inPlace := ["internal/abi.NoEscape", "internal/bytealg.MakeNoZero"], unfollowed := true, recurses := true, apart := false }
def UdftagPadsSaid : Prop := udftagPadsRow.holds Try.pinned (OpenSpec.ofChange udftagPadsSpec)

/-- ITS FALSE NEIGHBOUR: 'it returns false'. Refute it at one input. -/
def udftagPadsWrong : ChangeSpec := { name := "udftagPads", fn := fun _ => fun
  | [d1, d2, d3, d4] => { results := [.lit (.bool false)], args := [d1, d2, d3, d4] }
  | _ => none }
def UdftagPadsWrongFalsely : Prop := udftagPadsRow.holds Try.pinned (OpenSpec.ofChange udftagPadsWrong)

/- THE SECOND FORM. 'bulk': how many values and letters a reading holds, each counted each time it is reached (what is shared counts as often as it is met; a slice's spare places count too). A statement '..UptoSaid' is the law's where the arguments, and the package variables that the reading takes, are together of bulk at most 1048576: NARROWER than '..Said'. Prove '..Said' where nothing that the law and all that it calls make is longer than what came in: it says more and counts as full. Else prove '..UptoSaid'. A law counts once. -/
mutual
def uptoBulk {H : Type} : DataW H → Nat
  | .lit (.string bytes) => bytes.length + 1
  | .lit _ => 1
  | .nil => 1
  | .ptr d => uptoBulk d + 1
  | .slice elems spare => uptoBulkAll elems + uptoBulkAll spare + 1
  | .agg parts => uptoBulkAll parts + 1
  | .iface _ d => uptoBulk d + 1
  | .map entries => uptoBulkEntries entries + 1
  | .held _ => 1
def uptoBulkAll {H : Type} : List (DataW H) → Nat
  | [] => 0
  | d :: r => uptoBulk d + uptoBulkAll r
def uptoBulkEntries {H : Type} : List (Lit × DataW H) → Nat
  | [] => 0
  | x :: r => uptoBulkEntry x + uptoBulkEntries r
def uptoBulkEntry {H : Type} : Lit × DataW H → Nat
  | (.string bytes, d) => bytes.length + uptoBulk d + 1
  | (_, d) => uptoBulk d + 1
 end
def uptoSmall : (H : Type) → List (DataW H) → Bool := fun _ ds => decide (uptoBulkAll ds ≤ 1048576)
def OpenSpec.upto (s : _root_.Go.ChangeSpec) : _root_.Go.OpenSpec := { _root_.Go.OpenSpec.ofChange s with cond := some uptoSmall }

/-- 'masterdisclaw31.UdftagDetects', WHERE WHAT IT READS IS OF BULK AT MOST 1048576: true; the input reads as it did. -/
def udftagDetectsUptoRow : OpenClaim := { program := "ytifmhobgfcigbaa", sum := "9196944709c4a363631284146f3b45535b48aff27dd9000c4c9e3de9165b3a1a", func := "masterdisc/masterdisclaw31.UdftagDetects", spec := "udftagDetects", unfollowed := true, recurses := true, apart := false, narrowed := true }
def UdftagDetectsUptoSaid : Prop := udftagDetectsUptoRow.holds Try.pinned (OpenSpec.upto udftagDetectsSpec)

/-- 'masterdisclaw31.UdftagOpens', WHERE WHAT IT READS IS OF BULK AT MOST 1048576: true; the input reads as it did. -/
def udftagOpensUptoRow : OpenClaim := { program := "ytifmhobgfcigbaa", sum := "9196944709c4a363631284146f3b45535b48aff27dd9000c4c9e3de9165b3a1a", func := "masterdisc/masterdisclaw31.UdftagOpens", spec := "udftagOpens", unfollowed := true, recurses := true, apart := false, narrowed := true }
def UdftagOpensUptoSaid : Prop := udftagOpensUptoRow.holds Try.pinned (OpenSpec.upto udftagOpensSpec)

/-- 'masterdisclaw31.UdftagReturns', WHERE WHAT IT READS IS OF BULK AT MOST 1048576: true; the input reads as it did. -/
def udftagReturnsUptoRow : OpenClaim := { program := "ytifmhobgfcigbaa", sum := "9196944709c4a363631284146f3b45535b48aff27dd9000c4c9e3de9165b3a1a", func := "masterdisc/masterdisclaw31.UdftagReturns", spec := "udftagReturns", unfollowed := true, recurses := true, apart := false, narrowed := true }
def UdftagReturnsUptoSaid : Prop := udftagReturnsUptoRow.holds Try.pinned (OpenSpec.upto udftagReturnsSpec)

/-- 'masterdisclaw31.UdftagRelocates', WHERE WHAT IT READS IS OF BULK AT MOST 1048576: true; the input reads as it did. -/
def udftagRelocatesUptoRow : OpenClaim := { program := "ytifmhobgfcigbaa", sum := "9196944709c4a363631284146f3b45535b48aff27dd9000c4c9e3de9165b3a1a", func := "masterdisc/masterdisclaw31.UdftagRelocates", spec := "udftagRelocates", unfollowed := true, recurses := true, apart := false, narrowed := true }
def UdftagRelocatesUptoSaid : Prop := udftagRelocatesUptoRow.holds Try.pinned (OpenSpec.upto udftagRelocatesSpec)

/-- 'masterdisclaw31.UdftagMoves', WHERE WHAT IT READS IS OF BULK AT MOST 1048576: true; the input reads as it did. -/
def udftagMovesUptoRow : OpenClaim := { program := "ytifmhobgfcigbaa", sum := "9196944709c4a363631284146f3b45535b48aff27dd9000c4c9e3de9165b3a1a", func := "masterdisc/masterdisclaw31.UdftagMoves", spec := "udftagMoves", unfollowed := true, recurses := true, apart := false, narrowed := true }
def UdftagMovesUptoSaid : Prop := udftagMovesUptoRow.holds Try.pinned (OpenSpec.upto udftagMovesSpec)

/-- 'masterdisclaw31.UdftagFaults', WHERE WHAT IT READS IS OF BULK AT MOST 1048576: true; the input reads as it did. -/
def udftagFaultsUptoRow : OpenClaim := { program := "ytifmhobgfcigbaa", sum := "9196944709c4a363631284146f3b45535b48aff27dd9000c4c9e3de9165b3a1a", func := "masterdisc/masterdisclaw31.UdftagFaults", spec := "udftagFaults", unfollowed := true, recurses := true, apart := false, narrowed := true }
def UdftagFaultsUptoSaid : Prop := udftagFaultsUptoRow.holds Try.pinned (OpenSpec.upto udftagFaultsSpec)

/-- 'masterdisclaw31.UdftagSeals', WHERE WHAT IT READS IS OF BULK AT MOST 1048576: true; the input reads as it did. -/
def udftagSealsUptoRow : OpenClaim := { program := "ytifmhobgfcigbaa", sum := "9196944709c4a363631284146f3b45535b48aff27dd9000c4c9e3de9165b3a1a", func := "masterdisc/masterdisclaw31.UdftagSeals", spec := "udftagSeals", inPlace := ["internal/abi.NoEscape", "internal/bytealg.MakeNoZero"], unfollowed := true, recurses := true, apart := false, narrowed := true }
def UdftagSealsUptoSaid : Prop := udftagSealsUptoRow.holds Try.pinned (OpenSpec.upto udftagSealsSpec)

/-- 'masterdisclaw31.UdftagPads', WHERE WHAT IT READS IS OF BULK AT MOST 1048576: true; the input reads as it did. -/
def udftagPadsUptoRow : OpenClaim := { program := "ytifmhobgfcigbaa", sum := "9196944709c4a363631284146f3b45535b48aff27dd9000c4c9e3de9165b3a1a", func := "masterdisc/masterdisclaw31.UdftagPads", spec := "udftagPads", inPlace := ["internal/abi.NoEscape", "internal/bytealg.MakeNoZero"], unfollowed := true, recurses := true, apart := false, narrowed := true }
def UdftagPadsUptoSaid : Prop := udftagPadsUptoRow.holds Try.pinned (OpenSpec.upto udftagPadsSpec)

end Rows
end Go.Proofs.Ytifmhobgfcigbaa
