/-
  No cell of these rows narrows 'for every input' (looked for: loops, veiled, ifaces, maps, wideKeys, modest, calm, conditions, laid).
  DERIVED. THE GIVEN ROWS OF THIS SEAT. 6 by the template 'for every input the law returns true; each argument reads behind the call as it read before'; 0 by the template 'total and deterministic' (their statements: YtddjikplekbchaaTotals.lean).
  GIVEN WITH THE SEED: the statements are not yours to turn. If you find one false, say at which input.
  Laid BY PROGRAM, IN A SANDBOX (cutbox-rows.mjs): the forced cells as the released guide's own fill.sh prints them over the translation d78a87b11b7e7358… (all of the seat's roots in one cut). By AI agents, Wed Nov 11 2026. No macro, syntax, notation, axiom, sorry.
-/
import Derived.Test.YtddjikplekbchaaChecked
import GoSem.Claim
import GoSem.ClaimJoined
import GoSem.ClaimMapViews
import Derived.JoinedTies
import Derived.KernelRfl
namespace Go.Proofs.Ytddjikplekbchaa
/- THE CELL 'sum', in the pinned program and in every row, IS THE sha256 OF THE DUMP (.gsa) THAT YtddjikplekbchaaProg.lean LOADS. Nothing in Lean hashes anything: it is a label: what it is worth is what the hold of that sum in a sandbox is worth. -/
noncomputable def Try.pinned : Pinned := { name := "ytddjikplekbchaa", sum := "d78a87b11b7e73583b888bb09e33e5c9af1a90a24f14bccccc12c646b49f42dd", checked := Try.checked }
namespace Rows
def none {H : Type} : Left H := { results := [], args := [] }

/-- 'masterdisclaw40.MetadataMirrors': WHATEVER THE INPUT: true; the input reads as it did. -/
def metadataMirrorsSpec : ChangeSpec := { name := "metadataMirrors", fn := fun _ => fun
  | [d1, d2, d3, d4] => { results := [.lit (.bool true)], args := [d1, d2, d3, d4] }
  | _ => none }
def metadataMirrorsRow : OpenClaim := { program := "ytddjikplekbchaa", sum := "d78a87b11b7e73583b888bb09e33e5c9af1a90a24f14bccccc12c646b49f42dd", func := "masterdisc/masterdisclaw40.MetadataMirrors", spec := "metadataMirrors", unfollowed := true, recurses := true, apart := false }
def MetadataMirrorsSaid : Prop := metadataMirrorsRow.holds Try.pinned (OpenSpec.ofChange metadataMirrorsSpec)

/-- ITS FALSE NEIGHBOUR: 'it returns false'. Refute it at one input. -/
def metadataMirrorsWrong : ChangeSpec := { name := "metadataMirrors", fn := fun _ => fun
  | [d1, d2, d3, d4] => { results := [.lit (.bool false)], args := [d1, d2, d3, d4] }
  | _ => none }
def MetadataMirrorsWrongFalsely : Prop := metadataMirrorsRow.holds Try.pinned (OpenSpec.ofChange metadataMirrorsWrong)

/-- 'masterdisclaw34.IcbModes': WHATEVER THE INPUT: true; the input reads as it did. -/
def icbModesSpec : ChangeSpec := { name := "icbModes", fn := fun _ => fun
  | [d1, d2, d3] => { results := [.lit (.bool true)], args := [d1, d2, d3] }
  | _ => none }
def icbModesRow : OpenClaim := { program := "ytddjikplekbchaa", sum := "d78a87b11b7e73583b888bb09e33e5c9af1a90a24f14bccccc12c646b49f42dd", func := "masterdisc/masterdisclaw34.IcbModes", spec := "icbModes", inPlace := ["internal/abi.NoEscape", "internal/bytealg.MakeNoZero"], unfollowed := true, recurses := true, apart := false }
def IcbModesSaid : Prop := icbModesRow.holds Try.pinned (OpenSpec.ofChange icbModesSpec)

/-- ITS FALSE NEIGHBOUR: 'it returns false'. Refute it at one input. -/
def icbModesWrong : ChangeSpec := { name := "icbModes", fn := fun _ => fun
  | [d1, d2, d3] => { results := [.lit (.bool false)], args := [d1, d2, d3] }
  | _ => none }
def IcbModesWrongFalsely : Prop := icbModesRow.holds Try.pinned (OpenSpec.ofChange icbModesWrong)

/-- 'masterdisclaw34.IcbReturns': WHATEVER THE INPUT: true; the input reads as it did. -/
def icbReturnsSpec : ChangeSpec := { name := "icbReturns", fn := fun _ => fun
  | [d1, d2] => { results := [.lit (.bool true)], args := [d1, d2] }
  | _ => none }
def icbReturnsRow : OpenClaim := { program := "ytddjikplekbchaa", sum := "d78a87b11b7e73583b888bb09e33e5c9af1a90a24f14bccccc12c646b49f42dd", func := "masterdisc/masterdisclaw34.IcbReturns", spec := "icbReturns", inPlace := ["internal/abi.NoEscape", "internal/bytealg.MakeNoZero"], unfollowed := true, recurses := true, apart := false }
def IcbReturnsSaid : Prop := icbReturnsRow.holds Try.pinned (OpenSpec.ofChange icbReturnsSpec)

/-- ITS FALSE NEIGHBOUR: 'it returns false'. Refute it at one input. -/
def icbReturnsWrong : ChangeSpec := { name := "icbReturns", fn := fun _ => fun
  | [d1, d2] => { results := [.lit (.bool false)], args := [d1, d2] }
  | _ => none }
def IcbReturnsWrongFalsely : Prop := icbReturnsRow.holds Try.pinned (OpenSpec.ofChange icbReturnsWrong)

/-- 'masterdisclaw34.IcbFits': WHATEVER THE INPUT: true; the input reads as it did. -/
def icbFitsSpec : ChangeSpec := { name := "icbFits", fn := fun _ => fun
  | [d1, d2] => { results := [.lit (.bool true)], args := [d1, d2] }
  | _ => none }
def icbFitsRow : OpenClaim := { program := "ytddjikplekbchaa", sum := "d78a87b11b7e73583b888bb09e33e5c9af1a90a24f14bccccc12c646b49f42dd", func := "masterdisc/masterdisclaw34.IcbFits", spec := "icbFits", inPlace := ["internal/abi.NoEscape", "internal/bytealg.MakeNoZero"], unfollowed := true, recurses := true, apart := false }
def IcbFitsSaid : Prop := icbFitsRow.holds Try.pinned (OpenSpec.ofChange icbFitsSpec)

/-- ITS FALSE NEIGHBOUR: 'it returns false'. Refute it at one input. -/
def icbFitsWrong : ChangeSpec := { name := "icbFits", fn := fun _ => fun
  | [d1, d2] => { results := [.lit (.bool false)], args := [d1, d2] }
  | _ => none }
def IcbFitsWrongFalsely : Prop := icbFitsRow.holds Try.pinned (OpenSpec.ofChange icbFitsWrong)

/-- 'masterdisclaw34.IcbAgain': WHATEVER THE INPUT: true; the input reads as it did. -/
def icbAgainSpec : ChangeSpec := { name := "icbAgain", fn := fun _ => fun
  | [d1, d2] => { results := [.lit (.bool true)], args := [d1, d2] }
  | _ => none }
def icbAgainRow : OpenClaim := { program := "ytddjikplekbchaa", sum := "d78a87b11b7e73583b888bb09e33e5c9af1a90a24f14bccccc12c646b49f42dd", func := "masterdisc/masterdisclaw34.IcbAgain", spec := "icbAgain", inPlace := ["internal/abi.NoEscape", "internal/bytealg.MakeNoZero"], unfollowed := true, recurses := true, apart := false }
def IcbAgainSaid : Prop := icbAgainRow.holds Try.pinned (OpenSpec.ofChange icbAgainSpec)

/-- ITS FALSE NEIGHBOUR: 'it returns false'. Refute it at one input. -/
def icbAgainWrong : ChangeSpec := { name := "icbAgain", fn := fun _ => fun
  | [d1, d2] => { results := [.lit (.bool false)], args := [d1, d2] }
  | _ => none }
def IcbAgainWrongFalsely : Prop := icbAgainRow.holds Try.pinned (OpenSpec.ofChange icbAgainWrong)

/-- 'masterdisclaw34.IcbFields': WHATEVER THE INPUT: true; the input reads as it did. -/
def icbFieldsSpec : ChangeSpec := { name := "icbFields", fn := fun _ => fun
  | [d1, d2] => { results := [.lit (.bool true)], args := [d1, d2] }
  | _ => none }
def icbFieldsRow : OpenClaim := { program := "ytddjikplekbchaa", sum := "d78a87b11b7e73583b888bb09e33e5c9af1a90a24f14bccccc12c646b49f42dd", func := "masterdisc/masterdisclaw34.IcbFields", spec := "icbFields", inPlace := ["internal/abi.NoEscape", "internal/bytealg.MakeNoZero"], unfollowed := true, recurses := true, apart := false }
def IcbFieldsSaid : Prop := icbFieldsRow.holds Try.pinned (OpenSpec.ofChange icbFieldsSpec)

/-- ITS FALSE NEIGHBOUR: 'it returns false'. Refute it at one input. -/
def icbFieldsWrong : ChangeSpec := { name := "icbFields", fn := fun _ => fun
  | [d1, d2] => { results := [.lit (.bool false)], args := [d1, d2] }
  | _ => none }
def IcbFieldsWrongFalsely : Prop := icbFieldsRow.holds Try.pinned (OpenSpec.ofChange icbFieldsWrong)

/- THE SECOND FORM. 'bulk': how many values and letters a reading holds, each counted each time it is reached (what is shared counts as often as it is met; a slice's spare places count too). A statement '..UptoSaid' is the law's where the arguments, and the package variables that the reading takes, are together of bulk at most 1048576: NARROWER than '..Said'. Prove '..Said' where nothing that the law and all that it calls make is longer than what came in: it says more and counts as full. Else prove '..UptoSaid'. A law counts once. -/
mutual
def uptoBulk {H : Type} : DataW H → Nat
  | .lit (.string bytes) => bytes.length + 1
  | .lit _ => 1
  | .nil => 1
  | .ptr d => uptoBulk d + 1
  | .slice elems spare => uptoBulkAll elems + uptoBulkAll spare + 1
  | .agg parts => uptoBulkAll parts + 1
  | .iface _ d => uptoBulk d + 1
  | .map entries => uptoBulkEntries entries + 1
  | .held _ => 1
def uptoBulkAll {H : Type} : List (DataW H) → Nat
  | [] => 0
  | d :: r => uptoBulk d + uptoBulkAll r
def uptoBulkEntries {H : Type} : List (Lit × DataW H) → Nat
  | [] => 0
  | x :: r => uptoBulkEntry x + uptoBulkEntries r
def uptoBulkEntry {H : Type} : Lit × DataW H → Nat
  | (.string bytes, d) => bytes.length + uptoBulk d + 1
  | (_, d) => uptoBulk d + 1
 end
def uptoSmall : (H : Type) → List (DataW H) → Bool := fun _ ds => decide (uptoBulkAll ds ≤ 1048576)
def OpenSpec.upto (s : _root_.Go.ChangeSpec) : _root_.Go.OpenSpec := { _root_.Go.OpenSpec.ofChange s with cond := some uptoSmall }

/-- 'masterdisclaw40.MetadataMirrors', WHERE WHAT IT READS IS OF BULK AT MOST 1048576: true; the input reads as it did. -/
def metadataMirrorsUptoRow : OpenClaim := { program := "ytddjikplekbchaa", sum := "d78a87b11b7e73583b888bb09e33e5c9af1a90a24f14bccccc12c646b49f42dd", func := "masterdisc/masterdisclaw40.MetadataMirrors", spec := "metadataMirrors", unfollowed := true, recurses := true, apart := false, narrowed := true }
def MetadataMirrorsUptoSaid : Prop := metadataMirrorsUptoRow.holds Try.pinned (OpenSpec.upto metadataMirrorsSpec)

/-- 'masterdisclaw34.IcbModes', WHERE WHAT IT READS IS OF BULK AT MOST 1048576: true; the input reads as it did. -/
def icbModesUptoRow : OpenClaim := { program := "ytddjikplekbchaa", sum := "d78a87b11b7e73583b888bb09e33e5c9af1a90a24f14bccccc12c646b49f42dd", func := "masterdisc/masterdisclaw34.IcbModes", spec := "icbModes", inPlace := ["internal/abi.NoEscape", "internal/bytealg.MakeNoZero"], unfollowed := true, recurses := true, apart := false, narrowed := true }
def IcbModesUptoSaid : Prop := icbModesUptoRow.holds Try.pinned (OpenSpec.upto icbModesSpec)

/-- 'masterdisclaw34.IcbReturns', WHERE WHAT IT READS IS OF BULK AT MOST 1048576: true; the input reads as it did. -/
def icbReturnsUptoRow : OpenClaim := { program := "ytddjikplekbchaa", sum := "d78a87b11b7e73583b888bb09e33e5c9af1a90a24f14bccccc12c646b49f42dd", func := "masterdisc/masterdisclaw34.IcbReturns", spec := "icbReturns", inPlace := ["internal/abi.NoEscape", "internal/bytealg.MakeNoZero"], unfollowed := true, recurses := true, apart := false, narrowed := true }
def IcbReturnsUptoSaid : Prop := icbReturnsUptoRow.holds Try.pinned (OpenSpec.upto icbReturnsSpec)

/-- 'masterdisclaw34.IcbFits', WHERE WHAT IT READS IS OF BULK AT MOST 1048576: true; the input reads as it did. -/
def icbFitsUptoRow : OpenClaim := { program := "ytddjikplekbchaa", sum := "d78a87b11b7e73583b888bb09e33e5c9af1a90a24f14bccccc12c646b49f42dd", func := "masterdisc/masterdisclaw34.IcbFits", spec := "icbFits", inPlace := ["internal/abi.NoEscape", "internal/bytealg.MakeNoZero"], unfollowed := true, recurses := true, apart := false, narrowed := true }
def IcbFitsUptoSaid : Prop := icbFitsUptoRow.holds Try.pinned (OpenSpec.upto icbFitsSpec)

/-- 'masterdisclaw34.IcbAgain', WHERE WHAT IT READS IS OF BULK AT MOST 1048576: true; the input reads as it did. -/
def icbAgainUptoRow : OpenClaim := { program := "ytddjikplekbchaa", sum := "d78a87b11b7e73583b888bb09e33e5c9af1a90a24f14bccccc12c646b49f42dd", func := "masterdisc/masterdisclaw34.IcbAgain", spec := "icbAgain", inPlace := ["internal/abi.NoEscape", "internal/bytealg.MakeNoZero"], unfollowed := true, recurses := true, apart := false, narrowed := true }
def IcbAgainUptoSaid : Prop := icbAgainUptoRow.holds Try.pinned (OpenSpec.upto icbAgainSpec)

/-- 'masterdisclaw34.IcbFields', WHERE WHAT IT READS IS OF BULK AT MOST 1048576: true; the input reads as it did. -/
def icbFieldsUptoRow : OpenClaim := { program := "ytddjikplekbchaa", sum := "d78a87b11b7e73583b888bb09e33e5c9af1a90a24f14bccccc12c646b49f42dd", func := "masterdisc/masterdisclaw34.IcbFields", spec := "icbFields", inPlace := ["internal/abi.NoEscape", "internal/bytealg.MakeNoZero"], unfollowed := true, recurses := true, apart := false, narrowed := true }
def IcbFieldsUptoSaid : Prop := icbFieldsUptoRow.holds Try.pinned (OpenSpec.upto icbFieldsSpec)

end Rows
end Go.Proofs.Ytddjikplekbchaa
