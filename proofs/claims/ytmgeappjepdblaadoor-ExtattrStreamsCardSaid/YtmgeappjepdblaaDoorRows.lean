/-
  NARROWER THAN 'FOR EVERY INPUT', by the rows' own cells (each row's printed sentence says how): ExtattrEncodes: laid · ExtattrReturns: laid · ExtattrOffsets: laid · ExtattrStreams: laid · ExtattrNames: laid · ExtattrSets: laid · ExtattrKeeps: laid.
  DERIVED. THE GIVEN ROWS OF THIS SEAT. 7 by the template 'for every input the law returns true; each argument reads behind the call as it read before'; 0 by the template 'total and deterministic' (their statements: YtmgeappjepdblaaDoorTotals.lean).
  GIVEN WITH THE SEED: the statements are not yours to turn. If you find one false, say at which input.
  Laid BY PROGRAM, IN A SANDBOX (cutbox-rows.mjs): the forced cells as the released guide's own fill.sh prints them over the translation 028bee48658dffe2… (all of the seat's roots in one cut). By AI agents, Wed Nov 11 2026. No macro, syntax, notation, axiom, sorry.
-/
import Derived.Test.YtmgeappjepdblaaDoorChecked
import GoSem.PinnedTables
import GoSem.Claim
import GoSem.ClaimJoined
import GoSem.ClaimMapViews
import Derived.JoinedTies
import Derived.KernelRfl
namespace Go.Proofs.YtmgeappjepdblaaDoor
/- THE CELL 'sum', in the pinned program and in every row, IS THE sha256 OF THE DUMP (.gsa) THAT YtmgeappjepdblaaDoorProg.lean LOADS. Nothing in Lean hashes anything: it is a label: what it is worth is what the hold of that sum in a sandbox is worth. -/
noncomputable def Tryd.pinned : Pinned := { name := "ytmgeappjepdblaadoor", sum := "028bee48658dffe2b900c1c6e11b0a30a60e77b611e08685abff340c49c0b744", checked := Tryd.checked }
namespace Rows
def none {H : Type} : Left H := { results := [], args := [] }

/- WHAT THE LISTED PACKAGE-LEVEL VARIABLES READ AS WHEN THE CALL BEGINS. Each datum BY PROGRAM (the guide's laid-datum.mjs) off the statement by which the dump's own 'gosem.cut.vars' lays the variable. In a bare row this is a premise. The card (YtmgeappjepdblaaDoorCards.lean) ties it to the program's text. -/
def laid_unicode_utf8_acceptRanges {H : Type} : DataW H := .agg [.agg [.lit (.int .u8 128), .lit (.int .u8 191)], .agg [.lit (.int .u8 160), .lit (.int .u8 191)], .agg [.lit (.int .u8 128), .lit (.int .u8 159)], .agg [.lit (.int .u8 144), .lit (.int .u8 191)], .agg [.lit (.int .u8 128), .lit (.int .u8 143)], .agg [.lit (.int .u8 0), .lit (.int .u8 0)], .agg [.lit (.int .u8 0), .lit (.int .u8 0)], .agg [.lit (.int .u8 0), .lit (.int .u8 0)], .agg [.lit (.int .u8 0), .lit (.int .u8 0)], .agg [.lit (.int .u8 0), .lit (.int .u8 0)], .agg [.lit (.int .u8 0), .lit (.int .u8 0)], .agg [.lit (.int .u8 0), .lit (.int .u8 0)], .agg [.lit (.int .u8 0), .lit (.int .u8 0)], .agg [.lit (.int .u8 0), .lit (.int .u8 0)], .agg [.lit (.int .u8 0), .lit (.int .u8 0)], .agg [.lit (.int .u8 0), .lit (.int .u8 0)]]
/-- One of Go's own tables, pinned by name: the form's constant. -/
def laid_unicode_utf8_first : DataW Unit := Go.Pinned.utf8First

/-- 'masterdisclaw42.ExtattrEncodes': WHATEVER THE INPUT: true; the input reads as it did. -/
def extattrEncodesSpec : ChangeSpec := { name := "extattrEncodes", fn := fun _ => fun
  | [d1, d2, d3, d4] => { results := [.lit (.bool true)], args := [d1, d2, d3, d4] }
  | _ => none }
def extattrEncodesRow : OpenClaim := { program := "ytmgeappjepdblaadoor", sum := "028bee48658dffe2b900c1c6e11b0a30a60e77b611e08685abff340c49c0b744", func := "masterdisc/masterdisclaw42.ExtattrEncodes", spec := "extattrEncodes", inPlace := ["internal/abi.NoEscape", "internal/bytealg.MakeNoZero"], unfollowed := true, recurses := true, named := ["unicode/utf8.first", "unicode/utf8.acceptRanges"], apart := false, laid := [("unicode/utf8.acceptRanges", laid_unicode_utf8_acceptRanges), ("unicode/utf8.first", laid_unicode_utf8_first)] }
def ExtattrEncodesSaid : Prop := extattrEncodesRow.holds Tryd.pinned (OpenSpec.ofChange extattrEncodesSpec)

/-- ITS FALSE NEIGHBOUR: 'it returns false'. Refute it at one input. -/
def extattrEncodesWrong : ChangeSpec := { name := "extattrEncodes", fn := fun _ => fun
  | [d1, d2, d3, d4] => { results := [.lit (.bool false)], args := [d1, d2, d3, d4] }
  | _ => none }
def ExtattrEncodesWrongFalsely : Prop := extattrEncodesRow.holds Tryd.pinned (OpenSpec.ofChange extattrEncodesWrong)

/-- 'masterdisclaw42.ExtattrReturns': WHATEVER THE INPUT: true; the input reads as it did. -/
def extattrReturnsSpec : ChangeSpec := { name := "extattrReturns", fn := fun _ => fun
  | [d1, d2] => { results := [.lit (.bool true)], args := [d1, d2] }
  | _ => none }
def extattrReturnsRow : OpenClaim := { program := "ytmgeappjepdblaadoor", sum := "028bee48658dffe2b900c1c6e11b0a30a60e77b611e08685abff340c49c0b744", func := "masterdisc/masterdisclaw42.ExtattrReturns", spec := "extattrReturns", inPlace := ["internal/abi.NoEscape", "internal/bytealg.MakeNoZero"], unfollowed := true, recurses := true, named := ["unicode/utf8.first", "unicode/utf8.acceptRanges"], apart := false, laid := [("unicode/utf8.acceptRanges", laid_unicode_utf8_acceptRanges), ("unicode/utf8.first", laid_unicode_utf8_first)] }
def ExtattrReturnsSaid : Prop := extattrReturnsRow.holds Tryd.pinned (OpenSpec.ofChange extattrReturnsSpec)

/-- ITS FALSE NEIGHBOUR: 'it returns false'. Refute it at one input. -/
def extattrReturnsWrong : ChangeSpec := { name := "extattrReturns", fn := fun _ => fun
  | [d1, d2] => { results := [.lit (.bool false)], args := [d1, d2] }
  | _ => none }
def ExtattrReturnsWrongFalsely : Prop := extattrReturnsRow.holds Tryd.pinned (OpenSpec.ofChange extattrReturnsWrong)

/-- 'masterdisclaw42.ExtattrOffsets': WHATEVER THE INPUT: true; the input reads as it did. -/
def extattrOffsetsSpec : ChangeSpec := { name := "extattrOffsets", fn := fun _ => fun
  | [d1, d2] => { results := [.lit (.bool true)], args := [d1, d2] }
  | _ => none }
def extattrOffsetsRow : OpenClaim := { program := "ytmgeappjepdblaadoor", sum := "028bee48658dffe2b900c1c6e11b0a30a60e77b611e08685abff340c49c0b744", func := "masterdisc/masterdisclaw42.ExtattrOffsets", spec := "extattrOffsets", inPlace := ["internal/abi.NoEscape", "internal/bytealg.MakeNoZero"], unfollowed := true, recurses := true, named := ["unicode/utf8.first", "unicode/utf8.acceptRanges"], apart := false, laid := [("unicode/utf8.acceptRanges", laid_unicode_utf8_acceptRanges), ("unicode/utf8.first", laid_unicode_utf8_first)] }
def ExtattrOffsetsSaid : Prop := extattrOffsetsRow.holds Tryd.pinned (OpenSpec.ofChange extattrOffsetsSpec)

/-- ITS FALSE NEIGHBOUR: 'it returns false'. Refute it at one input. -/
def extattrOffsetsWrong : ChangeSpec := { name := "extattrOffsets", fn := fun _ => fun
  | [d1, d2] => { results := [.lit (.bool false)], args := [d1, d2] }
  | _ => none }
def ExtattrOffsetsWrongFalsely : Prop := extattrOffsetsRow.holds Tryd.pinned (OpenSpec.ofChange extattrOffsetsWrong)

/-- 'masterdisclaw42.ExtattrStreams': WHATEVER THE INPUT: true; the input reads as it did. -/
def extattrStreamsSpec : ChangeSpec := { name := "extattrStreams", fn := fun _ => fun
  | [d1, d2, d3, d4, d5] => { results := [.lit (.bool true)], args := [d1, d2, d3, d4, d5] }
  | _ => none }
def extattrStreamsRow : OpenClaim := { program := "ytmgeappjepdblaadoor", sum := "028bee48658dffe2b900c1c6e11b0a30a60e77b611e08685abff340c49c0b744", func := "masterdisc/masterdisclaw42.ExtattrStreams", spec := "extattrStreams", inPlace := ["internal/abi.NoEscape", "internal/bytealg.MakeNoZero"], unfollowed := true, recurses := true, named := ["unicode/utf8.first", "unicode/utf8.acceptRanges"], apart := false, laid := [("unicode/utf8.acceptRanges", laid_unicode_utf8_acceptRanges), ("unicode/utf8.first", laid_unicode_utf8_first)] }
def ExtattrStreamsSaid : Prop := extattrStreamsRow.holds Tryd.pinned (OpenSpec.ofChange extattrStreamsSpec)

/-- ITS FALSE NEIGHBOUR: 'it returns false'. Refute it at one input. -/
def extattrStreamsWrong : ChangeSpec := { name := "extattrStreams", fn := fun _ => fun
  | [d1, d2, d3, d4, d5] => { results := [.lit (.bool false)], args := [d1, d2, d3, d4, d5] }
  | _ => none }
def ExtattrStreamsWrongFalsely : Prop := extattrStreamsRow.holds Tryd.pinned (OpenSpec.ofChange extattrStreamsWrong)

/-- 'masterdisclaw42.ExtattrNames': WHATEVER THE INPUT: true; the input reads as it did. -/
def extattrNamesSpec : ChangeSpec := { name := "extattrNames", fn := fun _ => fun
  | [d1, d2, d3, d4] => { results := [.lit (.bool true)], args := [d1, d2, d3, d4] }
  | _ => none }
def extattrNamesRow : OpenClaim := { program := "ytmgeappjepdblaadoor", sum := "028bee48658dffe2b900c1c6e11b0a30a60e77b611e08685abff340c49c0b744", func := "masterdisc/masterdisclaw42.ExtattrNames", spec := "extattrNames", inPlace := ["internal/abi.NoEscape", "internal/bytealg.MakeNoZero"], unfollowed := true, recurses := true, named := ["unicode/utf8.first", "unicode/utf8.acceptRanges"], apart := false, laid := [("unicode/utf8.acceptRanges", laid_unicode_utf8_acceptRanges), ("unicode/utf8.first", laid_unicode_utf8_first)] }
def ExtattrNamesSaid : Prop := extattrNamesRow.holds Tryd.pinned (OpenSpec.ofChange extattrNamesSpec)

/-- ITS FALSE NEIGHBOUR: 'it returns false'. Refute it at one input. -/
def extattrNamesWrong : ChangeSpec := { name := "extattrNames", fn := fun _ => fun
  | [d1, d2, d3, d4] => { results := [.lit (.bool false)], args := [d1, d2, d3, d4] }
  | _ => none }
def ExtattrNamesWrongFalsely : Prop := extattrNamesRow.holds Tryd.pinned (OpenSpec.ofChange extattrNamesWrong)

/-- 'masterdisclaw42.ExtattrSets': WHATEVER THE INPUT: true; the input reads as it did. -/
def extattrSetsSpec : ChangeSpec := { name := "extattrSets", fn := fun _ => fun
  | [d1, d2, d3, d4] => { results := [.lit (.bool true)], args := [d1, d2, d3, d4] }
  | _ => none }
def extattrSetsRow : OpenClaim := { program := "ytmgeappjepdblaadoor", sum := "028bee48658dffe2b900c1c6e11b0a30a60e77b611e08685abff340c49c0b744", func := "masterdisc/masterdisclaw42.ExtattrSets", spec := "extattrSets", inPlace := ["internal/abi.NoEscape", "internal/bytealg.MakeNoZero", "slices.overlaps[masterdisc/api.Attribute]"], unfollowed := true, recurses := true, named := ["unicode/utf8.first", "unicode/utf8.acceptRanges"], apart := false, laid := [("unicode/utf8.acceptRanges", laid_unicode_utf8_acceptRanges), ("unicode/utf8.first", laid_unicode_utf8_first)] }
def ExtattrSetsSaid : Prop := extattrSetsRow.holds Tryd.pinned (OpenSpec.ofChange extattrSetsSpec)

/-- ITS FALSE NEIGHBOUR: 'it returns false'. Refute it at one input. -/
def extattrSetsWrong : ChangeSpec := { name := "extattrSets", fn := fun _ => fun
  | [d1, d2, d3, d4] => { results := [.lit (.bool false)], args := [d1, d2, d3, d4] }
  | _ => none }
def ExtattrSetsWrongFalsely : Prop := extattrSetsRow.holds Tryd.pinned (OpenSpec.ofChange extattrSetsWrong)

/-- 'masterdisclaw42.ExtattrKeeps': WHATEVER THE INPUT: true; the input reads as it did. -/
def extattrKeepsSpec : ChangeSpec := { name := "extattrKeeps", fn := fun _ => fun
  | [d1, d2, d3, d4] => { results := [.lit (.bool true)], args := [d1, d2, d3, d4] }
  | _ => none }
def extattrKeepsRow : OpenClaim := { program := "ytmgeappjepdblaadoor", sum := "028bee48658dffe2b900c1c6e11b0a30a60e77b611e08685abff340c49c0b744", func := "masterdisc/masterdisclaw42.ExtattrKeeps", spec := "extattrKeeps", inPlace := ["internal/abi.NoEscape", "internal/bytealg.MakeNoZero", "slices.overlaps[masterdisc/api.Attribute]"], unfollowed := true, recurses := true, named := ["unicode/utf8.first", "unicode/utf8.acceptRanges"], apart := false, laid := [("unicode/utf8.acceptRanges", laid_unicode_utf8_acceptRanges), ("unicode/utf8.first", laid_unicode_utf8_first)] }
def ExtattrKeepsSaid : Prop := extattrKeepsRow.holds Tryd.pinned (OpenSpec.ofChange extattrKeepsSpec)

/-- ITS FALSE NEIGHBOUR: 'it returns false'. Refute it at one input. -/
def extattrKeepsWrong : ChangeSpec := { name := "extattrKeeps", fn := fun _ => fun
  | [d1, d2, d3, d4] => { results := [.lit (.bool false)], args := [d1, d2, d3, d4] }
  | _ => none }
def ExtattrKeepsWrongFalsely : Prop := extattrKeepsRow.holds Tryd.pinned (OpenSpec.ofChange extattrKeepsWrong)

/- THE SECOND FORM. 'bulk': how many values and letters a reading holds, each counted each time it is reached (what is shared counts as often as it is met; a slice's spare places count too). A statement '..UptoSaid' is the law's where the arguments, and the package variables that the reading takes, are together of bulk at most 1048576: NARROWER than '..Said'. Prove '..Said' where nothing that the law and all that it calls make is longer than what came in: it says more and counts as full. Else prove '..UptoSaid'. A law counts once. -/
mutual
def uptoBulk {H : Type} : DataW H → Nat
  | .lit (.string bytes) => bytes.length + 1
  | .lit _ => 1
  | .nil => 1
  | .ptr d => uptoBulk d + 1
  | .slice elems spare => uptoBulkAll elems + uptoBulkAll spare + 1
  | .agg parts => uptoBulkAll parts + 1
  | .iface _ d => uptoBulk d + 1
  | .map entries => uptoBulkEntries entries + 1
  | .held _ => 1
def uptoBulkAll {H : Type} : List (DataW H) → Nat
  | [] => 0
  | d :: r => uptoBulk d + uptoBulkAll r
def uptoBulkEntries {H : Type} : List (Lit × DataW H) → Nat
  | [] => 0
  | x :: r => uptoBulkEntry x + uptoBulkEntries r
def uptoBulkEntry {H : Type} : Lit × DataW H → Nat
  | (.string bytes, d) => bytes.length + uptoBulk d + 1
  | (_, d) => uptoBulk d + 1
 end
def uptoSmall : (H : Type) → List (DataW H) → Bool := fun _ ds => decide (uptoBulkAll ds ≤ 1048576)
def OpenSpec.upto (s : _root_.Go.ChangeSpec) : _root_.Go.OpenSpec := { _root_.Go.OpenSpec.ofChange s with cond := some uptoSmall }

/-- 'masterdisclaw42.ExtattrEncodes', WHERE WHAT IT READS IS OF BULK AT MOST 1048576: true; the input reads as it did. -/
def extattrEncodesUptoRow : OpenClaim := { program := "ytmgeappjepdblaadoor", sum := "028bee48658dffe2b900c1c6e11b0a30a60e77b611e08685abff340c49c0b744", func := "masterdisc/masterdisclaw42.ExtattrEncodes", spec := "extattrEncodes", inPlace := ["internal/abi.NoEscape", "internal/bytealg.MakeNoZero"], unfollowed := true, recurses := true, named := ["unicode/utf8.first", "unicode/utf8.acceptRanges"], apart := false, laid := [("unicode/utf8.acceptRanges", laid_unicode_utf8_acceptRanges), ("unicode/utf8.first", laid_unicode_utf8_first)], narrowed := true }
def ExtattrEncodesUptoSaid : Prop := extattrEncodesUptoRow.holds Tryd.pinned (OpenSpec.upto extattrEncodesSpec)

/-- 'masterdisclaw42.ExtattrReturns', WHERE WHAT IT READS IS OF BULK AT MOST 1048576: true; the input reads as it did. -/
def extattrReturnsUptoRow : OpenClaim := { program := "ytmgeappjepdblaadoor", sum := "028bee48658dffe2b900c1c6e11b0a30a60e77b611e08685abff340c49c0b744", func := "masterdisc/masterdisclaw42.ExtattrReturns", spec := "extattrReturns", inPlace := ["internal/abi.NoEscape", "internal/bytealg.MakeNoZero"], unfollowed := true, recurses := true, named := ["unicode/utf8.first", "unicode/utf8.acceptRanges"], apart := false, laid := [("unicode/utf8.acceptRanges", laid_unicode_utf8_acceptRanges), ("unicode/utf8.first", laid_unicode_utf8_first)], narrowed := true }
def ExtattrReturnsUptoSaid : Prop := extattrReturnsUptoRow.holds Tryd.pinned (OpenSpec.upto extattrReturnsSpec)

/-- 'masterdisclaw42.ExtattrOffsets', WHERE WHAT IT READS IS OF BULK AT MOST 1048576: true; the input reads as it did. -/
def extattrOffsetsUptoRow : OpenClaim := { program := "ytmgeappjepdblaadoor", sum := "028bee48658dffe2b900c1c6e11b0a30a60e77b611e08685abff340c49c0b744", func := "masterdisc/masterdisclaw42.ExtattrOffsets", spec := "extattrOffsets", inPlace := ["internal/abi.NoEscape", "internal/bytealg.MakeNoZero"], unfollowed := true, recurses := true, named := ["unicode/utf8.first", "unicode/utf8.acceptRanges"], apart := false, laid := [("unicode/utf8.acceptRanges", laid_unicode_utf8_acceptRanges), ("unicode/utf8.first", laid_unicode_utf8_first)], narrowed := true }
def ExtattrOffsetsUptoSaid : Prop := extattrOffsetsUptoRow.holds Tryd.pinned (OpenSpec.upto extattrOffsetsSpec)

/-- 'masterdisclaw42.ExtattrStreams', WHERE WHAT IT READS IS OF BULK AT MOST 1048576: true; the input reads as it did. -/
def extattrStreamsUptoRow : OpenClaim := { program := "ytmgeappjepdblaadoor", sum := "028bee48658dffe2b900c1c6e11b0a30a60e77b611e08685abff340c49c0b744", func := "masterdisc/masterdisclaw42.ExtattrStreams", spec := "extattrStreams", inPlace := ["internal/abi.NoEscape", "internal/bytealg.MakeNoZero"], unfollowed := true, recurses := true, named := ["unicode/utf8.first", "unicode/utf8.acceptRanges"], apart := false, laid := [("unicode/utf8.acceptRanges", laid_unicode_utf8_acceptRanges), ("unicode/utf8.first", laid_unicode_utf8_first)], narrowed := true }
def ExtattrStreamsUptoSaid : Prop := extattrStreamsUptoRow.holds Tryd.pinned (OpenSpec.upto extattrStreamsSpec)

/-- 'masterdisclaw42.ExtattrNames', WHERE WHAT IT READS IS OF BULK AT MOST 1048576: true; the input reads as it did. -/
def extattrNamesUptoRow : OpenClaim := { program := "ytmgeappjepdblaadoor", sum := "028bee48658dffe2b900c1c6e11b0a30a60e77b611e08685abff340c49c0b744", func := "masterdisc/masterdisclaw42.ExtattrNames", spec := "extattrNames", inPlace := ["internal/abi.NoEscape", "internal/bytealg.MakeNoZero"], unfollowed := true, recurses := true, named := ["unicode/utf8.first", "unicode/utf8.acceptRanges"], apart := false, laid := [("unicode/utf8.acceptRanges", laid_unicode_utf8_acceptRanges), ("unicode/utf8.first", laid_unicode_utf8_first)], narrowed := true }
def ExtattrNamesUptoSaid : Prop := extattrNamesUptoRow.holds Tryd.pinned (OpenSpec.upto extattrNamesSpec)

/-- 'masterdisclaw42.ExtattrSets', WHERE WHAT IT READS IS OF BULK AT MOST 1048576: true; the input reads as it did. -/
def extattrSetsUptoRow : OpenClaim := { program := "ytmgeappjepdblaadoor", sum := "028bee48658dffe2b900c1c6e11b0a30a60e77b611e08685abff340c49c0b744", func := "masterdisc/masterdisclaw42.ExtattrSets", spec := "extattrSets", inPlace := ["internal/abi.NoEscape", "internal/bytealg.MakeNoZero", "slices.overlaps[masterdisc/api.Attribute]"], unfollowed := true, recurses := true, named := ["unicode/utf8.first", "unicode/utf8.acceptRanges"], apart := false, laid := [("unicode/utf8.acceptRanges", laid_unicode_utf8_acceptRanges), ("unicode/utf8.first", laid_unicode_utf8_first)], narrowed := true }
def ExtattrSetsUptoSaid : Prop := extattrSetsUptoRow.holds Tryd.pinned (OpenSpec.upto extattrSetsSpec)

/-- 'masterdisclaw42.ExtattrKeeps', WHERE WHAT IT READS IS OF BULK AT MOST 1048576: true; the input reads as it did. -/
def extattrKeepsUptoRow : OpenClaim := { program := "ytmgeappjepdblaadoor", sum := "028bee48658dffe2b900c1c6e11b0a30a60e77b611e08685abff340c49c0b744", func := "masterdisc/masterdisclaw42.ExtattrKeeps", spec := "extattrKeeps", inPlace := ["internal/abi.NoEscape", "internal/bytealg.MakeNoZero", "slices.overlaps[masterdisc/api.Attribute]"], unfollowed := true, recurses := true, named := ["unicode/utf8.first", "unicode/utf8.acceptRanges"], apart := false, laid := [("unicode/utf8.acceptRanges", laid_unicode_utf8_acceptRanges), ("unicode/utf8.first", laid_unicode_utf8_first)], narrowed := true }
def ExtattrKeepsUptoSaid : Prop := extattrKeepsUptoRow.holds Tryd.pinned (OpenSpec.upto extattrKeepsSpec)

end Rows
end Go.Proofs.YtmgeappjepdblaaDoor
