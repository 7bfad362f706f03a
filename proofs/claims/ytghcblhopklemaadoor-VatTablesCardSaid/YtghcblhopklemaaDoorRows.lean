/-
  NARROWER THAN 'FOR EVERY INPUT', by the rows' own cells (each row's printed sentence says how): VatBlocks: laid · VatNext: laid · VatUpdates: laid · VatTables: laid · VatReturns: laid.
  DERIVED. THE GIVEN ROWS OF THIS SEAT. 5 by the template 'for every input the law returns true; each argument reads behind the call as it read before'; 0 by the template 'total and deterministic' (their statements: YtghcblhopklemaaDoorTotals.lean).
  GIVEN WITH THE SEED: the statements are not yours to turn. If you find one false, say at which input.
  Laid BY PROGRAM, IN A SANDBOX (cutbox-rows.mjs): the forced cells as the released guide's own fill.sh prints them over the translation 69e9c0c4a8e548c9… (all of the seat's roots in one cut). By AI agents, Wed Nov 11 2026. No macro, syntax, notation, axiom, sorry.
-/
import Derived.Test.YtghcblhopklemaaDoorChecked
import GoSem.PinnedTables
import GoSem.Claim
import GoSem.ClaimJoined
import GoSem.ClaimMapViews
import Derived.JoinedTies
import Derived.KernelRfl
namespace Go.Proofs.YtghcblhopklemaaDoor
/- THE CELL 'sum', in the pinned program and in every row, IS THE sha256 OF THE DUMP (.gsa) THAT YtghcblhopklemaaDoorProg.lean LOADS. Nothing in Lean hashes anything: it is a label: what it is worth is what the hold of that sum in a sandbox is worth. -/
noncomputable def Tryd.pinned : Pinned := { name := "ytghcblhopklemaadoor", sum := "69e9c0c4a8e548c9ea271acface3f5f356e5d3dcd32b0f197a621065d117b221", checked := Tryd.checked }
namespace Rows
def none {H : Type} : Left H := { results := [], args := [] }

/- WHAT THE LISTED PACKAGE-LEVEL VARIABLES READ AS WHEN THE CALL BEGINS. Each datum BY PROGRAM (the guide's laid-datum.mjs) off the statement by which the dump's own 'gosem.cut.vars' lays the variable. In a bare row this is a premise. The card (YtghcblhopklemaaDoorCards.lean) ties it to the program's text. -/
def laid_unicode_utf8_acceptRanges {H : Type} : DataW H := .agg [.agg [.lit (.int .u8 128), .lit (.int .u8 191)], .agg [.lit (.int .u8 160), .lit (.int .u8 191)], .agg [.lit (.int .u8 128), .lit (.int .u8 159)], .agg [.lit (.int .u8 144), .lit (.int .u8 191)], .agg [.lit (.int .u8 128), .lit (.int .u8 143)], .agg [.lit (.int .u8 0), .lit (.int .u8 0)], .agg [.lit (.int .u8 0), .lit (.int .u8 0)], .agg [.lit (.int .u8 0), .lit (.int .u8 0)], .agg [.lit (.int .u8 0), .lit (.int .u8 0)], .agg [.lit (.int .u8 0), .lit (.int .u8 0)], .agg [.lit (.int .u8 0), .lit (.int .u8 0)], .agg [.lit (.int .u8 0), .lit (.int .u8 0)], .agg [.lit (.int .u8 0), .lit (.int .u8 0)], .agg [.lit (.int .u8 0), .lit (.int .u8 0)], .agg [.lit (.int .u8 0), .lit (.int .u8 0)], .agg [.lit (.int .u8 0), .lit (.int .u8 0)]]
/-- One of Go's own tables, pinned by name: the form's constant. -/
def laid_unicode_utf8_first : DataW Unit := Go.Pinned.utf8First

/-- 'masterdisclaw38.VatBlocks': WHATEVER THE INPUT: true; the input reads as it did. -/
def vatBlocksSpec : ChangeSpec := { name := "vatBlocks", fn := fun _ => fun
  | [d1, d2, d3, d4, d5] => { results := [.lit (.bool true)], args := [d1, d2, d3, d4, d5] }
  | _ => none }
def vatBlocksRow : OpenClaim := { program := "ytghcblhopklemaadoor", sum := "69e9c0c4a8e548c9ea271acface3f5f356e5d3dcd32b0f197a621065d117b221", func := "masterdisc/masterdisclaw38.VatBlocks", spec := "vatBlocks", inPlace := ["internal/abi.NoEscape", "internal/bytealg.MakeNoZero"], unfollowed := true, recurses := true, named := ["unicode/utf8.first", "unicode/utf8.acceptRanges"], apart := false, laid := [("unicode/utf8.acceptRanges", laid_unicode_utf8_acceptRanges), ("unicode/utf8.first", laid_unicode_utf8_first)] }
def VatBlocksSaid : Prop := vatBlocksRow.holds Tryd.pinned (OpenSpec.ofChange vatBlocksSpec)

/-- ITS FALSE NEIGHBOUR: 'it returns false'. Refute it at one input. -/
def vatBlocksWrong : ChangeSpec := { name := "vatBlocks", fn := fun _ => fun
  | [d1, d2, d3, d4, d5] => { results := [.lit (.bool false)], args := [d1, d2, d3, d4, d5] }
  | _ => none }
def VatBlocksWrongFalsely : Prop := vatBlocksRow.holds Tryd.pinned (OpenSpec.ofChange vatBlocksWrong)

/-- 'masterdisclaw38.VatNext': WHATEVER THE INPUT: true; the input reads as it did. -/
def vatNextSpec : ChangeSpec := { name := "vatNext", fn := fun _ => fun
  | [d1, d2] => { results := [.lit (.bool true)], args := [d1, d2] }
  | _ => none }
def vatNextRow : OpenClaim := { program := "ytghcblhopklemaadoor", sum := "69e9c0c4a8e548c9ea271acface3f5f356e5d3dcd32b0f197a621065d117b221", func := "masterdisc/masterdisclaw38.VatNext", spec := "vatNext", inPlace := ["internal/abi.NoEscape", "internal/bytealg.MakeNoZero"], unfollowed := true, recurses := true, named := ["unicode/utf8.first", "unicode/utf8.acceptRanges"], apart := false, laid := [("unicode/utf8.acceptRanges", laid_unicode_utf8_acceptRanges), ("unicode/utf8.first", laid_unicode_utf8_first)] }
def VatNextSaid : Prop := vatNextRow.holds Tryd.pinned (OpenSpec.ofChange vatNextSpec)

/-- ITS FALSE NEIGHBOUR: 'it returns false'. Refute it at one input. -/
def vatNextWrong : ChangeSpec := { name := "vatNext", fn := fun _ => fun
  | [d1, d2] => { results := [.lit (.bool false)], args := [d1, d2] }
  | _ => none }
def VatNextWrongFalsely : Prop := vatNextRow.holds Tryd.pinned (OpenSpec.ofChange vatNextWrong)

/-- 'masterdisclaw38.VatUpdates': WHATEVER THE INPUT: true; the input reads as it did. -/
def vatUpdatesSpec : ChangeSpec := { name := "vatUpdates", fn := fun _ => fun
  | [d1, d2, d3] => { results := [.lit (.bool true)], args := [d1, d2, d3] }
  | _ => none }
def vatUpdatesRow : OpenClaim := { program := "ytghcblhopklemaadoor", sum := "69e9c0c4a8e548c9ea271acface3f5f356e5d3dcd32b0f197a621065d117b221", func := "masterdisc/masterdisclaw38.VatUpdates", spec := "vatUpdates", inPlace := ["internal/abi.NoEscape", "internal/bytealg.MakeNoZero"], unfollowed := true, recurses := true, named := ["unicode/utf8.first", "unicode/utf8.acceptRanges"], apart := false, laid := [("unicode/utf8.acceptRanges", laid_unicode_utf8_acceptRanges), ("unicode/utf8.first", laid_unicode_utf8_first)] }
def VatUpdatesSaid : Prop := vatUpdatesRow.holds Tryd.pinned (OpenSpec.ofChange vatUpdatesSpec)

/-- ITS FALSE NEIGHBOUR: 'it returns false'. Refute it at one input. -/
def vatUpdatesWrong : ChangeSpec := { name := "vatUpdates", fn := fun _ => fun
  | [d1, d2, d3] => { results := [.lit (.bool false)], args := [d1, d2, d3] }
  | _ => none }
def VatUpdatesWrongFalsely : Prop := vatUpdatesRow.holds Tryd.pinned (OpenSpec.ofChange vatUpdatesWrong)

/-- 'masterdisclaw38.VatTables': WHATEVER THE INPUT: true; the input reads as it did. -/
def vatTablesSpec : ChangeSpec := { name := "vatTables", fn := fun _ => fun
  | [d1, d2, d3] => { results := [.lit (.bool true)], args := [d1, d2, d3] }
  | _ => none }
def vatTablesRow : OpenClaim := { program := "ytghcblhopklemaadoor", sum := "69e9c0c4a8e548c9ea271acface3f5f356e5d3dcd32b0f197a621065d117b221", func := "masterdisc/masterdisclaw38.VatTables", spec := "vatTables", inPlace := ["internal/abi.NoEscape", "internal/bytealg.MakeNoZero"], unfollowed := true, recurses := true, named := ["unicode/utf8.first", "unicode/utf8.acceptRanges"], apart := false, laid := [("unicode/utf8.acceptRanges", laid_unicode_utf8_acceptRanges), ("unicode/utf8.first", laid_unicode_utf8_first)] }
def VatTablesSaid : Prop := vatTablesRow.holds Tryd.pinned (OpenSpec.ofChange vatTablesSpec)

/-- ITS FALSE NEIGHBOUR: 'it returns false'. Refute it at one input. -/
def vatTablesWrong : ChangeSpec := { name := "vatTables", fn := fun _ => fun
  | [d1, d2, d3] => { results := [.lit (.bool false)], args := [d1, d2, d3] }
  | _ => none }
def VatTablesWrongFalsely : Prop := vatTablesRow.holds Tryd.pinned (OpenSpec.ofChange vatTablesWrong)

/-- 'masterdisclaw38.VatReturns': WHATEVER THE INPUT: true; the input reads as it did. -/
def vatReturnsSpec : ChangeSpec := { name := "vatReturns", fn := fun _ => fun
  | [d] => { results := [.lit (.bool true)], args := [d] }
  | _ => none }
def vatReturnsRow : OpenClaim := { program := "ytghcblhopklemaadoor", sum := "69e9c0c4a8e548c9ea271acface3f5f356e5d3dcd32b0f197a621065d117b221", func := "masterdisc/masterdisclaw38.VatReturns", spec := "vatReturns", inPlace := ["internal/abi.NoEscape", "internal/bytealg.MakeNoZero"], unfollowed := true, recurses := true, named := ["unicode/utf8.first", "unicode/utf8.acceptRanges"], apart := false, laid := [("unicode/utf8.acceptRanges", laid_unicode_utf8_acceptRanges), ("unicode/utf8.first", laid_unicode_utf8_first)] }
def VatReturnsSaid : Prop := vatReturnsRow.holds Tryd.pinned (OpenSpec.ofChange vatReturnsSpec)

/-- ITS FALSE NEIGHBOUR: 'it returns false'. Refute it at one input. -/
def vatReturnsWrong : ChangeSpec := { name := "vatReturns", fn := fun _ => fun
  | [d] => { results := [.lit (.bool false)], args := [d] }
  | _ => none }
def VatReturnsWrongFalsely : Prop := vatReturnsRow.holds Tryd.pinned (OpenSpec.ofChange vatReturnsWrong)

/- THE SECOND FORM. 'bulk': how many values and letters a reading holds, each counted each time it is reached (what is shared counts as often as it is met; a slice's spare places count too). A statement '..UptoSaid' is the law's where the arguments, and the package variables that the reading takes, are together of bulk at most 1048576: NARROWER than '..Said'. Prove '..Said' where nothing that the law and all that it calls make is longer than what came in: it says more and counts as full. Else prove '..UptoSaid'. A law counts once. -/
mutual
def uptoBulk {H : Type} : DataW H → Nat
  | .lit (.string bytes) => bytes.length + 1
  | .lit _ => 1
  | .nil => 1
  | .ptr d => uptoBulk d + 1
  | .slice elems spare => uptoBulkAll elems + uptoBulkAll spare + 1
  | .agg parts => uptoBulkAll parts + 1
  | .iface _ d => uptoBulk d + 1
  | .map entries => uptoBulkEntries entries + 1
  | .held _ => 1
def uptoBulkAll {H : Type} : List (DataW H) → Nat
  | [] => 0
  | d :: r => uptoBulk d + uptoBulkAll r
def uptoBulkEntries {H : Type} : List (Lit × DataW H) → Nat
  | [] => 0
  | x :: r => uptoBulkEntry x + uptoBulkEntries r
def uptoBulkEntry {H : Type} : Lit × DataW H → Nat
  | (.string bytes, d) => bytes.length + uptoBulk d + 1
  | (_, d) => uptoBulk d + 1
 end
def uptoSmall : (H : Type) → List (DataW H) → Bool := fun _ ds => decide (uptoBulkAll ds ≤ 1048576)
def OpenSpec.upto (s : _root_.Go.ChangeSpec) : _root_.Go.OpenSpec := { _root_.Go.OpenSpec.ofChange s with cond := some uptoSmall }

/-- 'masterdisclaw38.VatBlocks', WHERE WHAT IT READS IS OF BULK AT MOST 1048576: true; the input reads as it did. -/
def vatBlocksUptoRow : OpenClaim := { program := "ytghcblhopklemaadoor", sum := "69e9c0c4a8e548c9ea271acface3f5f356e5d3dcd32b0f197a621065d117b221", func := "masterdisc/masterdisclaw38.VatBlocks", spec := "vatBlocks", inPlace := ["internal/abi.NoEscape", "internal/bytealg.MakeNoZero"], unfollowed := true, recurses := true, named := ["unicode/utf8.first", "unicode/utf8.acceptRanges"], apart := false, laid := [("unicode/utf8.acceptRanges", laid_unicode_utf8_acceptRanges), ("unicode/utf8.first", laid_unicode_utf8_first)], narrowed := true }
def VatBlocksUptoSaid : Prop := vatBlocksUptoRow.holds Tryd.pinned (OpenSpec.upto vatBlocksSpec)

/-- 'masterdisclaw38.VatNext', WHERE WHAT IT READS IS OF BULK AT MOST 1048576: true; the input reads as it did. -/
def vatNextUptoRow : OpenClaim := { program := "ytghcblhopklemaadoor", sum := "69e9c0c4a8e548c9ea271acface3f5f356e5d3dcd32b0f197a621065d117b221", func := "masterdisc/masterdisclaw38.VatNext", spec := "vatNext", inPlace := ["internal/abi.NoEscape", "internal/bytealg.MakeNoZero"], unfollowed := true, recurses := true, named := ["unicode/utf8.first", "unicode/utf8.acceptRanges"], apart := false, laid := [("unicode/utf8.acceptRanges", laid_unicode_utf8_acceptRanges), ("unicode/utf8.first", laid_unicode_utf8_first)], narrowed := true }
def VatNextUptoSaid : Prop := vatNextUptoRow.holds Tryd.pinned (OpenSpec.upto vatNextSpec)

/-- 'masterdisclaw38.VatUpdates', WHERE WHAT IT READS IS OF BULK AT MOST 1048576: true; the input reads as it did. -/
def vatUpdatesUptoRow : OpenClaim := { program := "ytghcblhopklemaadoor", sum := "69e9c0c4a8e548c9ea271acface3f5f356e5d3dcd32b0f197a621065d117b221", func := "masterdisc/masterdisclaw38.VatUpdates", spec := "vatUpdates", inPlace := ["internal/abi.NoEscape", "internal/bytealg.MakeNoZero"], unfollowed := true, recurses := true, named := ["unicode/utf8.first", "unicode/utf8.acceptRanges"], apart := false, laid := [("unicode/utf8.acceptRanges", laid_unicode_utf8_acceptRanges), ("unicode/utf8.first", laid_unicode_utf8_first)], narrowed := true }
def VatUpdatesUptoSaid : Prop := vatUpdatesUptoRow.holds Tryd.pinned (OpenSpec.upto vatUpdatesSpec)

/-- 'masterdisclaw38.VatTables', WHERE WHAT IT READS IS OF BULK AT MOST 1048576: true; the input reads as it did. -/
def vatTablesUptoRow : OpenClaim := { program := "ytghcblhopklemaadoor", sum := "69e9c0c4a8e548c9ea271acface3f5f356e5d3dcd32b0f197a621065d117b221", func := "masterdisc/masterdisclaw38.VatTables", spec := "vatTables", inPlace := ["internal/abi.NoEscape", "internal/bytealg.MakeNoZero"], unfollowed := true, recurses := true, named := ["unicode/utf8.first", "unicode/utf8.acceptRanges"], apart := false, laid := [("unicode/utf8.acceptRanges", laid_unicode_utf8_acceptRanges), ("unicode/utf8.first", laid_unicode_utf8_first)], narrowed := true }
def VatTablesUptoSaid : Prop := vatTablesUptoRow.holds Tryd.pinned (OpenSpec.upto vatTablesSpec)

/-- 'masterdisclaw38.VatReturns', WHERE WHAT IT READS IS OF BULK AT MOST 1048576: true; the input reads as it did. -/
def vatReturnsUptoRow : OpenClaim := { program := "ytghcblhopklemaadoor", sum := "69e9c0c4a8e548c9ea271acface3f5f356e5d3dcd32b0f197a621065d117b221", func := "masterdisc/masterdisclaw38.VatReturns", spec := "vatReturns", inPlace := ["internal/abi.NoEscape", "internal/bytealg.MakeNoZero"], unfollowed := true, recurses := true, named := ["unicode/utf8.first", "unicode/utf8.acceptRanges"], apart := false, laid := [("unicode/utf8.acceptRanges", laid_unicode_utf8_acceptRanges), ("unicode/utf8.first", laid_unicode_utf8_first)], narrowed := true }
def VatReturnsUptoSaid : Prop := vatReturnsUptoRow.holds Tryd.pinned (OpenSpec.upto vatReturnsSpec)

end Rows
end Go.Proofs.YtghcblhopklemaaDoor
