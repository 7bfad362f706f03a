/-
  No cell of these rows narrows 'for every input' (looked for: loops, veiled, ifaces, maps, wideKeys, modest, calm, conditions, laid).
  DERIVED. THE GIVEN ROWS OF THIS SEAT. 3 by the template 'for every input the law returns true; each argument reads behind the call as it read before'; 0 by the template 'total and deterministic' (their statements: YtddjikplekbchaaGreatTotals.lean).
  GIVEN WITH THE SEED: the statements are not yours to turn. If you find one false, say at which input.
  Laid BY PROGRAM, IN A SANDBOX (cutbox-rows.mjs): the forced cells as the released guide's own fill.sh prints them over the translation 2238aee6d2d21a08… (all of the seat's roots in one cut). By AI agents, Wed Nov 11 2026. No macro, syntax, notation, axiom, sorry.
-/
import Derived.Test.YtddjikplekbchaaGreatChecked
import GoSem.Claim
import GoSem.ClaimJoined
import GoSem.ClaimMapViews
import Derived.JoinedTies
import Derived.KernelRfl
namespace Go.Proofs.YtddjikplekbchaaGreat
/- THE CELL 'sum', in the pinned program and in every row, IS THE sha256 OF THE DUMP (.gsa) THAT YtddjikplekbchaaGreatProg.lean LOADS. Nothing in Lean hashes anything: it is a label: what it is worth is what the hold of that sum in a sandbox is worth. -/
noncomputable def Tryz.pinned : Pinned := { name := "ytddjikplekbchaagreat", sum := "2238aee6d2d21a08a079997ddb5f84420f65ca0d3be582794444a930f706c1be", checked := Tryz.checked }
namespace Rows
def none {H : Type} : Left H := { results := [], args := [] }

/-- 'masterdisclaw34.IcbEncodes': WHATEVER THE INPUT: true; the input reads as it did. -/
def icbEncodesSpec : ChangeSpec := { name := "icbEncodes", fn := fun _ => fun
  | [d1, d2] => { results := [.lit (.bool true)], args := [d1, d2] }
  | _ => none }
def icbEncodesRow : OpenClaim := { program := "ytddjikplekbchaagreat", sum := "2238aee6d2d21a08a079997ddb5f84420f65ca0d3be582794444a930f706c1be", func := "masterdisc/masterdisclaw34.IcbEncodes", spec := "icbEncodes", inPlace := ["internal/abi.NoEscape", "internal/bytealg.MakeNoZero"], unfollowed := true, recurses := true, apart := false }
def IcbEncodesSaid : Prop := icbEncodesRow.holds Tryz.pinned (OpenSpec.ofChange icbEncodesSpec)

/-- ITS FALSE NEIGHBOUR: 'it returns false'. Refute it at one input. -/
def icbEncodesWrong : ChangeSpec := { name := "icbEncodes", fn := fun _ => fun
  | [d1, d2] => { results := [.lit (.bool false)], args := [d1, d2] }
  | _ => none }
def IcbEncodesWrongFalsely : Prop := icbEncodesRow.holds Tryz.pinned (OpenSpec.ofChange icbEncodesWrong)

/-- 'masterdisclaw34.IcbDecodes': WHATEVER THE INPUT: true; the input reads as it did. -/
def icbDecodesSpec : ChangeSpec := { name := "icbDecodes", fn := fun _ => fun
  | [d1, d2] => { results := [.lit (.bool true)], args := [d1, d2] }
  | _ => none }
def icbDecodesRow : OpenClaim := { program := "ytddjikplekbchaagreat", sum := "2238aee6d2d21a08a079997ddb5f84420f65ca0d3be582794444a930f706c1be", func := "masterdisc/masterdisclaw34.IcbDecodes", spec := "icbDecodes", inPlace := ["internal/abi.NoEscape", "internal/bytealg.MakeNoZero"], unfollowed := true, recurses := true, apart := false }
def IcbDecodesSaid : Prop := icbDecodesRow.holds Tryz.pinned (OpenSpec.ofChange icbDecodesSpec)

/-- ITS FALSE NEIGHBOUR: 'it returns false'. Refute it at one input. -/
def icbDecodesWrong : ChangeSpec := { name := "icbDecodes", fn := fun _ => fun
  | [d1, d2] => { results := [.lit (.bool false)], args := [d1, d2] }
  | _ => none }
def IcbDecodesWrongFalsely : Prop := icbDecodesRow.holds Tryz.pinned (OpenSpec.ofChange icbDecodesWrong)

/-- 'masterdisclaw34.IcbForms': WHATEVER THE INPUT: true; the input reads as it did. -/
def icbFormsSpec : ChangeSpec := { name := "icbForms", fn := fun _ => fun
  | [d] => { results := [.lit (.bool true)], args := [d] }
  | _ => none }
def icbFormsRow : OpenClaim := { program := "ytddjikplekbchaagreat", sum := "2238aee6d2d21a08a079997ddb5f84420f65ca0d3be582794444a930f706c1be", func := "masterdisc/masterdisclaw34.IcbForms", spec := "icbForms", inPlace := ["internal/abi.NoEscape", "internal/bytealg.MakeNoZero"], unfollowed := true, recurses := true, apart := false }
def IcbFormsSaid : Prop := icbFormsRow.holds Tryz.pinned (OpenSpec.ofChange icbFormsSpec)

/-- ITS FALSE NEIGHBOUR: 'it returns false'. Refute it at one input. -/
def icbFormsWrong : ChangeSpec := { name := "icbForms", fn := fun _ => fun
  | [d] => { results := [.lit (.bool false)], args := [d] }
  | _ => none }
def IcbFormsWrongFalsely : Prop := icbFormsRow.holds Tryz.pinned (OpenSpec.ofChange icbFormsWrong)

/- THE SECOND FORM. 'bulk': how many values and letters a reading holds, each counted each time it is reached (what is shared counts as often as it is met; a slice's spare places count too). A statement '..UptoSaid' is the law's where the arguments, and the package variables that the reading takes, are together of bulk at most 1048576: NARROWER than '..Said'. Prove '..Said' where nothing that the law and all that it calls make is longer than what came in: it says more and counts as full. Else prove '..UptoSaid'. A law counts once. -/
mutual
def uptoBulk {H : Type} : DataW H → Nat
  | .lit (.string bytes) => bytes.length + 1
  | .lit _ => 1
  | .nil => 1
  | .ptr d => uptoBulk d + 1
  | .slice elems spare => uptoBulkAll elems + uptoBulkAll spare + 1
  | .agg parts => uptoBulkAll parts + 1
  | .iface _ d => uptoBulk d + 1
  | .map entries => uptoBulkEntries entries + 1
  | .held _ => 1
def uptoBulkAll {H : Type} : List (DataW H) → Nat
  | [] => 0
  | d :: r => uptoBulk d + uptoBulkAll r
def uptoBulkEntries {H : Type} : List (Lit × DataW H) → Nat
  | [] => 0
  | x :: r => uptoBulkEntry x + uptoBulkEntries r
def uptoBulkEntry {H : Type} : Lit × DataW H → Nat
  | (.string bytes, d) => bytes.length + uptoBulk d + 1
  | (_, d) => uptoBulk d + 1
 end
def uptoSmall : (H : Type) → List (DataW H) → Bool := fun _ ds => decide (uptoBulkAll ds ≤ 1048576)
def OpenSpec.upto (s : _root_.Go.ChangeSpec) : _root_.Go.OpenSpec := { _root_.Go.OpenSpec.ofChange s with cond := some uptoSmall }

/-- 'masterdisclaw34.IcbEncodes', WHERE WHAT IT READS IS OF BULK AT MOST 1048576: true; the input reads as it did. -/
def icbEncodesUptoRow : OpenClaim := { program := "ytddjikplekbchaagreat", sum := "2238aee6d2d21a08a079997ddb5f84420f65ca0d3be582794444a930f706c1be", func := "masterdisc/masterdisclaw34.IcbEncodes", spec := "icbEncodes", inPlace := ["internal/abi.NoEscape", "internal/bytealg.MakeNoZero"], unfollowed := true, recurses := true, apart := false, narrowed := true }
def IcbEncodesUptoSaid : Prop := icbEncodesUptoRow.holds Tryz.pinned (OpenSpec.upto icbEncodesSpec)

/-- 'masterdisclaw34.IcbDecodes', WHERE WHAT IT READS IS OF BULK AT MOST 1048576: true; the input reads as it did. -/
def icbDecodesUptoRow : OpenClaim := { program := "ytddjikplekbchaagreat", sum := "2238aee6d2d21a08a079997ddb5f84420f65ca0d3be582794444a930f706c1be", func := "masterdisc/masterdisclaw34.IcbDecodes", spec := "icbDecodes", inPlace := ["internal/abi.NoEscape", "internal/bytealg.MakeNoZero"], unfollowed := true, recurses := true, apart := false, narrowed := true }
def IcbDecodesUptoSaid : Prop := icbDecodesUptoRow.holds Tryz.pinned (OpenSpec.upto icbDecodesSpec)

/-- 'masterdisclaw34.IcbForms', WHERE WHAT IT READS IS OF BULK AT MOST 1048576: true; the input reads as it did. -/
def icbFormsUptoRow : OpenClaim := { program := "ytddjikplekbchaagreat", sum := "2238aee6d2d21a08a079997ddb5f84420f65ca0d3be582794444a930f706c1be", func := "masterdisc/masterdisclaw34.IcbForms", spec := "icbForms", inPlace := ["internal/abi.NoEscape", "internal/bytealg.MakeNoZero"], unfollowed := true, recurses := true, apart := false, narrowed := true }
def IcbFormsUptoSaid : Prop := icbFormsUptoRow.holds Tryz.pinned (OpenSpec.upto icbFormsSpec)

end Rows
end Go.Proofs.YtddjikplekbchaaGreat
