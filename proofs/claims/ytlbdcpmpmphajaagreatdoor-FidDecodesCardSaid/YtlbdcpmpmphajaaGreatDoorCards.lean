/-
  DERIVED. GIVEN WITH THE SEED: THE CARDS: each row of YtlbdcpmpmphajaaGreatDoorRows.lean that lists a variable, with what it lists TIED to the program's text (the seventh form; the later family's looks); each row that meets fmt, with fmt's text TOLD by the authors' own Lean function (tested against real Go, not proved from fmt's source: count such statements apart). THE CARD IS WHAT COUNTS. Prove the row's statement (the work); the ties are given (YtlbdcpmpmphajaaGreatDoorTie.lean); close each card by the builder's one call (the guide's Derived/Test/ToyasCard.lean, 'card_holds'). Laid BY PROGRAM, IN A SANDBOX (cutbox-door.mjs). By AI agents, Wed Nov 11 2026. No macro, syntax, notation, axiom, sorry.
-/
import Derived.Test.YtlbdcpmpmphajaaGreatDoorRows
import GoSem.ClaimSeven
namespace Go.Proofs.YtlbdcpmpmphajaaGreatDoor
namespace Rows

/-- THE TIED CARD OF 'masterdisclaw35.FidEncodes'. -/
def fidEncodesCard : Claim7 := { stood := { row := fidEncodesRow, standIns := [], harness := (true, "b215783d59d9f3342fa62a68403c359bb8f1b25ad8d80c30f58e1e68efb866b5"), looks := false }, kinds := [], alts := [], laidByText := true, laidKinds := [.data, .pinned], laidTests := true, laidLooks := .later }
def FidEncodesCardSaid : Prop := Claim7.holds Tryz.pinned (.plain (OpenSpec.ofChange fidEncodesSpec)) fidEncodesCard

/-- THE TIED CARD OF 'masterdisclaw35.FidDecodes'. -/
def fidDecodesCard : Claim7 := { stood := { row := fidDecodesRow, standIns := [], harness := (true, "b215783d59d9f3342fa62a68403c359bb8f1b25ad8d80c30f58e1e68efb866b5"), looks := false }, kinds := [], alts := [], laidByText := true, laidKinds := [.data, .pinned], laidTests := true, laidLooks := .later }
def FidDecodesCardSaid : Prop := Claim7.holds Tryz.pinned (.plain (OpenSpec.ofChange fidDecodesSpec)) fidDecodesCard

/-- THE TIED CARD OF 'masterdisclaw35.FidDirectories'. -/
def fidDirectoriesCard : Claim7 := { stood := { row := fidDirectoriesRow, standIns := [], harness := (true, "b215783d59d9f3342fa62a68403c359bb8f1b25ad8d80c30f58e1e68efb866b5"), looks := false }, kinds := [], alts := [], laidByText := true, laidKinds := [.data, .pinned], laidTests := true, laidLooks := .later }
def FidDirectoriesCardSaid : Prop := Claim7.holds Tryz.pinned (.plain (OpenSpec.ofChange fidDirectoriesSpec)) fidDirectoriesCard

/-- THE SECOND FORM's CARD OF 'masterdisclaw35.FidEncodes'. -/
def fidEncodesUptoCard : Claim7 := { stood := { row := fidEncodesUptoRow, standIns := [], harness := (true, "b215783d59d9f3342fa62a68403c359bb8f1b25ad8d80c30f58e1e68efb866b5"), looks := false }, kinds := [], alts := [], laidByText := true, laidKinds := [.data, .pinned], laidTests := true, laidLooks := .later }
def FidEncodesUptoCardSaid : Prop := Claim7.holds Tryz.pinned (.plain (OpenSpec.upto fidEncodesSpec)) fidEncodesUptoCard

/-- THE SECOND FORM's CARD OF 'masterdisclaw35.FidDecodes'. -/
def fidDecodesUptoCard : Claim7 := { stood := { row := fidDecodesUptoRow, standIns := [], harness := (true, "b215783d59d9f3342fa62a68403c359bb8f1b25ad8d80c30f58e1e68efb866b5"), looks := false }, kinds := [], alts := [], laidByText := true, laidKinds := [.data, .pinned], laidTests := true, laidLooks := .later }
def FidDecodesUptoCardSaid : Prop := Claim7.holds Tryz.pinned (.plain (OpenSpec.upto fidDecodesSpec)) fidDecodesUptoCard

/-- THE SECOND FORM's CARD OF 'masterdisclaw35.FidDirectories'. -/
def fidDirectoriesUptoCard : Claim7 := { stood := { row := fidDirectoriesUptoRow, standIns := [], harness := (true, "b215783d59d9f3342fa62a68403c359bb8f1b25ad8d80c30f58e1e68efb866b5"), looks := false }, kinds := [], alts := [], laidByText := true, laidKinds := [.data, .pinned], laidTests := true, laidLooks := .later }
def FidDirectoriesUptoCardSaid : Prop := Claim7.holds Tryz.pinned (.plain (OpenSpec.upto fidDirectoriesSpec)) fidDirectoriesUptoCard
end Rows
end Go.Proofs.YtlbdcpmpmphajaaGreatDoor
