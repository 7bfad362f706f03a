/-
  DERIVED. GIVEN WITH THE SEED: THE CARDS: each row of YtddjikplekbchaaGreatDoorRows.lean that lists a variable, with what it lists TIED to the program's text (the seventh form; the later family's looks); each row that meets fmt, with fmt's text TOLD by the authors' own Lean function (tested against real Go, not proved from fmt's source: count such statements apart). THE CARD IS WHAT COUNTS. Prove the row's statement (the work); the ties are given (YtddjikplekbchaaGreatDoorTie.lean); close each card by the builder's one call (the guide's Derived/Test/ToyasCard.lean, 'card_holds'). Laid BY PROGRAM, IN A SANDBOX (cutbox-door.mjs). By AI agents, Wed Nov 11 2026. No macro, syntax, notation, axiom, sorry.
-/
import Derived.Test.YtddjikplekbchaaGreatDoorRows
import GoSem.ClaimSeven
namespace Go.Proofs.YtddjikplekbchaaGreatDoor
namespace Rows

/-- THE TIED CARD OF 'masterdisclaw38.VatFinds'. -/
def vatFindsCard : Claim7 := { stood := { row := vatFindsRow, standIns := [], harness := (true, "f79a303f98fb015df9443ccb463cdde702f6ced2112787ac170915031662799f"), looks := false }, kinds := [], alts := [], laidByText := true, laidKinds := [.data, .pinned], laidTests := true, laidLooks := .later }
def VatFindsCardSaid : Prop := Claim7.holds Tryz.pinned (.plain (OpenSpec.ofChange vatFindsSpec)) vatFindsCard

/-- THE TIED CARD OF 'masterdisclaw38.VatCommits'. -/
def vatCommitsCard : Claim7 := { stood := { row := vatCommitsRow, standIns := [], harness := (true, "f79a303f98fb015df9443ccb463cdde702f6ced2112787ac170915031662799f"), looks := false }, kinds := [], alts := [], laidByText := true, laidKinds := [.data, .pinned], laidTests := true, laidLooks := .later }
def VatCommitsCardSaid : Prop := Claim7.holds Tryz.pinned (.plain (OpenSpec.ofChange vatCommitsSpec)) vatCommitsCard

/-- THE SECOND FORM's CARD OF 'masterdisclaw38.VatFinds'. -/
def vatFindsUptoCard : Claim7 := { stood := { row := vatFindsUptoRow, standIns := [], harness := (true, "f79a303f98fb015df9443ccb463cdde702f6ced2112787ac170915031662799f"), looks := false }, kinds := [], alts := [], laidByText := true, laidKinds := [.data, .pinned], laidTests := true, laidLooks := .later }
def VatFindsUptoCardSaid : Prop := Claim7.holds Tryz.pinned (.plain (OpenSpec.upto vatFindsSpec)) vatFindsUptoCard

/-- THE SECOND FORM's CARD OF 'masterdisclaw38.VatCommits'. -/
def vatCommitsUptoCard : Claim7 := { stood := { row := vatCommitsUptoRow, standIns := [], harness := (true, "f79a303f98fb015df9443ccb463cdde702f6ced2112787ac170915031662799f"), looks := false }, kinds := [], alts := [], laidByText := true, laidKinds := [.data, .pinned], laidTests := true, laidLooks := .later }
def VatCommitsUptoCardSaid : Prop := Claim7.holds Tryz.pinned (.plain (OpenSpec.upto vatCommitsSpec)) vatCommitsUptoCard
end Rows
end Go.Proofs.YtddjikplekbchaaGreatDoor
