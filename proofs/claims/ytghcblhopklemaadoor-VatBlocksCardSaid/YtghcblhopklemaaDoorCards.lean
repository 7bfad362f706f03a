/-
  DERIVED. GIVEN WITH THE SEED: THE CARDS: each row of YtghcblhopklemaaDoorRows.lean that lists a variable, with what it lists TIED to the program's text (the seventh form; the later family's looks); each row that meets fmt, with fmt's text TOLD by the authors' own Lean function (tested against real Go, not proved from fmt's source: count such statements apart). THE CARD IS WHAT COUNTS. Prove the row's statement (the work); the ties are given (YtghcblhopklemaaDoorTie.lean); close each card by the builder's one call (the guide's Derived/Test/ToyasCard.lean, 'card_holds'). Laid BY PROGRAM, IN A SANDBOX (cutbox-door.mjs). By AI agents, Wed Nov 11 2026. No macro, syntax, notation, axiom, sorry.
-/
import Derived.Test.YtghcblhopklemaaDoorRows
import GoSem.ClaimSeven
namespace Go.Proofs.YtghcblhopklemaaDoor
namespace Rows

/-- THE TIED CARD OF 'masterdisclaw38.VatBlocks'. -/
def vatBlocksCard : Claim7 := { stood := { row := vatBlocksRow, standIns := [], harness := (true, "26bfb4c98424e4028429fb2be0542d76dde8a4caea3dcdb5593e74f4baf6f044"), looks := false }, kinds := [], alts := [], laidByText := true, laidKinds := [.data, .pinned], laidTests := true, laidLooks := .later }
def VatBlocksCardSaid : Prop := Claim7.holds Tryd.pinned (.plain (OpenSpec.ofChange vatBlocksSpec)) vatBlocksCard

/-- THE TIED CARD OF 'masterdisclaw38.VatNext'. -/
def vatNextCard : Claim7 := { stood := { row := vatNextRow, standIns := [], harness := (true, "26bfb4c98424e4028429fb2be0542d76dde8a4caea3dcdb5593e74f4baf6f044"), looks := false }, kinds := [], alts := [], laidByText := true, laidKinds := [.data, .pinned], laidTests := true, laidLooks := .later }
def VatNextCardSaid : Prop := Claim7.holds Tryd.pinned (.plain (OpenSpec.ofChange vatNextSpec)) vatNextCard

/-- THE TIED CARD OF 'masterdisclaw38.VatUpdates'. -/
def vatUpdatesCard : Claim7 := { stood := { row := vatUpdatesRow, standIns := [], harness := (true, "26bfb4c98424e4028429fb2be0542d76dde8a4caea3dcdb5593e74f4baf6f044"), looks := false }, kinds := [], alts := [], laidByText := true, laidKinds := [.data, .pinned], laidTests := true, laidLooks := .later }
def VatUpdatesCardSaid : Prop := Claim7.holds Tryd.pinned (.plain (OpenSpec.ofChange vatUpdatesSpec)) vatUpdatesCard

/-- THE TIED CARD OF 'masterdisclaw38.VatTables'. -/
def vatTablesCard : Claim7 := { stood := { row := vatTablesRow, standIns := [], harness := (true, "26bfb4c98424e4028429fb2be0542d76dde8a4caea3dcdb5593e74f4baf6f044"), looks := false }, kinds := [], alts := [], laidByText := true, laidKinds := [.data, .pinned], laidTests := true, laidLooks := .later }
def VatTablesCardSaid : Prop := Claim7.holds Tryd.pinned (.plain (OpenSpec.ofChange vatTablesSpec)) vatTablesCard

/-- THE TIED CARD OF 'masterdisclaw38.VatReturns'. -/
def vatReturnsCard : Claim7 := { stood := { row := vatReturnsRow, standIns := [], harness := (true, "26bfb4c98424e4028429fb2be0542d76dde8a4caea3dcdb5593e74f4baf6f044"), looks := false }, kinds := [], alts := [], laidByText := true, laidKinds := [.data, .pinned], laidTests := true, laidLooks := .later }
def VatReturnsCardSaid : Prop := Claim7.holds Tryd.pinned (.plain (OpenSpec.ofChange vatReturnsSpec)) vatReturnsCard

/-- THE SECOND FORM's CARD OF 'masterdisclaw38.VatBlocks'. -/
def vatBlocksUptoCard : Claim7 := { stood := { row := vatBlocksUptoRow, standIns := [], harness := (true, "26bfb4c98424e4028429fb2be0542d76dde8a4caea3dcdb5593e74f4baf6f044"), looks := false }, kinds := [], alts := [], laidByText := true, laidKinds := [.data, .pinned], laidTests := true, laidLooks := .later }
def VatBlocksUptoCardSaid : Prop := Claim7.holds Tryd.pinned (.plain (OpenSpec.upto vatBlocksSpec)) vatBlocksUptoCard

/-- THE SECOND FORM's CARD OF 'masterdisclaw38.VatNext'. -/
def vatNextUptoCard : Claim7 := { stood := { row := vatNextUptoRow, standIns := [], harness := (true, "26bfb4c98424e4028429fb2be0542d76dde8a4caea3dcdb5593e74f4baf6f044"), looks := false }, kinds := [], alts := [], laidByText := true, laidKinds := [.data, .pinned], laidTests := true, laidLooks := .later }
def VatNextUptoCardSaid : Prop := Claim7.holds Tryd.pinned (.plain (OpenSpec.upto vatNextSpec)) vatNextUptoCard

/-- THE SECOND FORM's CARD OF 'masterdisclaw38.VatUpdates'. -/
def vatUpdatesUptoCard : Claim7 := { stood := { row := vatUpdatesUptoRow, standIns := [], harness := (true, "26bfb4c98424e4028429fb2be0542d76dde8a4caea3dcdb5593e74f4baf6f044"), looks := false }, kinds := [], alts := [], laidByText := true, laidKinds := [.data, .pinned], laidTests := true, laidLooks := .later }
def VatUpdatesUptoCardSaid : Prop := Claim7.holds Tryd.pinned (.plain (OpenSpec.upto vatUpdatesSpec)) vatUpdatesUptoCard

/-- THE SECOND FORM's CARD OF 'masterdisclaw38.VatTables'. -/
def vatTablesUptoCard : Claim7 := { stood := { row := vatTablesUptoRow, standIns := [], harness := (true, "26bfb4c98424e4028429fb2be0542d76dde8a4caea3dcdb5593e74f4baf6f044"), looks := false }, kinds := [], alts := [], laidByText := true, laidKinds := [.data, .pinned], laidTests := true, laidLooks := .later }
def VatTablesUptoCardSaid : Prop := Claim7.holds Tryd.pinned (.plain (OpenSpec.upto vatTablesSpec)) vatTablesUptoCard

/-- THE SECOND FORM's CARD OF 'masterdisclaw38.VatReturns'. -/
def vatReturnsUptoCard : Claim7 := { stood := { row := vatReturnsUptoRow, standIns := [], harness := (true, "26bfb4c98424e4028429fb2be0542d76dde8a4caea3dcdb5593e74f4baf6f044"), looks := false }, kinds := [], alts := [], laidByText := true, laidKinds := [.data, .pinned], laidTests := true, laidLooks := .later }
def VatReturnsUptoCardSaid : Prop := Claim7.holds Tryd.pinned (.plain (OpenSpec.upto vatReturnsSpec)) vatReturnsUptoCard
end Rows
end Go.Proofs.YtghcblhopklemaaDoor
