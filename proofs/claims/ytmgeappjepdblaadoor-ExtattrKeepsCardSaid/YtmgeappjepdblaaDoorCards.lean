/-
  DERIVED. GIVEN WITH THE SEED: THE CARDS: each row of YtmgeappjepdblaaDoorRows.lean that lists a variable, with what it lists TIED to the program's text (the seventh form; the later family's looks); each row that meets fmt, with fmt's text TOLD by the authors' own Lean function (tested against real Go, not proved from fmt's source: count such statements apart). THE CARD IS WHAT COUNTS. Prove the row's statement (the work); the ties are given (YtmgeappjepdblaaDoorTie.lean); close each card by the builder's one call (the guide's Derived/Test/ToyasCard.lean, 'card_holds'). Laid BY PROGRAM, IN A SANDBOX (cutbox-door.mjs). By AI agents, Wed Nov 11 2026. No macro, syntax, notation, axiom, sorry.
-/
import Derived.Test.YtmgeappjepdblaaDoorRows
import GoSem.ClaimSeven
namespace Go.Proofs.YtmgeappjepdblaaDoor
namespace Rows

/-- THE TIED CARD OF 'masterdisclaw42.ExtattrEncodes'. -/
def extattrEncodesCard : Claim7 := { stood := { row := extattrEncodesRow, standIns := [], harness := (true, "bf09ea6773761991db5286d69344147d653ddafbffd05cca451d07b22ea916df"), looks := false }, kinds := [], alts := [], laidByText := true, laidKinds := [.data, .pinned], laidTests := true, laidLooks := .later }
def ExtattrEncodesCardSaid : Prop := Claim7.holds Tryd.pinned (.plain (OpenSpec.ofChange extattrEncodesSpec)) extattrEncodesCard

/-- THE TIED CARD OF 'masterdisclaw42.ExtattrReturns'. -/
def extattrReturnsCard : Claim7 := { stood := { row := extattrReturnsRow, standIns := [], harness := (true, "bf09ea6773761991db5286d69344147d653ddafbffd05cca451d07b22ea916df"), looks := false }, kinds := [], alts := [], laidByText := true, laidKinds := [.data, .pinned], laidTests := true, laidLooks := .later }
def ExtattrReturnsCardSaid : Prop := Claim7.holds Tryd.pinned (.plain (OpenSpec.ofChange extattrReturnsSpec)) extattrReturnsCard

/-- THE TIED CARD OF 'masterdisclaw42.ExtattrOffsets'. -/
def extattrOffsetsCard : Claim7 := { stood := { row := extattrOffsetsRow, standIns := [], harness := (true, "bf09ea6773761991db5286d69344147d653ddafbffd05cca451d07b22ea916df"), looks := false }, kinds := [], alts := [], laidByText := true, laidKinds := [.data, .pinned], laidTests := true, laidLooks := .later }
def ExtattrOffsetsCardSaid : Prop := Claim7.holds Tryd.pinned (.plain (OpenSpec.ofChange extattrOffsetsSpec)) extattrOffsetsCard

/-- THE TIED CARD OF 'masterdisclaw42.ExtattrStreams'. -/
def extattrStreamsCard : Claim7 := { stood := { row := extattrStreamsRow, standIns := [], harness := (true, "bf09ea6773761991db5286d69344147d653ddafbffd05cca451d07b22ea916df"), looks := false }, kinds := [], alts := [], laidByText := true, laidKinds := [.data, .pinned], laidTests := true, laidLooks := .later }
def ExtattrStreamsCardSaid : Prop := Claim7.holds Tryd.pinned (.plain (OpenSpec.ofChange extattrStreamsSpec)) extattrStreamsCard

/-- THE TIED CARD OF 'masterdisclaw42.ExtattrNames'. -/
def extattrNamesCard : Claim7 := { stood := { row := extattrNamesRow, standIns := [], harness := (true, "bf09ea6773761991db5286d69344147d653ddafbffd05cca451d07b22ea916df"), looks := false }, kinds := [], alts := [], laidByText := true, laidKinds := [.data, .pinned], laidTests := true, laidLooks := .later }
def ExtattrNamesCardSaid : Prop := Claim7.holds Tryd.pinned (.plain (OpenSpec.ofChange extattrNamesSpec)) extattrNamesCard

/-- THE TIED CARD OF 'masterdisclaw42.ExtattrSets'. -/
def extattrSetsCard : Claim7 := { stood := { row := extattrSetsRow, standIns := [], harness := (true, "bf09ea6773761991db5286d69344147d653ddafbffd05cca451d07b22ea916df"), looks := false }, kinds := [], alts := [], laidByText := true, laidKinds := [.data, .pinned], laidTests := true, laidLooks := .later }
def ExtattrSetsCardSaid : Prop := Claim7.holds Tryd.pinned (.plain (OpenSpec.ofChange extattrSetsSpec)) extattrSetsCard

/-- THE TIED CARD OF 'masterdisclaw42.ExtattrKeeps'. -/
def extattrKeepsCard : Claim7 := { stood := { row := extattrKeepsRow, standIns := [], harness := (true, "bf09ea6773761991db5286d69344147d653ddafbffd05cca451d07b22ea916df"), looks := false }, kinds := [], alts := [], laidByText := true, laidKinds := [.data, .pinned], laidTests := true, laidLooks := .later }
def ExtattrKeepsCardSaid : Prop := Claim7.holds Tryd.pinned (.plain (OpenSpec.ofChange extattrKeepsSpec)) extattrKeepsCard

/-- THE SECOND FORM's CARD OF 'masterdisclaw42.ExtattrEncodes'. -/
def extattrEncodesUptoCard : Claim7 := { stood := { row := extattrEncodesUptoRow, standIns := [], harness := (true, "bf09ea6773761991db5286d69344147d653ddafbffd05cca451d07b22ea916df"), looks := false }, kinds := [], alts := [], laidByText := true, laidKinds := [.data, .pinned], laidTests := true, laidLooks := .later }
def ExtattrEncodesUptoCardSaid : Prop := Claim7.holds Tryd.pinned (.plain (OpenSpec.upto extattrEncodesSpec)) extattrEncodesUptoCard

/-- THE SECOND FORM's CARD OF 'masterdisclaw42.ExtattrReturns'. -/
def extattrReturnsUptoCard : Claim7 := { stood := { row := extattrReturnsUptoRow, standIns := [], harness := (true, "bf09ea6773761991db5286d69344147d653ddafbffd05cca451d07b22ea916df"), looks := false }, kinds := [], alts := [], laidByText := true, laidKinds := [.data, .pinned], laidTests := true, laidLooks := .later }
def ExtattrReturnsUptoCardSaid : Prop := Claim7.holds Tryd.pinned (.plain (OpenSpec.upto extattrReturnsSpec)) extattrReturnsUptoCard

/-- THE SECOND FORM's CARD OF 'masterdisclaw42.ExtattrOffsets'. -/
def extattrOffsetsUptoCard : Claim7 := { stood := { row := extattrOffsetsUptoRow, standIns := [], harness := (true, "bf09ea6773761991db5286d69344147d653ddafbffd05cca451d07b22ea916df"), looks := false }, kinds := [], alts := [], laidByText := true, laidKinds := [.data, .pinned], laidTests := true, laidLooks := .later }
def ExtattrOffsetsUptoCardSaid : Prop := Claim7.holds Tryd.pinned (.plain (OpenSpec.upto extattrOffsetsSpec)) extattrOffsetsUptoCard

/-- THE SECOND FORM's CARD OF 'masterdisclaw42.ExtattrStreams'. -/
def extattrStreamsUptoCard : Claim7 := { stood := { row := extattrStreamsUptoRow, standIns := [], harness := (true, "bf09ea6773761991db5286d69344147d653ddafbffd05cca451d07b22ea916df"), looks := false }, kinds := [], alts := [], laidByText := true, laidKinds := [.data, .pinned], laidTests := true, laidLooks := .later }
def ExtattrStreamsUptoCardSaid : Prop := Claim7.holds Tryd.pinned (.plain (OpenSpec.upto extattrStreamsSpec)) extattrStreamsUptoCard

/-- THE SECOND FORM's CARD OF 'masterdisclaw42.ExtattrNames'. -/
def extattrNamesUptoCard : Claim7 := { stood := { row := extattrNamesUptoRow, standIns := [], harness := (true, "bf09ea6773761991db5286d69344147d653ddafbffd05cca451d07b22ea916df"), looks := false }, kinds := [], alts := [], laidByText := true, laidKinds := [.data, .pinned], laidTests := true, laidLooks := .later }
def ExtattrNamesUptoCardSaid : Prop := Claim7.holds Tryd.pinned (.plain (OpenSpec.upto extattrNamesSpec)) extattrNamesUptoCard

/-- THE SECOND FORM's CARD OF 'masterdisclaw42.ExtattrSets'. -/
def extattrSetsUptoCard : Claim7 := { stood := { row := extattrSetsUptoRow, standIns := [], harness := (true, "bf09ea6773761991db5286d69344147d653ddafbffd05cca451d07b22ea916df"), looks := false }, kinds := [], alts := [], laidByText := true, laidKinds := [.data, .pinned], laidTests := true, laidLooks := .later }
def ExtattrSetsUptoCardSaid : Prop := Claim7.holds Tryd.pinned (.plain (OpenSpec.upto extattrSetsSpec)) extattrSetsUptoCard

/-- THE SECOND FORM's CARD OF 'masterdisclaw42.ExtattrKeeps'. -/
def extattrKeepsUptoCard : Claim7 := { stood := { row := extattrKeepsUptoRow, standIns := [], harness := (true, "bf09ea6773761991db5286d69344147d653ddafbffd05cca451d07b22ea916df"), looks := false }, kinds := [], alts := [], laidByText := true, laidKinds := [.data, .pinned], laidTests := true, laidLooks := .later }
def ExtattrKeepsUptoCardSaid : Prop := Claim7.holds Tryd.pinned (.plain (OpenSpec.upto extattrKeepsSpec)) extattrKeepsUptoCard
end Rows
end Go.Proofs.YtmgeappjepdblaaDoor
