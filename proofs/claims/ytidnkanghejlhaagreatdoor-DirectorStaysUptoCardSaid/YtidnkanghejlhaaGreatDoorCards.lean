/-
  DERIVED. GIVEN WITH THE SEED: THE CARDS: each row of YtidnkanghejlhaaGreatDoorRows.lean that lists a variable, with what it lists TIED to the program's text (the seventh form; the later family's looks); each row that meets fmt, with fmt's text TOLD by the authors' own Lean function (tested against real Go, not proved from fmt's source: count such statements apart). THE CARD IS WHAT COUNTS. Prove the row's statement (the work); the ties are given (YtidnkanghejlhaaGreatDoorTie.lean); close each card by the builder's one call (the guide's Derived/Test/ToyasCard.lean, 'card_holds'). Laid BY PROGRAM, IN A SANDBOX (cutbox-door.mjs). By AI agents, Wed Nov 11 2026. No macro, syntax, notation, axiom, sorry.
-/
import Derived.Test.YtidnkanghejlhaaGreatDoorRows
import GoSem.ClaimSeven
namespace Go.Proofs.YtidnkanghejlhaaGreatDoor
namespace Rows

/-- THE TIED CARD OF 'stratigraphlaw19.DirectorNews'. -/
def directorNewsCard : Claim7 := { stood := { row := directorNewsRow, standIns := [], harness := (true, "46b5a43e5ede9d6f1722687788b04c0c87f6279bb4d2b96d77f942e12f1bc9cf"), looks := false }, kinds := [], alts := [], laidByText := true, laidKinds := [.data, .pinned], laidTests := true, laidLooks := .later }
def DirectorNewsCardSaid : Prop := Claim7.holds Tryz.pinned (.plain (OpenSpec.ofChange directorNewsSpec)) directorNewsCard

/-- THE TIED CARD OF 'stratigraphlaw19.DirectorCommands'. -/
def directorCommandsCard : Claim7 := { stood := { row := directorCommandsRow, standIns := [], harness := (true, "46b5a43e5ede9d6f1722687788b04c0c87f6279bb4d2b96d77f942e12f1bc9cf"), looks := false }, kinds := [], alts := [], laidByText := true, laidKinds := [.data, .pinned], laidTests := true, laidLooks := .later }
def DirectorCommandsCardSaid : Prop := Claim7.holds Tryz.pinned (.plain (OpenSpec.ofChange directorCommandsSpec)) directorCommandsCard

/-- THE TIED CARD OF 'stratigraphlaw19.DirectorTicks'. -/
def directorTicksCard : Claim7 := { stood := { row := directorTicksRow, standIns := [], harness := (true, "46b5a43e5ede9d6f1722687788b04c0c87f6279bb4d2b96d77f942e12f1bc9cf"), looks := false }, kinds := [], alts := [], laidByText := true, laidKinds := [.data, .pinned], laidTests := true, laidLooks := .later }
def DirectorTicksCardSaid : Prop := Claim7.holds Tryz.pinned (.plain (OpenSpec.ofChange directorTicksSpec)) directorTicksCard

/-- THE TIED CARD OF 'stratigraphlaw19.DirectorStays'. -/
def directorStaysCard : Claim7 := { stood := { row := directorStaysRow, standIns := [], harness := (true, "46b5a43e5ede9d6f1722687788b04c0c87f6279bb4d2b96d77f942e12f1bc9cf"), looks := false }, kinds := [], alts := [], laidByText := true, laidKinds := [.data, .pinned], laidTests := true, laidLooks := .later }
def DirectorStaysCardSaid : Prop := Claim7.holds Tryz.pinned (.plain (OpenSpec.ofChange directorStaysSpec)) directorStaysCard

/-- THE TIED CARD OF 'stratigraphlaw19.DirectorMarks'. -/
def directorMarksCard : Claim7 := { stood := { row := directorMarksRow, standIns := [], harness := (true, "46b5a43e5ede9d6f1722687788b04c0c87f6279bb4d2b96d77f942e12f1bc9cf"), looks := false }, kinds := [], alts := [], laidByText := true, laidKinds := [.data, .pinned], laidTests := true, laidLooks := .later }
def DirectorMarksCardSaid : Prop := Claim7.holds Tryz.pinned (.plain (OpenSpec.ofChange directorMarksSpec)) directorMarksCard

/-- THE SECOND FORM's CARD OF 'stratigraphlaw19.DirectorNews'. -/
def directorNewsUptoCard : Claim7 := { stood := { row := directorNewsUptoRow, standIns := [], harness := (true, "46b5a43e5ede9d6f1722687788b04c0c87f6279bb4d2b96d77f942e12f1bc9cf"), looks := false }, kinds := [], alts := [], laidByText := true, laidKinds := [.data, .pinned], laidTests := true, laidLooks := .later }
def DirectorNewsUptoCardSaid : Prop := Claim7.holds Tryz.pinned (.plain (OpenSpec.upto directorNewsSpec)) directorNewsUptoCard

/-- THE SECOND FORM's CARD OF 'stratigraphlaw19.DirectorCommands'. -/
def directorCommandsUptoCard : Claim7 := { stood := { row := directorCommandsUptoRow, standIns := [], harness := (true, "46b5a43e5ede9d6f1722687788b04c0c87f6279bb4d2b96d77f942e12f1bc9cf"), looks := false }, kinds := [], alts := [], laidByText := true, laidKinds := [.data, .pinned], laidTests := true, laidLooks := .later }
def DirectorCommandsUptoCardSaid : Prop := Claim7.holds Tryz.pinned (.plain (OpenSpec.upto directorCommandsSpec)) directorCommandsUptoCard

/-- THE SECOND FORM's CARD OF 'stratigraphlaw19.DirectorTicks'. -/
def directorTicksUptoCard : Claim7 := { stood := { row := directorTicksUptoRow, standIns := [], harness := (true, "46b5a43e5ede9d6f1722687788b04c0c87f6279bb4d2b96d77f942e12f1bc9cf"), looks := false }, kinds := [], alts := [], laidByText := true, laidKinds := [.data, .pinned], laidTests := true, laidLooks := .later }
def DirectorTicksUptoCardSaid : Prop := Claim7.holds Tryz.pinned (.plain (OpenSpec.upto directorTicksSpec)) directorTicksUptoCard

/-- THE SECOND FORM's CARD OF 'stratigraphlaw19.DirectorStays'. -/
def directorStaysUptoCard : Claim7 := { stood := { row := directorStaysUptoRow, standIns := [], harness := (true, "46b5a43e5ede9d6f1722687788b04c0c87f6279bb4d2b96d77f942e12f1bc9cf"), looks := false }, kinds := [], alts := [], laidByText := true, laidKinds := [.data, .pinned], laidTests := true, laidLooks := .later }
def DirectorStaysUptoCardSaid : Prop := Claim7.holds Tryz.pinned (.plain (OpenSpec.upto directorStaysSpec)) directorStaysUptoCard

/-- THE SECOND FORM's CARD OF 'stratigraphlaw19.DirectorMarks'. -/
def directorMarksUptoCard : Claim7 := { stood := { row := directorMarksUptoRow, standIns := [], harness := (true, "46b5a43e5ede9d6f1722687788b04c0c87f6279bb4d2b96d77f942e12f1bc9cf"), looks := false }, kinds := [], alts := [], laidByText := true, laidKinds := [.data, .pinned], laidTests := true, laidLooks := .later }
def DirectorMarksUptoCardSaid : Prop := Claim7.holds Tryz.pinned (.plain (OpenSpec.upto directorMarksSpec)) directorMarksUptoCard
end Rows
end Go.Proofs.YtidnkanghejlhaaGreatDoor
