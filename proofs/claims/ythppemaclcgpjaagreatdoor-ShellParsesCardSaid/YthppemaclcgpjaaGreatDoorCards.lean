/-
  DERIVED. GIVEN WITH THE SEED: THE CARDS: each row of YthppemaclcgpjaaGreatDoorRows.lean that lists a variable, with what it lists TIED to the program's text (the seventh form; the later family's looks); each row that meets fmt, with fmt's text TOLD by the authors' own Lean function (tested against real Go, not proved from fmt's source: count such statements apart). THE CARD IS WHAT COUNTS. Prove the row's statement (the work); the ties are given (YthppemaclcgpjaaGreatDoorTie.lean); close each card by the builder's one call (the guide's Derived/Test/ToyasCard.lean, 'card_holds'). Laid BY PROGRAM, IN A SANDBOX (cutbox-door.mjs). By AI agents, Wed Nov 11 2026. No macro, syntax, notation, axiom, sorry.
-/
import Derived.Test.YthppemaclcgpjaaGreatDoorRows
import GoSem.ClaimSeven
namespace Go.Proofs.YthppemaclcgpjaaGreatDoor
namespace Rows

/-- THE TIED CARD OF 'stratigraphlaw23.ShellParses'. -/
def shellParsesCard : Claim7 := { stood := { row := shellParsesRow, standIns := [], harness := (true, "5aa30cbf3ff90fe7d5a83174645b8d1fba97a97fa37d19a36a004c51660576ae"), looks := true }, kinds := [], alts := [], laidByText := true, laidKinds := [.data, .data, .data, .data, .sentinel, .sentinel, .pinned], laidTests := true, laidLooks := .later }
def ShellParsesCardSaid : Prop := Claim7.holds Tryz.pinned (.plain (OpenSpec.ofChange shellParsesSpec)) shellParsesCard

/-- THE SECOND FORM's CARD OF 'stratigraphlaw23.ShellParses'. -/
def shellParsesUptoCard : Claim7 := { stood := { row := shellParsesUptoRow, standIns := [], harness := (true, "5aa30cbf3ff90fe7d5a83174645b8d1fba97a97fa37d19a36a004c51660576ae"), looks := true }, kinds := [], alts := [], laidByText := true, laidKinds := [.data, .data, .data, .data, .sentinel, .sentinel, .pinned], laidTests := true, laidLooks := .later }
def ShellParsesUptoCardSaid : Prop := Claim7.holds Tryz.pinned (.plain (OpenSpec.upto shellParsesSpec)) shellParsesUptoCard
end Rows
end Go.Proofs.YthppemaclcgpjaaGreatDoor
