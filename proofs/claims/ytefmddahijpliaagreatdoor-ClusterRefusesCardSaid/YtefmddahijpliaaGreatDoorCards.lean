/-
  DERIVED. GIVEN WITH THE SEED: THE CARDS: each row of YtefmddahijpliaaGreatDoorRows.lean that lists a variable, with what it lists TIED to the program's text (the seventh form; the later family's looks); each row that meets fmt, with fmt's text TOLD by the authors' own Lean function (tested against real Go, not proved from fmt's source: count such statements apart). THE CARD IS WHAT COUNTS. Prove the row's statement (the work); the ties are given (YtefmddahijpliaaGreatDoorTie.lean); close each card by the builder's one call (the guide's Derived/Test/ToyasCard.lean, 'card_holds'). Laid BY PROGRAM, IN A SANDBOX (cutbox-door.mjs). By AI agents, Wed Nov 11 2026. No macro, syntax, notation, axiom, sorry.
-/
import Derived.Test.YtefmddahijpliaaGreatDoorRows
import GoSem.ClaimSeven
namespace Go.Proofs.YtefmddahijpliaaGreatDoor
namespace Rows

/-- THE TIED CARD OF 'stratigraphlaw22.ClusterRefuses'. -/
def clusterRefusesCard : Claim7 := { stood := { row := clusterRefusesRow, standIns := [], harness := (true, "71c3ec3f070ddebe8f3ab8bf364eaaf7302b2661c030ef69889e5be464f07f39"), looks := true }, kinds := [], alts := [], laidByText := true, laidKinds := [.data, .pinned], laidTests := true, laidLooks := .later }
def ClusterRefusesCardSaid : Prop := Claim7.holds Tryz.pinned (.plain (OpenSpec.ofChange clusterRefusesSpec)) clusterRefusesCard

/-- THE SECOND FORM's CARD OF 'stratigraphlaw22.ClusterRefuses'. -/
def clusterRefusesUptoCard : Claim7 := { stood := { row := clusterRefusesUptoRow, standIns := [], harness := (true, "71c3ec3f070ddebe8f3ab8bf364eaaf7302b2661c030ef69889e5be464f07f39"), looks := true }, kinds := [], alts := [], laidByText := true, laidKinds := [.data, .pinned], laidTests := true, laidLooks := .later }
def ClusterRefusesUptoCardSaid : Prop := Claim7.holds Tryz.pinned (.plain (OpenSpec.upto clusterRefusesSpec)) clusterRefusesUptoCard
end Rows
end Go.Proofs.YtefmddahijpliaaGreatDoor
