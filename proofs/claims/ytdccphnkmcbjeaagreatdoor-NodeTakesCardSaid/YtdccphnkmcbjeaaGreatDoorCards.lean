/-
  DERIVED. GIVEN WITH THE SEED: THE CARDS: each row of YtdccphnkmcbjeaaGreatDoorRows.lean that lists a variable, with what it lists TIED to the program's text (the seventh form; the later family's looks); each row that meets fmt, with fmt's text TOLD by the authors' own Lean function (tested against real Go, not proved from fmt's source: count such statements apart). THE CARD IS WHAT COUNTS. Prove the row's statement (the work); the ties are given (YtdccphnkmcbjeaaGreatDoorTie.lean); close each card by the builder's one call (the guide's Derived/Test/ToyasCard.lean, 'card_holds'). Laid BY PROGRAM, IN A SANDBOX (cutbox-door.mjs). By AI agents, Wed Nov 11 2026. No macro, syntax, notation, axiom, sorry.
-/
import Derived.Test.YtdccphnkmcbjeaaGreatDoorRows
import GoSem.ClaimSeven
namespace Go.Proofs.YtdccphnkmcbjeaaGreatDoor
namespace Rows

/-- THE TIED CARD OF 'stratigraphlaw21.NodeStores'. -/
def nodeStoresCard : Claim7 := { stood := { row := nodeStoresRow, standIns := [], harness := (true, "54e738b6ef64498229366d5f8974a5e0b64802dc1b313ab1298e25870db2a8e1"), looks := true }, kinds := [], alts := [], laidByText := true, laidKinds := [.data, .pinned], laidTests := true, laidLooks := .later }
def NodeStoresCardSaid : Prop := Claim7.holds Tryz.pinned (.plain (OpenSpec.ofChange nodeStoresSpec)) nodeStoresCard

/-- THE TIED CARD OF 'stratigraphlaw21.NodeDirectors'. -/
def nodeDirectorsCard : Claim7 := { stood := { row := nodeDirectorsRow, standIns := [], harness := (true, "54e738b6ef64498229366d5f8974a5e0b64802dc1b313ab1298e25870db2a8e1"), looks := true }, kinds := [], alts := [], laidByText := true, laidKinds := [.data, .pinned], laidTests := true, laidLooks := .later }
def NodeDirectorsCardSaid : Prop := Claim7.holds Tryz.pinned (.plain (OpenSpec.ofChange nodeDirectorsSpec)) nodeDirectorsCard

/-- THE TIED CARD OF 'stratigraphlaw21.NodeTakes'. -/
def nodeTakesCard : Claim7 := { stood := { row := nodeTakesRow, standIns := [], harness := (true, "54e738b6ef64498229366d5f8974a5e0b64802dc1b313ab1298e25870db2a8e1"), looks := true }, kinds := [], alts := [], laidByText := true, laidKinds := [.data, .pinned], laidTests := true, laidLooks := .later }
def NodeTakesCardSaid : Prop := Claim7.holds Tryz.pinned (.plain (OpenSpec.ofChange nodeTakesSpec)) nodeTakesCard

/-- THE SECOND FORM's CARD OF 'stratigraphlaw21.NodeStores'. -/
def nodeStoresUptoCard : Claim7 := { stood := { row := nodeStoresUptoRow, standIns := [], harness := (true, "54e738b6ef64498229366d5f8974a5e0b64802dc1b313ab1298e25870db2a8e1"), looks := true }, kinds := [], alts := [], laidByText := true, laidKinds := [.data, .pinned], laidTests := true, laidLooks := .later }
def NodeStoresUptoCardSaid : Prop := Claim7.holds Tryz.pinned (.plain (OpenSpec.upto nodeStoresSpec)) nodeStoresUptoCard

/-- THE SECOND FORM's CARD OF 'stratigraphlaw21.NodeDirectors'. -/
def nodeDirectorsUptoCard : Claim7 := { stood := { row := nodeDirectorsUptoRow, standIns := [], harness := (true, "54e738b6ef64498229366d5f8974a5e0b64802dc1b313ab1298e25870db2a8e1"), looks := true }, kinds := [], alts := [], laidByText := true, laidKinds := [.data, .pinned], laidTests := true, laidLooks := .later }
def NodeDirectorsUptoCardSaid : Prop := Claim7.holds Tryz.pinned (.plain (OpenSpec.upto nodeDirectorsSpec)) nodeDirectorsUptoCard

/-- THE SECOND FORM's CARD OF 'stratigraphlaw21.NodeTakes'. -/
def nodeTakesUptoCard : Claim7 := { stood := { row := nodeTakesUptoRow, standIns := [], harness := (true, "54e738b6ef64498229366d5f8974a5e0b64802dc1b313ab1298e25870db2a8e1"), looks := true }, kinds := [], alts := [], laidByText := true, laidKinds := [.data, .pinned], laidTests := true, laidLooks := .later }
def NodeTakesUptoCardSaid : Prop := Claim7.holds Tryz.pinned (.plain (OpenSpec.upto nodeTakesSpec)) nodeTakesUptoCard
end Rows
end Go.Proofs.YtdccphnkmcbjeaaGreatDoor
