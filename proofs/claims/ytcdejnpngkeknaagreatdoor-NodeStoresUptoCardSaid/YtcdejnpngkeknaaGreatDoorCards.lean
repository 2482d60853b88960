/-
  DERIVED. GIVEN WITH THE SEED: THE CARDS: each row of YtcdejnpngkeknaaGreatDoorRows.lean that lists a variable, with what it lists TIED to the program's text (the seventh form; the later family's looks); each row that meets fmt, with fmt's text TOLD by the authors' own Lean function (tested against real Go, not proved from fmt's source: count such statements apart). THE CARD IS WHAT COUNTS. Prove the row's statement (the work); the ties are given (YtcdejnpngkeknaaGreatDoorTie.lean); close each card by the builder's one call (the guide's Derived/Test/ToyasCard.lean, 'card_holds'). Laid BY PROGRAM, IN A SANDBOX (cutbox-door.mjs). By AI agents, Wed Nov 11 2026. No macro, syntax, notation, axiom, sorry.
-/
import Derived.Test.YtcdejnpngkeknaaGreatDoorRows
import GoSem.ClaimSeven
namespace Go.Proofs.YtcdejnpngkeknaaGreatDoor
namespace Rows

/-- THE TIED CARD OF 'stratigraphlaw21.NodeStores'. -/
def nodeStoresCard : Claim7 := { stood := { row := nodeStoresRow, standIns := [], harness := (true, "b79136f93d60db11b93cdc4c252014f2b6c74162248d1b986e238aaf59bf2d05"), looks := true }, kinds := [], alts := [], laidByText := true, laidKinds := [.data, .pinned], laidTests := true, laidLooks := .later }
def NodeStoresCardSaid : Prop := Claim7.holds Tryz.pinned (.plain (OpenSpec.ofChange nodeStoresSpec)) nodeStoresCard

/-- THE SECOND FORM's CARD OF 'stratigraphlaw21.NodeStores'. -/
def nodeStoresUptoCard : Claim7 := { stood := { row := nodeStoresUptoRow, standIns := [], harness := (true, "b79136f93d60db11b93cdc4c252014f2b6c74162248d1b986e238aaf59bf2d05"), looks := true }, kinds := [], alts := [], laidByText := true, laidKinds := [.data, .pinned], laidTests := true, laidLooks := .later }
def NodeStoresUptoCardSaid : Prop := Claim7.holds Tryz.pinned (.plain (OpenSpec.upto nodeStoresSpec)) nodeStoresUptoCard
end Rows
end Go.Proofs.YtcdejnpngkeknaaGreatDoor
