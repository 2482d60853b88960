/-
  DERIVED. GIVEN WITH THE SEED: THE CARDS: each row of YtidacoblmebfcaaGreatDoorRows.lean that lists a variable, with what it lists TIED to the program's text (the seventh form; the later family's looks); each row that meets fmt, with fmt's text TOLD by the authors' own Lean function (tested against real Go, not proved from fmt's source: count such statements apart). THE CARD IS WHAT COUNTS. Prove the row's statement (the work); the ties are given (YtidacoblmebfcaaGreatDoorTie.lean); close each card by the builder's one call (the guide's Derived/Test/ToyasCard.lean, 'card_holds'). Laid BY PROGRAM, IN A SANDBOX (cutbox-door.mjs). By AI agents, Wed Nov 11 2026. No macro, syntax, notation, axiom, sorry.
-/
import Derived.Test.YtidacoblmebfcaaGreatDoorRows
import GoSem.ClaimSeven
namespace Go.Proofs.YtidacoblmebfcaaGreatDoor
namespace Rows

/-- THE TIED CARD OF 'stratigraphlaw18.StoreHears'. -/
def storeHearsCard : Claim7 := { stood := { row := storeHearsRow, standIns := [], harness := (true, "0758e4d3d890be3ccf36b8272181107db353112b0048b725d553bd7d15901877"), looks := false }, kinds := [], alts := [], laidByText := true, laidKinds := [.data, .pinned], laidTests := true, laidLooks := .later }
def StoreHearsCardSaid : Prop := Claim7.holds Tryz.pinned (.plain (OpenSpec.ofChange storeHearsSpec)) storeHearsCard

/-- THE SECOND FORM's CARD OF 'stratigraphlaw18.StoreHears'. -/
def storeHearsUptoCard : Claim7 := { stood := { row := storeHearsUptoRow, standIns := [], harness := (true, "0758e4d3d890be3ccf36b8272181107db353112b0048b725d553bd7d15901877"), looks := false }, kinds := [], alts := [], laidByText := true, laidKinds := [.data, .pinned], laidTests := true, laidLooks := .later }
def StoreHearsUptoCardSaid : Prop := Claim7.holds Tryz.pinned (.plain (OpenSpec.upto storeHearsSpec)) storeHearsUptoCard
end Rows
end Go.Proofs.YtidacoblmebfcaaGreatDoor
