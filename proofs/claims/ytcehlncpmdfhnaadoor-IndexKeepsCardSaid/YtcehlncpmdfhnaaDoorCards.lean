/-
  DERIVED. GIVEN WITH THE SEED: THE CARDS: each row of YtcehlncpmdfhnaaDoorRows.lean that lists a variable, with what it lists TIED to the program's text (the seventh form; the later family's looks); each row that meets fmt, with fmt's text TOLD by the authors' own Lean function (tested against real Go, not proved from fmt's source: count such statements apart). THE CARD IS WHAT COUNTS. Prove the row's statement (the work); the ties are given (YtcehlncpmdfhnaaDoorTie.lean); close each card by the builder's one call (the guide's Derived/Test/ToyasCard.lean, 'card_holds'). Laid BY PROGRAM, IN A SANDBOX (cutbox-door.mjs). By AI agents, Wed Nov 11 2026. No macro, syntax, notation, axiom, sorry.
-/
import Derived.Test.YtcehlncpmdfhnaaDoorRows
import GoSem.ClaimSeven
namespace Go.Proofs.YtcehlncpmdfhnaaDoor
namespace Rows

/-- THE TIED CARD OF 'stratigraphlaw08.IndexPuts'. -/
def indexPutsCard : Claim7 := { stood := { row := indexPutsRow, standIns := [], harness := (true, "d5d559695c312535f97f34a0bdc901e090d93d0163f18dba8a38f090ceabb407"), looks := false }, kinds := [], alts := [], laidByText := true, laidKinds := [.data, .pinned], laidTests := true, laidLooks := .later }
def IndexPutsCardSaid : Prop := Claim7.holds Tryd.pinned (.plain (OpenSpec.ofChange indexPutsSpec)) indexPutsCard

/-- THE TIED CARD OF 'stratigraphlaw08.IndexPages'. -/
def indexPagesCard : Claim7 := { stood := { row := indexPagesRow, standIns := [], harness := (true, "d5d559695c312535f97f34a0bdc901e090d93d0163f18dba8a38f090ceabb407"), looks := false }, kinds := [], alts := [], laidByText := true, laidKinds := [.data, .pinned], laidTests := true, laidLooks := .later }
def IndexPagesCardSaid : Prop := Claim7.holds Tryd.pinned (.plain (OpenSpec.ofChange indexPagesSpec)) indexPagesCard

/-- THE TIED CARD OF 'stratigraphlaw08.IndexWhole'. -/
def indexWholeCard : Claim7 := { stood := { row := indexWholeRow, standIns := [], harness := (true, "d5d559695c312535f97f34a0bdc901e090d93d0163f18dba8a38f090ceabb407"), looks := false }, kinds := [], alts := [], laidByText := true, laidKinds := [.data, .pinned], laidTests := true, laidLooks := .later }
def IndexWholeCardSaid : Prop := Claim7.holds Tryd.pinned (.plain (OpenSpec.ofChange indexWholeSpec)) indexWholeCard

/-- THE TIED CARD OF 'stratigraphlaw08.IndexCuts'. -/
def indexCutsCard : Claim7 := { stood := { row := indexCutsRow, standIns := [], harness := (true, "d5d559695c312535f97f34a0bdc901e090d93d0163f18dba8a38f090ceabb407"), looks := false }, kinds := [], alts := [], laidByText := true, laidKinds := [.data, .pinned], laidTests := true, laidLooks := .later }
def IndexCutsCardSaid : Prop := Claim7.holds Tryd.pinned (.plain (OpenSpec.ofChange indexCutsSpec)) indexCutsCard

/-- THE TIED CARD OF 'stratigraphlaw08.IndexBack'. -/
def indexBackCard : Claim7 := { stood := { row := indexBackRow, standIns := [], harness := (true, "d5d559695c312535f97f34a0bdc901e090d93d0163f18dba8a38f090ceabb407"), looks := false }, kinds := [], alts := [], laidByText := true, laidKinds := [.data, .pinned], laidTests := true, laidLooks := .later }
def IndexBackCardSaid : Prop := Claim7.holds Tryd.pinned (.plain (OpenSpec.ofChange indexBackSpec)) indexBackCard

/-- THE TIED CARD OF 'stratigraphlaw08.IndexPrunes'. -/
def indexPrunesCard : Claim7 := { stood := { row := indexPrunesRow, standIns := [], harness := (true, "d5d559695c312535f97f34a0bdc901e090d93d0163f18dba8a38f090ceabb407"), looks := false }, kinds := [], alts := [], laidByText := true, laidKinds := [.data, .pinned], laidTests := true, laidLooks := .later }
def IndexPrunesCardSaid : Prop := Claim7.holds Tryd.pinned (.plain (OpenSpec.ofChange indexPrunesSpec)) indexPrunesCard

/-- THE TIED CARD OF 'stratigraphlaw08.IndexKeeps'. -/
def indexKeepsCard : Claim7 := { stood := { row := indexKeepsRow, standIns := [], harness := (true, "d5d559695c312535f97f34a0bdc901e090d93d0163f18dba8a38f090ceabb407"), looks := false }, kinds := [], alts := [], laidByText := true, laidKinds := [.data, .pinned], laidTests := true, laidLooks := .later }
def IndexKeepsCardSaid : Prop := Claim7.holds Tryd.pinned (.plain (OpenSpec.ofChange indexKeepsSpec)) indexKeepsCard

/-- THE SECOND FORM's CARD OF 'stratigraphlaw08.IndexPuts'. -/
def indexPutsUptoCard : Claim7 := { stood := { row := indexPutsUptoRow, standIns := [], harness := (true, "d5d559695c312535f97f34a0bdc901e090d93d0163f18dba8a38f090ceabb407"), looks := false }, kinds := [], alts := [], laidByText := true, laidKinds := [.data, .pinned], laidTests := true, laidLooks := .later }
def IndexPutsUptoCardSaid : Prop := Claim7.holds Tryd.pinned (.plain (OpenSpec.upto indexPutsSpec)) indexPutsUptoCard

/-- THE SECOND FORM's CARD OF 'stratigraphlaw08.IndexPages'. -/
def indexPagesUptoCard : Claim7 := { stood := { row := indexPagesUptoRow, standIns := [], harness := (true, "d5d559695c312535f97f34a0bdc901e090d93d0163f18dba8a38f090ceabb407"), looks := false }, kinds := [], alts := [], laidByText := true, laidKinds := [.data, .pinned], laidTests := true, laidLooks := .later }
def IndexPagesUptoCardSaid : Prop := Claim7.holds Tryd.pinned (.plain (OpenSpec.upto indexPagesSpec)) indexPagesUptoCard

/-- THE SECOND FORM's CARD OF 'stratigraphlaw08.IndexWhole'. -/
def indexWholeUptoCard : Claim7 := { stood := { row := indexWholeUptoRow, standIns := [], harness := (true, "d5d559695c312535f97f34a0bdc901e090d93d0163f18dba8a38f090ceabb407"), looks := false }, kinds := [], alts := [], laidByText := true, laidKinds := [.data, .pinned], laidTests := true, laidLooks := .later }
def IndexWholeUptoCardSaid : Prop := Claim7.holds Tryd.pinned (.plain (OpenSpec.upto indexWholeSpec)) indexWholeUptoCard

/-- THE SECOND FORM's CARD OF 'stratigraphlaw08.IndexCuts'. -/
def indexCutsUptoCard : Claim7 := { stood := { row := indexCutsUptoRow, standIns := [], harness := (true, "d5d559695c312535f97f34a0bdc901e090d93d0163f18dba8a38f090ceabb407"), looks := false }, kinds := [], alts := [], laidByText := true, laidKinds := [.data, .pinned], laidTests := true, laidLooks := .later }
def IndexCutsUptoCardSaid : Prop := Claim7.holds Tryd.pinned (.plain (OpenSpec.upto indexCutsSpec)) indexCutsUptoCard

/-- THE SECOND FORM's CARD OF 'stratigraphlaw08.IndexBack'. -/
def indexBackUptoCard : Claim7 := { stood := { row := indexBackUptoRow, standIns := [], harness := (true, "d5d559695c312535f97f34a0bdc901e090d93d0163f18dba8a38f090ceabb407"), looks := false }, kinds := [], alts := [], laidByText := true, laidKinds := [.data, .pinned], laidTests := true, laidLooks := .later }
def IndexBackUptoCardSaid : Prop := Claim7.holds Tryd.pinned (.plain (OpenSpec.upto indexBackSpec)) indexBackUptoCard

/-- THE SECOND FORM's CARD OF 'stratigraphlaw08.IndexPrunes'. -/
def indexPrunesUptoCard : Claim7 := { stood := { row := indexPrunesUptoRow, standIns := [], harness := (true, "d5d559695c312535f97f34a0bdc901e090d93d0163f18dba8a38f090ceabb407"), looks := false }, kinds := [], alts := [], laidByText := true, laidKinds := [.data, .pinned], laidTests := true, laidLooks := .later }
def IndexPrunesUptoCardSaid : Prop := Claim7.holds Tryd.pinned (.plain (OpenSpec.upto indexPrunesSpec)) indexPrunesUptoCard

/-- THE SECOND FORM's CARD OF 'stratigraphlaw08.IndexKeeps'. -/
def indexKeepsUptoCard : Claim7 := { stood := { row := indexKeepsUptoRow, standIns := [], harness := (true, "d5d559695c312535f97f34a0bdc901e090d93d0163f18dba8a38f090ceabb407"), looks := false }, kinds := [], alts := [], laidByText := true, laidKinds := [.data, .pinned], laidTests := true, laidLooks := .later }
def IndexKeepsUptoCardSaid : Prop := Claim7.holds Tryd.pinned (.plain (OpenSpec.upto indexKeepsSpec)) indexKeepsUptoCard
end Rows
end Go.Proofs.YtcehlncpmdfhnaaDoor
