/-
  DERIVED. GIVEN WITH THE SEED: THE CARDS: each row of YtofkbkonceifeaaGreatDoorRows.lean that lists a variable, with what it lists TIED to the program's text (the seventh form; the later family's looks); each row that meets fmt, with fmt's text TOLD by the authors' own Lean function (tested against real Go, not proved from fmt's source: count such statements apart). THE CARD IS WHAT COUNTS. Prove the row's statement (the work); the ties are given (YtofkbkonceifeaaGreatDoorTie.lean); close each card by the builder's one call (the guide's Derived/Test/ToyasCard.lean, 'card_holds'). Laid BY PROGRAM, IN A SANDBOX (cutbox-door.mjs). By AI agents, Wed Nov 11 2026. No macro, syntax, notation, axiom, sorry.
-/
import Derived.Test.YtofkbkonceifeaaGreatDoorRows
import GoSem.ClaimSeven
namespace Go.Proofs.YtofkbkonceifeaaGreatDoor
namespace Rows

/-- THE TIED CARD OF 'stratigraphlaw18.StoreNews'. -/
def storeNewsCard : Claim7 := { stood := { row := storeNewsRow, standIns := [], harness := (true, "6adbae448bc186990efb8cca1118c0ffa74be16342ee759a9d137861f7534968"), looks := false }, kinds := [], alts := [], laidByText := true, laidKinds := [.data, .pinned], laidTests := true, laidLooks := .later }
def StoreNewsCardSaid : Prop := Claim7.holds Tryz.pinned (.plain (OpenSpec.ofChange storeNewsSpec)) storeNewsCard

/-- THE TIED CARD OF 'stratigraphlaw18.StoreTells'. -/
def storeTellsCard : Claim7 := { stood := { row := storeTellsRow, standIns := [], harness := (true, "6adbae448bc186990efb8cca1118c0ffa74be16342ee759a9d137861f7534968"), looks := false }, kinds := [], alts := [], laidByText := true, laidKinds := [.data, .pinned], laidTests := true, laidLooks := .later }
def StoreTellsCardSaid : Prop := Claim7.holds Tryz.pinned (.plain (OpenSpec.ofChange storeTellsSpec)) storeTellsCard

/-- THE TIED CARD OF 'stratigraphlaw18.StoreHears'. -/
def storeHearsCard : Claim7 := { stood := { row := storeHearsRow, standIns := [], harness := (true, "6adbae448bc186990efb8cca1118c0ffa74be16342ee759a9d137861f7534968"), looks := false }, kinds := [], alts := [], laidByText := true, laidKinds := [.data, .pinned], laidTests := true, laidLooks := .later }
def StoreHearsCardSaid : Prop := Claim7.holds Tryz.pinned (.plain (OpenSpec.ofChange storeHearsSpec)) storeHearsCard

/-- THE TIED CARD OF 'stratigraphlaw18.StoreAnswers'. -/
def storeAnswersCard : Claim7 := { stood := { row := storeAnswersRow, standIns := [], harness := (true, "6adbae448bc186990efb8cca1118c0ffa74be16342ee759a9d137861f7534968"), looks := false }, kinds := [], alts := [], laidByText := true, laidKinds := [.data, .pinned], laidTests := true, laidLooks := .later }
def StoreAnswersCardSaid : Prop := Claim7.holds Tryz.pinned (.plain (OpenSpec.ofChange storeAnswersSpec)) storeAnswersCard

/-- THE TIED CARD OF 'stratigraphlaw18.StoreOrder'. -/
def storeOrderCard : Claim7 := { stood := { row := storeOrderRow, standIns := [], harness := (true, "6adbae448bc186990efb8cca1118c0ffa74be16342ee759a9d137861f7534968"), looks := false }, kinds := [], alts := [], laidByText := true, laidKinds := [.data, .pinned], laidTests := true, laidLooks := .later }
def StoreOrderCardSaid : Prop := Claim7.holds Tryz.pinned (.plain (OpenSpec.ofChange storeOrderSpec)) storeOrderCard

/-- THE TIED CARD OF 'stratigraphlaw18.StoreTwice'. -/
def storeTwiceCard : Claim7 := { stood := { row := storeTwiceRow, standIns := [], harness := (true, "6adbae448bc186990efb8cca1118c0ffa74be16342ee759a9d137861f7534968"), looks := false }, kinds := [], alts := [], laidByText := true, laidKinds := [.data, .pinned], laidTests := true, laidLooks := .later }
def StoreTwiceCardSaid : Prop := Claim7.holds Tryz.pinned (.plain (OpenSpec.ofChange storeTwiceSpec)) storeTwiceCard

/-- THE SECOND FORM's CARD OF 'stratigraphlaw18.StoreNews'. -/
def storeNewsUptoCard : Claim7 := { stood := { row := storeNewsUptoRow, standIns := [], harness := (true, "6adbae448bc186990efb8cca1118c0ffa74be16342ee759a9d137861f7534968"), looks := false }, kinds := [], alts := [], laidByText := true, laidKinds := [.data, .pinned], laidTests := true, laidLooks := .later }
def StoreNewsUptoCardSaid : Prop := Claim7.holds Tryz.pinned (.plain (OpenSpec.upto storeNewsSpec)) storeNewsUptoCard

/-- THE SECOND FORM's CARD OF 'stratigraphlaw18.StoreTells'. -/
def storeTellsUptoCard : Claim7 := { stood := { row := storeTellsUptoRow, standIns := [], harness := (true, "6adbae448bc186990efb8cca1118c0ffa74be16342ee759a9d137861f7534968"), looks := false }, kinds := [], alts := [], laidByText := true, laidKinds := [.data, .pinned], laidTests := true, laidLooks := .later }
def StoreTellsUptoCardSaid : Prop := Claim7.holds Tryz.pinned (.plain (OpenSpec.upto storeTellsSpec)) storeTellsUptoCard

/-- THE SECOND FORM's CARD OF 'stratigraphlaw18.StoreHears'. -/
def storeHearsUptoCard : Claim7 := { stood := { row := storeHearsUptoRow, standIns := [], harness := (true, "6adbae448bc186990efb8cca1118c0ffa74be16342ee759a9d137861f7534968"), looks := false }, kinds := [], alts := [], laidByText := true, laidKinds := [.data, .pinned], laidTests := true, laidLooks := .later }
def StoreHearsUptoCardSaid : Prop := Claim7.holds Tryz.pinned (.plain (OpenSpec.upto storeHearsSpec)) storeHearsUptoCard

/-- THE SECOND FORM's CARD OF 'stratigraphlaw18.StoreAnswers'. -/
def storeAnswersUptoCard : Claim7 := { stood := { row := storeAnswersUptoRow, standIns := [], harness := (true, "6adbae448bc186990efb8cca1118c0ffa74be16342ee759a9d137861f7534968"), looks := false }, kinds := [], alts := [], laidByText := true, laidKinds := [.data, .pinned], laidTests := true, laidLooks := .later }
def StoreAnswersUptoCardSaid : Prop := Claim7.holds Tryz.pinned (.plain (OpenSpec.upto storeAnswersSpec)) storeAnswersUptoCard

/-- THE SECOND FORM's CARD OF 'stratigraphlaw18.StoreOrder'. -/
def storeOrderUptoCard : Claim7 := { stood := { row := storeOrderUptoRow, standIns := [], harness := (true, "6adbae448bc186990efb8cca1118c0ffa74be16342ee759a9d137861f7534968"), looks := false }, kinds := [], alts := [], laidByText := true, laidKinds := [.data, .pinned], laidTests := true, laidLooks := .later }
def StoreOrderUptoCardSaid : Prop := Claim7.holds Tryz.pinned (.plain (OpenSpec.upto storeOrderSpec)) storeOrderUptoCard

/-- THE SECOND FORM's CARD OF 'stratigraphlaw18.StoreTwice'. -/
def storeTwiceUptoCard : Claim7 := { stood := { row := storeTwiceUptoRow, standIns := [], harness := (true, "6adbae448bc186990efb8cca1118c0ffa74be16342ee759a9d137861f7534968"), looks := false }, kinds := [], alts := [], laidByText := true, laidKinds := [.data, .pinned], laidTests := true, laidLooks := .later }
def StoreTwiceUptoCardSaid : Prop := Claim7.holds Tryz.pinned (.plain (OpenSpec.upto storeTwiceSpec)) storeTwiceUptoCard
end Rows
end Go.Proofs.YtofkbkonceifeaaGreatDoor
