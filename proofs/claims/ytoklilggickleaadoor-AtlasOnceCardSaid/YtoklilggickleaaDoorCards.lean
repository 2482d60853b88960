/-
  DERIVED. GIVEN WITH THE SEED: THE CARDS: each row of YtoklilggickleaaDoorRows.lean that lists a variable, with what it lists TIED to the program's text (the seventh form; the later family's looks); each row that meets fmt, with fmt's text TOLD by the authors' own Lean function (tested against real Go, not proved from fmt's source: count such statements apart). THE CARD IS WHAT COUNTS. Prove the row's statement (the work); the ties are given (YtoklilggickleaaDoorTie.lean); close each card by the builder's one call (the guide's Derived/Test/ToyasCard.lean, 'card_holds'). Laid BY PROGRAM, IN A SANDBOX (cutbox-door.mjs). By AI agents, Wed Nov 11 2026. No macro, syntax, notation, axiom, sorry.
-/
import Derived.Test.YtoklilggickleaaDoorRows
import GoSem.ClaimSeven
namespace Go.Proofs.YtoklilggickleaaDoor
namespace Rows

/-- THE TIED CARD OF 'stratigraphlaw15.AtlasMeets'. -/
def atlasMeetsCard : Claim7 := { stood := { row := atlasMeetsRow, standIns := [], harness := (true, "54326ab5e6561f54c401f5bf2a88c38b8c424e1a3228e5268a9c4b60789358fa"), looks := false }, kinds := [], alts := [], laidByText := true, laidKinds := [.data, .pinned], laidTests := true, laidLooks := .later }
def AtlasMeetsCardSaid : Prop := Claim7.holds Tryd.pinned (.plain (OpenSpec.ofChange atlasMeetsSpec)) atlasMeetsCard

/-- THE TIED CARD OF 'stratigraphlaw15.AtlasFinds'. -/
def atlasFindsCard : Claim7 := { stood := { row := atlasFindsRow, standIns := [], harness := (true, "54326ab5e6561f54c401f5bf2a88c38b8c424e1a3228e5268a9c4b60789358fa"), looks := false }, kinds := [], alts := [], laidByText := true, laidKinds := [.data, .pinned], laidTests := true, laidLooks := .later }
def AtlasFindsCardSaid : Prop := Claim7.holds Tryd.pinned (.plain (OpenSpec.ofChange atlasFindsSpec)) atlasFindsCard

/-- THE TIED CARD OF 'stratigraphlaw15.AtlasBack'. -/
def atlasBackCard : Claim7 := { stood := { row := atlasBackRow, standIns := [], harness := (true, "54326ab5e6561f54c401f5bf2a88c38b8c424e1a3228e5268a9c4b60789358fa"), looks := false }, kinds := [], alts := [], laidByText := true, laidKinds := [.data, .pinned], laidTests := true, laidLooks := .later }
def AtlasBackCardSaid : Prop := Claim7.holds Tryd.pinned (.plain (OpenSpec.ofChange atlasBackSpec)) atlasBackCard

/-- THE TIED CARD OF 'stratigraphlaw15.AtlasTurns'. -/
def atlasTurnsCard : Claim7 := { stood := { row := atlasTurnsRow, standIns := [], harness := (true, "54326ab5e6561f54c401f5bf2a88c38b8c424e1a3228e5268a9c4b60789358fa"), looks := false }, kinds := [], alts := [], laidByText := true, laidKinds := [.data, .pinned], laidTests := true, laidLooks := .later }
def AtlasTurnsCardSaid : Prop := Claim7.holds Tryd.pinned (.plain (OpenSpec.ofChange atlasTurnsSpec)) atlasTurnsCard

/-- THE TIED CARD OF 'stratigraphlaw15.AtlasOnce'. -/
def atlasOnceCard : Claim7 := { stood := { row := atlasOnceRow, standIns := [], harness := (true, "54326ab5e6561f54c401f5bf2a88c38b8c424e1a3228e5268a9c4b60789358fa"), looks := false }, kinds := [], alts := [], laidByText := true, laidKinds := [.data, .pinned], laidTests := true, laidLooks := .later }
def AtlasOnceCardSaid : Prop := Claim7.holds Tryd.pinned (.plain (OpenSpec.ofChange atlasOnceSpec)) atlasOnceCard

/-- THE SECOND FORM's CARD OF 'stratigraphlaw15.AtlasMeets'. -/
def atlasMeetsUptoCard : Claim7 := { stood := { row := atlasMeetsUptoRow, standIns := [], harness := (true, "54326ab5e6561f54c401f5bf2a88c38b8c424e1a3228e5268a9c4b60789358fa"), looks := false }, kinds := [], alts := [], laidByText := true, laidKinds := [.data, .pinned], laidTests := true, laidLooks := .later }
def AtlasMeetsUptoCardSaid : Prop := Claim7.holds Tryd.pinned (.plain (OpenSpec.upto atlasMeetsSpec)) atlasMeetsUptoCard

/-- THE SECOND FORM's CARD OF 'stratigraphlaw15.AtlasFinds'. -/
def atlasFindsUptoCard : Claim7 := { stood := { row := atlasFindsUptoRow, standIns := [], harness := (true, "54326ab5e6561f54c401f5bf2a88c38b8c424e1a3228e5268a9c4b60789358fa"), looks := false }, kinds := [], alts := [], laidByText := true, laidKinds := [.data, .pinned], laidTests := true, laidLooks := .later }
def AtlasFindsUptoCardSaid : Prop := Claim7.holds Tryd.pinned (.plain (OpenSpec.upto atlasFindsSpec)) atlasFindsUptoCard

/-- THE SECOND FORM's CARD OF 'stratigraphlaw15.AtlasBack'. -/
def atlasBackUptoCard : Claim7 := { stood := { row := atlasBackUptoRow, standIns := [], harness := (true, "54326ab5e6561f54c401f5bf2a88c38b8c424e1a3228e5268a9c4b60789358fa"), looks := false }, kinds := [], alts := [], laidByText := true, laidKinds := [.data, .pinned], laidTests := true, laidLooks := .later }
def AtlasBackUptoCardSaid : Prop := Claim7.holds Tryd.pinned (.plain (OpenSpec.upto atlasBackSpec)) atlasBackUptoCard

/-- THE SECOND FORM's CARD OF 'stratigraphlaw15.AtlasTurns'. -/
def atlasTurnsUptoCard : Claim7 := { stood := { row := atlasTurnsUptoRow, standIns := [], harness := (true, "54326ab5e6561f54c401f5bf2a88c38b8c424e1a3228e5268a9c4b60789358fa"), looks := false }, kinds := [], alts := [], laidByText := true, laidKinds := [.data, .pinned], laidTests := true, laidLooks := .later }
def AtlasTurnsUptoCardSaid : Prop := Claim7.holds Tryd.pinned (.plain (OpenSpec.upto atlasTurnsSpec)) atlasTurnsUptoCard

/-- THE SECOND FORM's CARD OF 'stratigraphlaw15.AtlasOnce'. -/
def atlasOnceUptoCard : Claim7 := { stood := { row := atlasOnceUptoRow, standIns := [], harness := (true, "54326ab5e6561f54c401f5bf2a88c38b8c424e1a3228e5268a9c4b60789358fa"), looks := false }, kinds := [], alts := [], laidByText := true, laidKinds := [.data, .pinned], laidTests := true, laidLooks := .later }
def AtlasOnceUptoCardSaid : Prop := Claim7.holds Tryd.pinned (.plain (OpenSpec.upto atlasOnceSpec)) atlasOnceUptoCard
end Rows
end Go.Proofs.YtoklilggickleaaDoor
