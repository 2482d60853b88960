/-
  NARROWER THAN 'FOR EVERY INPUT', by the rows' own cells (each row's printed sentence says how): EngineDoes: laid · EngineRights: laid · EngineInstalls: laid · EngineHolds: laid · EngineMarks: laid · EngineGoes: laid · EngineMoves: laid · EngineParts: laid · EngineStays: laid · EnginePast: laid · EngineAgain: laid.
  DERIVED. THE GIVEN ROWS OF THIS SEAT. 11 by the template 'for every input the law returns true; each argument reads behind the call as it read before'; 0 by the template 'total and deterministic' (their statements: YtaodclcmfocccaaGreatDoorTotals.lean).
  GIVEN WITH THE SEED: the statements are not yours to turn. If you find one false, say at which input.
  Laid BY PROGRAM, IN A SANDBOX (cutbox-rows.mjs): the forced cells as the released guide's own fill.sh prints them over the translation 0418906a6129fb2a… (all of the seat's roots in one cut). By AI agents, Wed Nov 11 2026. No macro, syntax, notation, axiom, sorry.
-/
import Derived.Test.YtaodclcmfocccaaGreatDoorChecked
import GoSem.PinnedTables
import GoSem.Claim
import GoSem.ClaimJoined
import GoSem.ClaimMapViews
import Derived.JoinedTies
import Derived.KernelRfl
namespace Go.Proofs.YtaodclcmfocccaaGreatDoor
/- THE CELL 'sum', in the pinned program and in every row, IS THE sha256 OF THE DUMP (.gsa) THAT YtaodclcmfocccaaGreatDoorProg.lean LOADS. Nothing in Lean hashes anything: it is a label: what it is worth is what the hold of that sum in a sandbox is worth. -/
noncomputable def Tryz.pinned : Pinned := { name := "ytaodclcmfocccaagreatdoor", sum := "0418906a6129fb2ac083a63f73bf1cbc46efb4c9b57be3d31fa59bc99c3d4d29", checked := Tryz.checked }
namespace Rows
def none {H : Type} : Left H := { results := [], args := [] }

/- WHAT THE LISTED PACKAGE-LEVEL VARIABLES READ AS WHEN THE CALL BEGINS. Each datum BY PROGRAM (the guide's laid-datum.mjs) off the statement by which the dump's own 'gosem.cut.vars' lays the variable. In a bare row this is a premise. The card (YtaodclcmfocccaaGreatDoorCards.lean) ties it to the program's text. -/
def laid_unicode_utf8_acceptRanges {H : Type} : DataW H := .agg [.agg [.lit (.int .u8 128), .lit (.int .u8 191)], .agg [.lit (.int .u8 160), .lit (.int .u8 191)], .agg [.lit (.int .u8 128), .lit (.int .u8 159)], .agg [.lit (.int .u8 144), .lit (.int .u8 191)], .agg [.lit (.int .u8 128), .lit (.int .u8 143)], .agg [.lit (.int .u8 0), .lit (.int .u8 0)], .agg [.lit (.int .u8 0), .lit (.int .u8 0)], .agg [.lit (.int .u8 0), .lit (.int .u8 0)], .agg [.lit (.int .u8 0), .lit (.int .u8 0)], .agg [.lit (.int .u8 0), .lit (.int .u8 0)], .agg [.lit (.int .u8 0), .lit (.int .u8 0)], .agg [.lit (.int .u8 0), .lit (.int .u8 0)], .agg [.lit (.int .u8 0), .lit (.int .u8 0)], .agg [.lit (.int .u8 0), .lit (.int .u8 0)], .agg [.lit (.int .u8 0), .lit (.int .u8 0)], .agg [.lit (.int .u8 0), .lit (.int .u8 0)]]
/-- One of Go's own tables, pinned by name: the form's constant. -/
def laid_unicode_utf8_first : DataW Unit := Go.Pinned.utf8First

/-- 'stratigraphlaw11.EngineDoes': WHATEVER THE INPUT: true; the input reads as it did. -/
def engineDoesSpec : ChangeSpec := { name := "engineDoes", fn := fun _ => fun
  | [d1, d2, d3, d4, d5, d6] => { results := [.lit (.bool true)], args := [d1, d2, d3, d4, d5, d6] }
  | _ => none }
def engineDoesRow : OpenClaim := { program := "ytaodclcmfocccaagreatdoor", sum := "0418906a6129fb2ac083a63f73bf1cbc46efb4c9b57be3d31fa59bc99c3d4d29", func := "stratigraph/stratigraphlaw11.EngineDoes", spec := "engineDoes", inPlace := ["slices.overlaps[stratigraph/api.Entry]", "slices.overlaps[stratigraph/api.Done]", "slices.overlaps[stratigraph/api.Shard]"], unfollowed := true, recurses := true, named := ["unicode/utf8.first", "unicode/utf8.acceptRanges"], apart := false, laid := [("unicode/utf8.acceptRanges", laid_unicode_utf8_acceptRanges), ("unicode/utf8.first", laid_unicode_utf8_first)] }
def EngineDoesSaid : Prop := engineDoesRow.holds Tryz.pinned (OpenSpec.ofChange engineDoesSpec)

/-- ITS FALSE NEIGHBOUR: 'it returns false'. Refute it at one input. -/
def engineDoesWrong : ChangeSpec := { name := "engineDoes", fn := fun _ => fun
  | [d1, d2, d3, d4, d5, d6] => { results := [.lit (.bool false)], args := [d1, d2, d3, d4, d5, d6] }
  | _ => none }
def EngineDoesWrongFalsely : Prop := engineDoesRow.holds Tryz.pinned (OpenSpec.ofChange engineDoesWrong)

/-- 'stratigraphlaw11.EngineRights': WHATEVER THE INPUT: true; the input reads as it did. -/
def engineRightsSpec : ChangeSpec := { name := "engineRights", fn := fun _ => fun
  | [d1, d2] => { results := [.lit (.bool true)], args := [d1, d2] }
  | _ => none }
def engineRightsRow : OpenClaim := { program := "ytaodclcmfocccaagreatdoor", sum := "0418906a6129fb2ac083a63f73bf1cbc46efb4c9b57be3d31fa59bc99c3d4d29", func := "stratigraph/stratigraphlaw11.EngineRights", spec := "engineRights", inPlace := ["slices.overlaps[stratigraph/api.Entry]", "slices.overlaps[stratigraph/api.Done]", "slices.overlaps[stratigraph/api.Shard]"], unfollowed := true, recurses := true, named := ["unicode/utf8.first", "unicode/utf8.acceptRanges"], apart := false, laid := [("unicode/utf8.acceptRanges", laid_unicode_utf8_acceptRanges), ("unicode/utf8.first", laid_unicode_utf8_first)] }
def EngineRightsSaid : Prop := engineRightsRow.holds Tryz.pinned (OpenSpec.ofChange engineRightsSpec)

/-- ITS FALSE NEIGHBOUR: 'it returns false'. Refute it at one input. -/
def engineRightsWrong : ChangeSpec := { name := "engineRights", fn := fun _ => fun
  | [d1, d2] => { results := [.lit (.bool false)], args := [d1, d2] }
  | _ => none }
def EngineRightsWrongFalsely : Prop := engineRightsRow.holds Tryz.pinned (OpenSpec.ofChange engineRightsWrong)

/-- 'stratigraphlaw11.EngineInstalls': WHATEVER THE INPUT: true; the input reads as it did. -/
def engineInstallsSpec : ChangeSpec := { name := "engineInstalls", fn := fun _ => fun
  | [d1, d2, d3] => { results := [.lit (.bool true)], args := [d1, d2, d3] }
  | _ => none }
def engineInstallsRow : OpenClaim := { program := "ytaodclcmfocccaagreatdoor", sum := "0418906a6129fb2ac083a63f73bf1cbc46efb4c9b57be3d31fa59bc99c3d4d29", func := "stratigraph/stratigraphlaw11.EngineInstalls", spec := "engineInstalls", inPlace := ["slices.overlaps[stratigraph/api.Entry]", "slices.overlaps[stratigraph/api.Done]", "slices.overlaps[stratigraph/api.Shard]"], unfollowed := true, recurses := true, named := ["unicode/utf8.first", "unicode/utf8.acceptRanges"], apart := false, laid := [("unicode/utf8.acceptRanges", laid_unicode_utf8_acceptRanges), ("unicode/utf8.first", laid_unicode_utf8_first)] }
def EngineInstallsSaid : Prop := engineInstallsRow.holds Tryz.pinned (OpenSpec.ofChange engineInstallsSpec)

/-- ITS FALSE NEIGHBOUR: 'it returns false'. Refute it at one input. -/
def engineInstallsWrong : ChangeSpec := { name := "engineInstalls", fn := fun _ => fun
  | [d1, d2, d3] => { results := [.lit (.bool false)], args := [d1, d2, d3] }
  | _ => none }
def EngineInstallsWrongFalsely : Prop := engineInstallsRow.holds Tryz.pinned (OpenSpec.ofChange engineInstallsWrong)

/-- 'stratigraphlaw11.EngineHolds': WHATEVER THE INPUT: true; the input reads as it did. -/
def engineHoldsSpec : ChangeSpec := { name := "engineHolds", fn := fun _ => fun
  | [d1, d2, d3, d4, d5] => { results := [.lit (.bool true)], args := [d1, d2, d3, d4, d5] }
  | _ => none }
def engineHoldsRow : OpenClaim := { program := "ytaodclcmfocccaagreatdoor", sum := "0418906a6129fb2ac083a63f73bf1cbc46efb4c9b57be3d31fa59bc99c3d4d29", func := "stratigraph/stratigraphlaw11.EngineHolds", spec := "engineHolds", inPlace := ["slices.overlaps[stratigraph/api.Entry]", "slices.overlaps[stratigraph/api.Done]", "slices.overlaps[stratigraph/api.Shard]"], unfollowed := true, recurses := true, named := ["unicode/utf8.first", "unicode/utf8.acceptRanges"], apart := false, laid := [("unicode/utf8.acceptRanges", laid_unicode_utf8_acceptRanges), ("unicode/utf8.first", laid_unicode_utf8_first)] }
def EngineHoldsSaid : Prop := engineHoldsRow.holds Tryz.pinned (OpenSpec.ofChange engineHoldsSpec)

/-- ITS FALSE NEIGHBOUR: 'it returns false'. Refute it at one input. -/
def engineHoldsWrong : ChangeSpec := { name := "engineHolds", fn := fun _ => fun
  | [d1, d2, d3, d4, d5] => { results := [.lit (.bool false)], args := [d1, d2, d3, d4, d5] }
  | _ => none }
def EngineHoldsWrongFalsely : Prop := engineHoldsRow.holds Tryz.pinned (OpenSpec.ofChange engineHoldsWrong)

/-- 'stratigraphlaw11.EngineMarks': WHATEVER THE INPUT: true; the input reads as it did. -/
def engineMarksSpec : ChangeSpec := { name := "engineMarks", fn := fun _ => fun
  | [d1, d2] => { results := [.lit (.bool true)], args := [d1, d2] }
  | _ => none }
def engineMarksRow : OpenClaim := { program := "ytaodclcmfocccaagreatdoor", sum := "0418906a6129fb2ac083a63f73bf1cbc46efb4c9b57be3d31fa59bc99c3d4d29", func := "stratigraph/stratigraphlaw11.EngineMarks", spec := "engineMarks", inPlace := ["slices.overlaps[stratigraph/api.Entry]", "slices.overlaps[stratigraph/api.Done]", "slices.overlaps[stratigraph/api.Shard]"], unfollowed := true, recurses := true, named := ["unicode/utf8.first", "unicode/utf8.acceptRanges"], apart := false, laid := [("unicode/utf8.acceptRanges", laid_unicode_utf8_acceptRanges), ("unicode/utf8.first", laid_unicode_utf8_first)] }
def EngineMarksSaid : Prop := engineMarksRow.holds Tryz.pinned (OpenSpec.ofChange engineMarksSpec)

/-- ITS FALSE NEIGHBOUR: 'it returns false'. Refute it at one input. -/
def engineMarksWrong : ChangeSpec := { name := "engineMarks", fn := fun _ => fun
  | [d1, d2] => { results := [.lit (.bool false)], args := [d1, d2] }
  | _ => none }
def EngineMarksWrongFalsely : Prop := engineMarksRow.holds Tryz.pinned (OpenSpec.ofChange engineMarksWrong)

/-- 'stratigraphlaw11.EngineGoes': WHATEVER THE INPUT: true; the input reads as it did. -/
def engineGoesSpec : ChangeSpec := { name := "engineGoes", fn := fun _ => fun
  | [d1, d2, d3, d4, d5, d6] => { results := [.lit (.bool true)], args := [d1, d2, d3, d4, d5, d6] }
  | _ => none }
def engineGoesRow : OpenClaim := { program := "ytaodclcmfocccaagreatdoor", sum := "0418906a6129fb2ac083a63f73bf1cbc46efb4c9b57be3d31fa59bc99c3d4d29", func := "stratigraph/stratigraphlaw11.EngineGoes", spec := "engineGoes", inPlace := ["slices.overlaps[stratigraph/api.Entry]", "slices.overlaps[stratigraph/api.Done]", "slices.overlaps[stratigraph/api.Shard]"], unfollowed := true, recurses := true, named := ["unicode/utf8.first", "unicode/utf8.acceptRanges"], apart := false, laid := [("unicode/utf8.acceptRanges", laid_unicode_utf8_acceptRanges), ("unicode/utf8.first", laid_unicode_utf8_first)] }
def EngineGoesSaid : Prop := engineGoesRow.holds Tryz.pinned (OpenSpec.ofChange engineGoesSpec)

/-- ITS FALSE NEIGHBOUR: 'it returns false'. Refute it at one input. -/
def engineGoesWrong : ChangeSpec := { name := "engineGoes", fn := fun _ => fun
  | [d1, d2, d3, d4, d5, d6] => { results := [.lit (.bool false)], args := [d1, d2, d3, d4, d5, d6] }
  | _ => none }
def EngineGoesWrongFalsely : Prop := engineGoesRow.holds Tryz.pinned (OpenSpec.ofChange engineGoesWrong)

/-- 'stratigraphlaw11.EngineMoves': WHATEVER THE INPUT: true; the input reads as it did. -/
def engineMovesSpec : ChangeSpec := { name := "engineMoves", fn := fun _ => fun
  | [d1, d2, d3, d4] => { results := [.lit (.bool true)], args := [d1, d2, d3, d4] }
  | _ => none }
def engineMovesRow : OpenClaim := { program := "ytaodclcmfocccaagreatdoor", sum := "0418906a6129fb2ac083a63f73bf1cbc46efb4c9b57be3d31fa59bc99c3d4d29", func := "stratigraph/stratigraphlaw11.EngineMoves", spec := "engineMoves", inPlace := ["slices.overlaps[stratigraph/api.Entry]", "slices.overlaps[stratigraph/api.Done]", "slices.overlaps[stratigraph/api.Shard]"], unfollowed := true, recurses := true, named := ["unicode/utf8.first", "unicode/utf8.acceptRanges"], apart := false, laid := [("unicode/utf8.acceptRanges", laid_unicode_utf8_acceptRanges), ("unicode/utf8.first", laid_unicode_utf8_first)] }
def EngineMovesSaid : Prop := engineMovesRow.holds Tryz.pinned (OpenSpec.ofChange engineMovesSpec)

/-- ITS FALSE NEIGHBOUR: 'it returns false'. Refute it at one input. -/
def engineMovesWrong : ChangeSpec := { name := "engineMoves", fn := fun _ => fun
  | [d1, d2, d3, d4] => { results := [.lit (.bool false)], args := [d1, d2, d3, d4] }
  | _ => none }
def EngineMovesWrongFalsely : Prop := engineMovesRow.holds Tryz.pinned (OpenSpec.ofChange engineMovesWrong)

/-- 'stratigraphlaw11.EngineParts': WHATEVER THE INPUT: true; the input reads as it did. -/
def enginePartsSpec : ChangeSpec := { name := "engineParts", fn := fun _ => fun
  | [d1, d2, d3, d4, d5, d6] => { results := [.lit (.bool true)], args := [d1, d2, d3, d4, d5, d6] }
  | _ => none }
def enginePartsRow : OpenClaim := { program := "ytaodclcmfocccaagreatdoor", sum := "0418906a6129fb2ac083a63f73bf1cbc46efb4c9b57be3d31fa59bc99c3d4d29", func := "stratigraph/stratigraphlaw11.EngineParts", spec := "engineParts", inPlace := ["slices.overlaps[stratigraph/api.Entry]", "slices.overlaps[stratigraph/api.Done]", "slices.overlaps[stratigraph/api.Shard]"], unfollowed := true, recurses := true, named := ["unicode/utf8.first", "unicode/utf8.acceptRanges"], apart := false, laid := [("unicode/utf8.acceptRanges", laid_unicode_utf8_acceptRanges), ("unicode/utf8.first", laid_unicode_utf8_first)] }
def EnginePartsSaid : Prop := enginePartsRow.holds Tryz.pinned (OpenSpec.ofChange enginePartsSpec)

/-- ITS FALSE NEIGHBOUR: 'it returns false'. Refute it at one input. -/
def enginePartsWrong : ChangeSpec := { name := "engineParts", fn := fun _ => fun
  | [d1, d2, d3, d4, d5, d6] => { results := [.lit (.bool false)], args := [d1, d2, d3, d4, d5, d6] }
  | _ => none }
def EnginePartsWrongFalsely : Prop := enginePartsRow.holds Tryz.pinned (OpenSpec.ofChange enginePartsWrong)

/-- 'stratigraphlaw11.EngineStays': WHATEVER THE INPUT: true; the input reads as it did. -/
def engineStaysSpec : ChangeSpec := { name := "engineStays", fn := fun _ => fun
  | [d1, d2] => { results := [.lit (.bool true)], args := [d1, d2] }
  | _ => none }
def engineStaysRow : OpenClaim := { program := "ytaodclcmfocccaagreatdoor", sum := "0418906a6129fb2ac083a63f73bf1cbc46efb4c9b57be3d31fa59bc99c3d4d29", func := "stratigraph/stratigraphlaw11.EngineStays", spec := "engineStays", inPlace := ["slices.overlaps[stratigraph/api.Entry]", "slices.overlaps[stratigraph/api.Done]", "slices.overlaps[stratigraph/api.Shard]"], unfollowed := true, recurses := true, named := ["unicode/utf8.first", "unicode/utf8.acceptRanges"], apart := false, laid := [("unicode/utf8.acceptRanges", laid_unicode_utf8_acceptRanges), ("unicode/utf8.first", laid_unicode_utf8_first)] }
def EngineStaysSaid : Prop := engineStaysRow.holds Tryz.pinned (OpenSpec.ofChange engineStaysSpec)

/-- ITS FALSE NEIGHBOUR: 'it returns false'. Refute it at one input. -/
def engineStaysWrong : ChangeSpec := { name := "engineStays", fn := fun _ => fun
  | [d1, d2] => { results := [.lit (.bool false)], args := [d1, d2] }
  | _ => none }
def EngineStaysWrongFalsely : Prop := engineStaysRow.holds Tryz.pinned (OpenSpec.ofChange engineStaysWrong)

/-- 'stratigraphlaw11.EnginePast': WHATEVER THE INPUT: true; the input reads as it did. -/
def enginePastSpec : ChangeSpec := { name := "enginePast", fn := fun _ => fun
  | [d1, d2, d3, d4] => { results := [.lit (.bool true)], args := [d1, d2, d3, d4] }
  | _ => none }
def enginePastRow : OpenClaim := { program := "ytaodclcmfocccaagreatdoor", sum := "0418906a6129fb2ac083a63f73bf1cbc46efb4c9b57be3d31fa59bc99c3d4d29", func := "stratigraph/stratigraphlaw11.EnginePast", spec := "enginePast", inPlace := ["slices.overlaps[stratigraph/api.Entry]", "slices.overlaps[stratigraph/api.Done]", "slices.overlaps[stratigraph/api.Shard]"], unfollowed := true, recurses := true, named := ["unicode/utf8.first", "unicode/utf8.acceptRanges"], apart := false, laid := [("unicode/utf8.acceptRanges", laid_unicode_utf8_acceptRanges), ("unicode/utf8.first", laid_unicode_utf8_first)] }
def EnginePastSaid : Prop := enginePastRow.holds Tryz.pinned (OpenSpec.ofChange enginePastSpec)

/-- ITS FALSE NEIGHBOUR: 'it returns false'. Refute it at one input. -/
def enginePastWrong : ChangeSpec := { name := "enginePast", fn := fun _ => fun
  | [d1, d2, d3, d4] => { results := [.lit (.bool false)], args := [d1, d2, d3, d4] }
  | _ => none }
def EnginePastWrongFalsely : Prop := enginePastRow.holds Tryz.pinned (OpenSpec.ofChange enginePastWrong)

/-- 'stratigraphlaw11.EngineAgain': WHATEVER THE INPUT: true; the input reads as it did. -/
def engineAgainSpec : ChangeSpec := { name := "engineAgain", fn := fun _ => fun
  | [d1, d2, d3, d4, d5, d6, d7] => { results := [.lit (.bool true)], args := [d1, d2, d3, d4, d5, d6, d7] }
  | _ => none }
def engineAgainRow : OpenClaim := { program := "ytaodclcmfocccaagreatdoor", sum := "0418906a6129fb2ac083a63f73bf1cbc46efb4c9b57be3d31fa59bc99c3d4d29", func := "stratigraph/stratigraphlaw11.EngineAgain", spec := "engineAgain", inPlace := ["slices.overlaps[stratigraph/api.Entry]", "slices.overlaps[stratigraph/api.Done]", "slices.overlaps[stratigraph/api.Shard]"], unfollowed := true, recurses := true, named := ["unicode/utf8.first", "unicode/utf8.acceptRanges"], apart := false, laid := [("unicode/utf8.acceptRanges", laid_unicode_utf8_acceptRanges), ("unicode/utf8.first", laid_unicode_utf8_first)] }
def EngineAgainSaid : Prop := engineAgainRow.holds Tryz.pinned (OpenSpec.ofChange engineAgainSpec)

/-- ITS FALSE NEIGHBOUR: 'it returns false'. Refute it at one input. -/
def engineAgainWrong : ChangeSpec := { name := "engineAgain", fn := fun _ => fun
  | [d1, d2, d3, d4, d5, d6, d7] => { results := [.lit (.bool false)], args := [d1, d2, d3, d4, d5, d6, d7] }
  | _ => none }
def EngineAgainWrongFalsely : Prop := engineAgainRow.holds Tryz.pinned (OpenSpec.ofChange engineAgainWrong)

/- THE SECOND FORM. 'bulk': how many values and letters a reading holds, each counted each time it is reached (what is shared counts as often as it is met; a slice's spare places count too). A statement '..UptoSaid' is the law's where the arguments, and the package variables that the reading takes, are together of bulk at most 1048576: NARROWER than '..Said'. Prove '..Said' where nothing that the law and all that it calls make is longer than what came in: it says more and counts as full. Else prove '..UptoSaid'. A law counts once. -/
mutual
def uptoBulk {H : Type} : DataW H → Nat
  | .lit (.string bytes) => bytes.length + 1
  | .lit _ => 1
  | .nil => 1
  | .ptr d => uptoBulk d + 1
  | .slice elems spare => uptoBulkAll elems + uptoBulkAll spare + 1
  | .agg parts => uptoBulkAll parts + 1
  | .iface _ d => uptoBulk d + 1
  | .map entries => uptoBulkEntries entries + 1
  | .held _ => 1
def uptoBulkAll {H : Type} : List (DataW H) → Nat
  | [] => 0
  | d :: r => uptoBulk d + uptoBulkAll r
def uptoBulkEntries {H : Type} : List (Lit × DataW H) → Nat
  | [] => 0
  | x :: r => uptoBulkEntry x + uptoBulkEntries r
def uptoBulkEntry {H : Type} : Lit × DataW H → Nat
  | (.string bytes, d) => bytes.length + uptoBulk d + 1
  | (_, d) => uptoBulk d + 1
 end
def uptoSmall : (H : Type) → List (DataW H) → Bool := fun _ ds => decide (uptoBulkAll ds ≤ 1048576)
def OpenSpec.upto (s : _root_.Go.ChangeSpec) : _root_.Go.OpenSpec := { _root_.Go.OpenSpec.ofChange s with cond := some uptoSmall }

/-- 'stratigraphlaw11.EngineDoes', WHERE WHAT IT READS IS OF BULK AT MOST 1048576: true; the input reads as it did. -/
def engineDoesUptoRow : OpenClaim := { program := "ytaodclcmfocccaagreatdoor", sum := "0418906a6129fb2ac083a63f73bf1cbc46efb4c9b57be3d31fa59bc99c3d4d29", func := "stratigraph/stratigraphlaw11.EngineDoes", spec := "engineDoes", inPlace := ["slices.overlaps[stratigraph/api.Entry]", "slices.overlaps[stratigraph/api.Done]", "slices.overlaps[stratigraph/api.Shard]"], unfollowed := true, recurses := true, named := ["unicode/utf8.first", "unicode/utf8.acceptRanges"], apart := false, laid := [("unicode/utf8.acceptRanges", laid_unicode_utf8_acceptRanges), ("unicode/utf8.first", laid_unicode_utf8_first)], narrowed := true }
def EngineDoesUptoSaid : Prop := engineDoesUptoRow.holds Tryz.pinned (OpenSpec.upto engineDoesSpec)

/-- 'stratigraphlaw11.EngineRights', WHERE WHAT IT READS IS OF BULK AT MOST 1048576: true; the input reads as it did. -/
def engineRightsUptoRow : OpenClaim := { program := "ytaodclcmfocccaagreatdoor", sum := "0418906a6129fb2ac083a63f73bf1cbc46efb4c9b57be3d31fa59bc99c3d4d29", func := "stratigraph/stratigraphlaw11.EngineRights", spec := "engineRights", inPlace := ["slices.overlaps[stratigraph/api.Entry]", "slices.overlaps[stratigraph/api.Done]", "slices.overlaps[stratigraph/api.Shard]"], unfollowed := true, recurses := true, named := ["unicode/utf8.first", "unicode/utf8.acceptRanges"], apart := false, laid := [("unicode/utf8.acceptRanges", laid_unicode_utf8_acceptRanges), ("unicode/utf8.first", laid_unicode_utf8_first)], narrowed := true }
def EngineRightsUptoSaid : Prop := engineRightsUptoRow.holds Tryz.pinned (OpenSpec.upto engineRightsSpec)

/-- 'stratigraphlaw11.EngineInstalls', WHERE WHAT IT READS IS OF BULK AT MOST 1048576: true; the input reads as it did. -/
def engineInstallsUptoRow : OpenClaim := { program := "ytaodclcmfocccaagreatdoor", sum := "0418906a6129fb2ac083a63f73bf1cbc46efb4c9b57be3d31fa59bc99c3d4d29", func := "stratigraph/stratigraphlaw11.EngineInstalls", spec := "engineInstalls", inPlace := ["slices.overlaps[stratigraph/api.Entry]", "slices.overlaps[stratigraph/api.Done]", "slices.overlaps[stratigraph/api.Shard]"], unfollowed := true, recurses := true, named := ["unicode/utf8.first", "unicode/utf8.acceptRanges"], apart := false, laid := [("unicode/utf8.acceptRanges", laid_unicode_utf8_acceptRanges), ("unicode/utf8.first", laid_unicode_utf8_first)], narrowed := true }
def EngineInstallsUptoSaid : Prop := engineInstallsUptoRow.holds Tryz.pinned (OpenSpec.upto engineInstallsSpec)

/-- 'stratigraphlaw11.EngineHolds', WHERE WHAT IT READS IS OF BULK AT MOST 1048576: true; the input reads as it did. -/
def engineHoldsUptoRow : OpenClaim := { program := "ytaodclcmfocccaagreatdoor", sum := "0418906a6129fb2ac083a63f73bf1cbc46efb4c9b57be3d31fa59bc99c3d4d29", func := "stratigraph/stratigraphlaw11.EngineHolds", spec := "engineHolds", inPlace := ["slices.overlaps[stratigraph/api.Entry]", "slices.overlaps[stratigraph/api.Done]", "slices.overlaps[stratigraph/api.Shard]"], unfollowed := true, recurses := true, named := ["unicode/utf8.first", "unicode/utf8.acceptRanges"], apart := false, laid := [("unicode/utf8.acceptRanges", laid_unicode_utf8_acceptRanges), ("unicode/utf8.first", laid_unicode_utf8_first)], narrowed := true }
def EngineHoldsUptoSaid : Prop := engineHoldsUptoRow.holds Tryz.pinned (OpenSpec.upto engineHoldsSpec)

/-- 'stratigraphlaw11.EngineMarks', WHERE WHAT IT READS IS OF BULK AT MOST 1048576: true; the input reads as it did. -/
def engineMarksUptoRow : OpenClaim := { program := "ytaodclcmfocccaagreatdoor", sum := "0418906a6129fb2ac083a63f73bf1cbc46efb4c9b57be3d31fa59bc99c3d4d29", func := "stratigraph/stratigraphlaw11.EngineMarks", spec := "engineMarks", inPlace := ["slices.overlaps[stratigraph/api.Entry]", "slices.overlaps[stratigraph/api.Done]", "slices.overlaps[stratigraph/api.Shard]"], unfollowed := true, recurses := true, named := ["unicode/utf8.first", "unicode/utf8.acceptRanges"], apart := false, laid := [("unicode/utf8.acceptRanges", laid_unicode_utf8_acceptRanges), ("unicode/utf8.first", laid_unicode_utf8_first)], narrowed := true }
def EngineMarksUptoSaid : Prop := engineMarksUptoRow.holds Tryz.pinned (OpenSpec.upto engineMarksSpec)

/-- 'stratigraphlaw11.EngineGoes', WHERE WHAT IT READS IS OF BULK AT MOST 1048576: true; the input reads as it did. -/
def engineGoesUptoRow : OpenClaim := { program := "ytaodclcmfocccaagreatdoor", sum := "0418906a6129fb2ac083a63f73bf1cbc46efb4c9b57be3d31fa59bc99c3d4d29", func := "stratigraph/stratigraphlaw11.EngineGoes", spec := "engineGoes", inPlace := ["slices.overlaps[stratigraph/api.Entry]", "slices.overlaps[stratigraph/api.Done]", "slices.overlaps[stratigraph/api.Shard]"], unfollowed := true, recurses := true, named := ["unicode/utf8.first", "unicode/utf8.acceptRanges"], apart := false, laid := [("unicode/utf8.acceptRanges", laid_unicode_utf8_acceptRanges), ("unicode/utf8.first", laid_unicode_utf8_first)], narrowed := true }
def EngineGoesUptoSaid : Prop := engineGoesUptoRow.holds Tryz.pinned (OpenSpec.upto engineGoesSpec)

/-- 'stratigraphlaw11.EngineMoves', WHERE WHAT IT READS IS OF BULK AT MOST 1048576: true; the input reads as it did. -/
def engineMovesUptoRow : OpenClaim := { program := "ytaodclcmfocccaagreatdoor", sum := "0418906a6129fb2ac083a63f73bf1cbc46efb4c9b57be3d31fa59bc99c3d4d29", func := "stratigraph/stratigraphlaw11.EngineMoves", spec := "engineMoves", inPlace := ["slices.overlaps[stratigraph/api.Entry]", "slices.overlaps[stratigraph/api.Done]", "slices.overlaps[stratigraph/api.Shard]"], unfollowed := true, recurses := true, named := ["unicode/utf8.first", "unicode/utf8.acceptRanges"], apart := false, laid := [("unicode/utf8.acceptRanges", laid_unicode_utf8_acceptRanges), ("unicode/utf8.first", laid_unicode_utf8_first)], narrowed := true }
def EngineMovesUptoSaid : Prop := engineMovesUptoRow.holds Tryz.pinned (OpenSpec.upto engineMovesSpec)

/-- 'stratigraphlaw11.EngineParts', WHERE WHAT IT READS IS OF BULK AT MOST 1048576: true; the input reads as it did. -/
def enginePartsUptoRow : OpenClaim := { program := "ytaodclcmfocccaagreatdoor", sum := "0418906a6129fb2ac083a63f73bf1cbc46efb4c9b57be3d31fa59bc99c3d4d29", func := "stratigraph/stratigraphlaw11.EngineParts", spec := "engineParts", inPlace := ["slices.overlaps[stratigraph/api.Entry]", "slices.overlaps[stratigraph/api.Done]", "slices.overlaps[stratigraph/api.Shard]"], unfollowed := true, recurses := true, named := ["unicode/utf8.first", "unicode/utf8.acceptRanges"], apart := false, laid := [("unicode/utf8.acceptRanges", laid_unicode_utf8_acceptRanges), ("unicode/utf8.first", laid_unicode_utf8_first)], narrowed := true }
def EnginePartsUptoSaid : Prop := enginePartsUptoRow.holds Tryz.pinned (OpenSpec.upto enginePartsSpec)

/-- 'stratigraphlaw11.EngineStays', WHERE WHAT IT READS IS OF BULK AT MOST 1048576: true; the input reads as it did. -/
def engineStaysUptoRow : OpenClaim := { program := "ytaodclcmfocccaagreatdoor", sum := "0418906a6129fb2ac083a63f73bf1cbc46efb4c9b57be3d31fa59bc99c3d4d29", func := "stratigraph/stratigraphlaw11.EngineStays", spec := "engineStays", inPlace := ["slices.overlaps[stratigraph/api.Entry]", "slices.overlaps[stratigraph/api.Done]", "slices.overlaps[stratigraph/api.Shard]"], unfollowed := true, recurses := true, named := ["unicode/utf8.first", "unicode/utf8.acceptRanges"], apart := false, laid := [("unicode/utf8.acceptRanges", laid_unicode_utf8_acceptRanges), ("unicode/utf8.first", laid_unicode_utf8_first)], narrowed := true }
def EngineStaysUptoSaid : Prop := engineStaysUptoRow.holds Tryz.pinned (OpenSpec.upto engineStaysSpec)

/-- 'stratigraphlaw11.EnginePast', WHERE WHAT IT READS IS OF BULK AT MOST 1048576: true; the input reads as it did. -/
def enginePastUptoRow : OpenClaim := { program := "ytaodclcmfocccaagreatdoor", sum := "0418906a6129fb2ac083a63f73bf1cbc46efb4c9b57be3d31fa59bc99c3d4d29", func := "stratigraph/stratigraphlaw11.EnginePast", spec := "enginePast", inPlace := ["slices.overlaps[stratigraph/api.Entry]", "slices.overlaps[stratigraph/api.Done]", "slices.overlaps[stratigraph/api.Shard]"], unfollowed := true, recurses := true, named := ["unicode/utf8.first", "unicode/utf8.acceptRanges"], apart := false, laid := [("unicode/utf8.acceptRanges", laid_unicode_utf8_acceptRanges), ("unicode/utf8.first", laid_unicode_utf8_first)], narrowed := true }
def EnginePastUptoSaid : Prop := enginePastUptoRow.holds Tryz.pinned (OpenSpec.upto enginePastSpec)

/-- 'stratigraphlaw11.EngineAgain', WHERE WHAT IT READS IS OF BULK AT MOST 1048576: true; the input reads as it did. -/
def engineAgainUptoRow : OpenClaim := { program := "ytaodclcmfocccaagreatdoor", sum := "0418906a6129fb2ac083a63f73bf1cbc46efb4c9b57be3d31fa59bc99c3d4d29", func := "stratigraph/stratigraphlaw11.EngineAgain", spec := "engineAgain", inPlace := ["slices.overlaps[stratigraph/api.Entry]", "slices.overlaps[stratigraph/api.Done]", "slices.overlaps[stratigraph/api.Shard]"], unfollowed := true, recurses := true, named := ["unicode/utf8.first", "unicode/utf8.acceptRanges"], apart := false, laid := [("unicode/utf8.acceptRanges", laid_unicode_utf8_acceptRanges), ("unicode/utf8.first", laid_unicode_utf8_first)], narrowed := true }
def EngineAgainUptoSaid : Prop := engineAgainUptoRow.holds Tryz.pinned (OpenSpec.upto engineAgainSpec)

end Rows
end Go.Proofs.YtaodclcmfocccaaGreatDoor
