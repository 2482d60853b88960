/-
  NARROWER THAN 'FOR EVERY INPUT', by the rows' own cells (each row's printed sentence says how): DirectorNews: laid · DirectorCommands: laid · DirectorTicks: laid · DirectorStays: laid · DirectorMarks: laid.
  DERIVED. THE GIVEN ROWS OF THIS SEAT. 5 by the template 'for every input the law returns true; each argument reads behind the call as it read before'; 0 by the template 'total and deterministic' (their statements: YtidnkanghejlhaaGreatDoorTotals.lean).
  GIVEN WITH THE SEED: the statements are not yours to turn. If you find one false, say at which input.
  Laid BY PROGRAM, IN A SANDBOX (cutbox-rows.mjs): the forced cells as the released guide's own fill.sh prints them over the translation 314df52882ab24d1… (all of the seat's roots in one cut). By AI agents, Wed Nov 11 2026. No macro, syntax, notation, axiom, sorry.
-/
import Derived.Test.YtidnkanghejlhaaGreatDoorChecked
import GoSem.PinnedTables
import GoSem.Claim
import GoSem.ClaimJoined
import GoSem.ClaimMapViews
import Derived.JoinedTies
import Derived.KernelRfl
namespace Go.Proofs.YtidnkanghejlhaaGreatDoor
/- THE CELL 'sum', in the pinned program and in every row, IS THE sha256 OF THE DUMP (.gsa) THAT YtidnkanghejlhaaGreatDoorProg.lean LOADS. Nothing in Lean hashes anything: it is a label: what it is worth is what the hold of that sum in a sandbox is worth. -/
noncomputable def Tryz.pinned : Pinned := { name := "ytidnkanghejlhaagreatdoor", sum := "314df52882ab24d1204988dea4878d6d874b8a7c7eeeef38445cf65c79a62c91", checked := Tryz.checked }
namespace Rows
def none {H : Type} : Left H := { results := [], args := [] }

/- WHAT THE LISTED PACKAGE-LEVEL VARIABLES READ AS WHEN THE CALL BEGINS. Each datum BY PROGRAM (the guide's laid-datum.mjs) off the statement by which the dump's own 'gosem.cut.vars' lays the variable. In a bare row this is a premise. The card (YtidnkanghejlhaaGreatDoorCards.lean) ties it to the program's text. -/
def laid_unicode_utf8_acceptRanges {H : Type} : DataW H := .agg [.agg [.lit (.int .u8 128), .lit (.int .u8 191)], .agg [.lit (.int .u8 160), .lit (.int .u8 191)], .agg [.lit (.int .u8 128), .lit (.int .u8 159)], .agg [.lit (.int .u8 144), .lit (.int .u8 191)], .agg [.lit (.int .u8 128), .lit (.int .u8 143)], .agg [.lit (.int .u8 0), .lit (.int .u8 0)], .agg [.lit (.int .u8 0), .lit (.int .u8 0)], .agg [.lit (.int .u8 0), .lit (.int .u8 0)], .agg [.lit (.int .u8 0), .lit (.int .u8 0)], .agg [.lit (.int .u8 0), .lit (.int .u8 0)], .agg [.lit (.int .u8 0), .lit (.int .u8 0)], .agg [.lit (.int .u8 0), .lit (.int .u8 0)], .agg [.lit (.int .u8 0), .lit (.int .u8 0)], .agg [.lit (.int .u8 0), .lit (.int .u8 0)], .agg [.lit (.int .u8 0), .lit (.int .u8 0)], .agg [.lit (.int .u8 0), .lit (.int .u8 0)]]
/-- One of Go's own tables, pinned by name: the form's constant. -/
def laid_unicode_utf8_first : DataW Unit := Go.Pinned.utf8First

/-- 'stratigraphlaw19.DirectorNews': WHATEVER THE INPUT: true; the input reads as it did. -/
def directorNewsSpec : ChangeSpec := { name := "directorNews", fn := fun _ => fun
  | [d] => { results := [.lit (.bool true)], args := [d] }
  | _ => none }
def directorNewsRow : OpenClaim := { program := "ytidnkanghejlhaagreatdoor", sum := "314df52882ab24d1204988dea4878d6d874b8a7c7eeeef38445cf65c79a62c91", func := "stratigraph/stratigraphlaw19.DirectorNews", spec := "directorNews", inPlace := ["slices.overlaps[stratigraph/api.Place]", "internal/abi.NoEscape", "internal/bytealg.MakeNoZero", "slices.overlaps[stratigraph/director.Row]", "slices.overlaps[stratigraph/api.Lease]"], unfollowed := true, recurses := true, named := ["unicode/utf8.first", "unicode/utf8.acceptRanges"], apart := false, laid := [("unicode/utf8.acceptRanges", laid_unicode_utf8_acceptRanges), ("unicode/utf8.first", laid_unicode_utf8_first)] }
def DirectorNewsSaid : Prop := directorNewsRow.holds Tryz.pinned (OpenSpec.ofChange directorNewsSpec)

/-- ITS FALSE NEIGHBOUR: 'it returns false'. Refute it at one input. -/
def directorNewsWrong : ChangeSpec := { name := "directorNews", fn := fun _ => fun
  | [d] => { results := [.lit (.bool false)], args := [d] }
  | _ => none }
def DirectorNewsWrongFalsely : Prop := directorNewsRow.holds Tryz.pinned (OpenSpec.ofChange directorNewsWrong)

/-- 'stratigraphlaw19.DirectorCommands': WHATEVER THE INPUT: true; the input reads as it did. -/
def directorCommandsSpec : ChangeSpec := { name := "directorCommands", fn := fun _ => fun
  | [d1, d2] => { results := [.lit (.bool true)], args := [d1, d2] }
  | _ => none }
def directorCommandsRow : OpenClaim := { program := "ytidnkanghejlhaagreatdoor", sum := "314df52882ab24d1204988dea4878d6d874b8a7c7eeeef38445cf65c79a62c91", func := "stratigraph/stratigraphlaw19.DirectorCommands", spec := "directorCommands", inPlace := ["slices.overlaps[stratigraph/api.Place]", "internal/abi.NoEscape", "internal/bytealg.MakeNoZero", "slices.overlaps[stratigraph/director.Row]", "slices.overlaps[stratigraph/api.Lease]"], unfollowed := true, recurses := true, named := ["unicode/utf8.first", "unicode/utf8.acceptRanges"], apart := false, laid := [("unicode/utf8.acceptRanges", laid_unicode_utf8_acceptRanges), ("unicode/utf8.first", laid_unicode_utf8_first)] }
def DirectorCommandsSaid : Prop := directorCommandsRow.holds Tryz.pinned (OpenSpec.ofChange directorCommandsSpec)

/-- ITS FALSE NEIGHBOUR: 'it returns false'. Refute it at one input. -/
def directorCommandsWrong : ChangeSpec := { name := "directorCommands", fn := fun _ => fun
  | [d1, d2] => { results := [.lit (.bool false)], args := [d1, d2] }
  | _ => none }
def DirectorCommandsWrongFalsely : Prop := directorCommandsRow.holds Tryz.pinned (OpenSpec.ofChange directorCommandsWrong)

/-- 'stratigraphlaw19.DirectorTicks': WHATEVER THE INPUT: true; the input reads as it did. -/
def directorTicksSpec : ChangeSpec := { name := "directorTicks", fn := fun _ => fun
  | [d] => { results := [.lit (.bool true)], args := [d] }
  | _ => none }
def directorTicksRow : OpenClaim := { program := "ytidnkanghejlhaagreatdoor", sum := "314df52882ab24d1204988dea4878d6d874b8a7c7eeeef38445cf65c79a62c91", func := "stratigraph/stratigraphlaw19.DirectorTicks", spec := "directorTicks", inPlace := ["slices.overlaps[stratigraph/api.Place]", "internal/abi.NoEscape", "internal/bytealg.MakeNoZero", "slices.overlaps[stratigraph/director.Row]", "slices.overlaps[stratigraph/api.Lease]"], unfollowed := true, recurses := true, named := ["unicode/utf8.first", "unicode/utf8.acceptRanges"], apart := false, laid := [("unicode/utf8.acceptRanges", laid_unicode_utf8_acceptRanges), ("unicode/utf8.first", laid_unicode_utf8_first)] }
def DirectorTicksSaid : Prop := directorTicksRow.holds Tryz.pinned (OpenSpec.ofChange directorTicksSpec)

/-- ITS FALSE NEIGHBOUR: 'it returns false'. Refute it at one input. -/
def directorTicksWrong : ChangeSpec := { name := "directorTicks", fn := fun _ => fun
  | [d] => { results := [.lit (.bool false)], args := [d] }
  | _ => none }
def DirectorTicksWrongFalsely : Prop := directorTicksRow.holds Tryz.pinned (OpenSpec.ofChange directorTicksWrong)

/-- 'stratigraphlaw19.DirectorStays': WHATEVER THE INPUT: true; the input reads as it did. -/
def directorStaysSpec : ChangeSpec := { name := "directorStays", fn := fun _ => fun
  | [d1, d2, d3] => { results := [.lit (.bool true)], args := [d1, d2, d3] }
  | _ => none }
def directorStaysRow : OpenClaim := { program := "ytidnkanghejlhaagreatdoor", sum := "314df52882ab24d1204988dea4878d6d874b8a7c7eeeef38445cf65c79a62c91", func := "stratigraph/stratigraphlaw19.DirectorStays", spec := "directorStays", inPlace := ["slices.overlaps[stratigraph/api.Place]", "internal/abi.NoEscape", "internal/bytealg.MakeNoZero", "slices.overlaps[stratigraph/director.Row]", "slices.overlaps[stratigraph/api.Lease]"], unfollowed := true, recurses := true, named := ["unicode/utf8.first", "unicode/utf8.acceptRanges"], apart := false, laid := [("unicode/utf8.acceptRanges", laid_unicode_utf8_acceptRanges), ("unicode/utf8.first", laid_unicode_utf8_first)] }
def DirectorStaysSaid : Prop := directorStaysRow.holds Tryz.pinned (OpenSpec.ofChange directorStaysSpec)

/-- ITS FALSE NEIGHBOUR: 'it returns false'. Refute it at one input. -/
def directorStaysWrong : ChangeSpec := { name := "directorStays", fn := fun _ => fun
  | [d1, d2, d3] => { results := [.lit (.bool false)], args := [d1, d2, d3] }
  | _ => none }
def DirectorStaysWrongFalsely : Prop := directorStaysRow.holds Tryz.pinned (OpenSpec.ofChange directorStaysWrong)

/-- 'stratigraphlaw19.DirectorMarks': WHATEVER THE INPUT: true; the input reads as it did. -/
def directorMarksSpec : ChangeSpec := { name := "directorMarks", fn := fun _ => fun
  | [d] => { results := [.lit (.bool true)], args := [d] }
  | _ => none }
def directorMarksRow : OpenClaim := { program := "ytidnkanghejlhaagreatdoor", sum := "314df52882ab24d1204988dea4878d6d874b8a7c7eeeef38445cf65c79a62c91", func := "stratigraph/stratigraphlaw19.DirectorMarks", spec := "directorMarks", inPlace := ["slices.overlaps[stratigraph/api.Place]", "internal/abi.NoEscape", "internal/bytealg.MakeNoZero", "slices.overlaps[stratigraph/director.Row]", "slices.overlaps[stratigraph/api.Lease]"], unfollowed := true, recurses := true, named := ["unicode/utf8.first", "unicode/utf8.acceptRanges"], apart := false, laid := [("unicode/utf8.acceptRanges", laid_unicode_utf8_acceptRanges), ("unicode/utf8.first", laid_unicode_utf8_first)] }
def DirectorMarksSaid : Prop := directorMarksRow.holds Tryz.pinned (OpenSpec.ofChange directorMarksSpec)

/-- ITS FALSE NEIGHBOUR: 'it returns false'. Refute it at one input. -/
def directorMarksWrong : ChangeSpec := { name := "directorMarks", fn := fun _ => fun
  | [d] => { results := [.lit (.bool false)], args := [d] }
  | _ => none }
def DirectorMarksWrongFalsely : Prop := directorMarksRow.holds Tryz.pinned (OpenSpec.ofChange directorMarksWrong)

/- THE SECOND FORM. 'bulk': how many values and letters a reading holds, each counted each time it is reached (what is shared counts as often as it is met; a slice's spare places count too). A statement '..UptoSaid' is the law's where the arguments, and the package variables that the reading takes, are together of bulk at most 1048576: NARROWER than '..Said'. Prove '..Said' where nothing that the law and all that it calls make is longer than what came in: it says more and counts as full. Else prove '..UptoSaid'. A law counts once. -/
mutual
def uptoBulk {H : Type} : DataW H → Nat
  | .lit (.string bytes) => bytes.length + 1
  | .lit _ => 1
  | .nil => 1
  | .ptr d => uptoBulk d + 1
  | .slice elems spare => uptoBulkAll elems + uptoBulkAll spare + 1
  | .agg parts => uptoBulkAll parts + 1
  | .iface _ d => uptoBulk d + 1
  | .map entries => uptoBulkEntries entries + 1
  | .held _ => 1
def uptoBulkAll {H : Type} : List (DataW H) → Nat
  | [] => 0
  | d :: r => uptoBulk d + uptoBulkAll r
def uptoBulkEntries {H : Type} : List (Lit × DataW H) → Nat
  | [] => 0
  | x :: r => uptoBulkEntry x + uptoBulkEntries r
def uptoBulkEntry {H : Type} : Lit × DataW H → Nat
  | (.string bytes, d) => bytes.length + uptoBulk d + 1
  | (_, d) => uptoBulk d + 1
 end
def uptoSmall : (H : Type) → List (DataW H) → Bool := fun _ ds => decide (uptoBulkAll ds ≤ 1048576)
def OpenSpec.upto (s : _root_.Go.ChangeSpec) : _root_.Go.OpenSpec := { _root_.Go.OpenSpec.ofChange s with cond := some uptoSmall }

/-- 'stratigraphlaw19.DirectorNews', WHERE WHAT IT READS IS OF BULK AT MOST 1048576: true; the input reads as it did. -/
def directorNewsUptoRow : OpenClaim := { program := "ytidnkanghejlhaagreatdoor", sum := "314df52882ab24d1204988dea4878d6d874b8a7c7eeeef38445cf65c79a62c91", func := "stratigraph/stratigraphlaw19.DirectorNews", spec := "directorNews", inPlace := ["slices.overlaps[stratigraph/api.Place]", "internal/abi.NoEscape", "internal/bytealg.MakeNoZero", "slices.overlaps[stratigraph/director.Row]", "slices.overlaps[stratigraph/api.Lease]"], unfollowed := true, recurses := true, named := ["unicode/utf8.first", "unicode/utf8.acceptRanges"], apart := false, laid := [("unicode/utf8.acceptRanges", laid_unicode_utf8_acceptRanges), ("unicode/utf8.first", laid_unicode_utf8_first)], narrowed := true }
def DirectorNewsUptoSaid : Prop := directorNewsUptoRow.holds Tryz.pinned (OpenSpec.upto directorNewsSpec)

/-- 'stratigraphlaw19.DirectorCommands', WHERE WHAT IT READS IS OF BULK AT MOST 1048576: true; the input reads as it did. -/
def directorCommandsUptoRow : OpenClaim := { program := "ytidnkanghejlhaagreatdoor", sum := "314df52882ab24d1204988dea4878d6d874b8a7c7eeeef38445cf65c79a62c91", func := "stratigraph/stratigraphlaw19.DirectorCommands", spec := "directorCommands", inPlace := ["slices.overlaps[stratigraph/api.Place]", "internal/abi.NoEscape", "internal/bytealg.MakeNoZero", "slices.overlaps[stratigraph/director.Row]", "slices.overlaps[stratigraph/api.Lease]"], unfollowed := true, recurses := true, named := ["unicode/utf8.first", "unicode/utf8.acceptRanges"], apart := false, laid := [("unicode/utf8.acceptRanges", laid_unicode_utf8_acceptRanges), ("unicode/utf8.first", laid_unicode_utf8_first)], narrowed := true }
def DirectorCommandsUptoSaid : Prop := directorCommandsUptoRow.holds Tryz.pinned (OpenSpec.upto directorCommandsSpec)

/-- 'stratigraphlaw19.DirectorTicks', WHERE WHAT IT READS IS OF BULK AT MOST 1048576: true; the input reads as it did. -/
def directorTicksUptoRow : OpenClaim := { program := "ytidnkanghejlhaagreatdoor", sum := "314df52882ab24d1204988dea4878d6d874b8a7c7eeeef38445cf65c79a62c91", func := "stratigraph/stratigraphlaw19.DirectorTicks", spec := "directorTicks", inPlace := ["slices.overlaps[stratigraph/api.Place]", "internal/abi.NoEscape", "internal/bytealg.MakeNoZero", "slices.overlaps[stratigraph/director.Row]", "slices.overlaps[stratigraph/api.Lease]"], unfollowed := true, recurses := true, named := ["unicode/utf8.first", "unicode/utf8.acceptRanges"], apart := false, laid := [("unicode/utf8.acceptRanges", laid_unicode_utf8_acceptRanges), ("unicode/utf8.first", laid_unicode_utf8_first)], narrowed := true }
def DirectorTicksUptoSaid : Prop := directorTicksUptoRow.holds Tryz.pinned (OpenSpec.upto directorTicksSpec)

/-- 'stratigraphlaw19.DirectorStays', WHERE WHAT IT READS IS OF BULK AT MOST 1048576: true; the input reads as it did. -/
def directorStaysUptoRow : OpenClaim := { program := "ytidnkanghejlhaagreatdoor", sum := "314df52882ab24d1204988dea4878d6d874b8a7c7eeeef38445cf65c79a62c91", func := "stratigraph/stratigraphlaw19.DirectorStays", spec := "directorStays", inPlace := ["slices.overlaps[stratigraph/api.Place]", "internal/abi.NoEscape", "internal/bytealg.MakeNoZero", "slices.overlaps[stratigraph/director.Row]", "slices.overlaps[stratigraph/api.Lease]"], unfollowed := true, recurses := true, named := ["unicode/utf8.first", "unicode/utf8.acceptRanges"], apart := false, laid := [("unicode/utf8.acceptRanges", laid_unicode_utf8_acceptRanges), ("unicode/utf8.first", laid_unicode_utf8_first)], narrowed := true }
def DirectorStaysUptoSaid : Prop := directorStaysUptoRow.holds Tryz.pinned (OpenSpec.upto directorStaysSpec)

/-- 'stratigraphlaw19.DirectorMarks', WHERE WHAT IT READS IS OF BULK AT MOST 1048576: true; the input reads as it did. -/
def directorMarksUptoRow : OpenClaim := { program := "ytidnkanghejlhaagreatdoor", sum := "314df52882ab24d1204988dea4878d6d874b8a7c7eeeef38445cf65c79a62c91", func := "stratigraph/stratigraphlaw19.DirectorMarks", spec := "directorMarks", inPlace := ["slices.overlaps[stratigraph/api.Place]", "internal/abi.NoEscape", "internal/bytealg.MakeNoZero", "slices.overlaps[stratigraph/director.Row]", "slices.overlaps[stratigraph/api.Lease]"], unfollowed := true, recurses := true, named := ["unicode/utf8.first", "unicode/utf8.acceptRanges"], apart := false, laid := [("unicode/utf8.acceptRanges", laid_unicode_utf8_acceptRanges), ("unicode/utf8.first", laid_unicode_utf8_first)], narrowed := true }
def DirectorMarksUptoSaid : Prop := directorMarksUptoRow.holds Tryz.pinned (OpenSpec.upto directorMarksSpec)

end Rows
end Go.Proofs.YtidnkanghejlhaaGreatDoor
