/-
  NARROWER THAN 'FOR EVERY INPUT', by the rows' own cells (each row's printed sentence says how): IndexPuts: laid · IndexPages: laid · IndexWhole: laid · IndexCuts: laid · IndexBack: laid · IndexPrunes: laid · IndexKeeps: laid.
  DERIVED. THE GIVEN ROWS OF THIS SEAT. 7 by the template 'for every input the law returns true; each argument reads behind the call as it read before'; 0 by the template 'total and deterministic' (their statements: YtcehlncpmdfhnaaDoorTotals.lean).
  GIVEN WITH THE SEED: the statements are not yours to turn. If you find one false, say at which input.
  Laid BY PROGRAM, IN A SANDBOX (cutbox-rows.mjs): the forced cells as the released guide's own fill.sh prints them over the translation 0b60eed5d89ed2d3… (all of the seat's roots in one cut). By AI agents, Wed Nov 11 2026. No macro, syntax, notation, axiom, sorry.
-/
import Derived.Test.YtcehlncpmdfhnaaDoorChecked
import GoSem.PinnedTables
import GoSem.Claim
import GoSem.ClaimJoined
import GoSem.ClaimMapViews
import Derived.JoinedTies
import Derived.KernelRfl
namespace Go.Proofs.YtcehlncpmdfhnaaDoor
/- THE CELL 'sum', in the pinned program and in every row, IS THE sha256 OF THE DUMP (.gsa) THAT YtcehlncpmdfhnaaDoorProg.lean LOADS. Nothing in Lean hashes anything: it is a label: what it is worth is what the hold of that sum in a sandbox is worth. -/
noncomputable def Tryd.pinned : Pinned := { name := "ytcehlncpmdfhnaadoor", sum := "0b60eed5d89ed2d32cacf5d9ccb5115e9d2ab32a5568bad55c13b4d63b63e69f", checked := Tryd.checked }
namespace Rows
def none {H : Type} : Left H := { results := [], args := [] }

/- WHAT THE LISTED PACKAGE-LEVEL VARIABLES READ AS WHEN THE CALL BEGINS. Each datum BY PROGRAM (the guide's laid-datum.mjs) off the statement by which the dump's own 'gosem.cut.vars' lays the variable. In a bare row this is a premise. The card (YtcehlncpmdfhnaaDoorCards.lean) ties it to the program's text. -/
def laid_unicode_utf8_acceptRanges {H : Type} : DataW H := .agg [.agg [.lit (.int .u8 128), .lit (.int .u8 191)], .agg [.lit (.int .u8 160), .lit (.int .u8 191)], .agg [.lit (.int .u8 128), .lit (.int .u8 159)], .agg [.lit (.int .u8 144), .lit (.int .u8 191)], .agg [.lit (.int .u8 128), .lit (.int .u8 143)], .agg [.lit (.int .u8 0), .lit (.int .u8 0)], .agg [.lit (.int .u8 0), .lit (.int .u8 0)], .agg [.lit (.int .u8 0), .lit (.int .u8 0)], .agg [.lit (.int .u8 0), .lit (.int .u8 0)], .agg [.lit (.int .u8 0), .lit (.int .u8 0)], .agg [.lit (.int .u8 0), .lit (.int .u8 0)], .agg [.lit (.int .u8 0), .lit (.int .u8 0)], .agg [.lit (.int .u8 0), .lit (.int .u8 0)], .agg [.lit (.int .u8 0), .lit (.int .u8 0)], .agg [.lit (.int .u8 0), .lit (.int .u8 0)], .agg [.lit (.int .u8 0), .lit (.int .u8 0)]]
/-- One of Go's own tables, pinned by name: the form's constant. -/
def laid_unicode_utf8_first : DataW Unit := Go.Pinned.utf8First

/-- 'stratigraphlaw08.IndexPuts': WHATEVER THE INPUT: true; the input reads as it did. -/
def indexPutsSpec : ChangeSpec := { name := "indexPuts", fn := fun _ => fun
  | [d1, d2, d3] => { results := [.lit (.bool true)], args := [d1, d2, d3] }
  | _ => none }
def indexPutsRow : OpenClaim := { program := "ytcehlncpmdfhnaadoor", sum := "0b60eed5d89ed2d32cacf5d9ccb5115e9d2ab32a5568bad55c13b4d63b63e69f", func := "stratigraph/stratigraphlaw08.IndexPuts", spec := "indexPuts", inPlace := ["slices.overlaps[stratigraph/api.Entry]"], unfollowed := true, recurses := true, named := ["unicode/utf8.first", "unicode/utf8.acceptRanges"], apart := false, laid := [("unicode/utf8.acceptRanges", laid_unicode_utf8_acceptRanges), ("unicode/utf8.first", laid_unicode_utf8_first)] }
def IndexPutsSaid : Prop := indexPutsRow.holds Tryd.pinned (OpenSpec.ofChange indexPutsSpec)

/-- ITS FALSE NEIGHBOUR: 'it returns false'. Refute it at one input. -/
def indexPutsWrong : ChangeSpec := { name := "indexPuts", fn := fun _ => fun
  | [d1, d2, d3] => { results := [.lit (.bool false)], args := [d1, d2, d3] }
  | _ => none }
def IndexPutsWrongFalsely : Prop := indexPutsRow.holds Tryd.pinned (OpenSpec.ofChange indexPutsWrong)

/-- 'stratigraphlaw08.IndexPages': WHATEVER THE INPUT: true; the input reads as it did. -/
def indexPagesSpec : ChangeSpec := { name := "indexPages", fn := fun _ => fun
  | [d1, d2, d3, d4, d5] => { results := [.lit (.bool true)], args := [d1, d2, d3, d4, d5] }
  | _ => none }
def indexPagesRow : OpenClaim := { program := "ytcehlncpmdfhnaadoor", sum := "0b60eed5d89ed2d32cacf5d9ccb5115e9d2ab32a5568bad55c13b4d63b63e69f", func := "stratigraph/stratigraphlaw08.IndexPages", spec := "indexPages", inPlace := ["slices.overlaps[stratigraph/api.Entry]"], unfollowed := true, recurses := true, named := ["unicode/utf8.first", "unicode/utf8.acceptRanges"], apart := false, laid := [("unicode/utf8.acceptRanges", laid_unicode_utf8_acceptRanges), ("unicode/utf8.first", laid_unicode_utf8_first)] }
def IndexPagesSaid : Prop := indexPagesRow.holds Tryd.pinned (OpenSpec.ofChange indexPagesSpec)

/-- ITS FALSE NEIGHBOUR: 'it returns false'. Refute it at one input. -/
def indexPagesWrong : ChangeSpec := { name := "indexPages", fn := fun _ => fun
  | [d1, d2, d3, d4, d5] => { results := [.lit (.bool false)], args := [d1, d2, d3, d4, d5] }
  | _ => none }
def IndexPagesWrongFalsely : Prop := indexPagesRow.holds Tryd.pinned (OpenSpec.ofChange indexPagesWrong)

/-- 'stratigraphlaw08.IndexWhole': WHATEVER THE INPUT: true; the input reads as it did. -/
def indexWholeSpec : ChangeSpec := { name := "indexWhole", fn := fun _ => fun
  | [d1, d2, d3, d4] => { results := [.lit (.bool true)], args := [d1, d2, d3, d4] }
  | _ => none }
def indexWholeRow : OpenClaim := { program := "ytcehlncpmdfhnaadoor", sum := "0b60eed5d89ed2d32cacf5d9ccb5115e9d2ab32a5568bad55c13b4d63b63e69f", func := "stratigraph/stratigraphlaw08.IndexWhole", spec := "indexWhole", inPlace := ["slices.overlaps[stratigraph/api.Entry]"], unfollowed := true, recurses := true, named := ["unicode/utf8.first", "unicode/utf8.acceptRanges"], apart := false, laid := [("unicode/utf8.acceptRanges", laid_unicode_utf8_acceptRanges), ("unicode/utf8.first", laid_unicode_utf8_first)] }
def IndexWholeSaid : Prop := indexWholeRow.holds Tryd.pinned (OpenSpec.ofChange indexWholeSpec)

/-- ITS FALSE NEIGHBOUR: 'it returns false'. Refute it at one input. -/
def indexWholeWrong : ChangeSpec := { name := "indexWhole", fn := fun _ => fun
  | [d1, d2, d3, d4] => { results := [.lit (.bool false)], args := [d1, d2, d3, d4] }
  | _ => none }
def IndexWholeWrongFalsely : Prop := indexWholeRow.holds Tryd.pinned (OpenSpec.ofChange indexWholeWrong)

/-- 'stratigraphlaw08.IndexCuts': WHATEVER THE INPUT: true; the input reads as it did. -/
def indexCutsSpec : ChangeSpec := { name := "indexCuts", fn := fun _ => fun
  | [d1, d2, d3] => { results := [.lit (.bool true)], args := [d1, d2, d3] }
  | _ => none }
def indexCutsRow : OpenClaim := { program := "ytcehlncpmdfhnaadoor", sum := "0b60eed5d89ed2d32cacf5d9ccb5115e9d2ab32a5568bad55c13b4d63b63e69f", func := "stratigraph/stratigraphlaw08.IndexCuts", spec := "indexCuts", inPlace := ["slices.overlaps[stratigraph/api.Entry]"], unfollowed := true, recurses := true, named := ["unicode/utf8.first", "unicode/utf8.acceptRanges"], apart := false, laid := [("unicode/utf8.acceptRanges", laid_unicode_utf8_acceptRanges), ("unicode/utf8.first", laid_unicode_utf8_first)] }
def IndexCutsSaid : Prop := indexCutsRow.holds Tryd.pinned (OpenSpec.ofChange indexCutsSpec)

/-- ITS FALSE NEIGHBOUR: 'it returns false'. Refute it at one input. -/
def indexCutsWrong : ChangeSpec := { name := "indexCuts", fn := fun _ => fun
  | [d1, d2, d3] => { results := [.lit (.bool false)], args := [d1, d2, d3] }
  | _ => none }
def IndexCutsWrongFalsely : Prop := indexCutsRow.holds Tryd.pinned (OpenSpec.ofChange indexCutsWrong)

/-- 'stratigraphlaw08.IndexBack': WHATEVER THE INPUT: true; the input reads as it did. -/
def indexBackSpec : ChangeSpec := { name := "indexBack", fn := fun _ => fun
  | [d1, d2] => { results := [.lit (.bool true)], args := [d1, d2] }
  | _ => none }
def indexBackRow : OpenClaim := { program := "ytcehlncpmdfhnaadoor", sum := "0b60eed5d89ed2d32cacf5d9ccb5115e9d2ab32a5568bad55c13b4d63b63e69f", func := "stratigraph/stratigraphlaw08.IndexBack", spec := "indexBack", inPlace := ["slices.overlaps[stratigraph/api.Entry]"], unfollowed := true, recurses := true, named := ["unicode/utf8.first", "unicode/utf8.acceptRanges"], apart := false, laid := [("unicode/utf8.acceptRanges", laid_unicode_utf8_acceptRanges), ("unicode/utf8.first", laid_unicode_utf8_first)] }
def IndexBackSaid : Prop := indexBackRow.holds Tryd.pinned (OpenSpec.ofChange indexBackSpec)

/-- ITS FALSE NEIGHBOUR: 'it returns false'. Refute it at one input. -/
def indexBackWrong : ChangeSpec := { name := "indexBack", fn := fun _ => fun
  | [d1, d2] => { results := [.lit (.bool false)], args := [d1, d2] }
  | _ => none }
def IndexBackWrongFalsely : Prop := indexBackRow.holds Tryd.pinned (OpenSpec.ofChange indexBackWrong)

/-- 'stratigraphlaw08.IndexPrunes': WHATEVER THE INPUT: true; the input reads as it did. -/
def indexPrunesSpec : ChangeSpec := { name := "indexPrunes", fn := fun _ => fun
  | [d1, d2] => { results := [.lit (.bool true)], args := [d1, d2] }
  | _ => none }
def indexPrunesRow : OpenClaim := { program := "ytcehlncpmdfhnaadoor", sum := "0b60eed5d89ed2d32cacf5d9ccb5115e9d2ab32a5568bad55c13b4d63b63e69f", func := "stratigraph/stratigraphlaw08.IndexPrunes", spec := "indexPrunes", inPlace := ["slices.overlaps[stratigraph/api.Entry]"], unfollowed := true, recurses := true, named := ["unicode/utf8.first", "unicode/utf8.acceptRanges"], apart := false, laid := [("unicode/utf8.acceptRanges", laid_unicode_utf8_acceptRanges), ("unicode/utf8.first", laid_unicode_utf8_first)] }
def IndexPrunesSaid : Prop := indexPrunesRow.holds Tryd.pinned (OpenSpec.ofChange indexPrunesSpec)

/-- ITS FALSE NEIGHBOUR: 'it returns false'. Refute it at one input. -/
def indexPrunesWrong : ChangeSpec := { name := "indexPrunes", fn := fun _ => fun
  | [d1, d2] => { results := [.lit (.bool false)], args := [d1, d2] }
  | _ => none }
def IndexPrunesWrongFalsely : Prop := indexPrunesRow.holds Tryd.pinned (OpenSpec.ofChange indexPrunesWrong)

/-- 'stratigraphlaw08.IndexKeeps': WHATEVER THE INPUT: true; the input reads as it did. -/
def indexKeepsSpec : ChangeSpec := { name := "indexKeeps", fn := fun _ => fun
  | [d1, d2, d3, d4, d5] => { results := [.lit (.bool true)], args := [d1, d2, d3, d4, d5] }
  | _ => none }
def indexKeepsRow : OpenClaim := { program := "ytcehlncpmdfhnaadoor", sum := "0b60eed5d89ed2d32cacf5d9ccb5115e9d2ab32a5568bad55c13b4d63b63e69f", func := "stratigraph/stratigraphlaw08.IndexKeeps", spec := "indexKeeps", inPlace := ["slices.overlaps[stratigraph/api.Entry]"], unfollowed := true, recurses := true, named := ["unicode/utf8.first", "unicode/utf8.acceptRanges"], apart := false, laid := [("unicode/utf8.acceptRanges", laid_unicode_utf8_acceptRanges), ("unicode/utf8.first", laid_unicode_utf8_first)] }
def IndexKeepsSaid : Prop := indexKeepsRow.holds Tryd.pinned (OpenSpec.ofChange indexKeepsSpec)

/-- ITS FALSE NEIGHBOUR: 'it returns false'. Refute it at one input. -/
def indexKeepsWrong : ChangeSpec := { name := "indexKeeps", fn := fun _ => fun
  | [d1, d2, d3, d4, d5] => { results := [.lit (.bool false)], args := [d1, d2, d3, d4, d5] }
  | _ => none }
def IndexKeepsWrongFalsely : Prop := indexKeepsRow.holds Tryd.pinned (OpenSpec.ofChange indexKeepsWrong)

/- THE SECOND FORM. 'bulk': how many values and letters a reading holds, each counted each time it is reached (what is shared counts as often as it is met; a slice's spare places count too). A statement '..UptoSaid' is the law's where the arguments, and the package variables that the reading takes, are together of bulk at most 1048576: NARROWER than '..Said'. Prove '..Said' where nothing that the law and all that it calls make is longer than what came in: it says more and counts as full. Else prove '..UptoSaid'. A law counts once. -/
mutual
def uptoBulk {H : Type} : DataW H → Nat
  | .lit (.string bytes) => bytes.length + 1
  | .lit _ => 1
  | .nil => 1
  | .ptr d => uptoBulk d + 1
  | .slice elems spare => uptoBulkAll elems + uptoBulkAll spare + 1
  | .agg parts => uptoBulkAll parts + 1
  | .iface _ d => uptoBulk d + 1
  | .map entries => uptoBulkEntries entries + 1
  | .held _ => 1
def uptoBulkAll {H : Type} : List (DataW H) → Nat
  | [] => 0
  | d :: r => uptoBulk d + uptoBulkAll r
def uptoBulkEntries {H : Type} : List (Lit × DataW H) → Nat
  | [] => 0
  | x :: r => uptoBulkEntry x + uptoBulkEntries r
def uptoBulkEntry {H : Type} : Lit × DataW H → Nat
  | (.string bytes, d) => bytes.length + uptoBulk d + 1
  | (_, d) => uptoBulk d + 1
 end
def uptoSmall : (H : Type) → List (DataW H) → Bool := fun _ ds => decide (uptoBulkAll ds ≤ 1048576)
def OpenSpec.upto (s : _root_.Go.ChangeSpec) : _root_.Go.OpenSpec := { _root_.Go.OpenSpec.ofChange s with cond := some uptoSmall }

/-- 'stratigraphlaw08.IndexPuts', WHERE WHAT IT READS IS OF BULK AT MOST 1048576: true; the input reads as it did. -/
def indexPutsUptoRow : OpenClaim := { program := "ytcehlncpmdfhnaadoor", sum := "0b60eed5d89ed2d32cacf5d9ccb5115e9d2ab32a5568bad55c13b4d63b63e69f", func := "stratigraph/stratigraphlaw08.IndexPuts", spec := "indexPuts", inPlace := ["slices.overlaps[stratigraph/api.Entry]"], unfollowed := true, recurses := true, named := ["unicode/utf8.first", "unicode/utf8.acceptRanges"], apart := false, laid := [("unicode/utf8.acceptRanges", laid_unicode_utf8_acceptRanges), ("unicode/utf8.first", laid_unicode_utf8_first)], narrowed := true }
def IndexPutsUptoSaid : Prop := indexPutsUptoRow.holds Tryd.pinned (OpenSpec.upto indexPutsSpec)

/-- 'stratigraphlaw08.IndexPages', WHERE WHAT IT READS IS OF BULK AT MOST 1048576: true; the input reads as it did. -/
def indexPagesUptoRow : OpenClaim := { program := "ytcehlncpmdfhnaadoor", sum := "0b60eed5d89ed2d32cacf5d9ccb5115e9d2ab32a5568bad55c13b4d63b63e69f", func := "stratigraph/stratigraphlaw08.IndexPages", spec := "indexPages", inPlace := ["slices.overlaps[stratigraph/api.Entry]"], unfollowed := true, recurses := true, named := ["unicode/utf8.first", "unicode/utf8.acceptRanges"], apart := false, laid := [("unicode/utf8.acceptRanges", laid_unicode_utf8_acceptRanges), ("unicode/utf8.first", laid_unicode_utf8_first)], narrowed := true }
def IndexPagesUptoSaid : Prop := indexPagesUptoRow.holds Tryd.pinned (OpenSpec.upto indexPagesSpec)

/-- 'stratigraphlaw08.IndexWhole', WHERE WHAT IT READS IS OF BULK AT MOST 1048576: true; the input reads as it did. -/
def indexWholeUptoRow : OpenClaim := { program := "ytcehlncpmdfhnaadoor", sum := "0b60eed5d89ed2d32cacf5d9ccb5115e9d2ab32a5568bad55c13b4d63b63e69f", func := "stratigraph/stratigraphlaw08.IndexWhole", spec := "indexWhole", inPlace := ["slices.overlaps[stratigraph/api.Entry]"], unfollowed := true, recurses := true, named := ["unicode/utf8.first", "unicode/utf8.acceptRanges"], apart := false, laid := [("unicode/utf8.acceptRanges", laid_unicode_utf8_acceptRanges), ("unicode/utf8.first", laid_unicode_utf8_first)], narrowed := true }
def IndexWholeUptoSaid : Prop := indexWholeUptoRow.holds Tryd.pinned (OpenSpec.upto indexWholeSpec)

/-- 'stratigraphlaw08.IndexCuts', WHERE WHAT IT READS IS OF BULK AT MOST 1048576: true; the input reads as it did. -/
def indexCutsUptoRow : OpenClaim := { program := "ytcehlncpmdfhnaadoor", sum := "0b60eed5d89ed2d32cacf5d9ccb5115e9d2ab32a5568bad55c13b4d63b63e69f", func := "stratigraph/stratigraphlaw08.IndexCuts", spec := "indexCuts", inPlace := ["slices.overlaps[stratigraph/api.Entry]"], unfollowed := true, recurses := true, named := ["unicode/utf8.first", "unicode/utf8.acceptRanges"], apart := false, laid := [("unicode/utf8.acceptRanges", laid_unicode_utf8_acceptRanges), ("unicode/utf8.first", laid_unicode_utf8_first)], narrowed := true }
def IndexCutsUptoSaid : Prop := indexCutsUptoRow.holds Tryd.pinned (OpenSpec.upto indexCutsSpec)

/-- 'stratigraphlaw08.IndexBack', WHERE WHAT IT READS IS OF BULK AT MOST 1048576: true; the input reads as it did. -/
def indexBackUptoRow : OpenClaim := { program := "ytcehlncpmdfhnaadoor", sum := "0b60eed5d89ed2d32cacf5d9ccb5115e9d2ab32a5568bad55c13b4d63b63e69f", func := "stratigraph/stratigraphlaw08.IndexBack", spec := "indexBack", inPlace := ["slices.overlaps[stratigraph/api.Entry]"], unfollowed := true, recurses := true, named := ["unicode/utf8.first", "unicode/utf8.acceptRanges"], apart := false, laid := [("unicode/utf8.acceptRanges", laid_unicode_utf8_acceptRanges), ("unicode/utf8.first", laid_unicode_utf8_first)], narrowed := true }
def IndexBackUptoSaid : Prop := indexBackUptoRow.holds Tryd.pinned (OpenSpec.upto indexBackSpec)

/-- 'stratigraphlaw08.IndexPrunes', WHERE WHAT IT READS IS OF BULK AT MOST 1048576: true; the input reads as it did. -/
def indexPrunesUptoRow : OpenClaim := { program := "ytcehlncpmdfhnaadoor", sum := "0b60eed5d89ed2d32cacf5d9ccb5115e9d2ab32a5568bad55c13b4d63b63e69f", func := "stratigraph/stratigraphlaw08.IndexPrunes", spec := "indexPrunes", inPlace := ["slices.overlaps[stratigraph/api.Entry]"], unfollowed := true, recurses := true, named := ["unicode/utf8.first", "unicode/utf8.acceptRanges"], apart := false, laid := [("unicode/utf8.acceptRanges", laid_unicode_utf8_acceptRanges), ("unicode/utf8.first", laid_unicode_utf8_first)], narrowed := true }
def IndexPrunesUptoSaid : Prop := indexPrunesUptoRow.holds Tryd.pinned (OpenSpec.upto indexPrunesSpec)

/-- 'stratigraphlaw08.IndexKeeps', WHERE WHAT IT READS IS OF BULK AT MOST 1048576: true; the input reads as it did. -/
def indexKeepsUptoRow : OpenClaim := { program := "ytcehlncpmdfhnaadoor", sum := "0b60eed5d89ed2d32cacf5d9ccb5115e9d2ab32a5568bad55c13b4d63b63e69f", func := "stratigraph/stratigraphlaw08.IndexKeeps", spec := "indexKeeps", inPlace := ["slices.overlaps[stratigraph/api.Entry]"], unfollowed := true, recurses := true, named := ["unicode/utf8.first", "unicode/utf8.acceptRanges"], apart := false, laid := [("unicode/utf8.acceptRanges", laid_unicode_utf8_acceptRanges), ("unicode/utf8.first", laid_unicode_utf8_first)], narrowed := true }
def IndexKeepsUptoSaid : Prop := indexKeepsUptoRow.holds Tryd.pinned (OpenSpec.upto indexKeepsSpec)

end Rows
end Go.Proofs.YtcehlncpmdfhnaaDoor
