/-
  NARROWER THAN 'FOR EVERY INPUT', by the rows' own cells (each row's printed sentence says how): AtlasMeets: laid · AtlasFinds: laid · AtlasBack: laid · AtlasTurns: laid · AtlasOnce: laid.
  DERIVED. THE GIVEN ROWS OF THIS SEAT. 5 by the template 'for every input the law returns true; each argument reads behind the call as it read before'; 0 by the template 'total and deterministic' (their statements: YtoklilggickleaaDoorTotals.lean).
  GIVEN WITH THE SEED: the statements are not yours to turn. If you find one false, say at which input.
  Laid BY PROGRAM, IN A SANDBOX (cutbox-rows.mjs): the forced cells as the released guide's own fill.sh prints them over the translation 5970b355f9cca15d… (all of the seat's roots in one cut). By AI agents, Wed Nov 11 2026. No macro, syntax, notation, axiom, sorry.
-/
import Derived.Test.YtoklilggickleaaDoorChecked
import GoSem.PinnedTables
import GoSem.Claim
import GoSem.ClaimJoined
import GoSem.ClaimMapViews
import Derived.JoinedTies
import Derived.KernelRfl
namespace Go.Proofs.YtoklilggickleaaDoor
/- THE CELL 'sum', in the pinned program and in every row, IS THE sha256 OF THE DUMP (.gsa) THAT YtoklilggickleaaDoorProg.lean LOADS. Nothing in Lean hashes anything: it is a label: what it is worth is what the hold of that sum in a sandbox is worth. -/
noncomputable def Tryd.pinned : Pinned := { name := "ytoklilggickleaadoor", sum := "5970b355f9cca15df5b868e300182880addc0b789ce8bc8b5bd81f1dc6b4f9e6", checked := Tryd.checked }
namespace Rows
def none {H : Type} : Left H := { results := [], args := [] }

/- WHAT THE LISTED PACKAGE-LEVEL VARIABLES READ AS WHEN THE CALL BEGINS. Each datum BY PROGRAM (the guide's laid-datum.mjs) off the statement by which the dump's own 'gosem.cut.vars' lays the variable. In a bare row this is a premise. The card (YtoklilggickleaaDoorCards.lean) ties it to the program's text. -/
def laid_unicode_utf8_acceptRanges {H : Type} : DataW H := .agg [.agg [.lit (.int .u8 128), .lit (.int .u8 191)], .agg [.lit (.int .u8 160), .lit (.int .u8 191)], .agg [.lit (.int .u8 128), .lit (.int .u8 159)], .agg [.lit (.int .u8 144), .lit (.int .u8 191)], .agg [.lit (.int .u8 128), .lit (.int .u8 143)], .agg [.lit (.int .u8 0), .lit (.int .u8 0)], .agg [.lit (.int .u8 0), .lit (.int .u8 0)], .agg [.lit (.int .u8 0), .lit (.int .u8 0)], .agg [.lit (.int .u8 0), .lit (.int .u8 0)], .agg [.lit (.int .u8 0), .lit (.int .u8 0)], .agg [.lit (.int .u8 0), .lit (.int .u8 0)], .agg [.lit (.int .u8 0), .lit (.int .u8 0)], .agg [.lit (.int .u8 0), .lit (.int .u8 0)], .agg [.lit (.int .u8 0), .lit (.int .u8 0)], .agg [.lit (.int .u8 0), .lit (.int .u8 0)], .agg [.lit (.int .u8 0), .lit (.int .u8 0)]]
/-- One of Go's own tables, pinned by name: the form's constant. -/
def laid_unicode_utf8_first : DataW Unit := Go.Pinned.utf8First

/-- 'stratigraphlaw15.AtlasMeets': WHATEVER THE INPUT: true; the input reads as it did. -/
def atlasMeetsSpec : ChangeSpec := { name := "atlasMeets", fn := fun _ => fun
  | [d1, d2, d3] => { results := [.lit (.bool true)], args := [d1, d2, d3] }
  | _ => none }
def atlasMeetsRow : OpenClaim := { program := "ytoklilggickleaadoor", sum := "5970b355f9cca15df5b868e300182880addc0b789ce8bc8b5bd81f1dc6b4f9e6", func := "stratigraph/stratigraphlaw15.AtlasMeets", spec := "atlasMeets", inPlace := ["slices.overlaps[stratigraph/api.Place]"], unfollowed := true, recurses := true, named := ["unicode/utf8.first", "unicode/utf8.acceptRanges"], apart := false, laid := [("unicode/utf8.acceptRanges", laid_unicode_utf8_acceptRanges), ("unicode/utf8.first", laid_unicode_utf8_first)] }
def AtlasMeetsSaid : Prop := atlasMeetsRow.holds Tryd.pinned (OpenSpec.ofChange atlasMeetsSpec)

/-- ITS FALSE NEIGHBOUR: 'it returns false'. Refute it at one input. -/
def atlasMeetsWrong : ChangeSpec := { name := "atlasMeets", fn := fun _ => fun
  | [d1, d2, d3] => { results := [.lit (.bool false)], args := [d1, d2, d3] }
  | _ => none }
def AtlasMeetsWrongFalsely : Prop := atlasMeetsRow.holds Tryd.pinned (OpenSpec.ofChange atlasMeetsWrong)

/-- 'stratigraphlaw15.AtlasFinds': WHATEVER THE INPUT: true; the input reads as it did. -/
def atlasFindsSpec : ChangeSpec := { name := "atlasFinds", fn := fun _ => fun
  | [d1, d2, d3, d4] => { results := [.lit (.bool true)], args := [d1, d2, d3, d4] }
  | _ => none }
def atlasFindsRow : OpenClaim := { program := "ytoklilggickleaadoor", sum := "5970b355f9cca15df5b868e300182880addc0b789ce8bc8b5bd81f1dc6b4f9e6", func := "stratigraph/stratigraphlaw15.AtlasFinds", spec := "atlasFinds", inPlace := ["slices.overlaps[stratigraph/api.Place]"], unfollowed := true, recurses := true, named := ["unicode/utf8.first", "unicode/utf8.acceptRanges"], apart := false, laid := [("unicode/utf8.acceptRanges", laid_unicode_utf8_acceptRanges), ("unicode/utf8.first", laid_unicode_utf8_first)] }
def AtlasFindsSaid : Prop := atlasFindsRow.holds Tryd.pinned (OpenSpec.ofChange atlasFindsSpec)

/-- ITS FALSE NEIGHBOUR: 'it returns false'. Refute it at one input. -/
def atlasFindsWrong : ChangeSpec := { name := "atlasFinds", fn := fun _ => fun
  | [d1, d2, d3, d4] => { results := [.lit (.bool false)], args := [d1, d2, d3, d4] }
  | _ => none }
def AtlasFindsWrongFalsely : Prop := atlasFindsRow.holds Tryd.pinned (OpenSpec.ofChange atlasFindsWrong)

/-- 'stratigraphlaw15.AtlasBack': WHATEVER THE INPUT: true; the input reads as it did. -/
def atlasBackSpec : ChangeSpec := { name := "atlasBack", fn := fun _ => fun
  | [d1, d2, d3, d4, d5] => { results := [.lit (.bool true)], args := [d1, d2, d3, d4, d5] }
  | _ => none }
def atlasBackRow : OpenClaim := { program := "ytoklilggickleaadoor", sum := "5970b355f9cca15df5b868e300182880addc0b789ce8bc8b5bd81f1dc6b4f9e6", func := "stratigraph/stratigraphlaw15.AtlasBack", spec := "atlasBack", inPlace := ["slices.overlaps[stratigraph/api.Place]"], unfollowed := true, recurses := true, named := ["unicode/utf8.first", "unicode/utf8.acceptRanges"], apart := false, laid := [("unicode/utf8.acceptRanges", laid_unicode_utf8_acceptRanges), ("unicode/utf8.first", laid_unicode_utf8_first)] }
def AtlasBackSaid : Prop := atlasBackRow.holds Tryd.pinned (OpenSpec.ofChange atlasBackSpec)

/-- ITS FALSE NEIGHBOUR: 'it returns false'. Refute it at one input. -/
def atlasBackWrong : ChangeSpec := { name := "atlasBack", fn := fun _ => fun
  | [d1, d2, d3, d4, d5] => { results := [.lit (.bool false)], args := [d1, d2, d3, d4, d5] }
  | _ => none }
def AtlasBackWrongFalsely : Prop := atlasBackRow.holds Tryd.pinned (OpenSpec.ofChange atlasBackWrong)

/-- 'stratigraphlaw15.AtlasTurns': WHATEVER THE INPUT: true; the input reads as it did. -/
def atlasTurnsSpec : ChangeSpec := { name := "atlasTurns", fn := fun _ => fun
  | [d1, d2, d3, d4, d5] => { results := [.lit (.bool true)], args := [d1, d2, d3, d4, d5] }
  | _ => none }
def atlasTurnsRow : OpenClaim := { program := "ytoklilggickleaadoor", sum := "5970b355f9cca15df5b868e300182880addc0b789ce8bc8b5bd81f1dc6b4f9e6", func := "stratigraph/stratigraphlaw15.AtlasTurns", spec := "atlasTurns", inPlace := ["slices.overlaps[stratigraph/api.Place]"], unfollowed := true, recurses := true, named := ["unicode/utf8.first", "unicode/utf8.acceptRanges"], apart := false, laid := [("unicode/utf8.acceptRanges", laid_unicode_utf8_acceptRanges), ("unicode/utf8.first", laid_unicode_utf8_first)] }
def AtlasTurnsSaid : Prop := atlasTurnsRow.holds Tryd.pinned (OpenSpec.ofChange atlasTurnsSpec)

/-- ITS FALSE NEIGHBOUR: 'it returns false'. Refute it at one input. -/
def atlasTurnsWrong : ChangeSpec := { name := "atlasTurns", fn := fun _ => fun
  | [d1, d2, d3, d4, d5] => { results := [.lit (.bool false)], args := [d1, d2, d3, d4, d5] }
  | _ => none }
def AtlasTurnsWrongFalsely : Prop := atlasTurnsRow.holds Tryd.pinned (OpenSpec.ofChange atlasTurnsWrong)

/-- 'stratigraphlaw15.AtlasOnce': WHATEVER THE INPUT: true; the input reads as it did. -/
def atlasOnceSpec : ChangeSpec := { name := "atlasOnce", fn := fun _ => fun
  | [d1, d2] => { results := [.lit (.bool true)], args := [d1, d2] }
  | _ => none }
def atlasOnceRow : OpenClaim := { program := "ytoklilggickleaadoor", sum := "5970b355f9cca15df5b868e300182880addc0b789ce8bc8b5bd81f1dc6b4f9e6", func := "stratigraph/stratigraphlaw15.AtlasOnce", spec := "atlasOnce", inPlace := ["slices.overlaps[stratigraph/api.Place]"], unfollowed := true, recurses := true, named := ["unicode/utf8.first", "unicode/utf8.acceptRanges"], apart := false, laid := [("unicode/utf8.acceptRanges", laid_unicode_utf8_acceptRanges), ("unicode/utf8.first", laid_unicode_utf8_first)] }
def AtlasOnceSaid : Prop := atlasOnceRow.holds Tryd.pinned (OpenSpec.ofChange atlasOnceSpec)

/-- ITS FALSE NEIGHBOUR: 'it returns false'. Refute it at one input. -/
def atlasOnceWrong : ChangeSpec := { name := "atlasOnce", fn := fun _ => fun
  | [d1, d2] => { results := [.lit (.bool false)], args := [d1, d2] }
  | _ => none }
def AtlasOnceWrongFalsely : Prop := atlasOnceRow.holds Tryd.pinned (OpenSpec.ofChange atlasOnceWrong)

/- THE SECOND FORM. 'bulk': how many values and letters a reading holds, each counted each time it is reached (what is shared counts as often as it is met; a slice's spare places count too). A statement '..UptoSaid' is the law's where the arguments, and the package variables that the reading takes, are together of bulk at most 1048576: NARROWER than '..Said'. Prove '..Said' where nothing that the law and all that it calls make is longer than what came in: it says more and counts as full. Else prove '..UptoSaid'. A law counts once. -/
mutual
def uptoBulk {H : Type} : DataW H → Nat
  | .lit (.string bytes) => bytes.length + 1
  | .lit _ => 1
  | .nil => 1
  | .ptr d => uptoBulk d + 1
  | .slice elems spare => uptoBulkAll elems + uptoBulkAll spare + 1
  | .agg parts => uptoBulkAll parts + 1
  | .iface _ d => uptoBulk d + 1
  | .map entries => uptoBulkEntries entries + 1
  | .held _ => 1
def uptoBulkAll {H : Type} : List (DataW H) → Nat
  | [] => 0
  | d :: r => uptoBulk d + uptoBulkAll r
def uptoBulkEntries {H : Type} : List (Lit × DataW H) → Nat
  | [] => 0
  | x :: r => uptoBulkEntry x + uptoBulkEntries r
def uptoBulkEntry {H : Type} : Lit × DataW H → Nat
  | (.string bytes, d) => bytes.length + uptoBulk d + 1
  | (_, d) => uptoBulk d + 1
 end
def uptoSmall : (H : Type) → List (DataW H) → Bool := fun _ ds => decide (uptoBulkAll ds ≤ 1048576)
def OpenSpec.upto (s : _root_.Go.ChangeSpec) : _root_.Go.OpenSpec := { _root_.Go.OpenSpec.ofChange s with cond := some uptoSmall }

/-- 'stratigraphlaw15.AtlasMeets', WHERE WHAT IT READS IS OF BULK AT MOST 1048576: true; the input reads as it did. -/
def atlasMeetsUptoRow : OpenClaim := { program := "ytoklilggickleaadoor", sum := "5970b355f9cca15df5b868e300182880addc0b789ce8bc8b5bd81f1dc6b4f9e6", func := "stratigraph/stratigraphlaw15.AtlasMeets", spec := "atlasMeets", inPlace := ["slices.overlaps[stratigraph/api.Place]"], unfollowed := true, recurses := true, named := ["unicode/utf8.first", "unicode/utf8.acceptRanges"], apart := false, laid := [("unicode/utf8.acceptRanges", laid_unicode_utf8_acceptRanges), ("unicode/utf8.first", laid_unicode_utf8_first)], narrowed := true }
def AtlasMeetsUptoSaid : Prop := atlasMeetsUptoRow.holds Tryd.pinned (OpenSpec.upto atlasMeetsSpec)

/-- 'stratigraphlaw15.AtlasFinds', WHERE WHAT IT READS IS OF BULK AT MOST 1048576: true; the input reads as it did. -/
def atlasFindsUptoRow : OpenClaim := { program := "ytoklilggickleaadoor", sum := "5970b355f9cca15df5b868e300182880addc0b789ce8bc8b5bd81f1dc6b4f9e6", func := "stratigraph/stratigraphlaw15.AtlasFinds", spec := "atlasFinds", inPlace := ["slices.overlaps[stratigraph/api.Place]"], unfollowed := true, recurses := true, named := ["unicode/utf8.first", "unicode/utf8.acceptRanges"], apart := false, laid := [("unicode/utf8.acceptRanges", laid_unicode_utf8_acceptRanges), ("unicode/utf8.first", laid_unicode_utf8_first)], narrowed := true }
def AtlasFindsUptoSaid : Prop := atlasFindsUptoRow.holds Tryd.pinned (OpenSpec.upto atlasFindsSpec)

/-- 'stratigraphlaw15.AtlasBack', WHERE WHAT IT READS IS OF BULK AT MOST 1048576: true; the input reads as it did. -/
def atlasBackUptoRow : OpenClaim := { program := "ytoklilggickleaadoor", sum := "5970b355f9cca15df5b868e300182880addc0b789ce8bc8b5bd81f1dc6b4f9e6", func := "stratigraph/stratigraphlaw15.AtlasBack", spec := "atlasBack", inPlace := ["slices.overlaps[stratigraph/api.Place]"], unfollowed := true, recurses := true, named := ["unicode/utf8.first", "unicode/utf8.acceptRanges"], apart := false, laid := [("unicode/utf8.acceptRanges", laid_unicode_utf8_acceptRanges), ("unicode/utf8.first", laid_unicode_utf8_first)], narrowed := true }
def AtlasBackUptoSaid : Prop := atlasBackUptoRow.holds Tryd.pinned (OpenSpec.upto atlasBackSpec)

/-- 'stratigraphlaw15.AtlasTurns', WHERE WHAT IT READS IS OF BULK AT MOST 1048576: true; the input reads as it did. -/
def atlasTurnsUptoRow : OpenClaim := { program := "ytoklilggickleaadoor", sum := "5970b355f9cca15df5b868e300182880addc0b789ce8bc8b5bd81f1dc6b4f9e6", func := "stratigraph/stratigraphlaw15.AtlasTurns", spec := "atlasTurns", inPlace := ["slices.overlaps[stratigraph/api.Place]"], unfollowed := true, recurses := true, named := ["unicode/utf8.first", "unicode/utf8.acceptRanges"], apart := false, laid := [("unicode/utf8.acceptRanges", laid_unicode_utf8_acceptRanges), ("unicode/utf8.first", laid_unicode_utf8_first)], narrowed := true }
def AtlasTurnsUptoSaid : Prop := atlasTurnsUptoRow.holds Tryd.pinned (OpenSpec.upto atlasTurnsSpec)

/-- 'stratigraphlaw15.AtlasOnce', WHERE WHAT IT READS IS OF BULK AT MOST 1048576: true; the input reads as it did. -/
def atlasOnceUptoRow : OpenClaim := { program := "ytoklilggickleaadoor", sum := "5970b355f9cca15df5b868e300182880addc0b789ce8bc8b5bd81f1dc6b4f9e6", func := "stratigraph/stratigraphlaw15.AtlasOnce", spec := "atlasOnce", inPlace := ["slices.overlaps[stratigraph/api.Place]"], unfollowed := true, recurses := true, named := ["unicode/utf8.first", "unicode/utf8.acceptRanges"], apart := false, laid := [("unicode/utf8.acceptRanges", laid_unicode_utf8_acceptRanges), ("unicode/utf8.first", laid_unicode_utf8_first)], narrowed := true }
def AtlasOnceUptoSaid : Prop := atlasOnceUptoRow.holds Tryd.pinned (OpenSpec.upto atlasOnceSpec)

end Rows
end Go.Proofs.YtoklilggickleaaDoor
