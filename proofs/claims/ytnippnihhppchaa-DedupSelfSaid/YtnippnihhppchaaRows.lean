/-
  No cell of these rows narrows 'for every input' (looked for: loops, veiled, ifaces, maps, wideKeys, modest, calm, conditions, laid).
  DERIVED. THE GIVEN ROWS OF THIS SEAT. 5 by the template 'for every input the law returns true; each argument reads behind the call as it read before'; 0 by the template 'total and deterministic' (their statements: YtnippnihhppchaaTotals.lean).
  GIVEN WITH THE SEED: the statements are not yours to turn. If you find one false, say at which input.
  Laid BY PROGRAM, IN A SANDBOX (cutbox-rows.mjs): the forced cells as the released guide's own fill.sh prints them over the translation 6d8021a081039676… (all of the seat's roots in one cut). By AI agents, Wed Nov 11 2026. No macro, syntax, notation, axiom, sorry.
-/
import Derived.Test.YtnippnihhppchaaChecked
import GoSem.Claim
import GoSem.ClaimJoined
import GoSem.ClaimMapViews
import Derived.JoinedTies
import Derived.KernelRfl
namespace Go.Proofs.Ytnippnihhppchaa
/- THE CELL 'sum', in the pinned program and in every row, IS THE sha256 OF THE DUMP (.gsa) THAT YtnippnihhppchaaProg.lean LOADS. Nothing in Lean hashes anything: it is a label: what it is worth is what the hold of that sum in a sandbox is worth. -/
noncomputable def Try.pinned : Pinned := { name := "ytnippnihhppchaa", sum := "6d8021a081039676e0940e1b75d580b6033d5165344b19a02d58ad8b71590008", checked := Try.checked }
namespace Rows
def none {H : Type} : Left H := { results := [], args := [] }

/-- 'stratigraphlaw10.DedupJudges': WHATEVER THE INPUT: true; the input reads as it did. -/
def dedupJudgesSpec : ChangeSpec := { name := "dedupJudges", fn := fun _ => fun
  | [d1, d2, d3] => { results := [.lit (.bool true)], args := [d1, d2, d3] }
  | _ => none }
def dedupJudgesRow : OpenClaim := { program := "ytnippnihhppchaa", sum := "6d8021a081039676e0940e1b75d580b6033d5165344b19a02d58ad8b71590008", func := "stratigraph/stratigraphlaw10.DedupJudges", spec := "dedupJudges", inPlace := ["slices.overlaps[stratigraph/api.Done]"], unfollowed := true, recurses := true, apart := false }
def DedupJudgesSaid : Prop := dedupJudgesRow.holds Try.pinned (OpenSpec.ofChange dedupJudgesSpec)

/-- ITS FALSE NEIGHBOUR: 'it returns false'. Refute it at one input. -/
def dedupJudgesWrong : ChangeSpec := { name := "dedupJudges", fn := fun _ => fun
  | [d1, d2, d3] => { results := [.lit (.bool false)], args := [d1, d2, d3] }
  | _ => none }
def DedupJudgesWrongFalsely : Prop := dedupJudgesRow.holds Try.pinned (OpenSpec.ofChange dedupJudgesWrong)

/-- 'stratigraphlaw10.DedupPuts': WHATEVER THE INPUT: true; the input reads as it did. -/
def dedupPutsSpec : ChangeSpec := { name := "dedupPuts", fn := fun _ => fun
  | [d1, d2] => { results := [.lit (.bool true)], args := [d1, d2] }
  | _ => none }
def dedupPutsRow : OpenClaim := { program := "ytnippnihhppchaa", sum := "6d8021a081039676e0940e1b75d580b6033d5165344b19a02d58ad8b71590008", func := "stratigraph/stratigraphlaw10.DedupPuts", spec := "dedupPuts", inPlace := ["slices.overlaps[stratigraph/api.Done]"], unfollowed := true, recurses := true, apart := false }
def DedupPutsSaid : Prop := dedupPutsRow.holds Try.pinned (OpenSpec.ofChange dedupPutsSpec)

/-- ITS FALSE NEIGHBOUR: 'it returns false'. Refute it at one input. -/
def dedupPutsWrong : ChangeSpec := { name := "dedupPuts", fn := fun _ => fun
  | [d1, d2] => { results := [.lit (.bool false)], args := [d1, d2] }
  | _ => none }
def DedupPutsWrongFalsely : Prop := dedupPutsRow.holds Try.pinned (OpenSpec.ofChange dedupPutsWrong)

/-- 'stratigraphlaw10.DedupMerges': WHATEVER THE INPUT: true; the input reads as it did. -/
def dedupMergesSpec : ChangeSpec := { name := "dedupMerges", fn := fun _ => fun
  | [d1, d2] => { results := [.lit (.bool true)], args := [d1, d2] }
  | _ => none }
def dedupMergesRow : OpenClaim := { program := "ytnippnihhppchaa", sum := "6d8021a081039676e0940e1b75d580b6033d5165344b19a02d58ad8b71590008", func := "stratigraph/stratigraphlaw10.DedupMerges", spec := "dedupMerges", inPlace := ["slices.overlaps[stratigraph/api.Done]"], unfollowed := true, recurses := true, apart := false }
def DedupMergesSaid : Prop := dedupMergesRow.holds Try.pinned (OpenSpec.ofChange dedupMergesSpec)

/-- ITS FALSE NEIGHBOUR: 'it returns false'. Refute it at one input. -/
def dedupMergesWrong : ChangeSpec := { name := "dedupMerges", fn := fun _ => fun
  | [d1, d2] => { results := [.lit (.bool false)], args := [d1, d2] }
  | _ => none }
def DedupMergesWrongFalsely : Prop := dedupMergesRow.holds Try.pinned (OpenSpec.ofChange dedupMergesWrong)

/-- 'stratigraphlaw10.DedupNever': WHATEVER THE INPUT: true; the input reads as it did. -/
def dedupNeverSpec : ChangeSpec := { name := "dedupNever", fn := fun _ => fun
  | [d1, d2, d3, d4] => { results := [.lit (.bool true)], args := [d1, d2, d3, d4] }
  | _ => none }
def dedupNeverRow : OpenClaim := { program := "ytnippnihhppchaa", sum := "6d8021a081039676e0940e1b75d580b6033d5165344b19a02d58ad8b71590008", func := "stratigraph/stratigraphlaw10.DedupNever", spec := "dedupNever", inPlace := ["slices.overlaps[stratigraph/api.Done]"], unfollowed := true, recurses := true, apart := false }
def DedupNeverSaid : Prop := dedupNeverRow.holds Try.pinned (OpenSpec.ofChange dedupNeverSpec)

/-- ITS FALSE NEIGHBOUR: 'it returns false'. Refute it at one input. -/
def dedupNeverWrong : ChangeSpec := { name := "dedupNever", fn := fun _ => fun
  | [d1, d2, d3, d4] => { results := [.lit (.bool false)], args := [d1, d2, d3, d4] }
  | _ => none }
def DedupNeverWrongFalsely : Prop := dedupNeverRow.holds Try.pinned (OpenSpec.ofChange dedupNeverWrong)

/-- 'stratigraphlaw10.DedupSelf': WHATEVER THE INPUT: true; the input reads as it did. -/
def dedupSelfSpec : ChangeSpec := { name := "dedupSelf", fn := fun _ => fun
  | [d] => { results := [.lit (.bool true)], args := [d] }
  | _ => none }
def dedupSelfRow : OpenClaim := { program := "ytnippnihhppchaa", sum := "6d8021a081039676e0940e1b75d580b6033d5165344b19a02d58ad8b71590008", func := "stratigraph/stratigraphlaw10.DedupSelf", spec := "dedupSelf", inPlace := ["slices.overlaps[stratigraph/api.Done]"], unfollowed := true, recurses := true, apart := false }
def DedupSelfSaid : Prop := dedupSelfRow.holds Try.pinned (OpenSpec.ofChange dedupSelfSpec)

/-- ITS FALSE NEIGHBOUR: 'it returns false'. Refute it at one input. -/
def dedupSelfWrong : ChangeSpec := { name := "dedupSelf", fn := fun _ => fun
  | [d] => { results := [.lit (.bool false)], args := [d] }
  | _ => none }
def DedupSelfWrongFalsely : Prop := dedupSelfRow.holds Try.pinned (OpenSpec.ofChange dedupSelfWrong)

/- THE SECOND FORM. 'bulk': how many values and letters a reading holds, each counted each time it is reached (what is shared counts as often as it is met; a slice's spare places count too). A statement '..UptoSaid' is the law's where the arguments, and the package variables that the reading takes, are together of bulk at most 1048576: NARROWER than '..Said'. Prove '..Said' where nothing that the law and all that it calls make is longer than what came in: it says more and counts as full. Else prove '..UptoSaid'. A law counts once. -/
mutual
def uptoBulk {H : Type} : DataW H → Nat
  | .lit (.string bytes) => bytes.length + 1
  | .lit _ => 1
  | .nil => 1
  | .ptr d => uptoBulk d + 1
  | .slice elems spare => uptoBulkAll elems + uptoBulkAll spare + 1
  | .agg parts => uptoBulkAll parts + 1
  | .iface _ d => uptoBulk d + 1
  | .map entries => uptoBulkEntries entries + 1
  | .held _ => 1
def uptoBulkAll {H : Type} : List (DataW H) → Nat
  | [] => 0
  | d :: r => uptoBulk d + uptoBulkAll r
def uptoBulkEntries {H : Type} : List (Lit × DataW H) → Nat
  | [] => 0
  | x :: r => uptoBulkEntry x + uptoBulkEntries r
def uptoBulkEntry {H : Type} : Lit × DataW H → Nat
  | (.string bytes, d) => bytes.length + uptoBulk d + 1
  | (_, d) => uptoBulk d + 1
 end
def uptoSmall : (H : Type) → List (DataW H) → Bool := fun _ ds => decide (uptoBulkAll ds ≤ 1048576)
def OpenSpec.upto (s : _root_.Go.ChangeSpec) : _root_.Go.OpenSpec := { _root_.Go.OpenSpec.ofChange s with cond := some uptoSmall }

/-- 'stratigraphlaw10.DedupJudges', WHERE WHAT IT READS IS OF BULK AT MOST 1048576: true; the input reads as it did. -/
def dedupJudgesUptoRow : OpenClaim := { program := "ytnippnihhppchaa", sum := "6d8021a081039676e0940e1b75d580b6033d5165344b19a02d58ad8b71590008", func := "stratigraph/stratigraphlaw10.DedupJudges", spec := "dedupJudges", inPlace := ["slices.overlaps[stratigraph/api.Done]"], unfollowed := true, recurses := true, apart := false, narrowed := true }
def DedupJudgesUptoSaid : Prop := dedupJudgesUptoRow.holds Try.pinned (OpenSpec.upto dedupJudgesSpec)

/-- 'stratigraphlaw10.DedupPuts', WHERE WHAT IT READS IS OF BULK AT MOST 1048576: true; the input reads as it did. -/
def dedupPutsUptoRow : OpenClaim := { program := "ytnippnihhppchaa", sum := "6d8021a081039676e0940e1b75d580b6033d5165344b19a02d58ad8b71590008", func := "stratigraph/stratigraphlaw10.DedupPuts", spec := "dedupPuts", inPlace := ["slices.overlaps[stratigraph/api.Done]"], unfollowed := true, recurses := true, apart := false, narrowed := true }
def DedupPutsUptoSaid : Prop := dedupPutsUptoRow.holds Try.pinned (OpenSpec.upto dedupPutsSpec)

/-- 'stratigraphlaw10.DedupMerges', WHERE WHAT IT READS IS OF BULK AT MOST 1048576: true; the input reads as it did. -/
def dedupMergesUptoRow : OpenClaim := { program := "ytnippnihhppchaa", sum := "6d8021a081039676e0940e1b75d580b6033d5165344b19a02d58ad8b71590008", func := "stratigraph/stratigraphlaw10.DedupMerges", spec := "dedupMerges", inPlace := ["slices.overlaps[stratigraph/api.Done]"], unfollowed := true, recurses := true, apart := false, narrowed := true }
def DedupMergesUptoSaid : Prop := dedupMergesUptoRow.holds Try.pinned (OpenSpec.upto dedupMergesSpec)

/-- 'stratigraphlaw10.DedupNever', WHERE WHAT IT READS IS OF BULK AT MOST 1048576: true; the input reads as it did. -/
def dedupNeverUptoRow : OpenClaim := { program := "ytnippnihhppchaa", sum := "6d8021a081039676e0940e1b75d580b6033d5165344b19a02d58ad8b71590008", func := "stratigraph/stratigraphlaw10.DedupNever", spec := "dedupNever", inPlace := ["slices.overlaps[stratigraph/api.Done]"], unfollowed := true, recurses := true, apart := false, narrowed := true }
def DedupNeverUptoSaid : Prop := dedupNeverUptoRow.holds Try.pinned (OpenSpec.upto dedupNeverSpec)

/-- 'stratigraphlaw10.DedupSelf', WHERE WHAT IT READS IS OF BULK AT MOST 1048576: true; the input reads as it did. -/
def dedupSelfUptoRow : OpenClaim := { program := "ytnippnihhppchaa", sum := "6d8021a081039676e0940e1b75d580b6033d5165344b19a02d58ad8b71590008", func := "stratigraph/stratigraphlaw10.DedupSelf", spec := "dedupSelf", inPlace := ["slices.overlaps[stratigraph/api.Done]"], unfollowed := true, recurses := true, apart := false, narrowed := true }
def DedupSelfUptoSaid : Prop := dedupSelfUptoRow.holds Try.pinned (OpenSpec.upto dedupSelfSpec)

end Rows
end Go.Proofs.Ytnippnihhppchaa
