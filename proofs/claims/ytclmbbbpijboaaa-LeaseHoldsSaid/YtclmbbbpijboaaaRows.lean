/-
  No cell of these rows narrows 'for every input' (looked for: loops, veiled, ifaces, maps, wideKeys, modest, calm, conditions, laid).
  DERIVED. THE GIVEN ROWS OF THIS SEAT. 6 by the template 'for every input the law returns true; each argument reads behind the call as it read before'; 0 by the template 'total and deterministic' (their statements: YtclmbbbpijboaaaTotals.lean).
  GIVEN WITH THE SEED: the statements are not yours to turn. If you find one false, say at which input.
  Laid BY PROGRAM, IN A SANDBOX (cutbox-rows.mjs): the forced cells as the released guide's own fill.sh prints them over the translation ff0bc71cd708a5bb… (all of the seat's roots in one cut). By AI agents, Wed Nov 11 2026. No macro, syntax, notation, axiom, sorry.
-/
import Derived.Test.YtclmbbbpijboaaaChecked
import GoSem.Claim
import GoSem.ClaimJoined
import GoSem.ClaimMapViews
import Derived.JoinedTies
import Derived.KernelRfl
namespace Go.Proofs.Ytclmbbbpijboaaa
/- THE CELL 'sum', in the pinned program and in every row, IS THE sha256 OF THE DUMP (.gsa) THAT YtclmbbbpijboaaaProg.lean LOADS. Nothing in Lean hashes anything: it is a label: what it is worth is what the hold of that sum in a sandbox is worth. -/
noncomputable def Try.pinned : Pinned := { name := "ytclmbbbpijboaaa", sum := "ff0bc71cd708a5bb739b4566f408186adc608749982b9c477b90a0ac118446a0", checked := Try.checked }
namespace Rows
def none {H : Type} : Left H := { results := [], args := [] }

/-- 'stratigraphlaw16.LeaseMarks': WHATEVER THE INPUT: true; the input reads as it did. -/
def leaseMarksSpec : ChangeSpec := { name := "leaseMarks", fn := fun _ => fun
  | [d1, d2, d3] => { results := [.lit (.bool true)], args := [d1, d2, d3] }
  | _ => none }
def leaseMarksRow : OpenClaim := { program := "ytclmbbbpijboaaa", sum := "ff0bc71cd708a5bb739b4566f408186adc608749982b9c477b90a0ac118446a0", func := "stratigraph/stratigraphlaw16.LeaseMarks", spec := "leaseMarks", inPlace := ["slices.overlaps[stratigraph/api.Lease]"], unfollowed := true, recurses := true, apart := false }
def LeaseMarksSaid : Prop := leaseMarksRow.holds Try.pinned (OpenSpec.ofChange leaseMarksSpec)

/-- ITS FALSE NEIGHBOUR: 'it returns false'. Refute it at one input. -/
def leaseMarksWrong : ChangeSpec := { name := "leaseMarks", fn := fun _ => fun
  | [d1, d2, d3] => { results := [.lit (.bool false)], args := [d1, d2, d3] }
  | _ => none }
def LeaseMarksWrongFalsely : Prop := leaseMarksRow.holds Try.pinned (OpenSpec.ofChange leaseMarksWrong)

/-- 'stratigraphlaw16.LeaseTicks': WHATEVER THE INPUT: true; the input reads as it did. -/
def leaseTicksSpec : ChangeSpec := { name := "leaseTicks", fn := fun _ => fun
  | [d] => { results := [.lit (.bool true)], args := [d] }
  | _ => none }
def leaseTicksRow : OpenClaim := { program := "ytclmbbbpijboaaa", sum := "ff0bc71cd708a5bb739b4566f408186adc608749982b9c477b90a0ac118446a0", func := "stratigraph/stratigraphlaw16.LeaseTicks", spec := "leaseTicks", inPlace := ["slices.overlaps[stratigraph/api.Lease]"], unfollowed := true, recurses := true, apart := false }
def LeaseTicksSaid : Prop := leaseTicksRow.holds Try.pinned (OpenSpec.ofChange leaseTicksSpec)

/-- ITS FALSE NEIGHBOUR: 'it returns false'. Refute it at one input. -/
def leaseTicksWrong : ChangeSpec := { name := "leaseTicks", fn := fun _ => fun
  | [d] => { results := [.lit (.bool false)], args := [d] }
  | _ => none }
def LeaseTicksWrongFalsely : Prop := leaseTicksRow.holds Try.pinned (OpenSpec.ofChange leaseTicksWrong)

/-- 'stratigraphlaw16.LeaseEnds': WHATEVER THE INPUT: true; the input reads as it did. -/
def leaseEndsSpec : ChangeSpec := { name := "leaseEnds", fn := fun _ => fun
  | [d1, d2] => { results := [.lit (.bool true)], args := [d1, d2] }
  | _ => none }
def leaseEndsRow : OpenClaim := { program := "ytclmbbbpijboaaa", sum := "ff0bc71cd708a5bb739b4566f408186adc608749982b9c477b90a0ac118446a0", func := "stratigraph/stratigraphlaw16.LeaseEnds", spec := "leaseEnds", inPlace := ["slices.overlaps[stratigraph/api.Lease]"], unfollowed := true, recurses := true, apart := false }
def LeaseEndsSaid : Prop := leaseEndsRow.holds Try.pinned (OpenSpec.ofChange leaseEndsSpec)

/-- ITS FALSE NEIGHBOUR: 'it returns false'. Refute it at one input. -/
def leaseEndsWrong : ChangeSpec := { name := "leaseEnds", fn := fun _ => fun
  | [d1, d2] => { results := [.lit (.bool false)], args := [d1, d2] }
  | _ => none }
def LeaseEndsWrongFalsely : Prop := leaseEndsRow.holds Try.pinned (OpenSpec.ofChange leaseEndsWrong)

/-- 'stratigraphlaw16.LeaseBack': WHATEVER THE INPUT: true; the input reads as it did. -/
def leaseBackSpec : ChangeSpec := { name := "leaseBack", fn := fun _ => fun
  | [d1, d2, d3] => { results := [.lit (.bool true)], args := [d1, d2, d3] }
  | _ => none }
def leaseBackRow : OpenClaim := { program := "ytclmbbbpijboaaa", sum := "ff0bc71cd708a5bb739b4566f408186adc608749982b9c477b90a0ac118446a0", func := "stratigraph/stratigraphlaw16.LeaseBack", spec := "leaseBack", inPlace := ["slices.overlaps[stratigraph/api.Lease]"], unfollowed := true, recurses := true, apart := false }
def LeaseBackSaid : Prop := leaseBackRow.holds Try.pinned (OpenSpec.ofChange leaseBackSpec)

/-- ITS FALSE NEIGHBOUR: 'it returns false'. Refute it at one input. -/
def leaseBackWrong : ChangeSpec := { name := "leaseBack", fn := fun _ => fun
  | [d1, d2, d3] => { results := [.lit (.bool false)], args := [d1, d2, d3] }
  | _ => none }
def LeaseBackWrongFalsely : Prop := leaseBackRow.holds Try.pinned (OpenSpec.ofChange leaseBackWrong)

/-- 'stratigraphlaw16.LeaseOpens': WHATEVER THE INPUT: true; the input reads as it did. -/
def leaseOpensSpec : ChangeSpec := { name := "leaseOpens", fn := fun _ => fun
  | [d1, d2, d3] => { results := [.lit (.bool true)], args := [d1, d2, d3] }
  | _ => none }
def leaseOpensRow : OpenClaim := { program := "ytclmbbbpijboaaa", sum := "ff0bc71cd708a5bb739b4566f408186adc608749982b9c477b90a0ac118446a0", func := "stratigraph/stratigraphlaw16.LeaseOpens", spec := "leaseOpens", inPlace := ["slices.overlaps[stratigraph/api.Lease]"], unfollowed := true, recurses := true, apart := false }
def LeaseOpensSaid : Prop := leaseOpensRow.holds Try.pinned (OpenSpec.ofChange leaseOpensSpec)

/-- ITS FALSE NEIGHBOUR: 'it returns false'. Refute it at one input. -/
def leaseOpensWrong : ChangeSpec := { name := "leaseOpens", fn := fun _ => fun
  | [d1, d2, d3] => { results := [.lit (.bool false)], args := [d1, d2, d3] }
  | _ => none }
def LeaseOpensWrongFalsely : Prop := leaseOpensRow.holds Try.pinned (OpenSpec.ofChange leaseOpensWrong)

/-- 'stratigraphlaw16.LeaseHolds': WHATEVER THE INPUT: true; the input reads as it did. -/
def leaseHoldsSpec : ChangeSpec := { name := "leaseHolds", fn := fun _ => fun
  | [d] => { results := [.lit (.bool true)], args := [d] }
  | _ => none }
def leaseHoldsRow : OpenClaim := { program := "ytclmbbbpijboaaa", sum := "ff0bc71cd708a5bb739b4566f408186adc608749982b9c477b90a0ac118446a0", func := "stratigraph/stratigraphlaw16.LeaseHolds", spec := "leaseHolds", inPlace := ["slices.overlaps[stratigraph/api.Lease]"], unfollowed := true, recurses := true, apart := false }
def LeaseHoldsSaid : Prop := leaseHoldsRow.holds Try.pinned (OpenSpec.ofChange leaseHoldsSpec)

/-- ITS FALSE NEIGHBOUR: 'it returns false'. Refute it at one input. -/
def leaseHoldsWrong : ChangeSpec := { name := "leaseHolds", fn := fun _ => fun
  | [d] => { results := [.lit (.bool false)], args := [d] }
  | _ => none }
def LeaseHoldsWrongFalsely : Prop := leaseHoldsRow.holds Try.pinned (OpenSpec.ofChange leaseHoldsWrong)

/- THE SECOND FORM. 'bulk': how many values and letters a reading holds, each counted each time it is reached (what is shared counts as often as it is met; a slice's spare places count too). A statement '..UptoSaid' is the law's where the arguments, and the package variables that the reading takes, are together of bulk at most 1048576: NARROWER than '..Said'. Prove '..Said' where nothing that the law and all that it calls make is longer than what came in: it says more and counts as full. Else prove '..UptoSaid'. A law counts once. -/
mutual
def uptoBulk {H : Type} : DataW H → Nat
  | .lit (.string bytes) => bytes.length + 1
  | .lit _ => 1
  | .nil => 1
  | .ptr d => uptoBulk d + 1
  | .slice elems spare => uptoBulkAll elems + uptoBulkAll spare + 1
  | .agg parts => uptoBulkAll parts + 1
  | .iface _ d => uptoBulk d + 1
  | .map entries => uptoBulkEntries entries + 1
  | .held _ => 1
def uptoBulkAll {H : Type} : List (DataW H) → Nat
  | [] => 0
  | d :: r => uptoBulk d + uptoBulkAll r
def uptoBulkEntries {H : Type} : List (Lit × DataW H) → Nat
  | [] => 0
  | x :: r => uptoBulkEntry x + uptoBulkEntries r
def uptoBulkEntry {H : Type} : Lit × DataW H → Nat
  | (.string bytes, d) => bytes.length + uptoBulk d + 1
  | (_, d) => uptoBulk d + 1
 end
def uptoSmall : (H : Type) → List (DataW H) → Bool := fun _ ds => decide (uptoBulkAll ds ≤ 1048576)
def OpenSpec.upto (s : _root_.Go.ChangeSpec) : _root_.Go.OpenSpec := { _root_.Go.OpenSpec.ofChange s with cond := some uptoSmall }

/-- 'stratigraphlaw16.LeaseMarks', WHERE WHAT IT READS IS OF BULK AT MOST 1048576: true; the input reads as it did. -/
def leaseMarksUptoRow : OpenClaim := { program := "ytclmbbbpijboaaa", sum := "ff0bc71cd708a5bb739b4566f408186adc608749982b9c477b90a0ac118446a0", func := "stratigraph/stratigraphlaw16.LeaseMarks", spec := "leaseMarks", inPlace := ["slices.overlaps[stratigraph/api.Lease]"], unfollowed := true, recurses := true, apart := false, narrowed := true }
def LeaseMarksUptoSaid : Prop := leaseMarksUptoRow.holds Try.pinned (OpenSpec.upto leaseMarksSpec)

/-- 'stratigraphlaw16.LeaseTicks', WHERE WHAT IT READS IS OF BULK AT MOST 1048576: true; the input reads as it did. -/
def leaseTicksUptoRow : OpenClaim := { program := "ytclmbbbpijboaaa", sum := "ff0bc71cd708a5bb739b4566f408186adc608749982b9c477b90a0ac118446a0", func := "stratigraph/stratigraphlaw16.LeaseTicks", spec := "leaseTicks", inPlace := ["slices.overlaps[stratigraph/api.Lease]"], unfollowed := true, recurses := true, apart := false, narrowed := true }
def LeaseTicksUptoSaid : Prop := leaseTicksUptoRow.holds Try.pinned (OpenSpec.upto leaseTicksSpec)

/-- 'stratigraphlaw16.LeaseEnds', WHERE WHAT IT READS IS OF BULK AT MOST 1048576: true; the input reads as it did. -/
def leaseEndsUptoRow : OpenClaim := { program := "ytclmbbbpijboaaa", sum := "ff0bc71cd708a5bb739b4566f408186adc608749982b9c477b90a0ac118446a0", func := "stratigraph/stratigraphlaw16.LeaseEnds", spec := "leaseEnds", inPlace := ["slices.overlaps[stratigraph/api.Lease]"], unfollowed := true, recurses := true, apart := false, narrowed := true }
def LeaseEndsUptoSaid : Prop := leaseEndsUptoRow.holds Try.pinned (OpenSpec.upto leaseEndsSpec)

/-- 'stratigraphlaw16.LeaseBack', WHERE WHAT IT READS IS OF BULK AT MOST 1048576: true; the input reads as it did. -/
def leaseBackUptoRow : OpenClaim := { program := "ytclmbbbpijboaaa", sum := "ff0bc71cd708a5bb739b4566f408186adc608749982b9c477b90a0ac118446a0", func := "stratigraph/stratigraphlaw16.LeaseBack", spec := "leaseBack", inPlace := ["slices.overlaps[stratigraph/api.Lease]"], unfollowed := true, recurses := true, apart := false, narrowed := true }
def LeaseBackUptoSaid : Prop := leaseBackUptoRow.holds Try.pinned (OpenSpec.upto leaseBackSpec)

/-- 'stratigraphlaw16.LeaseOpens', WHERE WHAT IT READS IS OF BULK AT MOST 1048576: true; the input reads as it did. -/
def leaseOpensUptoRow : OpenClaim := { program := "ytclmbbbpijboaaa", sum := "ff0bc71cd708a5bb739b4566f408186adc608749982b9c477b90a0ac118446a0", func := "stratigraph/stratigraphlaw16.LeaseOpens", spec := "leaseOpens", inPlace := ["slices.overlaps[stratigraph/api.Lease]"], unfollowed := true, recurses := true, apart := false, narrowed := true }
def LeaseOpensUptoSaid : Prop := leaseOpensUptoRow.holds Try.pinned (OpenSpec.upto leaseOpensSpec)

/-- 'stratigraphlaw16.LeaseHolds', WHERE WHAT IT READS IS OF BULK AT MOST 1048576: true; the input reads as it did. -/
def leaseHoldsUptoRow : OpenClaim := { program := "ytclmbbbpijboaaa", sum := "ff0bc71cd708a5bb739b4566f408186adc608749982b9c477b90a0ac118446a0", func := "stratigraph/stratigraphlaw16.LeaseHolds", spec := "leaseHolds", inPlace := ["slices.overlaps[stratigraph/api.Lease]"], unfollowed := true, recurses := true, apart := false, narrowed := true }
def LeaseHoldsUptoSaid : Prop := leaseHoldsUptoRow.holds Try.pinned (OpenSpec.upto leaseHoldsSpec)

end Rows
end Go.Proofs.Ytclmbbbpijboaaa
