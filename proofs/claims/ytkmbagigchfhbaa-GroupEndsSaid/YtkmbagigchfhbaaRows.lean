/-
  No cell of these rows narrows 'for every input' (looked for: loops, veiled, ifaces, maps, wideKeys, modest, calm, conditions, laid).
  DERIVED. THE GIVEN ROWS OF THIS SEAT. 7 by the template 'for every input the law returns true; each argument reads behind the call as it read before'; 0 by the template 'total and deterministic' (their statements: YtkmbagigchfhbaaTotals.lean).
  GIVEN WITH THE SEED: the statements are not yours to turn. If you find one false, say at which input.
  Laid BY PROGRAM, IN A SANDBOX (cutbox-rows.mjs): the forced cells as the released guide's own fill.sh prints them over the translation 6d3fc78578114f08… (all of the seat's roots in one cut). By AI agents, Wed Nov 11 2026. No macro, syntax, notation, axiom, sorry.
-/
import Derived.Test.YtkmbagigchfhbaaChecked
import GoSem.Claim
import GoSem.ClaimJoined
import GoSem.ClaimMapViews
import Derived.JoinedTies
import Derived.KernelRfl
namespace Go.Proofs.Ytkmbagigchfhbaa
/- THE CELL 'sum', in the pinned program and in every row, IS THE sha256 OF THE DUMP (.gsa) THAT YtkmbagigchfhbaaProg.lean LOADS. Nothing in Lean hashes anything: it is a label: what it is worth is what the hold of that sum in a sandbox is worth. -/
noncomputable def Try.pinned : Pinned := { name := "ytkmbagigchfhbaa", sum := "6d3fc78578114f08e3b22eaa5ac43d120064750a45b8d67149c463c6acd2de6a", checked := Try.checked }
namespace Rows
def none {H : Type} : Left H := { results := [], args := [] }

/-- 'stratigraphlaw14.GroupRights': WHATEVER THE INPUT: true; the input reads as it did. -/
def groupRightsSpec : ChangeSpec := { name := "groupRights", fn := fun _ => fun
  | [d1, d2, d3, d4] => { results := [.lit (.bool true)], args := [d1, d2, d3, d4] }
  | _ => none }
def groupRightsRow : OpenClaim := { program := "ytkmbagigchfhbaa", sum := "6d3fc78578114f08e3b22eaa5ac43d120064750a45b8d67149c463c6acd2de6a", func := "stratigraph/stratigraphlaw14.GroupRights", spec := "groupRights", unfollowed := true, recurses := true, apart := false }
def GroupRightsSaid : Prop := groupRightsRow.holds Try.pinned (OpenSpec.ofChange groupRightsSpec)

/-- ITS FALSE NEIGHBOUR: 'it returns false'. Refute it at one input. -/
def groupRightsWrong : ChangeSpec := { name := "groupRights", fn := fun _ => fun
  | [d1, d2, d3, d4] => { results := [.lit (.bool false)], args := [d1, d2, d3, d4] }
  | _ => none }
def GroupRightsWrongFalsely : Prop := groupRightsRow.holds Try.pinned (OpenSpec.ofChange groupRightsWrong)

/-- 'stratigraphlaw14.GroupProposes': WHATEVER THE INPUT: true; the input reads as it did. -/
def groupProposesSpec : ChangeSpec := { name := "groupProposes", fn := fun _ => fun
  | [d1, d2] => { results := [.lit (.bool true)], args := [d1, d2] }
  | _ => none }
def groupProposesRow : OpenClaim := { program := "ytkmbagigchfhbaa", sum := "6d3fc78578114f08e3b22eaa5ac43d120064750a45b8d67149c463c6acd2de6a", func := "stratigraph/stratigraphlaw14.GroupProposes", spec := "groupProposes", unfollowed := true, recurses := true, apart := false }
def GroupProposesSaid : Prop := groupProposesRow.holds Try.pinned (OpenSpec.ofChange groupProposesSpec)

/-- ITS FALSE NEIGHBOUR: 'it returns false'. Refute it at one input. -/
def groupProposesWrong : ChangeSpec := { name := "groupProposes", fn := fun _ => fun
  | [d1, d2] => { results := [.lit (.bool false)], args := [d1, d2] }
  | _ => none }
def GroupProposesWrongFalsely : Prop := groupProposesRow.holds Try.pinned (OpenSpec.ofChange groupProposesWrong)

/-- 'stratigraphlaw14.GroupLeads': WHATEVER THE INPUT: true; the input reads as it did. -/
def groupLeadsSpec : ChangeSpec := { name := "groupLeads", fn := fun _ => fun
  | [d1, d2, d3] => { results := [.lit (.bool true)], args := [d1, d2, d3] }
  | _ => none }
def groupLeadsRow : OpenClaim := { program := "ytkmbagigchfhbaa", sum := "6d3fc78578114f08e3b22eaa5ac43d120064750a45b8d67149c463c6acd2de6a", func := "stratigraph/stratigraphlaw14.GroupLeads", spec := "groupLeads", unfollowed := true, recurses := true, apart := false }
def GroupLeadsSaid : Prop := groupLeadsRow.holds Try.pinned (OpenSpec.ofChange groupLeadsSpec)

/-- ITS FALSE NEIGHBOUR: 'it returns false'. Refute it at one input. -/
def groupLeadsWrong : ChangeSpec := { name := "groupLeads", fn := fun _ => fun
  | [d1, d2, d3] => { results := [.lit (.bool false)], args := [d1, d2, d3] }
  | _ => none }
def GroupLeadsWrongFalsely : Prop := groupLeadsRow.holds Try.pinned (OpenSpec.ofChange groupLeadsWrong)

/-- 'stratigraphlaw14.GroupHears': WHATEVER THE INPUT: true; the input reads as it did. -/
def groupHearsSpec : ChangeSpec := { name := "groupHears", fn := fun _ => fun
  | [d1, d2] => { results := [.lit (.bool true)], args := [d1, d2] }
  | _ => none }
def groupHearsRow : OpenClaim := { program := "ytkmbagigchfhbaa", sum := "6d3fc78578114f08e3b22eaa5ac43d120064750a45b8d67149c463c6acd2de6a", func := "stratigraph/stratigraphlaw14.GroupHears", spec := "groupHears", unfollowed := true, recurses := true, apart := false }
def GroupHearsSaid : Prop := groupHearsRow.holds Try.pinned (OpenSpec.ofChange groupHearsSpec)

/-- ITS FALSE NEIGHBOUR: 'it returns false'. Refute it at one input. -/
def groupHearsWrong : ChangeSpec := { name := "groupHears", fn := fun _ => fun
  | [d1, d2] => { results := [.lit (.bool false)], args := [d1, d2] }
  | _ => none }
def GroupHearsWrongFalsely : Prop := groupHearsRow.holds Try.pinned (OpenSpec.ofChange groupHearsWrong)

/-- 'stratigraphlaw14.GroupTwice': WHATEVER THE INPUT: true; the input reads as it did. -/
def groupTwiceSpec : ChangeSpec := { name := "groupTwice", fn := fun _ => fun
  | [d1, d2] => { results := [.lit (.bool true)], args := [d1, d2] }
  | _ => none }
def groupTwiceRow : OpenClaim := { program := "ytkmbagigchfhbaa", sum := "6d3fc78578114f08e3b22eaa5ac43d120064750a45b8d67149c463c6acd2de6a", func := "stratigraph/stratigraphlaw14.GroupTwice", spec := "groupTwice", unfollowed := true, recurses := true, apart := false }
def GroupTwiceSaid : Prop := groupTwiceRow.holds Try.pinned (OpenSpec.ofChange groupTwiceSpec)

/-- ITS FALSE NEIGHBOUR: 'it returns false'. Refute it at one input. -/
def groupTwiceWrong : ChangeSpec := { name := "groupTwice", fn := fun _ => fun
  | [d1, d2] => { results := [.lit (.bool false)], args := [d1, d2] }
  | _ => none }
def GroupTwiceWrongFalsely : Prop := groupTwiceRow.holds Try.pinned (OpenSpec.ofChange groupTwiceWrong)

/-- 'stratigraphlaw14.GroupOne': WHATEVER THE INPUT: true; the input reads as it did. -/
def groupOneSpec : ChangeSpec := { name := "groupOne", fn := fun _ => fun
  | [d] => { results := [.lit (.bool true)], args := [d] }
  | _ => none }
def groupOneRow : OpenClaim := { program := "ytkmbagigchfhbaa", sum := "6d3fc78578114f08e3b22eaa5ac43d120064750a45b8d67149c463c6acd2de6a", func := "stratigraph/stratigraphlaw14.GroupOne", spec := "groupOne", unfollowed := true, recurses := true, apart := false }
def GroupOneSaid : Prop := groupOneRow.holds Try.pinned (OpenSpec.ofChange groupOneSpec)

/-- ITS FALSE NEIGHBOUR: 'it returns false'. Refute it at one input. -/
def groupOneWrong : ChangeSpec := { name := "groupOne", fn := fun _ => fun
  | [d] => { results := [.lit (.bool false)], args := [d] }
  | _ => none }
def GroupOneWrongFalsely : Prop := groupOneRow.holds Try.pinned (OpenSpec.ofChange groupOneWrong)

/-- 'stratigraphlaw14.GroupEnds': WHATEVER THE INPUT: true; the input reads as it did. -/
def groupEndsSpec : ChangeSpec := { name := "groupEnds", fn := fun _ => fun
  | [d] => { results := [.lit (.bool true)], args := [d] }
  | _ => none }
def groupEndsRow : OpenClaim := { program := "ytkmbagigchfhbaa", sum := "6d3fc78578114f08e3b22eaa5ac43d120064750a45b8d67149c463c6acd2de6a", func := "stratigraph/stratigraphlaw14.GroupEnds", spec := "groupEnds", unfollowed := true, recurses := true, apart := false }
def GroupEndsSaid : Prop := groupEndsRow.holds Try.pinned (OpenSpec.ofChange groupEndsSpec)

/-- ITS FALSE NEIGHBOUR: 'it returns false'. Refute it at one input. -/
def groupEndsWrong : ChangeSpec := { name := "groupEnds", fn := fun _ => fun
  | [d] => { results := [.lit (.bool false)], args := [d] }
  | _ => none }
def GroupEndsWrongFalsely : Prop := groupEndsRow.holds Try.pinned (OpenSpec.ofChange groupEndsWrong)

/- THE SECOND FORM. 'bulk': how many values and letters a reading holds, each counted each time it is reached (what is shared counts as often as it is met; a slice's spare places count too). A statement '..UptoSaid' is the law's where the arguments, and the package variables that the reading takes, are together of bulk at most 1048576: NARROWER than '..Said'. Prove '..Said' where nothing that the law and all that it calls make is longer than what came in: it says more and counts as full. Else prove '..UptoSaid'. A law counts once. -/
mutual
def uptoBulk {H : Type} : DataW H → Nat
  | .lit (.string bytes) => bytes.length + 1
  | .lit _ => 1
  | .nil => 1
  | .ptr d => uptoBulk d + 1
  | .slice elems spare => uptoBulkAll elems + uptoBulkAll spare + 1
  | .agg parts => uptoBulkAll parts + 1
  | .iface _ d => uptoBulk d + 1
  | .map entries => uptoBulkEntries entries + 1
  | .held _ => 1
def uptoBulkAll {H : Type} : List (DataW H) → Nat
  | [] => 0
  | d :: r => uptoBulk d + uptoBulkAll r
def uptoBulkEntries {H : Type} : List (Lit × DataW H) → Nat
  | [] => 0
  | x :: r => uptoBulkEntry x + uptoBulkEntries r
def uptoBulkEntry {H : Type} : Lit × DataW H → Nat
  | (.string bytes, d) => bytes.length + uptoBulk d + 1
  | (_, d) => uptoBulk d + 1
 end
def uptoSmall : (H : Type) → List (DataW H) → Bool := fun _ ds => decide (uptoBulkAll ds ≤ 1048576)
def OpenSpec.upto (s : _root_.Go.ChangeSpec) : _root_.Go.OpenSpec := { _root_.Go.OpenSpec.ofChange s with cond := some uptoSmall }

/-- 'stratigraphlaw14.GroupRights', WHERE WHAT IT READS IS OF BULK AT MOST 1048576: true; the input reads as it did. -/
def groupRightsUptoRow : OpenClaim := { program := "ytkmbagigchfhbaa", sum := "6d3fc78578114f08e3b22eaa5ac43d120064750a45b8d67149c463c6acd2de6a", func := "stratigraph/stratigraphlaw14.GroupRights", spec := "groupRights", unfollowed := true, recurses := true, apart := false, narrowed := true }
def GroupRightsUptoSaid : Prop := groupRightsUptoRow.holds Try.pinned (OpenSpec.upto groupRightsSpec)

/-- 'stratigraphlaw14.GroupProposes', WHERE WHAT IT READS IS OF BULK AT MOST 1048576: true; the input reads as it did. -/
def groupProposesUptoRow : OpenClaim := { program := "ytkmbagigchfhbaa", sum := "6d3fc78578114f08e3b22eaa5ac43d120064750a45b8d67149c463c6acd2de6a", func := "stratigraph/stratigraphlaw14.GroupProposes", spec := "groupProposes", unfollowed := true, recurses := true, apart := false, narrowed := true }
def GroupProposesUptoSaid : Prop := groupProposesUptoRow.holds Try.pinned (OpenSpec.upto groupProposesSpec)

/-- 'stratigraphlaw14.GroupLeads', WHERE WHAT IT READS IS OF BULK AT MOST 1048576: true; the input reads as it did. -/
def groupLeadsUptoRow : OpenClaim := { program := "ytkmbagigchfhbaa", sum := "6d3fc78578114f08e3b22eaa5ac43d120064750a45b8d67149c463c6acd2de6a", func := "stratigraph/stratigraphlaw14.GroupLeads", spec := "groupLeads", unfollowed := true, recurses := true, apart := false, narrowed := true }
def GroupLeadsUptoSaid : Prop := groupLeadsUptoRow.holds Try.pinned (OpenSpec.upto groupLeadsSpec)

/-- 'stratigraphlaw14.GroupHears', WHERE WHAT IT READS IS OF BULK AT MOST 1048576: true; the input reads as it did. -/
def groupHearsUptoRow : OpenClaim := { program := "ytkmbagigchfhbaa", sum := "6d3fc78578114f08e3b22eaa5ac43d120064750a45b8d67149c463c6acd2de6a", func := "stratigraph/stratigraphlaw14.GroupHears", spec := "groupHears", unfollowed := true, recurses := true, apart := false, narrowed := true }
def GroupHearsUptoSaid : Prop := groupHearsUptoRow.holds Try.pinned (OpenSpec.upto groupHearsSpec)

/-- 'stratigraphlaw14.GroupTwice', WHERE WHAT IT READS IS OF BULK AT MOST 1048576: true; the input reads as it did. -/
def groupTwiceUptoRow : OpenClaim := { program := "ytkmbagigchfhbaa", sum := "6d3fc78578114f08e3b22eaa5ac43d120064750a45b8d67149c463c6acd2de6a", func := "stratigraph/stratigraphlaw14.GroupTwice", spec := "groupTwice", unfollowed := true, recurses := true, apart := false, narrowed := true }
def GroupTwiceUptoSaid : Prop := groupTwiceUptoRow.holds Try.pinned (OpenSpec.upto groupTwiceSpec)

/-- 'stratigraphlaw14.GroupOne', WHERE WHAT IT READS IS OF BULK AT MOST 1048576: true; the input reads as it did. -/
def groupOneUptoRow : OpenClaim := { program := "ytkmbagigchfhbaa", sum := "6d3fc78578114f08e3b22eaa5ac43d120064750a45b8d67149c463c6acd2de6a", func := "stratigraph/stratigraphlaw14.GroupOne", spec := "groupOne", unfollowed := true, recurses := true, apart := false, narrowed := true }
def GroupOneUptoSaid : Prop := groupOneUptoRow.holds Try.pinned (OpenSpec.upto groupOneSpec)

/-- 'stratigraphlaw14.GroupEnds', WHERE WHAT IT READS IS OF BULK AT MOST 1048576: true; the input reads as it did. -/
def groupEndsUptoRow : OpenClaim := { program := "ytkmbagigchfhbaa", sum := "6d3fc78578114f08e3b22eaa5ac43d120064750a45b8d67149c463c6acd2de6a", func := "stratigraph/stratigraphlaw14.GroupEnds", spec := "groupEnds", unfollowed := true, recurses := true, apart := false, narrowed := true }
def GroupEndsUptoSaid : Prop := groupEndsUptoRow.holds Try.pinned (OpenSpec.upto groupEndsSpec)

end Rows
end Go.Proofs.Ytkmbagigchfhbaa
