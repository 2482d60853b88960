/-
  No cell of these rows narrows 'for every input' (looked for: loops, veiled, ifaces, maps, wideKeys, modest, calm, conditions, laid).
  DERIVED. THE GIVEN ROWS OF THIS SEAT. 6 by the template 'for every input the law returns true; each argument reads behind the call as it read before'; 0 by the template 'total and deterministic' (their statements: YtmjljioejabmiaaTotals.lean).
  GIVEN WITH THE SEED: the statements are not yours to turn. If you find one false, say at which input.
  Laid BY PROGRAM, IN A SANDBOX (cutbox-rows.mjs): the forced cells as the released guide's own fill.sh prints them over the translation 11fb96abe6bbb606… (all of the seat's roots in one cut). By AI agents, Wed Nov 11 2026. No macro, syntax, notation, axiom, sorry.
-/
import Derived.Test.YtmjljioejabmiaaChecked
import GoSem.Claim
import GoSem.ClaimJoined
import GoSem.ClaimMapViews
import Derived.JoinedTies
import Derived.KernelRfl
namespace Go.Proofs.Ytmjljioejabmiaa
/- THE CELL 'sum', in the pinned program and in every row, IS THE sha256 OF THE DUMP (.gsa) THAT YtmjljioejabmiaaProg.lean LOADS. Nothing in Lean hashes anything: it is a label: what it is worth is what the hold of that sum in a sandbox is worth. -/
noncomputable def Try.pinned : Pinned := { name := "ytmjljioejabmiaa", sum := "11fb96abe6bbb606a920c8d64f63e42ce3e913107988dbf9a3e3d74334e3437f", checked := Try.checked }
namespace Rows
def none {H : Type} : Left H := { results := [], args := [] }

/-- 'stratigraphlaw07.ChainAdds': WHATEVER THE INPUT: true; the input reads as it did. -/
def chainAddsSpec : ChangeSpec := { name := "chainAdds", fn := fun _ => fun
  | [d1, d2] => { results := [.lit (.bool true)], args := [d1, d2] }
  | _ => none }
def chainAddsRow : OpenClaim := { program := "ytmjljioejabmiaa", sum := "11fb96abe6bbb606a920c8d64f63e42ce3e913107988dbf9a3e3d74334e3437f", func := "stratigraph/stratigraphlaw07.ChainAdds", spec := "chainAdds", unfollowed := true, recurses := true, apart := false }
def ChainAddsSaid : Prop := chainAddsRow.holds Try.pinned (OpenSpec.ofChange chainAddsSpec)

/-- ITS FALSE NEIGHBOUR: 'it returns false'. Refute it at one input. -/
def chainAddsWrong : ChangeSpec := { name := "chainAdds", fn := fun _ => fun
  | [d1, d2] => { results := [.lit (.bool false)], args := [d1, d2] }
  | _ => none }
def ChainAddsWrongFalsely : Prop := chainAddsRow.holds Try.pinned (OpenSpec.ofChange chainAddsWrong)

/-- 'stratigraphlaw07.ChainReads': WHATEVER THE INPUT: true; the input reads as it did. -/
def chainReadsSpec : ChangeSpec := { name := "chainReads", fn := fun _ => fun
  | [d1, d2] => { results := [.lit (.bool true)], args := [d1, d2] }
  | _ => none }
def chainReadsRow : OpenClaim := { program := "ytmjljioejabmiaa", sum := "11fb96abe6bbb606a920c8d64f63e42ce3e913107988dbf9a3e3d74334e3437f", func := "stratigraph/stratigraphlaw07.ChainReads", spec := "chainReads", unfollowed := true, recurses := true, apart := false }
def ChainReadsSaid : Prop := chainReadsRow.holds Try.pinned (OpenSpec.ofChange chainReadsSpec)

/-- ITS FALSE NEIGHBOUR: 'it returns false'. Refute it at one input. -/
def chainReadsWrong : ChangeSpec := { name := "chainReads", fn := fun _ => fun
  | [d1, d2] => { results := [.lit (.bool false)], args := [d1, d2] }
  | _ => none }
def ChainReadsWrongFalsely : Prop := chainReadsRow.holds Try.pinned (OpenSpec.ofChange chainReadsWrong)

/-- 'stratigraphlaw07.ChainBehind': WHATEVER THE INPUT: true; the input reads as it did. -/
def chainBehindSpec : ChangeSpec := { name := "chainBehind", fn := fun _ => fun
  | [d1, d2, d3] => { results := [.lit (.bool true)], args := [d1, d2, d3] }
  | _ => none }
def chainBehindRow : OpenClaim := { program := "ytmjljioejabmiaa", sum := "11fb96abe6bbb606a920c8d64f63e42ce3e913107988dbf9a3e3d74334e3437f", func := "stratigraph/stratigraphlaw07.ChainBehind", spec := "chainBehind", unfollowed := true, recurses := true, apart := false }
def ChainBehindSaid : Prop := chainBehindRow.holds Try.pinned (OpenSpec.ofChange chainBehindSpec)

/-- ITS FALSE NEIGHBOUR: 'it returns false'. Refute it at one input. -/
def chainBehindWrong : ChangeSpec := { name := "chainBehind", fn := fun _ => fun
  | [d1, d2, d3] => { results := [.lit (.bool false)], args := [d1, d2, d3] }
  | _ => none }
def ChainBehindWrongFalsely : Prop := chainBehindRow.holds Try.pinned (OpenSpec.ofChange chainBehindWrong)

/-- 'stratigraphlaw07.ChainPrunes': WHATEVER THE INPUT: true; the input reads as it did. -/
def chainPrunesSpec : ChangeSpec := { name := "chainPrunes", fn := fun _ => fun
  | [d1, d2] => { results := [.lit (.bool true)], args := [d1, d2] }
  | _ => none }
def chainPrunesRow : OpenClaim := { program := "ytmjljioejabmiaa", sum := "11fb96abe6bbb606a920c8d64f63e42ce3e913107988dbf9a3e3d74334e3437f", func := "stratigraph/stratigraphlaw07.ChainPrunes", spec := "chainPrunes", unfollowed := true, recurses := true, apart := false }
def ChainPrunesSaid : Prop := chainPrunesRow.holds Try.pinned (OpenSpec.ofChange chainPrunesSpec)

/-- ITS FALSE NEIGHBOUR: 'it returns false'. Refute it at one input. -/
def chainPrunesWrong : ChangeSpec := { name := "chainPrunes", fn := fun _ => fun
  | [d1, d2] => { results := [.lit (.bool false)], args := [d1, d2] }
  | _ => none }
def ChainPrunesWrongFalsely : Prop := chainPrunesRow.holds Try.pinned (OpenSpec.ofChange chainPrunesWrong)

/-- 'stratigraphlaw07.ChainKeeps': WHATEVER THE INPUT: true; the input reads as it did. -/
def chainKeepsSpec : ChangeSpec := { name := "chainKeeps", fn := fun _ => fun
  | [d1, d2, d3] => { results := [.lit (.bool true)], args := [d1, d2, d3] }
  | _ => none }
def chainKeepsRow : OpenClaim := { program := "ytmjljioejabmiaa", sum := "11fb96abe6bbb606a920c8d64f63e42ce3e913107988dbf9a3e3d74334e3437f", func := "stratigraph/stratigraphlaw07.ChainKeeps", spec := "chainKeeps", unfollowed := true, recurses := true, apart := false }
def ChainKeepsSaid : Prop := chainKeepsRow.holds Try.pinned (OpenSpec.ofChange chainKeepsSpec)

/-- ITS FALSE NEIGHBOUR: 'it returns false'. Refute it at one input. -/
def chainKeepsWrong : ChangeSpec := { name := "chainKeeps", fn := fun _ => fun
  | [d1, d2, d3] => { results := [.lit (.bool false)], args := [d1, d2, d3] }
  | _ => none }
def ChainKeepsWrongFalsely : Prop := chainKeepsRow.holds Try.pinned (OpenSpec.ofChange chainKeepsWrong)

/-- 'stratigraphlaw07.ChainTwice': WHATEVER THE INPUT: true; the input reads as it did. -/
def chainTwiceSpec : ChangeSpec := { name := "chainTwice", fn := fun _ => fun
  | [d1, d2, d3] => { results := [.lit (.bool true)], args := [d1, d2, d3] }
  | _ => none }
def chainTwiceRow : OpenClaim := { program := "ytmjljioejabmiaa", sum := "11fb96abe6bbb606a920c8d64f63e42ce3e913107988dbf9a3e3d74334e3437f", func := "stratigraph/stratigraphlaw07.ChainTwice", spec := "chainTwice", unfollowed := true, recurses := true, apart := false }
def ChainTwiceSaid : Prop := chainTwiceRow.holds Try.pinned (OpenSpec.ofChange chainTwiceSpec)

/-- ITS FALSE NEIGHBOUR: 'it returns false'. Refute it at one input. -/
def chainTwiceWrong : ChangeSpec := { name := "chainTwice", fn := fun _ => fun
  | [d1, d2, d3] => { results := [.lit (.bool false)], args := [d1, d2, d3] }
  | _ => none }
def ChainTwiceWrongFalsely : Prop := chainTwiceRow.holds Try.pinned (OpenSpec.ofChange chainTwiceWrong)

/- THE SECOND FORM. 'bulk': how many values and letters a reading holds, each counted each time it is reached (what is shared counts as often as it is met; a slice's spare places count too). A statement '..UptoSaid' is the law's where the arguments, and the package variables that the reading takes, are together of bulk at most 1048576: NARROWER than '..Said'. Prove '..Said' where nothing that the law and all that it calls make is longer than what came in: it says more and counts as full. Else prove '..UptoSaid'. A law counts once. -/
mutual
def uptoBulk {H : Type} : DataW H → Nat
  | .lit (.string bytes) => bytes.length + 1
  | .lit _ => 1
  | .nil => 1
  | .ptr d => uptoBulk d + 1
  | .slice elems spare => uptoBulkAll elems + uptoBulkAll spare + 1
  | .agg parts => uptoBulkAll parts + 1
  | .iface _ d => uptoBulk d + 1
  | .map entries => uptoBulkEntries entries + 1
  | .held _ => 1
def uptoBulkAll {H : Type} : List (DataW H) → Nat
  | [] => 0
  | d :: r => uptoBulk d + uptoBulkAll r
def uptoBulkEntries {H : Type} : List (Lit × DataW H) → Nat
  | [] => 0
  | x :: r => uptoBulkEntry x + uptoBulkEntries r
def uptoBulkEntry {H : Type} : Lit × DataW H → Nat
  | (.string bytes, d) => bytes.length + uptoBulk d + 1
  | (_, d) => uptoBulk d + 1
 end
def uptoSmall : (H : Type) → List (DataW H) → Bool := fun _ ds => decide (uptoBulkAll ds ≤ 1048576)
def OpenSpec.upto (s : _root_.Go.ChangeSpec) : _root_.Go.OpenSpec := { _root_.Go.OpenSpec.ofChange s with cond := some uptoSmall }

/-- 'stratigraphlaw07.ChainAdds', WHERE WHAT IT READS IS OF BULK AT MOST 1048576: true; the input reads as it did. -/
def chainAddsUptoRow : OpenClaim := { program := "ytmjljioejabmiaa", sum := "11fb96abe6bbb606a920c8d64f63e42ce3e913107988dbf9a3e3d74334e3437f", func := "stratigraph/stratigraphlaw07.ChainAdds", spec := "chainAdds", unfollowed := true, recurses := true, apart := false, narrowed := true }
def ChainAddsUptoSaid : Prop := chainAddsUptoRow.holds Try.pinned (OpenSpec.upto chainAddsSpec)

/-- 'stratigraphlaw07.ChainReads', WHERE WHAT IT READS IS OF BULK AT MOST 1048576: true; the input reads as it did. -/
def chainReadsUptoRow : OpenClaim := { program := "ytmjljioejabmiaa", sum := "11fb96abe6bbb606a920c8d64f63e42ce3e913107988dbf9a3e3d74334e3437f", func := "stratigraph/stratigraphlaw07.ChainReads", spec := "chainReads", unfollowed := true, recurses := true, apart := false, narrowed := true }
def ChainReadsUptoSaid : Prop := chainReadsUptoRow.holds Try.pinned (OpenSpec.upto chainReadsSpec)

/-- 'stratigraphlaw07.ChainBehind', WHERE WHAT IT READS IS OF BULK AT MOST 1048576: true; the input reads as it did. -/
def chainBehindUptoRow : OpenClaim := { program := "ytmjljioejabmiaa", sum := "11fb96abe6bbb606a920c8d64f63e42ce3e913107988dbf9a3e3d74334e3437f", func := "stratigraph/stratigraphlaw07.ChainBehind", spec := "chainBehind", unfollowed := true, recurses := true, apart := false, narrowed := true }
def ChainBehindUptoSaid : Prop := chainBehindUptoRow.holds Try.pinned (OpenSpec.upto chainBehindSpec)

/-- 'stratigraphlaw07.ChainPrunes', WHERE WHAT IT READS IS OF BULK AT MOST 1048576: true; the input reads as it did. -/
def chainPrunesUptoRow : OpenClaim := { program := "ytmjljioejabmiaa", sum := "11fb96abe6bbb606a920c8d64f63e42ce3e913107988dbf9a3e3d74334e3437f", func := "stratigraph/stratigraphlaw07.ChainPrunes", spec := "chainPrunes", unfollowed := true, recurses := true, apart := false, narrowed := true }
def ChainPrunesUptoSaid : Prop := chainPrunesUptoRow.holds Try.pinned (OpenSpec.upto chainPrunesSpec)

/-- 'stratigraphlaw07.ChainKeeps', WHERE WHAT IT READS IS OF BULK AT MOST 1048576: true; the input reads as it did. -/
def chainKeepsUptoRow : OpenClaim := { program := "ytmjljioejabmiaa", sum := "11fb96abe6bbb606a920c8d64f63e42ce3e913107988dbf9a3e3d74334e3437f", func := "stratigraph/stratigraphlaw07.ChainKeeps", spec := "chainKeeps", unfollowed := true, recurses := true, apart := false, narrowed := true }
def ChainKeepsUptoSaid : Prop := chainKeepsUptoRow.holds Try.pinned (OpenSpec.upto chainKeepsSpec)

/-- 'stratigraphlaw07.ChainTwice', WHERE WHAT IT READS IS OF BULK AT MOST 1048576: true; the input reads as it did. -/
def chainTwiceUptoRow : OpenClaim := { program := "ytmjljioejabmiaa", sum := "11fb96abe6bbb606a920c8d64f63e42ce3e913107988dbf9a3e3d74334e3437f", func := "stratigraph/stratigraphlaw07.ChainTwice", spec := "chainTwice", unfollowed := true, recurses := true, apart := false, narrowed := true }
def ChainTwiceUptoSaid : Prop := chainTwiceUptoRow.holds Try.pinned (OpenSpec.upto chainTwiceSpec)

end Rows
end Go.Proofs.Ytmjljioejabmiaa
