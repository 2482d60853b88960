/- ShellParses, at every input: proved over a checked abstract run of the translated code; no condition. The last part. -/
import Derived.Test.YthppemaclcgpjaaGreatDoorShellParsesA8
set_option linter.unusedSimpArgs false
set_option linter.unusedVariables false
set_option maxRecDepth 100000
namespace Go.Proofs.YthppemaclcgpjaaGreatDoor
open Sg Go.RowKit
theorem shellParses_plain (f:FuncId) (fn:Func) (hf:Tryz.pinned.checked.prog.funcNamed "stratigraph/stratigraphlaw23.ShellParses"=some f) (hfn:Tryz.pinned.checked.prog.funcs[f]?=some fn) :
  true=Tryz.pinned.checked.prog.looks []∧∀(j:Nat) t,fn.params[j]?=some t→Tryz.pinned.checked.prog.wantsStandIn t=false:=by
 obtain rfl:f=3:=Option.some.inj ((show Tryz.prog.funcNamed "stratigraph/stratigraphlaw23.ShellParses"=some 3 by kernel_rfl).symm.trans hf) |>.symm
 obtain rfl:fn=Tryz.f3:=(Option.some.inj (Tryz.func3.symm.trans hfn)).symm
 refine⟨by kernel_rfl,fun j t ht=>?_⟩
 rw[Tryz.params3] at ht
 have hm:=Array.mem_of_getElem? ht
 simp only[List.mem_toArray,List.mem_cons,List.not_mem_nil,or_false] at hm
 obtain rfl:=hm
 exact (show Tryz.prog.wantsStandIn 9=false by kernel_rfl)
theorem goes_none {P : Program} (h : P.funcs.toList.all (fun f => !f.goes) = true) (c : OpenClaim) (hs : c.start = .entering) : false = c.goesBy P := by
  have h1 : ∀ g : Nat, (P.funcs[g]?).any Func.goes = false := fun g => by
    cases hg : P.funcs[g]? with
    | none => rfl
    | some fn =>
      have hm := List.all_eq_true.1 h fn (Array.mem_toList_iff.2 (Array.mem_of_getElem? hg))
      simpa using hm
  have h2 : P.funcs.any Func.goes = false := by
    rw [← Array.any_toList]
    rw [List.any_eq_false]
    intro fn hm
    have := List.all_eq_true.1 h fn hm
    simpa using this
  have h3 : ∀ f, P.goes f = false := fun f => by
    unfold Program.goes
    rw [h2, Bool.and_false, Bool.or_false, List.any_eq_false]
    intro g _
    rw [h1]; simp
  unfold OpenClaim.goesBy Program.goesAt Program.goesFrom
  rw [hs]
  cases P.funcNamed c.func with
  | none => rfl
  | some f => simp [h3]
theorem goes_all : Tryz.pinned.checked.prog.funcs.toList.all (fun f => !f.goes) = true := by kernel_rfl
theorem shellParses_holds:Rows.ShellParsesCardSaid:=
 Claim7.holds_tied_plain_at .later [] _ _ _ _ shellParses_said (fun _ h=>by cases h) (by kernel_rfl) (fun _ h=>by cases h) shellParses_row_tie rfl ⟨rfl,rfl⟩ (by kernel_rfl) rfl shellParses_plain (goes_none goes_all _ rfl)
end Go.Proofs.YthppemaclcgpjaaGreatDoor
