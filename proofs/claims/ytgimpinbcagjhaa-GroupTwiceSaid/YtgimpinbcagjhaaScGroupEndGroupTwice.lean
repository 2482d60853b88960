import Derived.Test.YtgimpinbcagjhaaScGroupOk
import Derived.Test.YtgimpinbcagjhaaSkTyGroup
import Derived.Test.YtgimpinbcagjhaaSkLaw14
import Derived.Test.YtgimpinbcagjhaaRows
namespace Sg
open _root_.Go _root_.Go.Proofs
set_option linter.unusedSimpArgs false
set_option maxRecDepth 100000
theorem t34 : H34 (look groupTab) := rfl
theorem t69 : H69 (look groupTab) := rfl
theorem t68 : H68 (look groupTab) := rfl
theorem t63 : H63 (look groupTab) := rfl
theorem t75 : H75 (look groupTab) := rfl
theorem t65 : H65 (look groupTab) := ⟨rfl, t75⟩
theorem t64 : H64 (look groupTab) := ⟨rfl, t65⟩
theorem t66 : H66 (look groupTab) := ⟨rfl, t65⟩
theorem t76 : H76 (look groupTab) := rfl
theorem t67 : H67 (look groupTab) := ⟨rfl, t76⟩
theorem t39 : H39 (look groupTab) := ⟨rfl, t63, t64, t65, t66, t67, t68⟩
theorem t43 : H43 (look groupTab) := ⟨rfl, t69, t68, t39⟩
theorem t40 : H40 (look groupTab) := ⟨rfl, t39, t68⟩
theorem t41 : H41 (look groupTab) := ⟨rfl, t40⟩
theorem t71 : H71 (look groupTab) := rfl
theorem t72 : H72 (look groupTab) := ⟨rfl, t65, t69⟩
theorem t47 : H47 (look groupTab) := ⟨rfl, t39, t68, t41, t71, t72⟩
theorem t35 : H35 (look groupTab) := ⟨rfl, t43, t47, t41, t40⟩
theorem t73 : H73 (look groupTab) := ⟨rfl, t64, t65⟩
theorem t74 : H74 (look groupTab) := ⟨rfl, t73, t63, t68, t69⟩
theorem t57 : H57 (look groupTab) := ⟨rfl, t39, t74, t68, t65, t69, t71⟩
theorem t36 : H36 (look groupTab) := rfl
theorem t70 : H70 (look groupTab) := rfl
theorem t45 : H45 (look groupTab) := ⟨rfl, t70⟩
theorem t59 : H59 (look groupTab) := ⟨rfl, t34, t35, t57, t36, t45⟩
theorem all_ctr (f : Nat) (args : List V) (r : V) (h : K' (look groupTab) f args = some r) : Ctr Try.prog (cxOf groupFm) (ownOf (look groupTab) f) f args r := by
  obtain ⟨n, hn⟩ := K'_iff.1 h
  refine callN_sound (by kernel_rfl) (tab_code okAll) (fun f own p hp => ?_) n f args r hn
  have hm := look_mem hp
  simp only [groupTab, List.mem_cons, Prod.mk.injEq, reduceCtorEq, and_false, false_or, Fn.prim.injEq, List.not_mem_nil, or_false] at hm
  obtain ⟨rfl, rfl, rfl⟩ := hm
  exact clone_ctr (zero := [.int .i64 0]) (by kernel_rfl) okClone69
end Sg
namespace Go.Proofs.Ytgimpinbcagjhaa
open Sg Go.RowKit
theorem own : ownKnob Try.prog.godebug = none := by kernel_rfl
theorem laid : laidOutB Try.prog = true := by kernel_rfl
theorem groupTwice_ctr (xs : List V) (h : ArgsV [(true, tRep), (true, tWord)] xs) : Ctr Try.prog (cxOf groupFm) (ownOf (Sg.look groupTab) 59) 59 xs (.bool true) := by
  match xs, h with
  | [x0, x1], h =>
    obtain ⟨h0, h1, -⟩ := h
    obtain ⟨a0, rfl⟩ := arg_rep h0
    obtain ⟨a1, rfl⟩ := arg_word h1
    exact all_ctr _ _ _ (K59 t59 a0 a1)
theorem groupTwice_lifted (os : Os) (started : os.Started) (H : Type) (enc : TypeId × Value → H) :
    ReturnsInHanded Rows.groupTwiceRow.assume Try.checked os 7 .any (Rows.groupTwiceSpec.pre6 enc Try.prog Try.f7 Rows.groupTwiceRow.domain Rows.groupTwiceRow.apart) (Rows.groupTwiceSpec.post enc Try.prog Try.f7 Rows.groupTwiceRow.apart Rows.groupTwiceRow.fresh Rows.groupTwiceRow.handsOn Rows.groupTwiceRow.again) := by
  refine returnsInHanded_of_change (C := Try.checked) own started (by kernel_rfl) Try.func7
    (ChangeSpec.witness6 (enc := enc) (C := Try.checked) false ⟨#[], #[.agg #[.int .i64 0, .int .i64 0, .slice none 0 0, .int .i64 0, .string ⟨#[]⟩, .string ⟨#[]⟩, .slice none 0 0], .agg #[.int .i64 0, .int .i64 0, .int .i64 0, .int .i64 0, .int .i64 0, .slice none 0 0, .string ⟨#[]⟩]], []⟩ 8 (by kernel_rfl) (by kernel_rfl) (by kernel_rfl) (by kernel_rfl)) ?_
  intro W base args ds gs before hval hW _ _
  exact lift (conds := []) (cx := cxOf groupFm) (own := ownOf (Sg.look groupTab) 59) (fid := 59) (ss := [(true, tRep), (true, tWord)]) (tb := 4) (by kernel_rfl) (by kernel_rfl) (by kernel_rfl) laid rfl (by kernel_rfl) (by kernel_rfl)
    (fun ds h => by
      have h2 : Try.f7.params.toList.length = 2 := by kernel_rfl
      rw [h2] at h
      match ds, h with
      | [d0, d1], _ => rfl) groupTwice_ctr W base args ds gs before hval hW
theorem groupTwice_holds : Rows.GroupTwiceSaid :=
  OpenClaim.holds_of_wide 7 Try.f7 rfl rfl rfl rfl rfl rfl rfl ⟨rfl, rfl, rfl, rfl, rfl⟩ rfl rfl rfl rfl rfl (by kernel_rfl) Try.func7 (by kernel_rfl)
    (of_decide_eq_true (by kernel_rfl)) (by unfold Func.isWrapper; rw [if_neg (of_decide_eq_false (by kernel_rfl))]; exact ⟨rfl, rfl⟩)
    (fun os started H enc _ => groupTwice_lifted os started H enc)
#print axioms groupTwice_holds
end Go.Proofs.Ytgimpinbcagjhaa
