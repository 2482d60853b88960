/- GroupEnds, at every input: proved over a checked abstract run of the translated code; no condition. A part. -/
import Derived.Test.YtkmbagigchfhbaaRows
import Derived.Test.YtkmbagigchfhbaaGroupEndsA4
namespace Sg
open _root_.Go _root_.Go.Proofs
set_option linter.unusedSimpArgs false
set_option maxRecDepth 100000
theorem t232 : H232 (look oneTab) := rfl
theorem t233 : H233 (look oneTab) := rfl
theorem t63 : H63 (look oneTab) := rfl
theorem t75 : H75 (look oneTab) := rfl
theorem t65 : H65 (look oneTab) := ⟨rfl, t75⟩
theorem t64 : H64 (look oneTab) := ⟨rfl, t65⟩
theorem t66 : H66 (look oneTab) := ⟨rfl, t65⟩
theorem t76 : H76 (look oneTab) := rfl
theorem t67 : H67 (look oneTab) := ⟨rfl, t76⟩
theorem t68 : H68 (look oneTab) := rfl
theorem t39 : H39 (look oneTab) := ⟨rfl, t63, t64, t65, t66, t67, t68⟩
theorem t73 : H73 (look oneTab) := ⟨rfl, t64, t65⟩
theorem t69 : H69 (look oneTab) := rfl
theorem t74 : H74 (look oneTab) := ⟨rfl, t73, t63, t68, t69⟩
theorem t71 : H71 (look oneTab) := rfl
theorem t57 : H57 (look oneTab) := ⟨rfl, t39, t74, t68, t65, t69, t71⟩
theorem t234 : H234 (look oneTab) := ⟨rfl, t57, t232⟩
theorem t72 : H72 (look oneTab) := ⟨rfl, t65, t69⟩
theorem t54 : H54 (look oneTab) := ⟨rfl, t39, t73, t63, t68, t72, t69⟩
theorem t235 : H235 (look oneTab) := ⟨rfl, t54, t232⟩
theorem t40 : H40 (look oneTab) := ⟨rfl, t39, t68⟩
theorem t41 : H41 (look oneTab) := ⟨rfl, t40⟩
theorem t47 : H47 (look oneTab) := ⟨rfl, t39, t68, t41, t71, t72⟩
theorem t51 : H51 (look oneTab) := ⟨rfl, t41, t72⟩
theorem t229 : H229 (look oneTab) := ⟨rfl, t232, t233, t234, t235, t47, t51⟩
theorem t43 : H43 (look oneTab) := ⟨rfl, t69, t68, t39⟩
theorem t35 : H35 (look oneTab) := ⟨rfl, t43, t47, t41, t40⟩
theorem t231 : H231 (look oneTab) := ⟨rfl, t229, t43, t40, t51, t232, t233, t234, t41, t35⟩
theorem all_ctr (f : Nat) (args : List V) (r : V) (h : K' (look oneTab) f args = some r) : Ctr Try.prog (cxOf oneFm) (ownOf (look oneTab) f) f args r := by
  obtain ⟨n, hn⟩ := K'_iff.1 h
  refine tab_sound (by kernel_rfl) okAll (fun f own p hp => ?_) (fun f z p hlt hp => ?_) (fun f z p hp => ?_) n f args r hn
  · have hm := look_mem hp
    simp only [oneTab, List.mem_cons, Prod.mk.injEq, reduceCtorEq, and_false, false_and, false_or, Fn.prim.injEq, Option.some.injEq, List.not_mem_nil, or_false] at hm
    obtain ⟨rfl, hz, rfl⟩ := hm
    subst hz
    exact clone_ctr (zero := [.int .i64 0]) (by kernel_rfl) okClone69
  · have hm := look_mem hp
    simp only [oneTab, List.mem_cons, Prod.mk.injEq, reduceCtorEq, and_false, false_and, false_or, Fn.prim.injEq, Option.some.injEq, List.not_mem_nil, or_false] at hm
    obtain ⟨rfl, hz, rfl⟩ := hm
    omega
  · have hm := look_mem hp
    simp only [oneTab, List.mem_cons, Prod.mk.injEq, reduceCtorEq, and_false, false_and, false_or, Fn.prim.injEq, Option.some.injEq, List.not_mem_nil, or_false] at hm
    obtain ⟨rfl, hz, rfl⟩ := hm
    omega
end Sg
namespace Go.Proofs.Ytkmbagigchfhbaa
open Sg Go.RowKit
set_option maxRecDepth 100000
theorem own : ownKnob Try.prog.godebug = none := by kernel_rfl
theorem laid : laidOutB Try.prog = true := by kernel_rfl
theorem groupEnds_ctr (xs : List V) (h : ArgsV [(false, [.slice tAct14])] xs) : Ctr Try.prog (cxOf oneFm) (ownOf (Sg.look oneTab) 231) 231 xs (.bool true) := by
  match xs, h with
  | [x0], h =>
    obtain ⟨h0, -⟩ := h
    obtain ⟨a0, rfl, l0⟩ := arg_Act14s h0
    exact all_ctr _ _ _ (K231 t231 a0)
theorem groupEnds_lifted (os : Os) (started : os.Started) (H : Type) (enc : TypeId × Value → H) :
    ReturnsInHanded Rows.groupEndsRow.assume Try.checked os 9 .any (Rows.groupEndsSpec.pre6 enc Try.prog Try.f9 Rows.groupEndsRow.domain Rows.groupEndsRow.apart) (Rows.groupEndsSpec.post enc Try.prog Try.f9 Rows.groupEndsRow.apart Rows.groupEndsRow.fresh Rows.groupEndsRow.handsOn Rows.groupEndsRow.again) := by
  refine returnsInHanded_of_change (C := Try.checked) own started (by kernel_rfl) Try.func9
    (ChangeSpec.witness6 (enc := enc) (C := Try.checked) false ⟨#[], #[.slice none 0 0], []⟩ 8 (by kernel_rfl) (by kernel_rfl) (by kernel_rfl) (by kernel_rfl)) ?_
  intro W base args ds gs before hval hW _ _
  exact lift (conds := []) (cx := cxOf oneFm) (own := ownOf (Sg.look oneTab) 231) (fid := 231) (ss := [(false, [.slice tAct14])]) (tb := 4) (by kernel_rfl) (by kernel_rfl) (by kernel_rfl) laid rfl (by kernel_rfl) (by kernel_rfl)
    (fun ds h => by
      have h2 : Try.f9.params.toList.length = 1 := by kernel_rfl
      rw [h2] at h
      match ds, h with
      | [d0], _ => rfl) groupEnds_ctr W (Nat.zero_le _) trivial base args ds gs before hval hW
theorem groupEnds_holds : Rows.GroupEndsSaid :=
  OpenClaim.holds_of_wide 9 Try.f9 rfl rfl rfl rfl rfl rfl rfl ⟨rfl, rfl, rfl, rfl, rfl⟩ rfl rfl rfl rfl rfl (by kernel_rfl) Try.func9 (by kernel_rfl)
    (of_decide_eq_true (by kernel_rfl)) (by unfold Func.isWrapper; rw [if_neg (of_decide_eq_false (by kernel_rfl))]; exact ⟨rfl, rfl⟩)
    (fun os started H enc _ => groupEnds_lifted os started H enc)
#print axioms groupEnds_holds
end Go.Proofs.Ytkmbagigchfhbaa
