import Derived.Test.YtclmbbbpijboaaaScLeaseOk
import Derived.Test.YtclmbbbpijboaaaScLeaseIns
import Derived.Test.YtclmbbbpijboaaaSkTyLease
import Derived.Test.YtclmbbbpijboaaaSkLaw16d
import Derived.Test.YtclmbbbpijboaaaRows
namespace Sg
open _root_.Go _root_.Go.Proofs
set_option linter.unusedSimpArgs false
set_option maxRecDepth 100000
theorem t31 : H31 (look leaseTab) := rfl
theorem t26 : H26 (look leaseTab) := ⟨rfl, t31⟩
theorem t27 : H27 (look leaseTab) := rfl
theorem t15 : H15 (look leaseTab) := ⟨rfl, t26, t27⟩
theorem t32 : H32 (look leaseTab) := rfl
theorem t28 : H28 (look leaseTab) := ⟨rfl, t32⟩
theorem t126 : H126 (look leaseTab) := ⟨rfl, t28⟩
theorem t138 : H138 (look leaseTab) := rfl
theorem t139 : H139 (look leaseTab) := rfl
theorem t133 : H133 (look leaseTab) := ⟨rfl, t138, t139⟩
theorem t134 : H134 (look leaseTab) := rfl
theorem t120 : H120 (look leaseTab) := ⟨rfl, t126, t133, t134⟩
theorem t137 : H137 (look leaseTab) := rfl
theorem t128 : H128 (look leaseTab) := ⟨rfl, t137⟩
theorem t129 : H129 (look leaseTab) := ⟨rfl, t28⟩
theorem t130 : H130 (look leaseTab) := ⟨rfl, t15⟩
theorem t131 : H131 (look leaseTab) := ⟨rfl, t15⟩
theorem t113 : H113 (look leaseTab) := ⟨rfl, t126, t131⟩
theorem t21 : H21 (look leaseTab) := ⟨rfl, t15⟩
theorem t109 : H109 (look leaseTab) := ⟨rfl, t126, t28, t128, t129, t130, t113, t131, t21⟩
theorem t108 : H108 (look leaseTab) := ⟨rfl, t120, t109⟩
theorem t112 : H112 (look leaseTab) := ⟨rfl, t126⟩
theorem t121 : H121 (look leaseTab) := ⟨rfl, t126, t133, t134⟩
theorem t127 : H127 (look leaseTab) := ⟨rfl, t15, t108, t109, t112, t113, t120, t121, t126⟩
theorem all_ctr (f : Nat) (args : List V) (r : V) (h : K' (look leaseTab) f args = some r) : Ctr Try.prog (cxOf leaseFm) (ownOf (look leaseTab) f) f args r := by
  obtain ⟨n, hn⟩ := K'_iff.1 h
  refine callN_sound (by kernel_rfl) (tab_code okAll) (fun f own p hp => ?_) (fun f z p hlt hp => ?_) (fun f z p hp => ?_) n f args r hn
  · have hm := look_mem hp
    simp only [leaseTab, List.mem_cons, Prod.mk.injEq, reduceCtorEq, and_false, false_or, Fn.prim.injEq, Option.some.injEq, List.not_mem_nil, or_false] at hm
    rcases hm with ⟨rfl, hz, rfl⟩ | ⟨rfl, hz, rfl⟩ | ⟨rfl, hz, rfl⟩
    · subst hz
      exact clone_ctr (zero := [.int .i64 0, .int .i64 0, .int .i64 0, .int .i64 0, .int .i64 0]) (by kernel_rfl) okClone134
    · intro args r h
      simp [noQ] at h
    · intro args r h
      simp [noQ] at h
  · have hm := look_mem hp
    simp only [leaseTab, List.mem_cons, Prod.mk.injEq, reduceCtorEq, and_false, false_or, Fn.prim.injEq, Option.some.injEq, List.not_mem_nil, or_false] at hm
    rcases hm with ⟨rfl, hz, rfl⟩ | ⟨rfl, hz, rfl⟩ | ⟨rfl, hz, rfl⟩
    · omega
    · obtain rfl : z = 5 := by omega
      exact ⟨_, _, insC37⟩
    · omega
  · have hm := look_mem hp
    simp only [leaseTab, List.mem_cons, Prod.mk.injEq, reduceCtorEq, and_false, false_or, Fn.prim.injEq, Option.some.injEq, List.not_mem_nil, or_false] at hm
    rcases hm with ⟨rfl, hz, rfl⟩ | ⟨rfl, hz, rfl⟩ | ⟨rfl, hz, rfl⟩
    · omega
    · omega
    · obtain rfl : z = 5 := by omega
      exact delC39
end Sg
namespace Go.Proofs.Ytclmbbbpijboaaa
open Sg Go.RowKit
theorem own : ownKnob Try.prog.godebug = none := by kernel_rfl
theorem laid : laidOutB Try.prog = true := by kernel_rfl
theorem leaseHolds_ctr (xs : List V) (h : ArgsV [(false, [.slice tLAct])] xs) : Ctr Try.prog (cxOf leaseFm) (ownOf (Sg.look leaseTab) 127) 127 xs (.bool true) := by
  match xs, h with
  | [x0], h =>
    obtain ⟨h0, -⟩ := h
    obtain ⟨a0, rfl, l0⟩ := arg_lacts h0
    exact all_ctr _ _ _ (K127 t127 a0)
theorem leaseHolds_lifted (os : Os) (started : os.Started) (H : Type) (enc : TypeId × Value → H) :
    ReturnsInHanded Rows.leaseHoldsRow.assume Try.checked os 8 .any (Rows.leaseHoldsSpec.pre6 enc Try.prog Try.f8 Rows.leaseHoldsRow.domain Rows.leaseHoldsRow.apart) (Rows.leaseHoldsSpec.post enc Try.prog Try.f8 Rows.leaseHoldsRow.apart Rows.leaseHoldsRow.fresh Rows.leaseHoldsRow.handsOn Rows.leaseHoldsRow.again) := by
  refine returnsInHanded_of_change (C := Try.checked) own started (by kernel_rfl) Try.func8
    (ChangeSpec.witness6 (enc := enc) (C := Try.checked) false ⟨#[], #[.slice none 0 0], []⟩ 8 (by kernel_rfl) (by kernel_rfl) (by kernel_rfl) (by kernel_rfl)) ?_
  intro W base args ds gs before hval hW _ _
  exact lift (conds := []) (cx := cxOf leaseFm) (own := ownOf (Sg.look leaseTab) 127) (fid := 127) (ss := [(false, [.slice tLAct])]) (tb := 4) (by kernel_rfl) (by kernel_rfl) (by kernel_rfl) laid rfl (by kernel_rfl) (by kernel_rfl)
    (fun ds h => by
      have h2 : Try.f8.params.toList.length = 1 := by kernel_rfl
      rw [h2] at h
      match ds, h with
      | [d0], _ => rfl) leaseHolds_ctr W base args ds gs before hval hW
theorem leaseHolds_holds : Rows.LeaseHoldsSaid :=
  OpenClaim.holds_of_wide 8 Try.f8 rfl rfl rfl rfl rfl rfl rfl ⟨rfl, rfl, rfl, rfl, rfl⟩ rfl rfl rfl rfl rfl (by kernel_rfl) Try.func8 (by kernel_rfl)
    (of_decide_eq_true (by kernel_rfl)) (by unfold Func.isWrapper; rw [if_neg (of_decide_eq_false (by kernel_rfl))]; exact ⟨rfl, rfl⟩)
    (fun os started H enc _ => leaseHolds_lifted os started H enc)
#print axioms leaseHolds_holds
end Go.Proofs.Ytclmbbbpijboaaa
