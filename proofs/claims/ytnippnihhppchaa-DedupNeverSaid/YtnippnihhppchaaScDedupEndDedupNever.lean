import Derived.Test.YtnippnihhppchaaScDedupOk
import Derived.Test.YtnippnihhppchaaScDedupIns
import Derived.Test.YtnippnihhppchaaSkTyDedup
import Derived.Test.YtnippnihhppchaaSkLaw10
import Derived.Test.YtnippnihhppchaaRows
namespace Sg
open _root_.Go _root_.Go.Proofs
set_option linter.unusedSimpArgs false
set_option maxRecDepth 100000
theorem t78 : H78 (look dedupTab) := rfl
theorem t97 : H97 (look dedupTab) := rfl
theorem t32 : H32 (look dedupTab) := rfl
theorem t28 : H28 (look dedupTab) := ⟨rfl, t32⟩
theorem t98 : H98 (look dedupTab) := ⟨rfl, t28⟩
theorem t81 : H81 (look dedupTab) := ⟨rfl, t97, t98⟩
theorem t105 : H105 (look dedupTab) := rfl
theorem t106 : H106 (look dedupTab) := rfl
theorem t100 : H100 (look dedupTab) := ⟨rfl, t105, t106⟩
theorem t102 : H102 (look dedupTab) := rfl
theorem t88 : H88 (look dedupTab) := ⟨rfl, t81, t100, t102⟩
theorem t84 : H84 (look dedupTab) := ⟨rfl, t81, t100⟩
theorem t82 : H82 (look dedupTab) := ⟨rfl, t81, t97, t84⟩
theorem t79 : H79 (look dedupTab) := ⟨rfl, t88, t82⟩
theorem t91 : H91 (look dedupTab) := ⟨rfl, t81⟩
theorem t93 : H93 (look dedupTab) := ⟨rfl, t78, t79, t81, t82, t88, t91⟩
theorem all_ctr (f : Nat) (args : List V) (r : V) (h : K' (look dedupTab) f args = some r) : Ctr Try.prog (cxOf dedupFm) (ownOf (look dedupTab) f) f args r := by
  obtain ⟨n, hn⟩ := K'_iff.1 h
  refine callN_sound (by kernel_rfl) (tab_code okAll) (fun f own p hp => ?_) (fun f z p hlt hp => ?_) (fun f z p hp => ?_) n f args r hn
  · have hm := look_mem hp
    simp only [dedupTab, List.mem_cons, Prod.mk.injEq, reduceCtorEq, and_false, false_or, Fn.prim.injEq, Option.some.injEq, List.not_mem_nil, or_false] at hm
    rcases hm with ⟨rfl, hz, rfl⟩ | ⟨rfl, hz, rfl⟩
    · subst hz
      exact clone_ctr (zero := [.int .i64 0, .int .i64 0, .int .i64 0, .int .i64 0, .int .i64 0, .int .i64 0, .bool false, .str [], .slice 2 [], .str [], .bool false]) (by kernel_rfl) okClone102
    · intro args r h
      simp [noQ] at h
  · have hm := look_mem hp
    simp only [dedupTab, List.mem_cons, Prod.mk.injEq, reduceCtorEq, and_false, false_or, Fn.prim.injEq, Option.some.injEq, List.not_mem_nil, or_false] at hm
    rcases hm with ⟨rfl, hz, rfl⟩ | ⟨rfl, hz, rfl⟩
    · omega
    · obtain rfl : z = 11 := by omega
      exact ⟨_, _, insC29⟩
  · have hm := look_mem hp
    simp only [dedupTab, List.mem_cons, Prod.mk.injEq, reduceCtorEq, and_false, false_or, Fn.prim.injEq, Option.some.injEq, List.not_mem_nil, or_false] at hm
    rcases hm with ⟨rfl, hz, rfl⟩ | ⟨rfl, hz, rfl⟩
    · omega
    · omega
end Sg
namespace Go.Proofs.Ytnippnihhppchaa
open Sg Go.RowKit
theorem own : ownKnob Try.prog.godebug = none := by kernel_rfl
theorem laid : laidOutB Try.prog = true := by kernel_rfl
theorem dedupNever_ctr (xs : List V) (h : ArgsV [(false, [.slice tDone]), (true, tDone), (false, [.slice tDone]), (false, [.slice tDone])] xs) : Ctr Try.prog (cxOf dedupFm) (ownOf (Sg.look dedupTab) 93) 93 xs (.bool true) := by
  match xs, h with
  | [x0, x1, x2, x3], h =>
    obtain ⟨h0, h1, h2, h3, -⟩ := h
    obtain ⟨a0, rfl, l0⟩ := arg_dones h0
    obtain ⟨a1, rfl⟩ := arg_done h1
    obtain ⟨a2, rfl, l2⟩ := arg_dones h2
    obtain ⟨a3, rfl, l3⟩ := arg_dones h3
    exact all_ctr _ _ _ (K93 t93 a0 a1 a2 a3)
theorem dedupNever_lifted (os : Os) (started : os.Started) (H : Type) (enc : TypeId × Value → H) :
    ReturnsInHanded Rows.dedupNeverRow.assume Try.checked os 6 .any (Rows.dedupNeverSpec.pre6 enc Try.prog Try.f6 Rows.dedupNeverRow.domain Rows.dedupNeverRow.apart) (Rows.dedupNeverSpec.post enc Try.prog Try.f6 Rows.dedupNeverRow.apart Rows.dedupNeverRow.fresh Rows.dedupNeverRow.handsOn Rows.dedupNeverRow.again) := by
  refine returnsInHanded_of_change (C := Try.checked) own started (by kernel_rfl) Try.func6
    (ChangeSpec.witness6 (enc := enc) (C := Try.checked) false ⟨#[], #[.slice none 0 0, .agg #[.int .i64 0, .int .i64 0, .int .i64 0, .int .i64 0, .int .i64 0, .int .i64 0, .bool false, .string ⟨#[]⟩, .slice none 0 0, .string ⟨#[]⟩, .bool false], .slice none 0 0, .slice none 0 0], []⟩ 8 (by kernel_rfl) (by kernel_rfl) (by kernel_rfl) (by kernel_rfl)) ?_
  intro W base args ds gs before hval hW _ _
  exact lift (conds := []) (cx := cxOf dedupFm) (own := ownOf (Sg.look dedupTab) 93) (fid := 93) (ss := [(false, [.slice tDone]), (true, tDone), (false, [.slice tDone]), (false, [.slice tDone])]) (tb := 4) (by kernel_rfl) (by kernel_rfl) (by kernel_rfl) laid rfl (by kernel_rfl) (by kernel_rfl)
    (fun ds h => by
      have h2 : Try.f6.params.toList.length = 4 := by kernel_rfl
      rw [h2] at h
      match ds, h with
      | [d0, d1, d2, d3], _ => rfl) dedupNever_ctr W base args ds gs before hval hW
theorem dedupNever_holds : Rows.DedupNeverSaid :=
  OpenClaim.holds_of_wide 6 Try.f6 rfl rfl rfl rfl rfl rfl rfl ⟨rfl, rfl, rfl, rfl, rfl⟩ rfl rfl rfl rfl rfl (by kernel_rfl) Try.func6 (by kernel_rfl)
    (of_decide_eq_true (by kernel_rfl)) (by unfold Func.isWrapper; rw [if_neg (of_decide_eq_false (by kernel_rfl))]; exact ⟨rfl, rfl⟩)
    (fun os started H enc _ => dedupNever_lifted os started H enc)
#print axioms dedupNever_holds
end Go.Proofs.Ytnippnihhppchaa
