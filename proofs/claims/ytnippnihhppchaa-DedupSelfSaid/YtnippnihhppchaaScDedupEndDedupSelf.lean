import Derived.Test.YtnippnihhppchaaScDedupOk
import Derived.Test.YtnippnihhppchaaScDedupIns
import Derived.Test.YtnippnihhppchaaSkTyDedup
import Derived.Test.YtnippnihhppchaaSkLaw10
import Derived.Test.YtnippnihhppchaaRows
namespace Sg
open _root_.Go _root_.Go.Proofs
set_option linter.unusedSimpArgs false
set_option maxRecDepth 100000
theorem t78 : H78 (look dedupTab) := rfl
theorem t97 : H97 (look dedupTab) := rfl
theorem t32 : H32 (look dedupTab) := rfl
theorem t28 : H28 (look dedupTab) := ⟨rfl, t32⟩
theorem t98 : H98 (look dedupTab) := ⟨rfl, t28⟩
theorem t81 : H81 (look dedupTab) := ⟨rfl, t97, t98⟩
theorem t105 : H105 (look dedupTab) := rfl
theorem t106 : H106 (look dedupTab) := rfl
theorem t100 : H100 (look dedupTab) := ⟨rfl, t105, t106⟩
theorem t102 : H102 (look dedupTab) := rfl
theorem t88 : H88 (look dedupTab) := ⟨rfl, t81, t100, t102⟩
theorem t84 : H84 (look dedupTab) := ⟨rfl, t81, t100⟩
theorem t82 : H82 (look dedupTab) := ⟨rfl, t81, t97, t84⟩
theorem t79 : H79 (look dedupTab) := ⟨rfl, t88, t82⟩
theorem t91 : H91 (look dedupTab) := ⟨rfl, t81⟩
theorem t101 : H101 (look dedupTab) := rfl
theorem t86 : H86 (look dedupTab) := ⟨rfl, t101⟩
theorem t94 : H94 (look dedupTab) := ⟨rfl, t78, t79, t81, t91, t86⟩
theorem all_ctr (f : Nat) (args : List V) (r : V) (h : K' (look dedupTab) f args = some r) : Ctr Try.prog (cxOf dedupFm) (ownOf (look dedupTab) f) f args r := by
  obtain ⟨n, hn⟩ := K'_iff.1 h
  refine callN_sound (by kernel_rfl) (tab_code okAll) (fun f own p hp => ?_) (fun f z p hlt hp => ?_) (fun f z p hp => ?_) n f args r hn
  · have hm := look_mem hp
    simp only [dedupTab, List.mem_cons, Prod.mk.injEq, reduceCtorEq, and_false, false_or, Fn.prim.injEq, Option.some.injEq, List.not_mem_nil, or_false] at hm
    rcases hm with ⟨rfl, hz, rfl⟩ | ⟨rfl, hz, rfl⟩
    · subst hz
      exact clone_ctr (zero := [.int .i64 0, .int .i64 0, .int .i64 0, .int .i64 0, .int .i64 0, .int .i64 0, .bool false, .str [], .slice 2 [], .str [], .bool false]) (by kernel_rfl) okClone102
    · intro args r h
      simp [noQ] at h
  · have hm := look_mem hp
    simp only [dedupTab, List.mem_cons, Prod.mk.injEq, reduceCtorEq, and_false, false_or, Fn.prim.injEq, Option.some.injEq, List.not_mem_nil, or_false] at hm
    rcases hm with ⟨rfl, hz, rfl⟩ | ⟨rfl, hz, rfl⟩
    · omega
    · obtain rfl : z = 11 := by omega
      exact ⟨_, _, insC29⟩
  · have hm := look_mem hp
    simp only [dedupTab, List.mem_cons, Prod.mk.injEq, reduceCtorEq, and_false, false_or, Fn.prim.injEq, Option.some.injEq, List.not_mem_nil, or_false] at hm
    rcases hm with ⟨rfl, hz, rfl⟩ | ⟨rfl, hz, rfl⟩
    · omega
    · omega
end Sg
namespace Go.Proofs.Ytnippnihhppchaa
open Sg Go.RowKit
theorem own : ownKnob Try.prog.godebug = none := by kernel_rfl
theorem laid : laidOutB Try.prog = true := by kernel_rfl
theorem dedupSelf_ctr (xs : List V) (h : ArgsV [(false, [.slice tDone])] xs) : Ctr Try.prog (cxOf dedupFm) (ownOf (Sg.look dedupTab) 94) 94 xs (.bool true) := by
  match xs, h with
  | [x0], h =>
    obtain ⟨h0, -⟩ := h
    obtain ⟨a0, rfl, l0⟩ := arg_dones h0
    exact all_ctr _ _ _ (K94 t94 a0)
theorem dedupSelf_lifted (os : Os) (started : os.Started) (H : Type) (enc : TypeId × Value → H) :
    ReturnsInHanded Rows.dedupSelfRow.assume Try.checked os 7 .any (Rows.dedupSelfSpec.pre6 enc Try.prog Try.f7 Rows.dedupSelfRow.domain Rows.dedupSelfRow.apart) (Rows.dedupSelfSpec.post enc Try.prog Try.f7 Rows.dedupSelfRow.apart Rows.dedupSelfRow.fresh Rows.dedupSelfRow.handsOn Rows.dedupSelfRow.again) := by
  refine returnsInHanded_of_change (C := Try.checked) own started (by kernel_rfl) Try.func7
    (ChangeSpec.witness6 (enc := enc) (C := Try.checked) false ⟨#[], #[.slice none 0 0], []⟩ 8 (by kernel_rfl) (by kernel_rfl) (by kernel_rfl) (by kernel_rfl)) ?_
  intro W base args ds gs before hval hW _ _
  exact lift (conds := []) (cx := cxOf dedupFm) (own := ownOf (Sg.look dedupTab) 94) (fid := 94) (ss := [(false, [.slice tDone])]) (tb := 4) (by kernel_rfl) (by kernel_rfl) (by kernel_rfl) laid rfl (by kernel_rfl) (by kernel_rfl)
    (fun ds h => by
      have h2 : Try.f7.params.toList.length = 1 := by kernel_rfl
      rw [h2] at h
      match ds, h with
      | [d0], _ => rfl) dedupSelf_ctr W base args ds gs before hval hW
theorem dedupSelf_holds : Rows.DedupSelfSaid :=
  OpenClaim.holds_of_wide 7 Try.f7 rfl rfl rfl rfl rfl rfl rfl ⟨rfl, rfl, rfl, rfl, rfl⟩ rfl rfl rfl rfl rfl (by kernel_rfl) Try.func7 (by kernel_rfl)
    (of_decide_eq_true (by kernel_rfl)) (by unfold Func.isWrapper; rw [if_neg (of_decide_eq_false (by kernel_rfl))]; exact ⟨rfl, rfl⟩)
    (fun os started H enc _ => dedupSelf_lifted os started H enc)
#print axioms dedupSelf_holds
end Go.Proofs.Ytnippnihhppchaa
