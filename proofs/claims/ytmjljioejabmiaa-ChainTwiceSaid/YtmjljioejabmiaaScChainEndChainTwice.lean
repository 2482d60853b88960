import Derived.Test.YtmjljioejabmiaaScChainOk
import Derived.Test.YtmjljioejabmiaaSkTy
import Derived.Test.YtmjljioejabmiaaSkLaw07b
import Derived.Test.YtmjljioejabmiaaRows
namespace Sg
open _root_.Go _root_.Go.Proofs
set_option linter.unusedSimpArgs false
set_option maxRecDepth 100000
theorem t32 : H32 (look chainTab) := rfl
theorem t28 : H28 (look chainTab) := ⟨rfl, t32⟩
theorem t22 : H22 (look chainTab) := ⟨rfl, t28⟩
theorem t31 : H31 (look chainTab) := rfl
theorem t26 : H26 (look chainTab) := ⟨rfl, t31⟩
theorem t27 : H27 (look chainTab) := rfl
theorem t15 : H15 (look chainTab) := ⟨rfl, t26, t27⟩
theorem t7 : H7 (look chainTab) := ⟨rfl, t22, t15⟩
theorem t23 : H23 (look chainTab) := rfl
theorem t3 : H3 (look chainTab) := ⟨rfl, t7, t22, t15, t23⟩
theorem t29 : H29 (look chainTab) := rfl
theorem t30 : H30 (look chainTab) := ⟨rfl, t15⟩
theorem t25 : H25 (look chainTab) := ⟨rfl, t29, t30⟩
theorem t10 : H10 (look chainTab) := ⟨rfl, t7, t25⟩
theorem t12 : H12 (look chainTab) := ⟨rfl, t10⟩
theorem t2 : H2 (look chainTab) := ⟨rfl, t3, t12, t7⟩
theorem t17 : H17 (look chainTab) := ⟨rfl, t7, t25, t23⟩
theorem t21 : H21 (look chainTab) := ⟨rfl, t15⟩
theorem t8 : H8 (look chainTab) := rfl
theorem t20 : H20 (look chainTab) := ⟨rfl, t2, t7, t17, t21, t8⟩
theorem all_ctr (f : Nat) (args : List V) (r : V) (h : K' (look chainTab) f args = some r) : Ctr Try.prog (cxOf chainFm) (ownOf (look chainTab) f) f args r := by
  obtain ⟨n, hn⟩ := K'_iff.1 h
  refine callN_sound (by kernel_rfl) (tab_code okAll) (fun f own p hp => ?_) n f args r hn
  have hm := look_mem hp
  simp only [chainTab, List.mem_cons, Prod.mk.injEq, reduceCtorEq, and_false, false_or, Fn.prim.injEq, List.not_mem_nil, or_false] at hm
  obtain ⟨rfl, rfl, rfl⟩ := hm
  exact clone_ctr (zero := [.int .i64 0, .int .i64 0, .int .i64 0, .bool false, .str []]) (by kernel_rfl) okClone23
end Sg
namespace Go.Proofs.Ytmjljioejabmiaa
open Sg Go.RowKit
theorem own : ownKnob Try.prog.godebug = none := by kernel_rfl
theorem laid : laidOutB Try.prog = true := by kernel_rfl
theorem chainTwice_ctr (xs : List V) (h : ArgsV [(false, [.slice tVer]), (true, tStamp), (true, tStamp)] xs) : Ctr Try.prog (cxOf chainFm) (ownOf (Sg.look chainTab) 20) 20 xs (.bool true) := by
  match xs, h with
  | [x0, x1, x2], h =>
    obtain ⟨h0, h1, h2, -⟩ := h
    obtain ⟨a0, rfl, l0⟩ := arg_chain h0
    obtain ⟨a1, rfl⟩ := arg_stamp h1
    obtain ⟨a2, rfl⟩ := arg_stamp h2
    exact all_ctr _ _ _ (K20 t20 a0 a1 a2)
theorem chainTwice_lifted (os : Os) (started : os.Started) (H : Type) (enc : TypeId × Value → H) :
    ReturnsInHanded Rows.chainTwiceRow.assume Try.checked os 8 .any (Rows.chainTwiceSpec.pre6 enc Try.prog Try.f8 Rows.chainTwiceRow.domain Rows.chainTwiceRow.apart) (Rows.chainTwiceSpec.post enc Try.prog Try.f8 Rows.chainTwiceRow.apart Rows.chainTwiceRow.fresh Rows.chainTwiceRow.handsOn Rows.chainTwiceRow.again) := by
  refine returnsInHanded_of_change (C := Try.checked) own started (by kernel_rfl) Try.func8
    (ChangeSpec.witness6 (enc := enc) (C := Try.checked) false ⟨#[], #[.slice none 0 0, .agg #[.int .i64 0, .int .i64 0, .int .i64 0], .agg #[.int .i64 0, .int .i64 0, .int .i64 0]], []⟩ 8 (by kernel_rfl) (by kernel_rfl) (by kernel_rfl) (by kernel_rfl)) ?_
  intro W base args ds gs before hval hW _ _
  exact lift (conds := []) (cx := cxOf chainFm) (own := ownOf (Sg.look chainTab) 20) (fid := 20) (ss := [(false, [.slice tVer]), (true, tStamp), (true, tStamp)]) (tb := 4) (by kernel_rfl) (by kernel_rfl) (by kernel_rfl) laid rfl (by kernel_rfl) (by kernel_rfl)
    (fun ds h => by
      have h2 : Try.f8.params.toList.length = 3 := by kernel_rfl
      rw [h2] at h
      match ds, h with
      | [d0, d1, d2], _ => rfl) chainTwice_ctr W base args ds gs before hval hW
theorem chainTwice_holds : Rows.ChainTwiceSaid :=
  OpenClaim.holds_of_wide 8 Try.f8 rfl rfl rfl rfl rfl rfl rfl ⟨rfl, rfl, rfl, rfl, rfl⟩ rfl rfl rfl rfl rfl (by kernel_rfl) Try.func8 (by kernel_rfl)
    (of_decide_eq_true (by kernel_rfl)) (by unfold Func.isWrapper; rw [if_neg (of_decide_eq_false (by kernel_rfl))]; exact ⟨rfl, rfl⟩)
    (fun os started H enc _ => chainTwice_lifted os started H enc)
#print axioms chainTwice_holds
end Go.Proofs.Ytmjljioejabmiaa
