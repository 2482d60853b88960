/- IndexPrunes, at every input: proved over a checked abstract run of the translated code; no condition. A part. -/
import Derived.Test.YtcehlncpmdfhnaaDoorCards
import Derived.Test.YtcehlncpmdfhnaaDoorTie
import Derived.ProofKit
import Derived.OpenShut
import Derived.Lib.LaidIn
import Derived.Lib.LaidTab
import Derived.Deep.DeepHandedRow
import Derived.Deep.DeepWitnessRowRef
import Derived.Test.YtcehlncpmdfhnaaDoorRows
import Derived.Test.YtcehlncpmdfhnaaDoorIndexPrunesA3
namespace Sg
open _root_.Go _root_.Go.Proofs
set_option linter.unusedSimpArgs false
set_option maxRecDepth 100000
theorem t198 : H198 (look indexTab) := rfl
theorem t32 : H32 (look indexTab) := rfl
theorem t28 : H28 (look indexTab) := ⟨rfl, t32⟩
theorem t22 : H22 (look indexTab) := ⟨rfl, t28⟩
theorem t31 : H31 (look indexTab) := rfl
theorem t26 : H26 (look indexTab) := ⟨rfl, t31⟩
theorem t27 : H27 (look indexTab) := rfl
theorem t15 : H15 (look indexTab) := ⟨rfl, t26, t27⟩
theorem t7 : H7 (look indexTab) := ⟨rfl, t22, t15⟩
theorem t23 : H23 (look indexTab) := rfl
theorem t3 : H3 (look indexTab) := ⟨rfl, t7, t22, t15, t23⟩
theorem t170 : H170 (look indexTab) := rfl
theorem t190 : H190 (look indexTab) := rfl
theorem t192 : H192 (look indexTab) := ⟨rfl, t190⟩
theorem t203 : H203 (look indexTab) := ⟨rfl, t7, t170, t192⟩
theorem t225 : H225 (look indexTab) := rfl
theorem t226 : H226 (look indexTab) := ⟨rfl, t192⟩
theorem t220 : H220 (look indexTab) := ⟨rfl, t225, t226⟩
theorem t227 : H227 (look indexTab) := rfl
theorem t221 : H221 (look indexTab) := ⟨rfl, t23, t227⟩
theorem t200 : H200 (look indexTab) := ⟨rfl, t3, t170, t203, t220, t221⟩
theorem t29 : H29 (look indexTab) := rfl
theorem t30 : H30 (look indexTab) := ⟨rfl, t15⟩
theorem t25 : H25 (look indexTab) := ⟨rfl, t29, t30⟩
theorem t10 : H10 (look indexTab) := ⟨rfl, t7, t25⟩
theorem t12 : H12 (look indexTab) := ⟨rfl, t10⟩
theorem t206 : H206 (look indexTab) := ⟨rfl, t12, t192, t203, t220⟩
theorem t199 : H199 (look indexTab) := ⟨rfl, t200, t206⟩
theorem t8 : H8 (look indexTab) := rfl
theorem t202 : H202 (look indexTab) := ⟨rfl, t8⟩
theorem t24 : H24 (look indexTab) := rfl
theorem t5 : H5 (look indexTab) := ⟨rfl, t24⟩
theorem t6 : H6 (look indexTab) := rfl
theorem t4 : H4 (look indexTab) := ⟨rfl, t5, t6⟩
theorem t188 : H188 (look indexTab) := rfl
theorem t189 : H189 (look indexTab) := rfl
theorem t168 : H168 (look indexTab) := ⟨rfl, t188, t189⟩
theorem t195 : H195 (look indexTab) := ⟨rfl, t188⟩
theorem t187 : H187 (look indexTab) := ⟨rfl, t195⟩
theorem t204 : H204 (look indexTab) := ⟨rfl, t4, t168, t187⟩
theorem t17 : H17 (look indexTab) := ⟨rfl, t7, t25, t23⟩
theorem t217 : H217 (look indexTab) := ⟨rfl, t17, t203⟩
theorem t11 : H11 (look indexTab) := ⟨rfl, t4, t6⟩
theorem t18 : H18 (look indexTab) := ⟨rfl, t11, t6⟩
theorem t218 : H218 (look indexTab) := ⟨rfl, t18⟩
theorem t216 : H216 (look indexTab) := ⟨rfl, t198, t199, t202, t203, t204, t217, t218⟩
theorem all_ctr (f : Nat) (args : List V) (r : V) (h : K' (look indexTab) f args = some r) : Ctr Tryd.prog (cxU indexFm) (ownOf (look indexTab) f) f args r := by
  obtain ⟨n, hn⟩ := K'_iff.1 h
  refine callN_sound (by kernel_rfl) (tab_code okAll) (fun f own p hp => ?_) (fun f z p hlt hp => ?_) (fun f z p hp => ?_) n f args r hn
  · have hm := look_mem hp
    simp only [indexTab, List.mem_cons, Prod.mk.injEq, reduceCtorEq, and_false, false_and, false_or, Fn.prim.injEq, Option.some.injEq, List.not_mem_nil, or_false] at hm
    rcases hm with ⟨rfl, hz, rfl⟩ | ⟨rfl, hz, rfl⟩ | ⟨rfl, hz, rfl⟩ | ⟨rfl, hz, rfl⟩ | ⟨rfl, hz, rfl⟩
    · subst hz
      exact keyCt _ 170 rfl
    · intro args r h
      simp [noQ] at h
    · subst hz
      exact clone_ctr (zero := [.int .i64 0, .int .i64 0, .int .i64 0, .bool false, .str []]) (by kernel_rfl) okClone23
    · subst hz
      exact decCt _ 190 rfl
    · subst hz
      exact clone_ctr (zero := [.str [], .slice 5 []]) (by kernel_rfl) okClone227
  · have hm := look_mem hp
    simp only [indexTab, List.mem_cons, Prod.mk.injEq, reduceCtorEq, and_false, false_and, false_or, Fn.prim.injEq, Option.some.injEq, List.not_mem_nil, or_false] at hm
    rcases hm with ⟨rfl, hz, rfl⟩ | ⟨rfl, hz, rfl⟩ | ⟨rfl, hz, rfl⟩
    · obtain rfl : z = 2 := by omega
      exact ⟨_, _, insC31⟩
    · omega
    · omega
  · have hm := look_mem hp
    simp only [indexTab, List.mem_cons, Prod.mk.injEq, reduceCtorEq, and_false, false_and, false_or, Fn.prim.injEq, Option.some.injEq, List.not_mem_nil, or_false] at hm
    rcases hm with ⟨rfl, hz, rfl⟩ | ⟨rfl, hz, rfl⟩ | ⟨rfl, hz, rfl⟩
    · omega
    · omega
    · omega
end Sg
namespace Go.Proofs.YtcehlncpmdfhnaaDoor
open Sg Go.RowKit
set_option maxRecDepth 100000
theorem own : ownKnob Tryd.prog.godebug = none := by kernel_rfl
theorem laid : laidOutB Tryd.prog = true := by kernel_rfl
theorem indexPrunes_ctr (xs : List V) (h : ArgsV [(false, [.slice tEnt]), (true, tStamp)] xs) : Ctr Tryd.prog (cxU indexFm) (ownOf (Sg.look indexTab) 216) 216 xs (.bool true) := by
  match xs, h with
  | [x0, x1], h =>
    obtain ⟨h0, h1, -⟩ := h
    obtain ⟨a0, rfl, l0⟩ := arg_Ents h0
    obtain ⟨a1, rfl⟩ := arg_stamp h1
    exact all_ctr _ _ _ (K216 t216 a0 a1)
noncomputable def laidWorld (os : Os) : World :=
  let w0 := World.holding Tryd.prog os ⟨#[], #[], []⟩
  let put (h : Array Obj) (g : Nat) (cs : Array Value) : Array Obj := h.modify g fun
    | .cells _ t frozen => .cells cs t frozen
    | o => o
  let h1 := put w0.heap 0 (Lib.firstTab.map fun z => Value.int .u8 z).toArray
  let h2 := put h1 1 ((List.range 16).flatMap fun i => [Value.int .u8 (Lib.accLo i), Value.int .u8 (Lib.accHi i)]).toArray
  { w0 with heap := h2 }
theorem tabs_of {W : World} (hL : laidMetH Tryd.prog Rows.indexPrunesRow.laid W) : Lib.Utf8Tabs 0 1 W :=
  utf8Tabs_of_reads (ρ := renU) { lays197 with } ⟨by kernel_rfl, by kernel_rfl, by kernel_rfl, by kernel_rfl, by kernel_rfl, by kernel_rfl, by kernel_rfl⟩
    ((show Go.Pinned.utf8First = Lib.firstData by kernel_rfl) ▸ Lib.laidMet.reads hL (.tail _ (.head _))) ((show Rows.laid_unicode_utf8_acceptRanges = Lib.acceptData by kernel_rfl) ▸ Lib.laidMet.reads hL (.head _))
theorem size_of {W : World} (h : Lib.Utf8Tabs 0 1 W) : 2 ≤ W.heap.size := by
  have lt : ∀ g o v, W.cell? ⟨g, o, none⟩ = some v → g < W.heap.size := fun g o v e => by
    rcases Nat.lt_or_ge g W.heap.size with h | h
    · exact h
    · simp [World.cell?, Array.getElem?_eq_none h] at e
  have h1 := lt _ _ _ (h.1 0 (by decide))
  have h2 := lt _ _ _ (h.2 0 (by decide)).1
  omega
theorem laid_met (os : Os) (args : Array Value) : laidMet Tryd.prog Rows.indexPrunesRow.laid ((laidWorld os).forCall (fun _ _ => 0) ⟨#[], args, []⟩).memory :=
  (LaidIn.of_run (l := Rows.indexPrunesRow.laid) [1, 0] 8 (by kernel_rfl) (by kernel_rfl) (by kernel_rfl) (by kernel_rfl)).met
set_option maxRecDepth 100000 in
theorem indexPrunes_reads (os : Os) {H : Type} (enc : TypeId × Value → H) :
    (OpenSpec.ofChange Rows.indexPrunesSpec).preRow enc Tryd.prog Tryd.f8 Rows.indexPrunesRow.domain false Rows.indexPrunesRow.laid ((laidWorld os).forCall (fun _ _ => 0) ⟨#[], #[Value.slice none 0 0, Value.agg #[.int .i64 0, .int .i64 0, .int .i64 0]], []⟩).memory #[Value.slice none 0 0, Value.agg #[.int .i64 0, .int .i64 0, .int .i64 0]] := by
  have hw : (DataW.whole enc Tryd.prog ((laidWorld os).forCall (fun _ _ => 0) ⟨#[], #[Value.slice none 0 0, Value.agg #[.int .i64 0, .int .i64 0, .int .i64 0]], []⟩).memory Tryd.f8.params.toList Rows.indexPrunesSpec.vars false #[Value.slice none 0 0, Value.agg #[.int .i64 0, .int .i64 0, .int .i64 0]].toList 8).isSome = true := by kernel_rfl
  obtain ⟨⟨x1, x2, x3⟩, hx⟩ := Option.isSome_iff_exists.1 hw
  have hl : x1.length = 2 := by
    have := congrArg (Option.map fun x => x.1.length) hx
    have e : (DataW.whole enc Tryd.prog ((laidWorld os).forCall (fun _ _ => 0) ⟨#[], #[Value.slice none 0 0, Value.agg #[.int .i64 0, .int .i64 0, .int .i64 0]], []⟩).memory Tryd.f8.params.toList Rows.indexPrunesSpec.vars false #[Value.slice none 0 0, Value.agg #[.int .i64 0, .int .i64 0, .int .i64 0]].toList 8).map (fun x => x.1.length) = some 2 := by kernel_rfl
    rw [hx] at e
    simpa using e
  exact OpenSpec.preRow_of_cond 8 hx (by kernel_rfl) (fun k hk => by cases hk) (by kernel_rfl) (laid_met os _)
theorem indexPrunes_lifted (os : Os) (started : os.Started) (H : Type) (enc : TypeId × Value → H) (F : Stop.Interp) :
    ReturnsInHanded {} Tryd.checked os 8 .any ((OpenSpec.ofChange Rows.indexPrunesSpec).preRow enc Tryd.prog Tryd.f8 Rows.indexPrunesRow.domain false Rows.indexPrunesRow.laid) (((OpenSpec.ofChange Rows.indexPrunesSpec).at F).post enc Tryd.prog Tryd.f8 false true false false) := by
  refine returnsInHanded_of_row (C := Tryd.checked) (s := OpenSpec.ofChange Rows.indexPrunesSpec) own started (by kernel_rfl) Tryd.func8
    (witness_row_at (enc := enc) (C := Tryd.checked) false (laidWorld os) #[Value.slice none 0 0, Value.agg #[.int .i64 0, .int .i64 0, .int .i64 0]] rfl (by kernel_rfl) (by kernel_rfl) (by kernel_rfl) (indexPrunes_reads os enc)) ?_
  intro W base args ds gs before hval hW _ _ _ hL _ _
  have hT := tabs_of hL
  exact lift (s := Rows.indexPrunesSpec) (conds := []) (cx := cxU indexFm) (own := ownOf (Sg.look indexTab) 216) (fid := 216) (ss := [(false, [.slice tEnt]), (true, tStamp)]) (tb := 4) (by kernel_rfl) (by kernel_rfl) (by kernel_rfl) laid rfl (by kernel_rfl) (by kernel_rfl)
    (fun ds h => by
      have h2 : Tryd.f8.params.toList.length = 2 := by kernel_rfl
      rw [h2] at h
      match ds, h with
      | [d0, d1], _ => rfl) indexPrunes_ctr W (size_of hT) hT base args ds gs before hval hW
theorem indexPrunes_said : Rows.IndexPrunesSaid :=
  OpenClaim.holds_of_cond 8 Tryd.f8 rfl rfl rfl rfl rfl rfl rfl ⟨rfl, rfl, rfl, rfl, rfl⟩ rfl rfl rfl rfl rfl (by kernel_rfl) Tryd.func8 (by kernel_rfl)
    (of_decide_eq_true (by kernel_rfl)) (by unfold Func.isWrapper; first | (rw [if_pos (by decide +kernel)]; kernel_rfl) | (rw [if_neg (by decide +kernel)]; exact ⟨rfl, rfl⟩))
    (fun os started H enc _ F => by rw [OpenClaim.pre_eq_preRow]; exact indexPrunes_lifted os started H enc F)
theorem indexPrunes_plain (f : FuncId) (fn : Func) (hf : Tryd.pinned.checked.prog.funcNamed "stratigraph/stratigraphlaw08.IndexPrunes" = some f) (hfn : Tryd.pinned.checked.prog.funcs[f]? = some fn) :
    false = Tryd.pinned.checked.prog.looks [] ∧ ∀ (j : Nat) t, fn.params[j]? = some t → Tryd.pinned.checked.prog.wantsStandIn t = false := by
  obtain rfl : f = 8 := Option.some.inj ((show Tryd.prog.funcNamed "stratigraph/stratigraphlaw08.IndexPrunes" = some 8 by kernel_rfl).symm.trans hf) |>.symm
  obtain rfl : fn = Tryd.f8 := (Option.some.inj (Tryd.func8.symm.trans hfn)).symm
  refine ⟨by kernel_rfl, fun j t ht => ?_⟩
  rw [Tryd.params8] at ht
  have hm := Array.mem_of_getElem? ht
  simp only [List.mem_toArray, List.mem_cons, List.not_mem_nil, or_false] at hm
  rcases hm with rfl | rfl
  · exact (show Tryd.prog.wantsStandIn 22 = false by kernel_rfl)
  · exact (show Tryd.prog.wantsStandIn 24 = false by kernel_rfl)
theorem indexPrunes_holds : Rows.IndexPrunesCardSaid :=
  Claim7.holds_tied_plain_at .later [] _ _ _ _ indexPrunes_said (fun _ h => by cases h) (by kernel_rfl) (fun _ h => by cases h) indexPrunes_row_tie rfl ⟨rfl, rfl⟩ (by kernel_rfl) rfl indexPrunes_plain (by kernel_rfl)
#print axioms indexPrunes_holds
end Go.Proofs.YtcehlncpmdfhnaaDoor
