/- EngineRequests, at every input: proved over a checked abstract run of the translated code; no condition. A part. -/
import Derived.Test.YtaodclcmfocccaaDoorCards
import Derived.Test.YtaodclcmfocccaaDoorTie
import Derived.ProofKit
import Derived.OpenShut
import Derived.Lib.LaidIn
import Derived.Lib.LaidTab
import Derived.Deep.DeepHandedRow
import Derived.Deep.DeepWitnessRowRef
import Derived.Test.YtaodclcmfocccaaDoorRows
import Derived.Test.YtaodclcmfocccaaDoorEngineRequestsA3
import Derived.Test.YtaodclcmfocccaaDoorEngineRequestsJ
namespace Sg
open _root_.Go _root_.Go.Proofs
set_option linter.unusedSimpArgs false
set_option maxRecDepth 100000
theorem t9240 : H9240 (look engdTab) := rfl
theorem t9244 : H9244 (look engdTab) := rfl
theorem t9249 : H9249 (look engdTab) := rfl
theorem t9028 : H9028 (look engdTab) := rfl
theorem t9015 : H9015 (look engdTab) := rfl
theorem t9283 : H9283 (look engdTab) := rfl
theorem t9284 : H9284 (look engdTab) := rfl
theorem t9285 : H9285 (look engdTab) := rfl
theorem t9287 : H9287 (look engdTab) := rfl
theorem t9171 : H9171 (look engdTab) := rfl
theorem t9288 : H9288 (look engdTab) := rfl
theorem t9289 : H9289 (look engdTab) := rfl
theorem t9290 : H9290 (look engdTab) := rfl
theorem t9186 : H9186 (look engdTab) := rfl
theorem t9203 : H9203 (look engdTab) := rfl
theorem t9081 : H9081 (look engdTab) := rfl
theorem t9298 : H9298 (look engdTab) := rfl
theorem t9299 : H9299 (look engdTab) := rfl
theorem t9301 : H9301 (look engdTab) := rfl
theorem t9304 : H9304 (look engdTab) := rfl
theorem t9032 : H9032 (look engdTab) := rfl
theorem t9026 : H9026 (look engdTab) := rfl
theorem t9027 : H9027 (look engdTab) := rfl
theorem t9312 : H9312 (look engdTab) := rfl
theorem t9313 : H9313 (look engdTab) := rfl
theorem t9067 : H9067 (look engdTab) := rfl
theorem t9314 : H9314 (look engdTab) := rfl
theorem t9192 : H9192 (look engdTab) := rfl
theorem t9082 : H9082 (look engdTab) := rfl
theorem t9084 : H9084 (look engdTab) := rfl
theorem t9200 : H9200 (look engdTab) := rfl
theorem t9088 : H9088 (look engdTab) := rfl
theorem t9007 : H9007 (look engdTab) := rfl
theorem t9097 : H9097 (look engdTab) := rfl
theorem t9098 : H9098 (look engdTab) := rfl
theorem t9315 : H9315 (look engdTab) := rfl
theorem t9316 : H9316 (look engdTab) := rfl
theorem t9031 : H9031 (look engdTab) := rfl
theorem t9220 : H9220 (look engdTab) := rfl
theorem t9221 : H9221 (look engdTab) := rfl
theorem t9010 : H9010 (look engdTab) := rfl
theorem t9076 : H9076 (look engdTab) := rfl
theorem t9319 : H9319 (look engdTab) := rfl
theorem t9320 : H9320 (look engdTab) := rfl
theorem t9100 : H9100 (look engdTab) := rfl
theorem t9003 : H9003 (look engdTab) := rfl
theorem t9022 : H9022 (look engdTab) := rfl
theorem t9025 : H9025 (look engdTab) := rfl
theorem t9225 : H9225 (look engdTab) := rfl
theorem t9226 : H9226 (look engdTab) := rfl
theorem t9106 : H9106 (look engdTab) := rfl
theorem t9029 : H9029 (look engdTab) := rfl
theorem t9030 : H9030 (look engdTab) := rfl
theorem t9307 : H9307 (look engdTab) := rfl
theorem t9170 : H9170 (look engdTab) := rfl
theorem t9190 : H9190 (look engdTab) := rfl
theorem t9102 : H9102 (look engdTab) := rfl
theorem t9023 : H9023 (look engdTab) := rfl
theorem t9227 : H9227 (look engdTab) := rfl
theorem t239 : H239 (look engdTab) := ⟨rfl, t9240, t9244, t9249, t9028, t9015, t9283, t9284, t9285, t9287, t9171, t9288, t9289, t9290, t9186, t9203, t9081, t9298, t9299, t9301, t9304, t9032, t9026, t9027, t9312, t9313, t9067, t9314, t9192, t9082, t9084, t9200, t9088, t9007, t9097, t9098, t9315, t9316, t9031, t9220, t9221, t9010, t9076, t9319, t9320, t9100, t9003, t9022, t9025, t9225, t9226, t9106, t9029, t9030, t9307, t9170, t9190, t9102, t9023, t9227⟩
theorem t32 : H32 (look engdTab) := rfl
theorem t28 : H28 (look engdTab) := ⟨rfl, t32⟩
theorem t170 : H170 (look engdTab) := rfl
theorem t76 : H76 (look engdTab) := rfl
theorem t67 : H67 (look engdTab) := ⟨rfl, t76⟩
theorem t313 : H313 (look engdTab) := rfl
theorem t284 : H284 (look engdTab) := ⟨rfl, t67, t313⟩
theorem t285 : H285 (look engdTab) := ⟨rfl, t28, t170, t284⟩
theorem t24 : H24 (look engdTab) := rfl
theorem t188 : H188 (look engdTab) := rfl
theorem t189 : H189 (look engdTab) := rfl
theorem t168 : H168 (look engdTab) := ⟨rfl, t188, t189⟩
theorem t292 : H292 (look engdTab) := rfl
theorem t294 : H294 (look engdTab) := ⟨rfl, t24, t168, t292⟩
theorem t321 : H321 (look engdTab) := ⟨rfl, t239, t285, t294⟩
theorem all_ctr (f : Nat) (args : List V) (r : V) (h : K' (look engdTab) f args = some r) : Ctr Tryd.prog (cxU engdFm) (ownOf (look engdTab) f) f args r := by
  obtain ⟨n, hn⟩ := K'_iff.1 h
  refine callN_sound (by kernel_rfl) (tab_code okAll) (fun f own p hp => ?_) (fun f z p hlt hp => ?_) (fun f z p hp => ?_) n f args r hn
  · have hm := look_mem hp
    simp only [engdTab, List.mem_cons, Prod.mk.injEq, reduceCtorEq, and_false, false_and, false_or, Fn.prim.injEq, Option.some.injEq, List.not_mem_nil, or_false] at hm
    rcases hm with ⟨rfl, hz, rfl⟩ | ⟨rfl, hz, rfl⟩ | ⟨rfl, hz, rfl⟩ | ⟨rfl, hz, rfl⟩ | ⟨rfl, hz, rfl⟩ | ⟨rfl, hz, rfl⟩ | ⟨rfl, hz, rfl⟩ | ⟨rfl, hz, rfl⟩ | ⟨rfl, hz, rfl⟩
    · subst hz
      exact keyCt _ 170 rfl
    · subst hz
      exact decCt _ 190 rfl
    · intro args r h
      simp [noQ] at h
    · subst hz
      exact clone_ctr (zero := [.int .i64 0, .int .i64 0, .int .i64 0, .int .i64 0, .int .i64 0, .int .i64 0, .bool false, .str [], .slice 2 [], .str [], .bool false]) (by kernel_rfl) okClone102
    · intro args r h
      simp [noQ] at h
    · subst hz
      exact clone_ctr (zero := [.int .i64 0, .int .i64 0, .str [], .str [], .int .i64 0, .slice 2 [], .int .i64 0, .int .i64 0, .int .i64 0, .int .i64 0, .int .i64 0, .int .i64 0, .slice 11 [], .int .i64 0, .int .i64 0, .int .i64 0, .int .i64 0]) (by kernel_rfl) okClone307
    · intro args r h
      simp [noQ] at h
    · subst hz
      exact clone_ctr (zero := [.int .i64 0, .int .i64 0, .int .i64 0, .bool false, .str []]) (by kernel_rfl) okClone23
    · subst hz
      exact clone_ctr (zero := [.str [], .slice 5 []]) (by kernel_rfl) okClone227
  · have hm := look_mem hp
    simp only [engdTab, List.mem_cons, Prod.mk.injEq, reduceCtorEq, and_false, false_and, false_or, Fn.prim.injEq, Option.some.injEq, List.not_mem_nil, or_false] at hm
    rcases hm with ⟨rfl, hz, rfl⟩ | ⟨rfl, hz, rfl⟩ | ⟨rfl, hz, rfl⟩ | ⟨rfl, hz, rfl⟩ | ⟨rfl, hz, rfl⟩ | ⟨rfl, hz, rfl⟩ | ⟨rfl, hz, rfl⟩
    · obtain rfl : z = 2 := by omega
      exact ⟨_, _, insC69⟩
    · omega
    · obtain rfl : z = 11 := by omega
      exact ⟨_, _, insC71⟩
    · omega
    · obtain rfl : z = 17 := by omega
      exact ⟨_, _, insC73⟩
    · omega
    · omega
  · have hm := look_mem hp
    simp only [engdTab, List.mem_cons, Prod.mk.injEq, reduceCtorEq, and_false, false_and, false_or, Fn.prim.injEq, Option.some.injEq, List.not_mem_nil, or_false] at hm
    rcases hm with ⟨rfl, hz, rfl⟩ | ⟨rfl, hz, rfl⟩ | ⟨rfl, hz, rfl⟩ | ⟨rfl, hz, rfl⟩ | ⟨rfl, hz, rfl⟩ | ⟨rfl, hz, rfl⟩ | ⟨rfl, hz, rfl⟩
    · omega
    · omega
    · omega
    · omega
    · omega
    · omega
    · omega
end Sg
namespace Go.Proofs.YtaodclcmfocccaaDoor
open Sg Go.RowKit
set_option maxRecDepth 100000
theorem own : ownKnob Tryd.prog.godebug = none := by kernel_rfl
theorem laid : laidOutB Tryd.prog = true := by kernel_rfl
theorem engineRequests_ctr (xs : List V) (h : ArgsV [(true, tRq)] xs) : Ctr Tryd.prog (cxU engdFm) (ownOf (Sg.look engdTab) 321) 321 xs (.bool true) := by
  match xs, h with
  | [x0], h =>
    obtain ⟨h0, -⟩ := h
    obtain ⟨a0, rfl⟩ := arg_Rq h0
    exact all_ctr _ _ _ (K321 t321 a0)
noncomputable def laidWorld (os : Os) : World :=
  let w0 := World.holding Tryd.prog os ⟨#[], #[], []⟩
  let put (h : Array Obj) (g : Nat) (cs : Array Value) : Array Obj := h.modify g fun
    | .cells _ t frozen => .cells cs t frozen
    | o => o
  let h1 := put w0.heap 0 (Lib.firstTab.map fun z => Value.int .u8 z).toArray
  let h2 := put h1 1 ((List.range 16).flatMap fun i => [Value.int .u8 (Lib.accLo i), Value.int .u8 (Lib.accHi i)]).toArray
  { w0 with heap := h2 }
theorem tabs_of {W : World} (hL : laidMetH Tryd.prog Rows.engineRequestsRow.laid W) : Lib.Utf8Tabs 0 1 W :=
  utf8Tabs_of_reads (ρ := renU) { lays197 with } ⟨by kernel_rfl, by kernel_rfl, by kernel_rfl, by kernel_rfl, by kernel_rfl, by kernel_rfl, by kernel_rfl⟩
    ((show Go.Pinned.utf8First = Lib.firstData by kernel_rfl) ▸ Lib.laidMet.reads hL (.tail _ (.head _))) ((show Rows.laid_unicode_utf8_acceptRanges = Lib.acceptData by kernel_rfl) ▸ Lib.laidMet.reads hL (.head _))
theorem size_of {W : World} (h : Lib.Utf8Tabs 0 1 W) : 2 ≤ W.heap.size := by
  have lt : ∀ g o v, W.cell? ⟨g, o, none⟩ = some v → g < W.heap.size := fun g o v e => by
    rcases Nat.lt_or_ge g W.heap.size with h | h
    · exact h
    · simp [World.cell?, Array.getElem?_eq_none h] at e
  have h1 := lt _ _ _ (h.1 0 (by decide))
  have h2 := lt _ _ _ (h.2 0 (by decide)).1
  omega
theorem laid_met (os : Os) (args : Array Value) : laidMet Tryd.prog Rows.engineRequestsRow.laid ((laidWorld os).forCall (fun _ _ => 0) ⟨#[], args, []⟩).memory :=
  (LaidIn.of_run (l := Rows.engineRequestsRow.laid) [1, 0] 8 (by kernel_rfl) (by kernel_rfl) (by kernel_rfl) (by kernel_rfl)).met
set_option maxRecDepth 100000 in
theorem engineRequests_reads (os : Os) {H : Type} (enc : TypeId × Value → H) :
    (OpenSpec.ofChange Rows.engineRequestsSpec).preRow enc Tryd.prog Tryd.f3 Rows.engineRequestsRow.domain false Rows.engineRequestsRow.laid ((laidWorld os).forCall (fun _ _ => 0) ⟨#[], #[Value.agg #[.int .i64 0, .int .i64 0, .int .i64 0, .string ⟨#[]⟩, .string ⟨#[]⟩, .bool false, .string ⟨#[]⟩, .int .i64 0, .int .i64 0, .int .i64 0, .string ⟨#[]⟩, .int .i64 0]], []⟩).memory #[Value.agg #[.int .i64 0, .int .i64 0, .int .i64 0, .string ⟨#[]⟩, .string ⟨#[]⟩, .bool false, .string ⟨#[]⟩, .int .i64 0, .int .i64 0, .int .i64 0, .string ⟨#[]⟩, .int .i64 0]] := by
  have hw : (DataW.whole enc Tryd.prog ((laidWorld os).forCall (fun _ _ => 0) ⟨#[], #[Value.agg #[.int .i64 0, .int .i64 0, .int .i64 0, .string ⟨#[]⟩, .string ⟨#[]⟩, .bool false, .string ⟨#[]⟩, .int .i64 0, .int .i64 0, .int .i64 0, .string ⟨#[]⟩, .int .i64 0]], []⟩).memory Tryd.f3.params.toList Rows.engineRequestsSpec.vars false #[Value.agg #[.int .i64 0, .int .i64 0, .int .i64 0, .string ⟨#[]⟩, .string ⟨#[]⟩, .bool false, .string ⟨#[]⟩, .int .i64 0, .int .i64 0, .int .i64 0, .string ⟨#[]⟩, .int .i64 0]].toList 8).isSome = true := by kernel_rfl
  obtain ⟨⟨x1, x2, x3⟩, hx⟩ := Option.isSome_iff_exists.1 hw
  have hl : x1.length = 1 := by
    have := congrArg (Option.map fun x => x.1.length) hx
    have e : (DataW.whole enc Tryd.prog ((laidWorld os).forCall (fun _ _ => 0) ⟨#[], #[Value.agg #[.int .i64 0, .int .i64 0, .int .i64 0, .string ⟨#[]⟩, .string ⟨#[]⟩, .bool false, .string ⟨#[]⟩, .int .i64 0, .int .i64 0, .int .i64 0, .string ⟨#[]⟩, .int .i64 0]], []⟩).memory Tryd.f3.params.toList Rows.engineRequestsSpec.vars false #[Value.agg #[.int .i64 0, .int .i64 0, .int .i64 0, .string ⟨#[]⟩, .string ⟨#[]⟩, .bool false, .string ⟨#[]⟩, .int .i64 0, .int .i64 0, .int .i64 0, .string ⟨#[]⟩, .int .i64 0]].toList 8).map (fun x => x.1.length) = some 1 := by kernel_rfl
    rw [hx] at e
    simpa using e
  exact OpenSpec.preRow_of_cond 8 hx (by kernel_rfl) (fun k hk => by cases hk) (by kernel_rfl) (laid_met os _)
theorem engineRequests_lifted (os : Os) (started : os.Started) (H : Type) (enc : TypeId × Value → H) (F : Stop.Interp) :
    ReturnsInHanded {} Tryd.checked os 3 .any ((OpenSpec.ofChange Rows.engineRequestsSpec).preRow enc Tryd.prog Tryd.f3 Rows.engineRequestsRow.domain false Rows.engineRequestsRow.laid) (((OpenSpec.ofChange Rows.engineRequestsSpec).at F).post enc Tryd.prog Tryd.f3 false true false false) := by
  refine returnsInHanded_of_row (C := Tryd.checked) (s := OpenSpec.ofChange Rows.engineRequestsSpec) own started (by kernel_rfl) Tryd.func3
    (witness_row_at (enc := enc) (C := Tryd.checked) false (laidWorld os) #[Value.agg #[.int .i64 0, .int .i64 0, .int .i64 0, .string ⟨#[]⟩, .string ⟨#[]⟩, .bool false, .string ⟨#[]⟩, .int .i64 0, .int .i64 0, .int .i64 0, .string ⟨#[]⟩, .int .i64 0]] rfl (by kernel_rfl) (by kernel_rfl) (by kernel_rfl) (engineRequests_reads os enc)) ?_
  intro W base args ds gs before hval hW _ _ _ hL _ _
  have hT := tabs_of hL
  exact lift (s := Rows.engineRequestsSpec) (conds := []) (cx := cxU engdFm) (own := ownOf (Sg.look engdTab) 321) (fid := 321) (ss := [(true, tRq)]) (tb := 4) (by kernel_rfl) (by kernel_rfl) (by kernel_rfl) laid rfl (by kernel_rfl) (by kernel_rfl)
    (fun ds h => by
      have h2 : Tryd.f3.params.toList.length = 1 := by kernel_rfl
      rw [h2] at h
      match ds, h with
      | [d0], _ => rfl) engineRequests_ctr W (size_of hT) hT base args ds gs before hval hW
theorem engineRequests_said : Rows.EngineRequestsSaid :=
  OpenClaim.holds_of_cond 3 Tryd.f3 rfl rfl rfl rfl rfl rfl rfl ⟨rfl, rfl, rfl, rfl, rfl⟩ rfl rfl rfl rfl rfl (by kernel_rfl) Tryd.func3 facts
    (of_decide_eq_true (by kernel_rfl)) (by unfold Func.isWrapper; first | (rw [if_pos (by decide +kernel)]; kernel_rfl) | (rw [if_neg (by decide +kernel)]; exact ⟨rfl, rfl⟩))
    (fun os started H enc _ F => by rw [OpenClaim.pre_eq_preRow]; exact engineRequests_lifted os started H enc F)
theorem engineRequests_plain (f : FuncId) (fn : Func) (hf : Tryd.pinned.checked.prog.funcNamed "stratigraph/stratigraphlaw11.EngineRequests" = some f) (hfn : Tryd.pinned.checked.prog.funcs[f]? = some fn) :
    false = Tryd.pinned.checked.prog.looks [] ∧ ∀ (j : Nat) t, fn.params[j]? = some t → Tryd.pinned.checked.prog.wantsStandIn t = false := by
  obtain rfl : f = 3 := Option.some.inj ((show Tryd.prog.funcNamed "stratigraph/stratigraphlaw11.EngineRequests" = some 3 by kernel_rfl).symm.trans hf) |>.symm
  obtain rfl : fn = Tryd.f3 := (Option.some.inj (Tryd.func3.symm.trans hfn)).symm
  refine ⟨by kernel_rfl, fun j t ht => ?_⟩
  rw [Tryd.params3] at ht
  have hm := Array.mem_of_getElem? ht
  simp only [List.mem_toArray, List.mem_cons, List.not_mem_nil, or_false] at hm
  obtain rfl := hm
  exact (show Tryd.prog.wantsStandIn 25 = false by kernel_rfl)
theorem engineRequests_holds : Rows.EngineRequestsCardSaid :=
  Claim7.holds_tied_plain_at .later [] _ _ _ _ engineRequests_said (fun _ h => by cases h) (by kernel_rfl) (fun _ h => by cases h) engineRequests_row_tie rfl ⟨rfl, rfl⟩ (by kernel_rfl) rfl engineRequests_plain (by kernel_rfl)
#print axioms engineRequests_holds
end Go.Proofs.YtaodclcmfocccaaDoor
