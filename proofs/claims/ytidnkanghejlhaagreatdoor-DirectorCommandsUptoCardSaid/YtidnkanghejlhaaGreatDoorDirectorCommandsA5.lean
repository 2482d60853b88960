/- DirectorCommands, wherever what it reads is of bulk at most 1048576: proved over a checked abstract run of the translated code; no condition but that. A part. -/
import Derived.Test.YtidnkanghejlhaaGreatDoorCards
import Derived.Test.YtidnkanghejlhaaGreatDoorTie
import Derived.ProofKit
import Derived.OpenShut
import Derived.Lib.LaidIn
import Derived.Lib.LaidTab
import Derived.Deep.DeepHandedRow
import Derived.Deep.DeepWitnessRowRef
import Derived.Test.YtidnkanghejlhaaGreatDoorRows
import Derived.Test.YtidnkanghejlhaaGreatDoorDirectorCommandsA4
import Derived.Test.YtidnkanghejlhaaGreatDoorDirectorCommandsJ
namespace Sg
open _root_.Go _root_.Go.Proofs
set_option linter.unusedSimpArgs false
set_option maxRecDepth 100000
theorem t324 : H324 (look dirTab) := rfl
theorem t344 : H344 (look dirTab) := rfl
theorem t325 : H325 (look dirTab) := ⟨rfl, t344⟩
theorem t8327 : H8327 (look dirTab) := rfl
theorem t8328 : H8328 (look dirTab) := rfl
theorem t8331 : H8331 (look dirTab) := rfl
theorem t8335 : H8335 (look dirTab) := rfl
theorem t8340 : H8340 (look dirTab) := rfl
theorem t8341 : H8341 (look dirTab) := rfl
theorem t8154 : H8154 (look dirTab) := rfl
theorem t8345 : H8345 (look dirTab) := rfl
theorem t8141 : H8141 (look dirTab) := rfl
theorem t8126 : H8126 (look dirTab) := rfl
theorem t8028 : H8028 (look dirTab) := rfl
theorem t8346 : H8346 (look dirTab) := rfl
theorem t8347 : H8347 (look dirTab) := rfl
theorem t8348 : H8348 (look dirTab) := rfl
theorem t8065 : H8065 (look dirTab) := rfl
theorem t8156 : H8156 (look dirTab) := rfl
theorem t8148 : H8148 (look dirTab) := rfl
theorem t8112 : H8112 (look dirTab) := rfl
theorem t8355 : H8355 (look dirTab) := rfl
theorem t8357 : H8357 (look dirTab) := rfl
theorem t8365 : H8365 (look dirTab) := rfl
theorem t8366 : H8366 (look dirTab) := rfl
theorem t8067 : H8067 (look dirTab) := rfl
theorem t8367 : H8367 (look dirTab) := rfl
theorem t8368 : H8368 (look dirTab) := rfl
theorem t8162 : H8162 (look dirTab) := rfl
theorem t8163 : H8163 (look dirTab) := rfl
theorem t8164 : H8164 (look dirTab) := rfl
theorem t8165 : H8165 (look dirTab) := rfl
theorem t8166 : H8166 (look dirTab) := rfl
theorem t8032 : H8032 (look dirTab) := rfl
theorem t8369 : H8369 (look dirTab) := rfl
theorem t8075 : H8075 (look dirTab) := rfl
theorem t8177 : H8177 (look dirTab) := rfl
theorem t8175 : H8175 (look dirTab) := rfl
theorem t8178 : H8178 (look dirTab) := rfl
theorem t8371 : H8371 (look dirTab) := rfl
theorem t8186 : H8186 (look dirTab) := rfl
theorem t8381 : H8381 (look dirTab) := rfl
theorem t8076 : H8076 (look dirTab) := rfl
theorem t8185 : H8185 (look dirTab) := rfl
theorem t8194 : H8194 (look dirTab) := rfl
theorem t8171 : H8171 (look dirTab) := rfl
theorem t8192 : H8192 (look dirTab) := rfl
theorem t8179 : H8179 (look dirTab) := rfl
theorem t8170 : H8170 (look dirTab) := rfl
theorem t326 : H326 (look dirTab) := ⟨rfl, t8327, t8328, t8331, t8335, t8340, t8341, t8154, t8345, t8141, t8126, t8028, t8346, t8347, t8348, t8065, t8156, t8148, t8112, t8355, t8357, t8365, t8366, t8067, t8367, t8368, t8162, t8163, t8164, t8165, t8166, t8032, t8369, t8075, t8177, t8175, t8178, t8371, t8186, t8381, t8076, t8185, t8194, t8171, t8192, t8179, t8170⟩
theorem t24 : H24 (look dirTab) := rfl
theorem t114 : H114 (look dirTab) := ⟨rfl, t24⟩
theorem t173 : H173 (look dirTab) := rfl
theorem t188 : H188 (look dirTab) := rfl
theorem t189 : H189 (look dirTab) := rfl
theorem t168 : H168 (look dirTab) := ⟨rfl, t188, t189⟩
theorem t195 : H195 (look dirTab) := ⟨rfl, t188⟩
theorem t187 : H187 (look dirTab) := ⟨rfl, t195⟩
theorem t167 : H167 (look dirTab) := ⟨rfl, t168, t187⟩
theorem t184 : H184 (look dirTab) := ⟨rfl, t167⟩
theorem t174 : H174 (look dirTab) := ⟨rfl, t167, t184⟩
theorem t147 : H147 (look dirTab) := ⟨rfl, t173, t174⟩
theorem t349 : H349 (look dirTab) := rfl
theorem t351 : H351 (look dirTab) := rfl
theorem t350 : H350 (look dirTab) := ⟨rfl, t24, t349, t351⟩
theorem t329 : H329 (look dirTab) := ⟨rfl, t24, t114, t147, t349, t350, t351⟩
theorem t75 : H75 (look dirTab) := rfl
theorem t65 : H65 (look dirTab) := ⟨rfl, t75⟩
theorem t69 : H69 (look dirTab) := rfl
theorem t162 : H162 (look dirTab) := rfl
theorem t163 : H163 (look dirTab) := rfl
theorem t164 : H164 (look dirTab) := rfl
theorem t185 : H185 (look dirTab) := rfl
theorem t165 : H165 (look dirTab) := ⟨rfl, t185⟩
theorem t170 : H170 (look dirTab) := rfl
theorem t190 : H190 (look dirTab) := rfl
theorem t192 : H192 (look dirTab) := ⟨rfl, t190⟩
theorem t186 : H186 (look dirTab) := ⟨rfl, t170, t192⟩
theorem t166 : H166 (look dirTab) := ⟨rfl, t186⟩
theorem t141 : H141 (look dirTab) := ⟨rfl, t162, t163, t164, t165, t166⟩
theorem t194 : H194 (look dirTab) := rfl
theorem t175 : H175 (look dirTab) := ⟨rfl, t185, t194⟩
theorem t148 : H148 (look dirTab) := ⟨rfl, t141, t175⟩
theorem t177 : H177 (look dirTab) := ⟨rfl, t141, t162, t175⟩
theorem t171 : H171 (look dirTab) := ⟨rfl, t186, t170, t192⟩
theorem t178 : H178 (look dirTab) := ⟨rfl, t186, t170, t171⟩
theorem t179 : H179 (look dirTab) := rfl
theorem t156 : H156 (look dirTab) := ⟨rfl, t162, t175, t177, t178, t179⟩
theorem t157 : H157 (look dirTab) := ⟨rfl, t162, t175, t177, t179⟩
theorem t159 : H159 (look dirTab) := ⟨rfl, t163, t177, t179⟩
theorem t32 : H32 (look dirTab) := rfl
theorem t28 : H28 (look dirTab) := ⟨rfl, t32⟩
theorem t126 : H126 (look dirTab) := ⟨rfl, t28⟩
theorem t76 : H76 (look dirTab) := rfl
theorem t67 : H67 (look dirTab) := ⟨rfl, t76⟩
theorem t369 : H369 (look dirTab) := rfl
theorem t347 : H347 (look dirTab) := ⟨rfl, t67, t369⟩
theorem t348 : H348 (look dirTab) := ⟨rfl, t65⟩
theorem t346 : H346 (look dirTab) := ⟨rfl, t28, t347, t348⟩
theorem t328 : H328 (look dirTab) := ⟨rfl, t28, t126, t141, t346, t347, t348⟩
theorem t352 : H352 (look dirTab) := rfl
theorem t331 : H331 (look dirTab) := ⟨rfl, t65, t69, t148, t156, t157, t159, t328, t348, t352⟩
theorem t116 : H116 (look dirTab) := rfl
theorem t153 : H153 (look dirTab) := rfl
theorem t353 : H353 (look dirTab) := rfl
theorem t354 : H354 (look dirTab) := ⟨rfl, t353⟩
theorem t332 : H332 (look dirTab) := ⟨rfl, t116, t153, t353, t354⟩
theorem t151 : H151 (look dirTab) := rfl
theorem t182 : H182 (look dirTab) := rfl
theorem t183 : H183 (look dirTab) := ⟨rfl, t167, t168⟩
theorem t160 : H160 (look dirTab) := ⟨rfl, t147, t151, t173, t182, t183, t184⟩
theorem t333 : H333 (look dirTab) := ⟨rfl, t151, t160, t351⟩
theorem t330 : H330 (look dirTab) := ⟨rfl, t324, t325, t326, t329, t331, t332, t333⟩
theorem all_ctr (f : Nat) (args : List V) (r : V) (h : K' (look dirTab) f args = some r) : Ctr Tryz.prog (cxU dirFm) (ownOf (look dirTab) f) f args r := by
  obtain ⟨n, hn⟩ := K'_iff.1 h
  refine callN_sound (by kernel_rfl) (tab_code okAll) (fun f own p hp => ?_) (fun f z p hlt hp => ?_) (fun f z p hp => ?_) n f args r hn
  · have hm := look_mem hp
    simp only [dirTab, List.mem_cons, Prod.mk.injEq, reduceCtorEq, and_false, false_and, false_or, Fn.prim.injEq, Option.some.injEq, List.not_mem_nil, or_false] at hm
    rcases hm with ⟨rfl, hz, rfl⟩ | ⟨rfl, hz, rfl⟩ | ⟨rfl, hz, rfl⟩ | ⟨rfl, hz, rfl⟩ | ⟨rfl, hz, rfl⟩ | ⟨rfl, hz, rfl⟩ | ⟨rfl, hz, rfl⟩
    · subst hz
      exact clone_ctr (zero := [.int .i64 0]) (by kernel_rfl) okClone69
    · subst hz
      exact clone_ctr (zero := [.str [], .str [], .int .i64 0, .int .i64 0, .int .i64 0]) (by kernel_rfl) okClone179
    · intro args r h
      simp [noQ] at h
    · intro args r h
      simp [noQ] at h
    · subst hz
      exact clone_ctr (zero := [.str []]) (by kernel_rfl) okClone380
    · subst hz
      exact keyCt _ 170 rfl
    · subst hz
      exact decCt _ 190 rfl
  · have hm := look_mem hp
    simp only [dirTab, List.mem_cons, Prod.mk.injEq, reduceCtorEq, and_false, false_and, false_or, Fn.prim.injEq, Option.some.injEq, List.not_mem_nil, or_false] at hm
    rcases hm with ⟨rfl, hz, rfl⟩ | ⟨rfl, hz, rfl⟩ | ⟨rfl, hz, rfl⟩ | ⟨rfl, hz, rfl⟩ | ⟨rfl, hz, rfl⟩
    · omega
    · omega
    · obtain rfl : z = 5 := by omega
      exact ⟨_, _, insC91⟩
    · omega
    · omega
  · have hm := look_mem hp
    simp only [dirTab, List.mem_cons, Prod.mk.injEq, reduceCtorEq, and_false, false_and, false_or, Fn.prim.injEq, Option.some.injEq, List.not_mem_nil, or_false] at hm
    rcases hm with ⟨rfl, hz, rfl⟩ | ⟨rfl, hz, rfl⟩ | ⟨rfl, hz, rfl⟩ | ⟨rfl, hz, rfl⟩ | ⟨rfl, hz, rfl⟩
    · omega
    · omega
    · omega
    · obtain rfl : z = 5 := by omega
      exact delC92
    · omega
end Sg
namespace Go.Proofs.YtidnkanghejlhaaGreatDoor
open Sg Go.RowKit
set_option maxRecDepth 100000
theorem own : ownKnob Tryz.prog.godebug = none := by kernel_rfl
theorem laid : laidOutB Tryz.prog = true := by kernel_rfl
theorem directorCommands_ctr (xs : List V) (h : ArgsVN 1048576 [(true, tDrc), (true, tDCmd)] xs) : Ctr Tryz.prog (cxU dirFm) (ownOf (Sg.look dirTab) 330) 330 xs (.bool true) := by
  match xs, h with
  | [x0, x1], h =>
    obtain ⟨h0, h1, -⟩ := h
    obtain ⟨a0, rfl, p0, c0, l0, w0, q0, v0, m0, o0⟩ := arg_Drc h0
    obtain ⟨a1, rfl⟩ := arg_DCmd h1
    exact all_ctr _ _ _ (K330 t330 a0 a1 c0 o0)
theorem bulk_one {H : Type} (x : DataW H) : 1 ≤ Rows.uptoBulk x := by
  cases x with
  | lit l => cases l <;> simp [Rows.uptoBulk]
  | nil => simp [Rows.uptoBulk]
  | ptr _ => simp [Rows.uptoBulk]
  | slice _ _ => simp [Rows.uptoBulk]
  | agg _ => simp [Rows.uptoBulk]
  | iface _ _ => simp [Rows.uptoBulk]
  | map _ => simp [Rows.uptoBulk]
  | held _ => simp [Rows.uptoBulk]
theorem bulk_ok {H : Type} : BK (H := H) Rows.uptoBulk Rows.uptoBulkAll where
  str b := by simp [Rows.uptoBulk]
  slice e s := by simp [Rows.uptoBulk]
  agg p := by simp [Rows.uptoBulk]
  cons d l := by simp [Rows.uptoBulkAll]
  one d := bulk_one d
theorem fit_of {H : Type} {l : List (DataW H)} (h : Rows.uptoSmall H l = true) : ∀ d ∈ l, Fit 1048576 Rows.uptoBulk Rows.uptoBulkAll d := fun _ hd =>
  .inr ⟨bulk_ok, Nat.le_trans (bulk_ok.part hd) (of_decide_eq_true h)⟩
noncomputable def laidWorld (os : Os) : World :=
  let w0 := World.holding Tryz.prog os ⟨#[], #[], []⟩
  let put (h : Array Obj) (g : Nat) (cs : Array Value) : Array Obj := h.modify g fun
    | .cells _ t frozen => .cells cs t frozen
    | o => o
  let h1 := put w0.heap 0 (Lib.firstTab.map fun z => Value.int .u8 z).toArray
  let h2 := put h1 1 ((List.range 16).flatMap fun i => [Value.int .u8 (Lib.accLo i), Value.int .u8 (Lib.accHi i)]).toArray
  { w0 with heap := h2 }
theorem tabs_of {W : World} (hL : laidMetH Tryz.prog Rows.directorCommandsUptoRow.laid W) : Lib.Utf8Tabs 0 1 W :=
  utf8Tabs_of_reads (ρ := renU) { lays197 with } ⟨by kernel_rfl, by kernel_rfl, by kernel_rfl, by kernel_rfl, by kernel_rfl, by kernel_rfl, by kernel_rfl⟩
    ((show Go.Pinned.utf8First = Lib.firstData by kernel_rfl) ▸ Lib.laidMet.reads hL (.tail _ (.head _))) ((show Rows.laid_unicode_utf8_acceptRanges = Lib.acceptData by kernel_rfl) ▸ Lib.laidMet.reads hL (.head _))
theorem size_of {W : World} (h : Lib.Utf8Tabs 0 1 W) : 2 ≤ W.heap.size := by
  have lt : ∀ g o v, W.cell? ⟨g, o, none⟩ = some v → g < W.heap.size := fun g o v e => by
    rcases Nat.lt_or_ge g W.heap.size with h | h
    · exact h
    · simp [World.cell?, Array.getElem?_eq_none h] at e
  have h1 := lt _ _ _ (h.1 0 (by decide))
  have h2 := lt _ _ _ (h.2 0 (by decide)).1
  omega
theorem laid_met (os : Os) (args : Array Value) : laidMet Tryz.prog Rows.directorCommandsUptoRow.laid ((laidWorld os).forCall (fun _ _ => 0) ⟨#[], args, []⟩).memory :=
  (LaidIn.of_run (l := Rows.directorCommandsUptoRow.laid) [1, 0] 8 (by kernel_rfl) (by kernel_rfl) (by kernel_rfl) (by kernel_rfl)).met
set_option maxRecDepth 100000 in
theorem directorCommands_reads (os : Os) {H : Type} (enc : TypeId × Value → H) :
    (Rows.OpenSpec.upto Rows.directorCommandsSpec).preRow enc Tryz.prog Tryz.f4 Rows.directorCommandsUptoRow.domain false Rows.directorCommandsUptoRow.laid ((laidWorld os).forCall (fun _ _ => 0) ⟨#[], #[Value.agg #[.slice none 0 0, .slice none 0 0, .int .i64 0, .slice none 0 0, .slice none 0 0, .int .i64 0, .int .i64 0, .int .i64 0, .int .i64 0, .int .i64 0, .int .i64 0, .int .i64 0, .int .i64 0, .int .i64 0, .int .i64 0, .int .i64 0, .string ⟨#[]⟩, .slice none 0 0, .int .i64 0, .int .i64 0, .int .i64 0, .string ⟨#[]⟩, .string ⟨#[]⟩, .slice none 0 0, .int .i64 0, .int .i64 0, .int .i64 0, .slice none 0 0, .slice none 0 0], Value.agg #[.int .i64 0, .int .i64 0, .int .i64 0, .int .i64 0, .string ⟨#[]⟩, .slice none 0 0]], []⟩).memory #[Value.agg #[.slice none 0 0, .slice none 0 0, .int .i64 0, .slice none 0 0, .slice none 0 0, .int .i64 0, .int .i64 0, .int .i64 0, .int .i64 0, .int .i64 0, .int .i64 0, .int .i64 0, .int .i64 0, .int .i64 0, .int .i64 0, .int .i64 0, .string ⟨#[]⟩, .slice none 0 0, .int .i64 0, .int .i64 0, .int .i64 0, .string ⟨#[]⟩, .string ⟨#[]⟩, .slice none 0 0, .int .i64 0, .int .i64 0, .int .i64 0, .slice none 0 0, .slice none 0 0], Value.agg #[.int .i64 0, .int .i64 0, .int .i64 0, .int .i64 0, .string ⟨#[]⟩, .slice none 0 0]] := by
  have hw : (DataW.whole enc Tryz.prog ((laidWorld os).forCall (fun _ _ => 0) ⟨#[], #[Value.agg #[.slice none 0 0, .slice none 0 0, .int .i64 0, .slice none 0 0, .slice none 0 0, .int .i64 0, .int .i64 0, .int .i64 0, .int .i64 0, .int .i64 0, .int .i64 0, .int .i64 0, .int .i64 0, .int .i64 0, .int .i64 0, .int .i64 0, .string ⟨#[]⟩, .slice none 0 0, .int .i64 0, .int .i64 0, .int .i64 0, .string ⟨#[]⟩, .string ⟨#[]⟩, .slice none 0 0, .int .i64 0, .int .i64 0, .int .i64 0, .slice none 0 0, .slice none 0 0], Value.agg #[.int .i64 0, .int .i64 0, .int .i64 0, .int .i64 0, .string ⟨#[]⟩, .slice none 0 0]], []⟩).memory Tryz.f4.params.toList Rows.directorCommandsSpec.vars false #[Value.agg #[.slice none 0 0, .slice none 0 0, .int .i64 0, .slice none 0 0, .slice none 0 0, .int .i64 0, .int .i64 0, .int .i64 0, .int .i64 0, .int .i64 0, .int .i64 0, .int .i64 0, .int .i64 0, .int .i64 0, .int .i64 0, .int .i64 0, .string ⟨#[]⟩, .slice none 0 0, .int .i64 0, .int .i64 0, .int .i64 0, .string ⟨#[]⟩, .string ⟨#[]⟩, .slice none 0 0, .int .i64 0, .int .i64 0, .int .i64 0, .slice none 0 0, .slice none 0 0], Value.agg #[.int .i64 0, .int .i64 0, .int .i64 0, .int .i64 0, .string ⟨#[]⟩, .slice none 0 0]].toList 8).isSome = true := by kernel_rfl
  obtain ⟨⟨x1, x2, x3⟩, hx⟩ := Option.isSome_iff_exists.1 hw
  have hl : x1.length = 2 := by
    have := congrArg (Option.map fun x => x.1.length) hx
    have e : (DataW.whole enc Tryz.prog ((laidWorld os).forCall (fun _ _ => 0) ⟨#[], #[Value.agg #[.slice none 0 0, .slice none 0 0, .int .i64 0, .slice none 0 0, .slice none 0 0, .int .i64 0, .int .i64 0, .int .i64 0, .int .i64 0, .int .i64 0, .int .i64 0, .int .i64 0, .int .i64 0, .int .i64 0, .int .i64 0, .int .i64 0, .string ⟨#[]⟩, .slice none 0 0, .int .i64 0, .int .i64 0, .int .i64 0, .string ⟨#[]⟩, .string ⟨#[]⟩, .slice none 0 0, .int .i64 0, .int .i64 0, .int .i64 0, .slice none 0 0, .slice none 0 0], Value.agg #[.int .i64 0, .int .i64 0, .int .i64 0, .int .i64 0, .string ⟨#[]⟩, .slice none 0 0]], []⟩).memory Tryz.f4.params.toList Rows.directorCommandsSpec.vars false #[Value.agg #[.slice none 0 0, .slice none 0 0, .int .i64 0, .slice none 0 0, .slice none 0 0, .int .i64 0, .int .i64 0, .int .i64 0, .int .i64 0, .int .i64 0, .int .i64 0, .int .i64 0, .int .i64 0, .int .i64 0, .int .i64 0, .int .i64 0, .string ⟨#[]⟩, .slice none 0 0, .int .i64 0, .int .i64 0, .int .i64 0, .string ⟨#[]⟩, .string ⟨#[]⟩, .slice none 0 0, .int .i64 0, .int .i64 0, .int .i64 0, .slice none 0 0, .slice none 0 0], Value.agg #[.int .i64 0, .int .i64 0, .int .i64 0, .int .i64 0, .string ⟨#[]⟩, .slice none 0 0]].toList 8).map (fun x => x.1.length) = some 2 := by kernel_rfl
    rw [hx] at e
    simpa using e
  have e2 : (DataW.whole enc Tryz.prog ((laidWorld os).forCall (fun _ _ => 0) ⟨#[], #[Value.agg #[.slice none 0 0, .slice none 0 0, .int .i64 0, .slice none 0 0, .slice none 0 0, .int .i64 0, .int .i64 0, .int .i64 0, .int .i64 0, .int .i64 0, .int .i64 0, .int .i64 0, .int .i64 0, .int .i64 0, .int .i64 0, .int .i64 0, .string ⟨#[]⟩, .slice none 0 0, .int .i64 0, .int .i64 0, .int .i64 0, .string ⟨#[]⟩, .string ⟨#[]⟩, .slice none 0 0, .int .i64 0, .int .i64 0, .int .i64 0, .slice none 0 0, .slice none 0 0], Value.agg #[.int .i64 0, .int .i64 0, .int .i64 0, .int .i64 0, .string ⟨#[]⟩, .slice none 0 0]], []⟩).memory Tryz.f4.params.toList Rows.directorCommandsSpec.vars false #[Value.agg #[.slice none 0 0, .slice none 0 0, .int .i64 0, .slice none 0 0, .slice none 0 0, .int .i64 0, .int .i64 0, .int .i64 0, .int .i64 0, .int .i64 0, .int .i64 0, .int .i64 0, .int .i64 0, .int .i64 0, .int .i64 0, .int .i64 0, .string ⟨#[]⟩, .slice none 0 0, .int .i64 0, .int .i64 0, .int .i64 0, .string ⟨#[]⟩, .string ⟨#[]⟩, .slice none 0 0, .int .i64 0, .int .i64 0, .int .i64 0, .slice none 0 0, .slice none 0 0], Value.agg #[.int .i64 0, .int .i64 0, .int .i64 0, .int .i64 0, .string ⟨#[]⟩, .slice none 0 0]].toList 8).map (fun x => Rows.uptoSmall H (x.1 ++ x.2.1)) = some true := by kernel_rfl
  rw [hx] at e2
  have hs : Rows.uptoSmall H (x1 ++ x2) = true := by simpa using e2
  exact OpenSpec.preRow_of_cond 8 hx (by kernel_rfl) (fun k hk => by cases hk; exact hs) (by kernel_rfl) (laid_met os _)
theorem directorCommands_lifted (os : Os) (started : os.Started) (H : Type) (enc : TypeId × Value → H) (F : Stop.Interp) :
    ReturnsInHanded {} Tryz.checked os 4 .any ((Rows.OpenSpec.upto Rows.directorCommandsSpec).preRow enc Tryz.prog Tryz.f4 Rows.directorCommandsUptoRow.domain false Rows.directorCommandsUptoRow.laid) (((Rows.OpenSpec.upto Rows.directorCommandsSpec).at F).post enc Tryz.prog Tryz.f4 false true false false) := by
  refine returnsInHanded_of_row (C := Tryz.checked) (s := Rows.OpenSpec.upto Rows.directorCommandsSpec) own started (by kernel_rfl) Tryz.func4
    (witness_row_at (enc := enc) (C := Tryz.checked) false (laidWorld os) #[Value.agg #[.slice none 0 0, .slice none 0 0, .int .i64 0, .slice none 0 0, .slice none 0 0, .int .i64 0, .int .i64 0, .int .i64 0, .int .i64 0, .int .i64 0, .int .i64 0, .int .i64 0, .int .i64 0, .int .i64 0, .int .i64 0, .int .i64 0, .string ⟨#[]⟩, .slice none 0 0, .int .i64 0, .int .i64 0, .int .i64 0, .string ⟨#[]⟩, .string ⟨#[]⟩, .slice none 0 0, .int .i64 0, .int .i64 0, .int .i64 0, .slice none 0 0, .slice none 0 0], Value.agg #[.int .i64 0, .int .i64 0, .int .i64 0, .int .i64 0, .string ⟨#[]⟩, .slice none 0 0]] rfl (by kernel_rfl) (by kernel_rfl) (by kernel_rfl) (directorCommands_reads os enc)) ?_
  intro W base args ds gs before hval hW _ hcond _ hL _ _
  have hT := tabs_of hL
  exact liftN (N := 1048576) (bk := Rows.uptoBulk) (bkA := Rows.uptoBulkAll) (s := Rows.directorCommandsSpec) (conds := []) (cx := cxU dirFm) (own := ownOf (Sg.look dirTab) 330) (fid := 330) (ss := [(true, tDrc), (true, tDCmd)]) (tb := 4) (by kernel_rfl) (by kernel_rfl) (by kernel_rfl) laid rfl (by kernel_rfl) (by kernel_rfl)
    (fun ds h => by
      have h2 : Tryz.f4.params.toList.length = 2 := by kernel_rfl
      rw [h2] at h
      match ds, h with
      | [d0, d1], _ => rfl) directorCommands_ctr W (size_of hT) hT base args ds gs before hval hW (fun d hd => fit_of (hcond _ rfl) d (List.mem_append_left _ hd))
theorem directorCommands_said : Rows.DirectorCommandsUptoSaid :=
  OpenClaim.holds_of_cond 4 Tryz.f4 rfl rfl rfl rfl rfl rfl rfl ⟨rfl, rfl, rfl, rfl, rfl⟩ rfl rfl rfl rfl rfl (by kernel_rfl) Tryz.func4 facts
    (of_decide_eq_true (by kernel_rfl)) (by unfold Func.isWrapper; first | (rw [if_pos (by decide +kernel)]; kernel_rfl) | (rw [if_neg (by decide +kernel)]; exact ⟨rfl, rfl⟩))
    (fun os started H enc _ F => by rw [OpenClaim.pre_eq_preRow]; exact directorCommands_lifted os started H enc F)
theorem directorCommands_plain (f : FuncId) (fn : Func) (hf : Tryz.pinned.checked.prog.funcNamed "stratigraph/stratigraphlaw19.DirectorCommands" = some f) (hfn : Tryz.pinned.checked.prog.funcs[f]? = some fn) :
    false = Tryz.pinned.checked.prog.looks [] ∧ ∀ (j : Nat) t, fn.params[j]? = some t → Tryz.pinned.checked.prog.wantsStandIn t = false := by
  obtain rfl : f = 4 := Option.some.inj ((show Tryz.prog.funcNamed "stratigraph/stratigraphlaw19.DirectorCommands" = some 4 by kernel_rfl).symm.trans hf) |>.symm
  obtain rfl : fn = Tryz.f4 := (Option.some.inj (Tryz.func4.symm.trans hfn)).symm
  refine ⟨by kernel_rfl, fun j t ht => ?_⟩
  rw [Tryz.params4] at ht
  have hm := Array.mem_of_getElem? ht
  simp only [List.mem_toArray, List.mem_cons, List.not_mem_nil, or_false] at hm
  rcases hm with rfl | rfl
  · exact (show Tryz.prog.wantsStandIn 36 = false by kernel_rfl)
  · exact (show Tryz.prog.wantsStandIn 52 = false by kernel_rfl)
theorem directorCommands_holds : Rows.DirectorCommandsUptoCardSaid :=
  Claim7.holds_tied_plain_at .later [] _ _ _ _ directorCommands_said (fun _ h => by cases h) (by kernel_rfl) (fun _ h => by cases h) directorCommandsUpto_row_tie rfl ⟨rfl, rfl⟩ (by kernel_rfl) rfl directorCommands_plain (by kernel_rfl)
#print axioms directorCommands_holds
end Go.Proofs.YtidnkanghejlhaaGreatDoor
