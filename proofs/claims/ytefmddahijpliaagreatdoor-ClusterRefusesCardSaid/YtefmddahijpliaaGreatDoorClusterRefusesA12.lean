/- ClusterRefuses, at every input: proved over a checked abstract run of the translated code; no condition. A part. -/
import Derived.Test.YtefmddahijpliaaGreatDoorCards
import Derived.Test.YtefmddahijpliaaGreatDoorTie
import Derived.ProofKit
import Derived.OpenShut
import Derived.Lib.LaidIn
import Derived.Lib.LaidTab
import Derived.Deep.DeepHandedRow
import Derived.Deep.DeepWitnessRowRef
import Derived.Test.YtefmddahijpliaaGreatDoorRows
import Derived.Test.YtefmddahijpliaaGreatDoorClusterRefusesA11
import Derived.Test.YtefmddahijpliaaGreatDoorClusterRefusesJ
set_option linter.unusedSimpArgs false
set_option linter.unusedVariables false
set_option linter.constructorNameAsVariable false
set_option linter.defProp false
set_option maxRecDepth 100000
namespace Sg
open _root_.Go _root_.Go.Proofs
theorem faL {Pg:Nat→Option Fn} {a:Nat} {b:Fn} {l:List (Nat×Fn)} (h1:Pg a=some b) (h2:∀x∈l,Pg x.1=some x.2):∀x∈(a,b)::l,Pg x.1=some x.2:=List.forall_mem_cons.2 ⟨h1,h2⟩
theorem t1588:H1588 (look cluTab):=faL rfl (faL rfl (faL rfl (faL rfl (faL rfl (faL rfl (faL rfl (faL rfl (faL rfl (faL rfl (faL rfl (faL rfl (faL rfl (faL rfl (faL rfl (faL rfl (faL rfl (faL rfl (faL rfl (faL rfl (faL rfl (faL rfl (faL rfl (faL rfl (faL rfl (faL rfl (faL rfl (faL rfl (faL rfl (faL rfl (faL rfl (faL rfl (faL rfl (faL rfl (faL rfl (faL rfl (faL rfl (faL rfl (faL rfl (faL rfl (faL rfl (faL rfl (faL rfl (faL rfl (faL rfl (faL rfl (faL rfl (faL rfl (faL rfl (faL rfl (faL rfl (faL rfl (faL rfl (faL rfl (faL rfl (faL rfl (faL rfl (faL rfl (faL rfl (faL rfl (faL rfl (faL rfl (faL rfl (faL rfl (faL rfl (faL rfl (faL rfl (faL rfl (faL rfl (faL rfl (faL rfl (faL rfl (faL rfl (faL rfl (faL rfl (faL rfl (faL rfl (faL rfl (faL rfl (faL rfl (faL rfl (faL rfl (faL rfl (faL rfl (faL rfl (faL rfl (faL rfl (faL rfl (faL rfl (faL rfl (faL rfl (faL rfl (faL rfl (faL rfl (faL rfl (faL rfl (faL rfl (faL rfl (faL rfl (faL rfl (faL rfl (faL rfl (faL rfl (faL rfl (faL rfl (faL rfl (faL rfl (faL rfl (faL rfl (faL rfl (faL rfl (faL rfl (faL rfl (faL rfl (faL rfl (faL rfl (faL rfl (faL rfl (faL rfl (faL rfl (faL rfl (faL rfl (faL rfl (faL rfl (faL rfl (faL rfl (faL rfl (faL rfl (faL rfl (faL rfl (faL rfl (faL rfl (faL rfl (faL rfl (faL rfl (faL rfl (faL rfl (faL rfl (faL rfl (faL rfl (faL rfl (faL rfl (faL rfl (faL rfl (faL rfl (faL rfl (faL rfl (faL rfl (faL rfl (faL rfl (faL rfl (faL rfl (faL rfl (faL rfl (faL rfl (faL rfl (faL rfl (faL rfl (faL rfl (faL rfl (faL rfl (faL rfl (faL rfl (faL rfl (faL rfl (faL rfl (faL rfl (faL rfl (faL rfl (faL rfl (faL rfl (faL rfl (faL rfl (faL rfl (faL rfl (faL rfl (faL rfl (faL rfl (faL rfl (faL rfl (faL rfl (faL rfl (faL rfl (faL rfl (faL rfl (faL rfl (faL rfl (faL rfl (faL rfl (faL rfl (faL rfl (faL rfl (faL rfl (faL rfl (faL rfl (faL rfl (faL rfl (faL rfl (faL rfl (faL rfl (faL rfl (faL rfl (faL rfl (faL rfl (faL rfl (faL rfl (faL rfl (faL rfl (faL rfl (faL rfl (faL rfl (faL rfl (faL rfl (faL rfl (faL rfl (faL rfl (faL rfl (faL rfl (faL rfl (faL rfl (faL rfl (faL rfl (faL rfl (faL rfl (faL rfl (faL rfl (faL rfl (faL rfl (faL rfl (faL rfl (faL rfl (faL rfl (faL rfl (faL rfl (faL rfl (faL rfl (faL rfl (faL rfl (faL rfl (faL rfl (faL rfl (faL rfl (faL rfl (faL rfl (faL rfl (faL rfl (faL rfl (faL rfl (faL rfl (faL rfl (faL rfl (faL rfl (faL rfl (faL rfl (faL rfl (faL rfl (faL rfl (faL rfl (faL rfl (faL rfl (faL rfl (faL rfl (faL rfl (faL rfl (faL rfl (faL rfl (faL rfl (faL rfl (faL rfl (faL rfl (faL rfl (faL rfl (faL rfl (faL rfl (faL rfl (faL rfl (faL rfl (faL rfl (faL rfl (faL rfl (faL rfl (faL rfl (faL rfl (faL rfl (faL rfl (faL rfl (faL rfl (faL rfl (faL rfl (faL rfl (faL rfl (faL rfl (faL rfl (faL rfl (faL rfl (faL rfl (faL rfl (faL rfl (faL rfl (faL rfl (faL rfl (faL rfl (faL rfl (faL rfl (faL rfl (faL rfl (faL rfl (faL rfl (faL rfl (faL rfl (faL rfl (faL rfl (faL rfl (faL rfl (faL rfl (faL rfl (fun _ h=>by cases h))))))))))))))))))))))))))))))))))))))))))))))))))))))))))))))))))))))))))))))))))))))))))))))))))))))))))))))))))))))))))))))))))))))))))))))))))))))))))))))))))))))))))))))))))))))))))))))))))))))))))))))))))))))))))))))))))))))))))))))))))))))))))))))))))))))))))))))))))))))))))))))))))))))))))))))))))))))))))))
theorem t2588:H2588 (look cluTab):=faL rfl (faL rfl (faL rfl (faL rfl (faL rfl (faL rfl (faL rfl (faL rfl (faL rfl (faL rfl (faL rfl (faL rfl (faL rfl (faL rfl (faL rfl (faL rfl (faL rfl (faL rfl (faL rfl (faL rfl (faL rfl (faL rfl (faL rfl (faL rfl (faL rfl (faL rfl (faL rfl (faL rfl (faL rfl (faL rfl (faL rfl (faL rfl (faL rfl (faL rfl (faL rfl (faL rfl (faL rfl (faL rfl (faL rfl (faL rfl (faL rfl (faL rfl (faL rfl (faL rfl (faL rfl (faL rfl (faL rfl (faL rfl (faL rfl (faL rfl (faL rfl (faL rfl (faL rfl (faL rfl (faL rfl (faL rfl (faL rfl (faL rfl (faL rfl (faL rfl (faL rfl (faL rfl (faL rfl (faL rfl (fun _ h=>by cases h))))))))))))))))))))))))))))))))))))))))))))))))))))))))))))))))
theorem t588:H588 (look cluTab):=by repeat' first|exact rfl|exact t1588|exact t2588|apply And.intro
theorem all_ctr (f:Nat) (args:List V) (r:V) (h:K' (look cluTab) f args=some r):Ctr Tryz.prog (cxU cluFm) (ownOf (look cluTab) f) f args r:=by
 obtain⟨n,hn⟩:=K'_iff.1 h;refine tab_sound (by kernel_rfl) okAll (fun f own p hp=>?_) (fun f z p hlt hp=>?_) (fun f z p hp=>?_) n f args r hn
 ·have hm:=look_mem hp;simp only[cluTab,cluT0,cluT1,cluT2,cluT3,cluT4,cluT5,cluT6,cluT7,cluT8,cluT9,cluT10,cluT11,cluT12,cluT13,cluT14,cluT15,cluT16,cluT17,cluT18,cluT19,cluT20,cluT21,cluT22,cluT23,cluT24,cluT25,cluT26,cluT27,cluT28,cluT29,cluT30,cluT31,cluT32,List.mem_append,or_assoc,List.mem_cons,Prod.mk.injEq,reduceCtorEq,and_false,false_and,false_or,Fn.prim.injEq,Option.some.injEq,List.not_mem_nil,or_false] at hm;rcases hm with ⟨rfl,hz,rfl⟩|⟨rfl,hz,rfl⟩|⟨rfl,hz,rfl⟩|⟨rfl,hz,rfl⟩|⟨rfl,hz,rfl⟩|⟨rfl,hz,rfl⟩|⟨rfl,hz,rfl⟩|⟨rfl,hz,rfl⟩|⟨rfl,hz,rfl⟩|⟨rfl,hz,rfl⟩|⟨rfl,hz,rfl⟩|⟨rfl,hz,rfl⟩|⟨rfl,hz,rfl⟩|⟨rfl,hz,rfl⟩|⟨rfl,hz,rfl⟩|⟨rfl,hz,rfl⟩|⟨rfl,hz,rfl⟩|⟨rfl,hz,rfl⟩|⟨rfl,hz,rfl⟩|⟨rfl,hz,rfl⟩|⟨rfl,hz,rfl⟩|⟨rfl,hz,rfl⟩|⟨rfl,hz,rfl⟩|⟨rfl,hz,rfl⟩|⟨rfl,hz,rfl⟩|⟨rfl,hz,rfl⟩|⟨rfl,hz,rfl⟩|⟨rfl,hz,rfl⟩
  ·subst hz;exact clone_ctr (zero:=[.int .i64 0,.str [],.str [],.int .i64 0,.bool false,.bool false,.int .i64 0,.slice 9 [],.slice 5 [],.slice 3 [],.int .i64 0,.slice 5 [],.slice 3 [],.int .i64 0,.int .i64 0,.int .i64 0,.int .i64 0,.int .i64 0,.int .i64 0,.int .i64 0,.int .i64 0,.int .i64 0,.int .i64 0,.int .i64 0,.str [],.slice 1 [],.int .i64 0,.int .i64 0,.int .i64 0,.str [],.str [],.slice 1 [],.int .i64 0,.int .i64 0,.int .i64 0,.slice 1 [],.slice 7 [],.bool false]) (by kernel_rfl) okClone597
  ·subst hz;exact clone_ctr (zero:=[.int .i64 0,.int .i64 0,.slice 5 [],.slice 1 [],.int .i64 0,.int .i64 0,.int .i64 0,.str [],.str [],.bool false,.str [],.int .i64 0,.int .i64 0,.int .i64 0,.str [],.int .i64 0,.bool false,.int .i64 0]) (by kernel_rfl) okClone598
  ·subst hz;exact clone_ctr (zero:=[.int .i64 0]) (by kernel_rfl) okClone69
  ·subst hz;exact clone_ctr (zero:=[.str []]) (by kernel_rfl) okClone380
  ·subst hz;exact clone_ctr (zero:=[.int .i64 0,.int .i64 0,.int .i64 0,.bool false,.str []]) (by kernel_rfl) okClone23
  ·intro args r h;simp[noQ] at h
  ·subst hz;exact keyCt _ 170 rfl
  ·subst hz;exact clone_ctr (zero:=[.str [],.str [],.int .i64 0,.int .i64 0,.int .i64 0]) (by kernel_rfl) okClone179
  ·intro args r h;simp[noQ] at h
  ·intro args r h;simp[noQ] at h
  ·subst hz;exact decCt _ 190 rfl
  ·subst hz;exact clone_ctr (zero:=[.int .i64 0,.int .i64 0,.int .i64 0,.int .i64 0,.int .i64 0]) (by kernel_rfl) okClone134
  ·intro args r h;simp[noQ] at h
  ·subst hz;exact clone_ctr (zero:=[.int .i64 0,.int .i64 0,.int .i64 0]) (by kernel_rfl) okClone373
  ·subst hz;exact clone_ctr (zero:=[.int .i64 0,.slice 1 [],.bool false]) (by kernel_rfl) okClone374
  ·intro args r h;simp[noQ] at h
  ·subst hz;exact clone_ctr (zero:=[.int .i64 0,.int .i64 0,.int .i64 0,.int .i64 0,.int .i64 0,.int .i64 0,.int .i64 0]) (by kernel_rfl) okClone385
  ·intro args r h;simp[noQ] at h
  ·subst hz;exact clone_ctr (zero:=[.int .i64 0,.int .i64 0,.int .i64 0,.slice 1 [],.int .i64 0,.str [],.str [],.slice 1 [],.slice 36 []]) (by kernel_rfl) okClone497
  ·intro args r h;simp[noQ] at h
  ·subst hz;exact clone_ctr (zero:=[.int .i64 0,.int .i64 0,.str [],.str [],.int .i64 0,.slice 2 [],.int .i64 0,.int .i64 0,.int .i64 0,.int .i64 0,.int .i64 0,.int .i64 0,.slice 11 [],.int .i64 0,.int .i64 0,.int .i64 0,.int .i64 0]) (by kernel_rfl) okClone307
  ·intro args r h;simp[noQ] at h
  ·intro args r h;simp[noQ] at h
  ·intro args r h;simp[noQ] at h
  ·intro args r h;simp[noQ] at h
  ·subst hz;exact clone_ctr (zero:=[.int .i64 0,.int .i64 0,.int .i64 0,.int .i64 0,.int .i64 0,.int .i64 0,.bool false,.str [],.slice 2 [],.str [],.bool false]) (by kernel_rfl) okClone102
  ·intro args r h;simp[noQ] at h
  ·subst hz;exact clone_ctr (zero:=[.str [],.slice 5 []]) (by kernel_rfl) okClone227
 ·have hm:=look_mem hp;simp only[cluTab,cluT0,cluT1,cluT2,cluT3,cluT4,cluT5,cluT6,cluT7,cluT8,cluT9,cluT10,cluT11,cluT12,cluT13,cluT14,cluT15,cluT16,cluT17,cluT18,cluT19,cluT20,cluT21,cluT22,cluT23,cluT24,cluT25,cluT26,cluT27,cluT28,cluT29,cluT30,cluT31,cluT32,List.mem_append,or_assoc,List.mem_cons,Prod.mk.injEq,reduceCtorEq,and_false,false_and,false_or,Fn.prim.injEq,Option.some.injEq,List.not_mem_nil,or_false] at hm;rcases hm with ⟨rfl,hz,rfl⟩|⟨rfl,hz,rfl⟩|⟨rfl,hz,rfl⟩|⟨rfl,hz,rfl⟩|⟨rfl,hz,rfl⟩|⟨rfl,hz,rfl⟩|⟨rfl,hz,rfl⟩|⟨rfl,hz,rfl⟩|⟨rfl,hz,rfl⟩|⟨rfl,hz,rfl⟩|⟨rfl,hz,rfl⟩|⟨rfl,hz,rfl⟩|⟨rfl,hz,rfl⟩|⟨rfl,hz,rfl⟩|⟨rfl,hz,rfl⟩|⟨rfl,hz,rfl⟩|⟨rfl,hz,rfl⟩|⟨rfl,hz,rfl⟩|⟨rfl,hz,rfl⟩|⟨rfl,hz,rfl⟩|⟨rfl,hz,rfl⟩|⟨rfl,hz,rfl⟩|⟨rfl,hz,rfl⟩|⟨rfl,hz,rfl⟩|⟨rfl,hz,rfl⟩|⟨rfl,hz,rfl⟩
  ·omega
  ·omega
  ·omega
  ·omega
  ·omega
  ·omega
  ·omega
  ·obtain rfl:z=5:=by omega
   exact⟨_,_,insC179⟩
  ·omega
  ·omega
  ·omega
  ·omega
  ·omega
  ·omega
  ·omega
  ·obtain rfl:z=7:=by omega
   exact⟨_,_,insC316⟩
  ·omega
  ·obtain rfl:z=9:=by omega
   exact⟨_,_,insC383⟩
  ·omega
  ·obtain rfl:z=5:=by omega
   exact⟨_,_,insC324⟩
  ·obtain rfl:z=17:=by omega
   exact⟨_,_,insC414⟩
  ·omega
  ·obtain rfl:z=2:=by omega
   exact⟨_,_,insC423⟩
  ·omega
  ·obtain rfl:z=11:=by omega
   exact⟨_,_,insC425⟩
  ·omega
 ·have hm:=look_mem hp;simp only[cluTab,cluT0,cluT1,cluT2,cluT3,cluT4,cluT5,cluT6,cluT7,cluT8,cluT9,cluT10,cluT11,cluT12,cluT13,cluT14,cluT15,cluT16,cluT17,cluT18,cluT19,cluT20,cluT21,cluT22,cluT23,cluT24,cluT25,cluT26,cluT27,cluT28,cluT29,cluT30,cluT31,cluT32,List.mem_append,or_assoc,List.mem_cons,Prod.mk.injEq,reduceCtorEq,and_false,false_and,false_or,Fn.prim.injEq,Option.some.injEq,List.not_mem_nil,or_false] at hm;rcases hm with ⟨rfl,hz,rfl⟩|⟨rfl,hz,rfl⟩|⟨rfl,hz,rfl⟩|⟨rfl,hz,rfl⟩|⟨rfl,hz,rfl⟩|⟨rfl,hz,rfl⟩|⟨rfl,hz,rfl⟩|⟨rfl,hz,rfl⟩|⟨rfl,hz,rfl⟩|⟨rfl,hz,rfl⟩|⟨rfl,hz,rfl⟩|⟨rfl,hz,rfl⟩|⟨rfl,hz,rfl⟩|⟨rfl,hz,rfl⟩|⟨rfl,hz,rfl⟩|⟨rfl,hz,rfl⟩|⟨rfl,hz,rfl⟩|⟨rfl,hz,rfl⟩|⟨rfl,hz,rfl⟩|⟨rfl,hz,rfl⟩|⟨rfl,hz,rfl⟩|⟨rfl,hz,rfl⟩|⟨rfl,hz,rfl⟩|⟨rfl,hz,rfl⟩|⟨rfl,hz,rfl⟩|⟨rfl,hz,rfl⟩
  ·omega
  ·omega
  ·omega
  ·omega
  ·omega
  ·obtain rfl:z=1:=by omega
   exact delC49
  ·omega
  ·omega
  ·obtain rfl:z=5:=by omega
   exact delC180
  ·omega
  ·obtain rfl:z=5:=by omega
   exact delC293
  ·omega
  ·omega
  ·obtain rfl:z=1:=by omega
   exact delC302
  ·omega
  ·omega
  ·omega
  ·omega
  ·omega
  ·omega
  ·omega
  ·obtain rfl:z=17:=by omega
   exact delC415
  ·omega
  ·omega
  ·omega
  ·omega
end Sg
namespace Go.Proofs.YtefmddahijpliaaGreatDoor
open Sg Go.RowKit
set_option maxRecDepth 100000
theorem own:ownKnob Tryz.prog.godebug=none:=by kernel_rfl
theorem laid:laidOutB Tryz.prog=true:=by kernel_rfl
theorem clusterRefuses_ctr (xs:List V) (h:ArgsV [(true,tDStp)] xs):Ctr Tryz.prog (cxU cluFm) (ownOf (Sg.look cluTab) 588) 588 xs (.bool true):=by
 match xs,h with
 |[x0],h=>
  obtain⟨h0,-⟩:=h;obtain⟨a0,rfl⟩:=arg_DStp h0;exact all_ctr _ _ _ (K588 t588 a0)
noncomputable def laidWorld (os:Os):World:=
 let w0:=World.holding Tryz.prog os ⟨#[],#[],[]⟩
 let put (h:Array Obj) (g:Nat) (cs:Array Value):Array Obj:=h.modify g fun
  |.cells _ t frozen=>.cells cs t frozen
  |o=>o
 let h1:=put w0.heap 0 (Lib.firstTab.map fun z=>Value.int .u8 z).toArray
 let h2:=put h1 1 ((List.range 16).flatMap fun i=>[Value.int .u8 (Lib.accLo i),Value.int .u8 (Lib.accHi i)]).toArray
 {w0 with heap:=h2}
theorem tabs_of {W:World} (hL:laidMetH Tryz.prog Rows.clusterRefusesRow.laid W):Lib.Utf8Tabs 0 1 W:=
 utf8Tabs_of_reads (ρ:=renU) {lays197 with} ⟨by kernel_rfl,by kernel_rfl,by kernel_rfl,by kernel_rfl,by kernel_rfl,by kernel_rfl,by kernel_rfl⟩
  ((show Go.Pinned.utf8First=Lib.firstData by kernel_rfl)▸Lib.laidMet.reads hL (.tail _ (.head _))) ((show Rows.laid_unicode_utf8_acceptRanges=Lib.acceptData by kernel_rfl)▸Lib.laidMet.reads hL (.head _))
theorem size_of {W:World} (h:Lib.Utf8Tabs 0 1 W):2≤W.heap.size:=by
 have lt:∀g o v,W.cell? ⟨g,o,none⟩=some v→g<W.heap.size:=fun g o v e=>by
  rcases Nat.lt_or_ge g W.heap.size with h|h
  ·exact h
  ·simp[World.cell?,Array.getElem?_eq_none h] at e
 have h1:=lt _ _ _ (h.1 0 (by decide));have h2:=lt _ _ _ (h.2 0 (by decide)).1;omega
theorem laid_met (os:Os) (args:Array Value):laidMet Tryz.prog Rows.clusterRefusesRow.laid ((laidWorld os).forCall (fun _ _=>0) ⟨#[],args,[]⟩).memory:=
 (LaidIn.of_run (l:=Rows.clusterRefusesRow.laid) [1,0] 8 (by kernel_rfl) (by kernel_rfl) (by kernel_rfl) (by kernel_rfl)).met
abbrev clusterRefuses_wits:Array Value:=#[Value.agg #[.int .i64 0,.int .i64 0,.int .i64 0,.int .i64 0,.int .i64 0,.int .i64 0,.string ⟨#[]⟩,.string ⟨#[]⟩,.bool false,.string ⟨#[]⟩,.int .i64 0,.int .i64 0,.int .i64 0,.string ⟨#[]⟩,.int .i64 0,.int .i64 0,.int .i64 0,.int .i64 0,.int .i64 0,.string ⟨#[]⟩,.slice none 0 0]]
set_option maxRecDepth 100000 in
theorem clusterRefuses_reads (os:Os) {H:Type} (enc:TypeId×Value→H) :
  (OpenSpec.ofChange Rows.clusterRefusesSpec).preRow enc Tryz.prog Tryz.f3 Rows.clusterRefusesRow.domain false Rows.clusterRefusesRow.laid ((laidWorld os).forCall (fun _ _=>0) ⟨#[],clusterRefuses_wits,[]⟩).memory clusterRefuses_wits:=by
 have hw:(DataW.whole enc Tryz.prog ((laidWorld os).forCall (fun _ _=>0) ⟨#[],clusterRefuses_wits,[]⟩).memory Tryz.f3.params.toList Rows.clusterRefusesSpec.vars false clusterRefuses_wits.toList 8).isSome=true:=by kernel_rfl
 obtain⟨⟨x1,x2,x3⟩,hx⟩:=Option.isSome_iff_exists.1 hw
 have hl:x1.length=1:=by
  have:=congrArg (Option.map fun x=>x.1.length) hx;have e:(DataW.whole enc Tryz.prog ((laidWorld os).forCall (fun _ _=>0) ⟨#[],clusterRefuses_wits,[]⟩).memory Tryz.f3.params.toList Rows.clusterRefusesSpec.vars false clusterRefuses_wits.toList 8).map (fun x=>x.1.length)=some 1:=by kernel_rfl
  rw[hx] at e;simpa using e
 exact OpenSpec.preRow_of_cond 8 hx (by kernel_rfl) (fun k hk=>by cases hk) (by kernel_rfl) (laid_met os _)
theorem clusterRefuses_lifted (os:Os) (started:os.Started) (H:Type) (enc:TypeId×Value→H) (F:Stop.Interp) :
  ReturnsInHanded {} Tryz.checked os 3 .any ((OpenSpec.ofChange Rows.clusterRefusesSpec).preRow enc Tryz.prog Tryz.f3 Rows.clusterRefusesRow.domain false Rows.clusterRefusesRow.laid) (((OpenSpec.ofChange Rows.clusterRefusesSpec).at F).post enc Tryz.prog Tryz.f3 false true false false):=by
 refine returnsInHanded_of_row (C:=Tryz.checked) (s:=OpenSpec.ofChange Rows.clusterRefusesSpec) own started (by kernel_rfl) Tryz.func3
  (witness_row_at (enc:=enc) (C:=Tryz.checked) false (laidWorld os) clusterRefuses_wits rfl (by kernel_rfl) (by kernel_rfl) (by kernel_rfl) (clusterRefuses_reads os enc)) ?_
 intro W base args ds gs before hval hW _ _ _ hL _ _
 have hT:=tabs_of hL
 exact lift (s:=Rows.clusterRefusesSpec) (conds:=[]) (cx:=cxU cluFm) (own:=ownOf (Sg.look cluTab) 588) (fid:=588) (ss:=[(true,tDStp)]) (tb:=4) (by kernel_rfl) (by kernel_rfl) (by kernel_rfl) laid rfl (by kernel_rfl) (by kernel_rfl)
  (fun ds h=>by
   have h2:Tryz.f3.params.toList.length=1:=by kernel_rfl
   rw[h2] at h
   match ds,h with
   |[d0],_=>rfl) clusterRefuses_ctr W (size_of hT) hT base args ds gs before hval hW
theorem clusterRefuses_said:Rows.ClusterRefusesSaid:=
 OpenClaim.holds_of_cond 3 Tryz.f3 rfl rfl rfl rfl rfl rfl rfl ⟨rfl,rfl,rfl,rfl,rfl⟩ rfl rfl rfl rfl rfl (by kernel_rfl) Tryz.func3 facts
  (of_decide_eq_true (by kernel_rfl)) (by unfold Func.isWrapper;first|(rw[if_pos (by decide +kernel)];kernel_rfl)|(rw[if_neg (by decide +kernel)];exact⟨rfl,rfl⟩))
  (fun os started H enc _ F=>by rw[OpenClaim.pre_eq_preRow];exact clusterRefuses_lifted os started H enc F)
theorem clusterRefuses_plain (f:FuncId) (fn:Func) (hf:Tryz.pinned.checked.prog.funcNamed "stratigraph/stratigraphlaw22.ClusterRefuses"=some f) (hfn:Tryz.pinned.checked.prog.funcs[f]?=some fn) :
  true=Tryz.pinned.checked.prog.looks []∧∀(j:Nat) t,fn.params[j]?=some t→Tryz.pinned.checked.prog.wantsStandIn t=false:=by
 obtain rfl:f=3:=Option.some.inj ((show Tryz.prog.funcNamed "stratigraph/stratigraphlaw22.ClusterRefuses"=some 3 by kernel_rfl).symm.trans hf) |>.symm
 obtain rfl:fn=Tryz.f3:=(Option.some.inj (Tryz.func3.symm.trans hfn)).symm
 refine⟨by kernel_rfl,fun j t ht=>?_⟩
 rw[Tryz.params3] at ht
 have hm:=Array.mem_of_getElem? ht
 simp only[List.mem_toArray,List.mem_cons,List.not_mem_nil,or_false] at hm
 obtain rfl:=hm
 exact (show Tryz.prog.wantsStandIn 30=false by kernel_rfl)
theorem clusterRefuses_holds:Rows.ClusterRefusesCardSaid:=
 Claim7.holds_tied_plain_at .later [] _ _ _ _ clusterRefuses_said (fun _ h=>by cases h) (by kernel_rfl) (fun _ h=>by cases h) clusterRefuses_row_tie rfl ⟨rfl,rfl⟩ (by kernel_rfl) rfl clusterRefuses_plain (by kernel_rfl)
end Go.Proofs.YtefmddahijpliaaGreatDoor
