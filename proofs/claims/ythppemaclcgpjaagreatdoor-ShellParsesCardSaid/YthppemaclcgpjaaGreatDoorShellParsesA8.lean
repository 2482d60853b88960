/- ShellParses, at every input: proved over a checked abstract run of the translated code; no condition. A part. -/
import Derived.Test.YthppemaclcgpjaaGreatDoorCards
import Derived.Test.YthppemaclcgpjaaGreatDoorTie
import Derived.ProofKit
import Derived.OpenShut
import Derived.Lib.LaidIn
import Derived.Lib.LaidTab
import Derived.Deep.DeepHandedRow
import Derived.Deep.DeepWitnessRowRef
import Derived.Test.YthppemaclcgpjaaGreatDoorRows
import Derived.Test.YthppemaclcgpjaaGreatDoorShellParsesA7
import Derived.Test.YthppemaclcgpjaaGreatDoorShellParsesJ
set_option linter.unusedSimpArgs false
set_option linter.unusedVariables false
set_option linter.constructorNameAsVariable false
set_option linter.defProp false
set_option maxRecDepth 100000
set_option maxHeartbeats 4000000
namespace Sg
open _root_.Go _root_.Go.Proofs
theorem t1648:H1648 (look (shlTab noQ)):=faL rfl (faL rfl (faL rfl (faL rfl (faL rfl (faL rfl (faL rfl (faL rfl (faL rfl (faL rfl (faL rfl (faL rfl (faL rfl (faL rfl (faL rfl (faL rfl (faL rfl (faL rfl (faL rfl (faL rfl (faL rfl (faL rfl (faL rfl (faL rfl (faL rfl (faL rfl (faL rfl (faL rfl (faL rfl (faL rfl (faL rfl (faL rfl (faL rfl (faL rfl (faL rfl (faL rfl (faL rfl (faL rfl (faL rfl (faL rfl (faL rfl (faL rfl (faL rfl (faL rfl (faL rfl (faL rfl (faL rfl (faL rfl (faL rfl (faL rfl (faL rfl (faL rfl (faL rfl (faL rfl (faL rfl (faL rfl (faL rfl (faL rfl (faL rfl (faL rfl (faL rfl (faL rfl (faL rfl (faL rfl (faL rfl (faL rfl (faL rfl (faL rfl (faL rfl (faL rfl (faL rfl (faL rfl (faL rfl (faL rfl (faL rfl (faL rfl (faL rfl (faL rfl (faL rfl (faL rfl (faL rfl (faL rfl (faL rfl (faL rfl (faL rfl (faL rfl (faL rfl (faL rfl (faL rfl (faL rfl (faL rfl (faL rfl (faL rfl (faL rfl (faL rfl (faL rfl (faL rfl (faL rfl (faL rfl (faL rfl (faL rfl (faL rfl (faL rfl (faL rfl (faL rfl (faL rfl (faL rfl (faL rfl (faL rfl (faL rfl (faL rfl (faL rfl (faL rfl (faL rfl (faL rfl (faL rfl (faL rfl (faL rfl (faL rfl (faL rfl (faL rfl (faL rfl (faL rfl (faL rfl (faL rfl (faL rfl (faL rfl (faL rfl (faL rfl (faL rfl (faL rfl (faL rfl (faL rfl (faL rfl (faL rfl (faL rfl (faL rfl (faL rfl (faL rfl (faL rfl (faL rfl (faL rfl (faL rfl (faL rfl (faL rfl (faL rfl (faL rfl (faL rfl (faL rfl (faL rfl (faL rfl (faL rfl (faL rfl (faL rfl (faL rfl (faL rfl (faL rfl (faL rfl (faL rfl (faL rfl (faL rfl (faL rfl (faL rfl (faL rfl (faL rfl (faL rfl (faL rfl (faL rfl (faL rfl (faL rfl (faL rfl (faL rfl (faL rfl (faL rfl (faL rfl (faL rfl (fun _ h=>by cases h))))))))))))))))))))))))))))))))))))))))))))))))))))))))))))))))))))))))))))))))))))))))))))))))))))))))))))))))))))))))))))))))))))))))))))))))))))))))))))))))))))))))))))))))
theorem t2648:H2648 (look (shlTab noQ)):=faL rfl (faL rfl (faL rfl (faL rfl (faL rfl (faL rfl (faL rfl (faL rfl (faL rfl (faL rfl (faL rfl (faL rfl (faL rfl (faL rfl (faL rfl (faL rfl (faL rfl (faL rfl (faL rfl (faL rfl (faL rfl (faL rfl (faL rfl (faL rfl (faL rfl (faL rfl (faL rfl (faL rfl (faL rfl (faL rfl (faL rfl (faL rfl (faL rfl (faL rfl (faL rfl (faL rfl (fun _ h=>by cases h))))))))))))))))))))))))))))))))))))
theorem t8648:H8648 (look (shlTab noQ)):=by repeat' first|exact rfl|exact t1648|exact t2648|apply And.intro
theorem t643:H643 (look (shlTab runQ)):=by repeat' first|exact rfl|exact t1648|exact t2648|apply And.intro
theorem all_ctr0 (q:List V→Option V) (hq:∀args r,q args=some r→Ctr Tryz.prog (cxU shlFm) none 648 args r) (f:Nat) (args:List V) (r:V) (h:K' (look (shlTab q)) f args=some r):Ctr Tryz.prog (cxU shlFm) (ownOf (look (shlTab q)) f) f args r:=by
 obtain⟨n,hn⟩:=K'_iff.1 h;refine tab_sound (by kernel_rfl) (okAll q) (fun f own p hp=>?_) (fun f z p hlt hp=>?_) (fun f z p hp=>?_) n f args r hn
 ·have hm:=look_mem hp;simp only[shlTab,shlT0,shlT1,shlT2,shlT3,shlT4,shlT5,shlT6,shlT7,shlT8,shlT9,shlT10,shlT11,shlT12,shlT13,shlT14,shlT15,shlT16,shlT17,shlT18,shlT19,shlT20,shlT21,List.mem_append,or_assoc,List.mem_cons,Prod.mk.injEq,reduceCtorEq,and_false,false_and,false_or,Fn.prim.injEq,Option.some.injEq,List.not_mem_nil,or_false] at hm;rcases hm with ⟨rfl,hz,rfl⟩|⟨rfl,hz,rfl⟩|⟨rfl,hz,rfl⟩|⟨rfl,hz,rfl⟩|⟨rfl,hz,rfl⟩|⟨rfl,hz,rfl⟩|⟨rfl,hz,rfl⟩|⟨rfl,hz,rfl⟩|⟨rfl,hz,rfl⟩|⟨rfl,hz,rfl⟩|⟨rfl,hz,rfl⟩|⟨rfl,hz,rfl⟩|⟨rfl,hz,rfl⟩|⟨rfl,hz,rfl⟩|⟨rfl,hz,rfl⟩|⟨rfl,hz,rfl⟩|⟨rfl,hz,rfl⟩|⟨rfl,hz,rfl⟩|⟨rfl,hz,rfl⟩|⟨rfl,hz,rfl⟩|⟨rfl,hz,rfl⟩|⟨rfl,hz,rfl⟩|⟨rfl,hz,rfl⟩|⟨rfl,hz,rfl⟩|⟨rfl,hz,rfl⟩|⟨rfl,hz,rfl⟩|⟨rfl,hz,rfl⟩|⟨rfl,hz,rfl⟩|⟨rfl,hz,rfl⟩|⟨rfl,hz,rfl⟩
  ·subst hz;exact hq
  ·subst hz;exact spltCt _ 649 rfl
  ·subst hz;exact trimCt _ 661 rfl
  ·subst hz;exact clone_ctr (zero:=[.int .i64 0,.str [],.str [],.int .i64 0,.bool false,.bool false,.int .i64 0,.slice 9 [],.slice 5 [],.slice 3 [],.int .i64 0,.slice 5 [],.slice 3 [],.int .i64 0,.int .i64 0,.int .i64 0,.int .i64 0,.int .i64 0,.int .i64 0,.int .i64 0,.int .i64 0,.int .i64 0,.int .i64 0,.int .i64 0,.str [],.slice 1 [],.int .i64 0,.int .i64 0,.int .i64 0,.str [],.str [],.slice 1 [],.int .i64 0,.int .i64 0,.int .i64 0,.slice 1 [],.slice 7 [],.bool false]) (by kernel_rfl) okClone597
  ·subst hz;exact clone_ctr (zero:=[.int .i64 0,.int .i64 0,.slice 5 [],.slice 1 [],.int .i64 0,.int .i64 0,.int .i64 0,.str [],.str [],.bool false,.str [],.int .i64 0,.int .i64 0,.int .i64 0,.str [],.int .i64 0,.bool false,.int .i64 0]) (by kernel_rfl) okClone598
  ·subst hz;exact clone_ctr (zero:=[.int .i64 0]) (by kernel_rfl) okClone69
  ·subst hz;exact clone_ctr (zero:=[.str []]) (by kernel_rfl) okClone380
  ·subst hz;exact itoaCt _ 662 rfl
  ·subst hz;exact showCt _ 673 rfl
  ·subst hz;exact joinCt _ 382 rfl
  ·subst hz;exact atoiCt _ 677 rfl
  ·intro args r h;simp[noQ] at h
  ·subst hz;exact decCt _ 190 rfl
  ·subst hz;exact idxCt _ 704 rfl
  ·subst hz;exact clone_ctr (zero:=[.str [],.str [],.int .i64 0,.int .i64 0,.int .i64 0]) (by kernel_rfl) okClone179
  ·subst hz;exact keyCt _ 170 rfl
  ·subst hz;exact clone_ctr (zero:=[.int .i64 0,.int .i64 0,.int .i64 0]) (by kernel_rfl) okClone373
  ·subst hz;exact clone_ctr (zero:=[.int .i64 0,.int .i64 0,.int .i64 0,.slice 1 [],.int .i64 0,.str [],.str [],.slice 1 [],.slice 36 []]) (by kernel_rfl) okClone497
  ·intro args r h;simp[noQ] at h
  ·subst hz;exact clone_ctr (zero:=[.int .i64 0,.int .i64 0,.str [],.str [],.int .i64 0,.slice 2 [],.int .i64 0,.int .i64 0,.int .i64 0,.int .i64 0,.int .i64 0,.int .i64 0,.slice 11 [],.int .i64 0,.int .i64 0,.int .i64 0,.int .i64 0]) (by kernel_rfl) okClone307
  ·intro args r h;simp[noQ] at h
  ·intro args r h;simp[noQ] at h
  ·subst hz;exact clone_ctr (zero:=[.int .i64 0,.int .i64 0,.int .i64 0,.int .i64 0,.int .i64 0,.int .i64 0,.bool false,.str [],.slice 2 [],.str [],.bool false]) (by kernel_rfl) okClone102
  ·intro args r h;simp[noQ] at h
  ·subst hz;exact clone_ctr (zero:=[.int .i64 0,.int .i64 0,.int .i64 0,.bool false,.str []]) (by kernel_rfl) okClone23
  ·subst hz;exact clone_ctr (zero:=[.str [],.slice 5 []]) (by kernel_rfl) okClone227
  ·intro args r h;simp[noQ] at h
  ·intro args r h;simp[noQ] at h
  ·intro args r h;simp[noQ] at h
  ·intro args r h;simp[noQ] at h
 ·have hm:=look_mem hp;simp only[shlTab,shlT0,shlT1,shlT2,shlT3,shlT4,shlT5,shlT6,shlT7,shlT8,shlT9,shlT10,shlT11,shlT12,shlT13,shlT14,shlT15,shlT16,shlT17,shlT18,shlT19,shlT20,shlT21,List.mem_append,or_assoc,List.mem_cons,Prod.mk.injEq,reduceCtorEq,and_false,false_and,false_or,Fn.prim.injEq,Option.some.injEq,List.not_mem_nil,or_false] at hm;rcases hm with ⟨rfl,hz,rfl⟩|⟨rfl,hz,rfl⟩|⟨rfl,hz,rfl⟩|⟨rfl,hz,rfl⟩|⟨rfl,hz,rfl⟩|⟨rfl,hz,rfl⟩|⟨rfl,hz,rfl⟩|⟨rfl,hz,rfl⟩|⟨rfl,hz,rfl⟩|⟨rfl,hz,rfl⟩|⟨rfl,hz,rfl⟩|⟨rfl,hz,rfl⟩|⟨rfl,hz,rfl⟩|⟨rfl,hz,rfl⟩|⟨rfl,hz,rfl⟩|⟨rfl,hz,rfl⟩|⟨rfl,hz,rfl⟩|⟨rfl,hz,rfl⟩|⟨rfl,hz,rfl⟩|⟨rfl,hz,rfl⟩
  ·omega
  ·omega
  ·omega
  ·omega
  ·omega
  ·omega
  ·omega
  ·omega
  ·obtain rfl:z=9:=by omega
   exact⟨_,_,insC405⟩
  ·omega
  ·obtain rfl:z=17:=by omega
   exact⟨_,_,insC437⟩
  ·obtain rfl:z=2:=by omega
   exact⟨_,_,insC446⟩
  ·omega
  ·obtain rfl:z=11:=by omega
   exact⟨_,_,insC448⟩
  ·omega
  ·omega
  ·omega
  ·omega
  ·omega
  ·omega
 ·have hm:=look_mem hp;simp only[shlTab,shlT0,shlT1,shlT2,shlT3,shlT4,shlT5,shlT6,shlT7,shlT8,shlT9,shlT10,shlT11,shlT12,shlT13,shlT14,shlT15,shlT16,shlT17,shlT18,shlT19,shlT20,shlT21,List.mem_append,or_assoc,List.mem_cons,Prod.mk.injEq,reduceCtorEq,and_false,false_and,false_or,Fn.prim.injEq,Option.some.injEq,List.not_mem_nil,or_false] at hm;rcases hm with ⟨rfl,hz,rfl⟩|⟨rfl,hz,rfl⟩|⟨rfl,hz,rfl⟩|⟨rfl,hz,rfl⟩|⟨rfl,hz,rfl⟩|⟨rfl,hz,rfl⟩|⟨rfl,hz,rfl⟩|⟨rfl,hz,rfl⟩|⟨rfl,hz,rfl⟩|⟨rfl,hz,rfl⟩|⟨rfl,hz,rfl⟩|⟨rfl,hz,rfl⟩|⟨rfl,hz,rfl⟩|⟨rfl,hz,rfl⟩|⟨rfl,hz,rfl⟩|⟨rfl,hz,rfl⟩|⟨rfl,hz,rfl⟩|⟨rfl,hz,rfl⟩|⟨rfl,hz,rfl⟩|⟨rfl,hz,rfl⟩
  ·omega
  ·omega
  ·omega
  ·omega
  ·obtain rfl:z=1:=by omega
   exact delC78
  ·omega
  ·omega
  ·omega
  ·omega
  ·omega
  ·omega
  ·omega
  ·omega
  ·omega
  ·omega
  ·omega
  ·omega
  ·omega
  ·omega
  ·omega
theorem all_ctr (f:Nat) (args:List V) (r:V) (h:K' (look (shlTab runQ)) f args=some r):Ctr Tryz.prog (cxU shlFm) (ownOf (look (shlTab runQ)) f) f args r:=
 all_ctr0 runQ (runCt _ rfl (fun n f args r h=>all_ctr0 noQ (fun _ _ h=>by simp[noQ] at h) f args r (K'_iff.2 ⟨n,h⟩)) t8648 (fun f hf=>by
  simp only[List.mem_cons,List.not_mem_nil,or_false] at hf;rcases hf with rfl|rfl|rfl|rfl|rfl|rfl|rfl<;>kernel_rfl) okRun) f args r h
end Sg
namespace Go.Proofs.YthppemaclcgpjaaGreatDoor
open Sg Go.RowKit
set_option maxRecDepth 100000
theorem own:ownKnob Tryz.prog.godebug=none:=by kernel_rfl
theorem laid:laidOutB Tryz.prog=true:=by kernel_rfl
theorem shellParses_ctr (xs:List V) (h:ArgsV [(false,[.str])] xs):Ctr Tryz.prog (cxU shlFm) (ownOf (Sg.look (shlTab runQ)) 643) 643 xs (.bool true):=by
 match xs,h with
 |[x0],h=>
  obtain⟨h0,-⟩:=h;obtain⟨a0,rfl,l0⟩:=arg_str h0;exact all_ctr _ _ _ (K643 t643 a0)
noncomputable def laidWorld (os:Os):World:=
 let w0:=World.holding Tryz.prog os ⟨#[],#[],[]⟩
 let put (h:Array Obj) (g:Nat) (cs:Array Value):Array Obj:=h.modify g fun
  |.cells _ t frozen=>.cells cs t frozen
  |o=>o
 let n:=w0.heap.size
 let h1:=put w0.heap 2 (Lib.firstTab.map fun z=>Value.int .u8 z).toArray
 let h2:=put h1 3 ((List.range 16).flatMap fun i=>[Value.int .u8 (Lib.accLo i),Value.int .u8 (Lib.accHi i)]).toArray
 let h3:=put h2 1 (Lib.pow10Tab.map fun z=>Value.int .u64 z).toArray
 let h4:=put h3 4 #[.iface 362 (.pointer (some ⟨n,0,none⟩))]
 let h5:=put h4 5 #[.iface 362 (.pointer (some ⟨n+1,0,none⟩))]
 let h6:=put h5 6 ([0,1,28,2,29,14,24,3,30,22,20,15,25,17,4,8,31,27,13,23,21,19,16,7,26,12,18,6,11,5,10,9].map fun z=>Value.int .u8 z).toArray
 let h7:=put h6 7 ([0,1,56,2,57,49,28,3,61,58,42,50,38,29,17,4,62,47,59,36,45,43,51,22,53,39,33,30,24,18,12,5,63,55,48,27,60,41,37,16,46,35,44,21,52,32,23,11,54,26,40,15,34,20,31,10,25,14,19,9,13,8,7,6].map fun z=>Value.int .u8 z).toArray
 {w0 with heap:=(h7.push (.cells #[.string ⟨#[105,110,118,97,108,105,100,32,115,121,110,116,97,120]⟩] 364 (0,0))).push (.cells #[.string ⟨#[118,97,108,117,101,32,111,117,116,32,111,102,32,114,97,110,103,101]⟩] 364 (0,0))}
theorem err_cell {W:World} {n:String} {g:Nat} {nm:String} {d:DataW Unit} (hg:Tryz.prog.globalNamed n=some g) (hty:(Tryz.prog.globals[g]?).map (·.type)=some 75) (h:Lib.VarReads Tryz.prog W n (.iface nm d)):∃te pe,W.cell? ⟨g,0,none⟩=some (.iface te pe):=by
 obtain⟨g',t,cs,fuel,p,hg',ht',hvar,hd⟩:=h;obtain rfl:=Option.some.inj (hg.symm.trans hg');obtain rfl:=Option.some.inj (hty.symm.trans ht');obtain⟨_,u,v,hcs,_,_⟩:=iface_of_trod Tryz.underlying75 hd;have:=World.var?_cell hg hvar 0;refine⟨u,v,this.trans ?_⟩;rw[←Array.getElem?_toList,hcs];rfl
theorem tabs_of {W:World} (hL:laidMetH Tryz.prog Rows.shellParsesRow.laid W) (hS:W.ShapedOpen Tryz.prog):GS W:=by
 refine⟨utf8Tabs_of_reads (ρ:=renU) {lays197 with} ⟨by kernel_rfl,by kernel_rfl,by kernel_rfl,by kernel_rfl,by kernel_rfl,by kernel_rfl,by kernel_rfl⟩
  ((show Go.Pinned.utf8First=Lib.firstData by kernel_rfl)▸Lib.laidMet.reads hL (.tail _ (.tail _ (.tail _ (.tail _ (.tail _ (.tail _ (.head _)))))))) ((show Rows.laid_unicode_utf8_acceptRanges=Lib.acceptData by kernel_rfl)▸Lib.laidMet.reads hL (.tail _ (.tail _ (.tail _ (.head _))))),?_,maxlen_ok W hS,
  err_cell (by kernel_rfl) (by kernel_rfl) (Lib.laidMet.reads hL (.tail _ (.tail _ (.tail _ (.tail _ (.tail _ (.head _))))))),err_cell (by kernel_rfl) (by kernel_rfl) (Lib.laidMet.reads hL (.tail _ (.tail _ (.tail _ (.tail _ (.head _))))))⟩
 have h:Lib.VarReads Tryz.prog W "internal/strconv.uint64pow10" (Lib.tabData .u64 Lib.pow10Tab):=(show Rows.laid_internal_strconv_uint64pow10=Lib.tabData .u64 Lib.pow10Tab by kernel_rfl)▸Lib.laidMet.reads hL (.tail _ (.tail _ (.head _)))
 obtain⟨g',t,cs,fuel,p,hg',ht',hvar,hd⟩:=h;obtain rfl:=Option.some.inj ((show Tryz.prog.globalNamed "internal/strconv.uint64pow10"=some 1 by kernel_rfl).symm.trans hg')
 obtain rfl:=Option.some.inj ((show (Tryz.prog.globals[1]?).map (·.type)=some 309 by kernel_rfl).symm.trans ht');unfold Lib.TabIs;rw[hvar,←Lib.cells_of_tab Tryz.underlying309 Tryz.underlying234 (by kernel_rfl) (by kernel_rfl) hd]
theorem size_of {W:World} (h:GS W):6≤W.heap.size:=by
 obtain⟨_,_,_,_,te,pe,e⟩:=h;rcases Nat.lt_or_ge 5 W.heap.size with h|h
 ·exact h
 ·simp[World.cell?,Array.getElem?_eq_none h] at e
theorem laid_met (os:Os) (args:Array Value):laidMet Tryz.prog Rows.shellParsesRow.laid ((laidWorld os).forCall (fun _ _=>0) ⟨#[],args,[]⟩).memory:=
 (LaidIn.of_run (l:=Rows.shellParsesRow.laid) [0,1,2,3,4,5,6,7,8,9,10,11,12,13,14,15,16,17,18,19,20,21,22,23,24,25,26,27,28,29,30,31,32,33,34,35,36,37,38,39,40,41,42,43,44,45,46,47,48,49,50,51,52,53,54,55,56,57,58,59,60,61,62,63] 8 (by kernel_rfl) (by kernel_rfl) (by kernel_rfl) (by kernel_rfl)).met
abbrev shellParses_wits:Array Value:=#[Value.string ⟨#[]⟩]
set_option maxRecDepth 100000 in
theorem shellParses_reads (os:Os) {H:Type} (enc:TypeId×Value→H) :
  (OpenSpec.ofChange Rows.shellParsesSpec).preRow enc Tryz.prog Tryz.f3 Rows.shellParsesRow.domain false Rows.shellParsesRow.laid ((laidWorld os).forCall (fun _ _=>0) ⟨#[],shellParses_wits,[]⟩).memory shellParses_wits:=by
 have hw:(DataW.whole enc Tryz.prog ((laidWorld os).forCall (fun _ _=>0) ⟨#[],shellParses_wits,[]⟩).memory Tryz.f3.params.toList Rows.shellParsesSpec.vars false shellParses_wits.toList 8).isSome=true:=by kernel_rfl
 obtain⟨⟨x1,x2,x3⟩,hx⟩:=Option.isSome_iff_exists.1 hw
 have hl:x1.length=1:=by
  have:=congrArg (Option.map fun x=>x.1.length) hx;have e:(DataW.whole enc Tryz.prog ((laidWorld os).forCall (fun _ _=>0) ⟨#[],shellParses_wits,[]⟩).memory Tryz.f3.params.toList Rows.shellParsesSpec.vars false shellParses_wits.toList 8).map (fun x=>x.1.length)=some 1:=by kernel_rfl
  rw[hx] at e;simpa using e
 exact OpenSpec.preRow_of_cond 8 hx (by kernel_rfl) (fun k hk=>by cases hk) (by kernel_rfl) (laid_met os _)
theorem shellParses_lifted (os:Os) (started:os.Started) (H:Type) (enc:TypeId×Value→H) (F:Stop.Interp) :
  ReturnsInHanded {} Tryz.checked os 3 .any ((OpenSpec.ofChange Rows.shellParsesSpec).preRow enc Tryz.prog Tryz.f3 Rows.shellParsesRow.domain false Rows.shellParsesRow.laid) (((OpenSpec.ofChange Rows.shellParsesSpec).at F).post enc Tryz.prog Tryz.f3 false true false false):=by
 refine returnsInHanded_of_row (C:=Tryz.checked) (s:=OpenSpec.ofChange Rows.shellParsesSpec) own started (by kernel_rfl) Tryz.func3
  (witness_row_atRef (enc:=enc) (C:=Tryz.checked) false (laidWorld os) shellParses_wits rfl (by kernel_rfl) (by kernel_rfl) (by kernel_rfl) (shellParses_reads os enc)) ?_
 intro W base args ds gs before hval hW _ _ _ hL hS _
 have hT:=tabs_of hL hS
 exact lift (s:=Rows.shellParsesSpec) (conds:=[]) (cx:=cxU shlFm) (own:=ownOf (Sg.look (shlTab runQ)) 643) (fid:=643) (ss:=[(false,[.str])]) (tb:=4) (by kernel_rfl) (by kernel_rfl) (by kernel_rfl) laid rfl (by kernel_rfl) (by kernel_rfl)
  (fun ds h=>by
   have h2:Tryz.f3.params.toList.length=1:=by kernel_rfl
   rw[h2] at h
   match ds,h with
   |[d0],_=>rfl) shellParses_ctr W (size_of hT) hT base args ds gs before hval hW
theorem shellParses_said:Rows.ShellParsesSaid:=
 OpenClaim.holds_of_cond 3 Tryz.f3 rfl rfl rfl rfl rfl rfl rfl ⟨rfl,rfl,rfl,rfl,rfl⟩ rfl rfl rfl rfl rfl (by kernel_rfl) Tryz.func3 facts
  (of_decide_eq_true (by kernel_rfl)) (by unfold Func.isWrapper;first|(rw[if_pos (by decide +kernel)];kernel_rfl)|(rw[if_neg (by decide +kernel)];exact⟨rfl,rfl⟩))
  (fun os started H enc _ F=>by rw[OpenClaim.pre_eq_preRow];exact shellParses_lifted os started H enc F)
end Go.Proofs.YthppemaclcgpjaaGreatDoor
