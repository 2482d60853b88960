/- NodeStores, wherever what it reads is of bulk at most 1048576: proved over a checked abstract run of the translated code; no condition but that. A part. -/
import Derived.Test.YtcdejnpngkeknaaGreatDoorCards
import Derived.Test.YtcdejnpngkeknaaGreatDoorTie
import Derived.ProofKit
import Derived.OpenShut
import Derived.Lib.LaidIn
import Derived.Lib.LaidTab
import Derived.Deep.DeepHandedRow
import Derived.Deep.DeepWitnessRowRef
import Derived.Test.YtcdejnpngkeknaaGreatDoorRows
import Derived.Test.YtcdejnpngkeknaaGreatDoorNodeStoresA7
import Derived.Test.YtcdejnpngkeknaaGreatDoorNodeStoresJ
set_option linter.unusedSimpArgs false
set_option linter.unusedVariables false
set_option linter.constructorNameAsVariable false
set_option linter.defProp false
set_option maxRecDepth 100000
namespace Sg
open _root_.Go _root_.Go.Proofs
def t8510:jQ (look nodeTab):=aN rfl (aN rfl (aN rfl (aN rfl (aN rfl (aN rfl (aN rfl (aN rfl (aN rfl (aN rfl (aN rfl (aN rfl (aN rfl (aN rfl (aN rfl (aN rfl (aN rfl (aN rfl (aN rfl (aN rfl (aN rfl (aN rfl (aN rfl (aN rfl (aN rfl (aN rfl (aN rfl (aN rfl (aN rfl (aN rfl (aN rfl (aN rfl (aN rfl (aN rfl (aN rfl (aN rfl (aN rfl (aN rfl (aN rfl (aN rfl (aN rfl (aN rfl (aN rfl (aN rfl (aN rfl (aN rfl (aN rfl (aN rfl (aN rfl (aN rfl (aN rfl (aN rfl (aN rfl (aN rfl (aN rfl (aN rfl (aN rfl (aN rfl (aN rfl (aN rfl (aN rfl (aN rfl (aN rfl (aN rfl (aN rfl (aN rfl (aN rfl (aN rfl (aN rfl (aN rfl (aN rfl (aN rfl (aN rfl (aN rfl (aN rfl (aN rfl (aN rfl (aN rfl (aN rfl (aN rfl (aN rfl (aN rfl (aN rfl (aN rfl (aN rfl (aN rfl (aN rfl (aN rfl (aN rfl (aN rfl (aN rfl (aN rfl (aN rfl (aN rfl (aN rfl (aN rfl (aN rfl (aN rfl (aN rfl (aN rfl (aN rfl (aN rfl (aN rfl (aN rfl (aN rfl (aN rfl (aN rfl (aN rfl (aN rfl (aN rfl (aN rfl (aN rfl (aN rfl (aN rfl (aN rfl (aN rfl (aN rfl (aN rfl (aN rfl (aN rfl (aN rfl (aN rfl (aN rfl (aN rfl (aN rfl (aN rfl (aN rfl (aN rfl (aN rfl (aN rfl (aN rfl (aN rfl (aN rfl (aN rfl (aN rfl (aN rfl (aN rfl (aN rfl (aN rfl (aN rfl (aN rfl (aN rfl (aN rfl (aN rfl (aN rfl (aN rfl (aN rfl (aN rfl (aN rfl (aN rfl (aN rfl (aN rfl (aN rfl (aN rfl (fun _ h=>by cases h))))))))))))))))))))))))))))))))))))))))))))))))))))))))))))))))))))))))))))))))))))))))))))))))))))))))))))))))))))))))))))))))))))))))))))))))))))))))))
def t508:rq (look nodeTab):=by repeat' first|exact rfl|exact t8510|apply And.intro
def all_ctr (f:Nat) (args:List V) (r:V) (h:K' (look nodeTab) f args=some r):gi Tryz.prog (cxU nodeFm) (aL (look nodeTab) f) f args r:=by
 obtain⟨n,hn⟩:=dO.1 h;refine jo (by kernel_rfl) okAll (fun f own p hp=>?_) (fun f z p hlt hp=>?_) (fun f z p hp=>?_) n f args r hn
 ·have hm:=dq hp;simp only[nodeTab,nodeT0,nodeT1,nodeT2,nodeT3,nodeT4,nodeT5,nodeT6,nodeT7,nodeT8,nodeT9,nodeT10,nodeT11,nodeT12,nodeT13,nodeT14,nodeT15,nodeT16,nodeT17,nodeT18,nodeT19,List.mem_append,or_assoc,List.mem_cons,Prod.mk.injEq,reduceCtorEq,and_false,false_and,false_or,Fn.prim.injEq,Option.some.injEq,List.not_mem_nil,or_false] at hm;rcases hm with ⟨rfl,hz,rfl⟩|⟨rfl,hz,rfl⟩|⟨rfl,hz,rfl⟩|⟨rfl,hz,rfl⟩|⟨rfl,hz,rfl⟩|⟨rfl,hz,rfl⟩|⟨rfl,hz,rfl⟩|⟨rfl,hz,rfl⟩|⟨rfl,hz,rfl⟩|⟨rfl,hz,rfl⟩|⟨rfl,hz,rfl⟩|⟨rfl,hz,rfl⟩
  ·subst hz;exact dp (zero:=[.int .i64 0]) (by kernel_rfl) okClone69
  ·subst hz;exact keyCt _ 170 rfl
  ·subst hz;exact dp (zero:=[.int .i64 0,.int .i64 0,.int .i64 0,.slice 1 [],.int .i64 0,.str [],.str [],.slice 1 [],.slice 36 []]) (by kernel_rfl) okClone497
  ·intro args r h;simp[noQ] at h
  ·subst hz;exact dp (zero:=[.int .i64 0,.int .i64 0,.str [],.str [],.int .i64 0,.slice 2 [],.int .i64 0,.int .i64 0,.int .i64 0,.int .i64 0,.int .i64 0,.int .i64 0,.slice 11 [],.int .i64 0,.int .i64 0,.int .i64 0,.int .i64 0]) (by kernel_rfl) okClone307
  ·subst hz;exact decCt _ 190 rfl
  ·intro args r h;simp[noQ] at h
  ·intro args r h;simp[noQ] at h
  ·subst hz;exact dp (zero:=[.int .i64 0,.int .i64 0,.int .i64 0,.int .i64 0,.int .i64 0,.int .i64 0,.bool false,.str [],.slice 2 [],.str [],.bool false]) (by kernel_rfl) okClone102
  ·intro args r h;simp[noQ] at h
  ·subst hz;exact dp (zero:=[.int .i64 0,.int .i64 0,.int .i64 0,.bool false,.str []]) (by kernel_rfl) okClone23
  ·subst hz;exact dp (zero:=[.str [],.slice 5 []]) (by kernel_rfl) okClone227
 ·have hm:=dq hp;simp only[nodeTab,nodeT0,nodeT1,nodeT2,nodeT3,nodeT4,nodeT5,nodeT6,nodeT7,nodeT8,nodeT9,nodeT10,nodeT11,nodeT12,nodeT13,nodeT14,nodeT15,nodeT16,nodeT17,nodeT18,nodeT19,List.mem_append,or_assoc,List.mem_cons,Prod.mk.injEq,reduceCtorEq,and_false,false_and,false_or,Fn.prim.injEq,Option.some.injEq,List.not_mem_nil,or_false] at hm;rcases hm with ⟨rfl,hz,rfl⟩|⟨rfl,hz,rfl⟩|⟨rfl,hz,rfl⟩|⟨rfl,hz,rfl⟩|⟨rfl,hz,rfl⟩|⟨rfl,hz,rfl⟩|⟨rfl,hz,rfl⟩|⟨rfl,hz,rfl⟩|⟨rfl,hz,rfl⟩|⟨rfl,hz,rfl⟩
  ·omega
  ·omega
  ·obtain rfl:z=9:=by omega
   exact⟨_,_,insC352⟩
  ·omega
  ·obtain rfl:z=17:=by omega
   exact⟨_,_,insC386⟩
  ·obtain rfl:z=2:=by omega
   exact⟨_,_,insC395⟩
  ·omega
  ·obtain rfl:z=11:=by omega
   exact⟨_,_,insC397⟩
  ·omega
  ·omega
 ·have hm:=dq hp;simp only[nodeTab,nodeT0,nodeT1,nodeT2,nodeT3,nodeT4,nodeT5,nodeT6,nodeT7,nodeT8,nodeT9,nodeT10,nodeT11,nodeT12,nodeT13,nodeT14,nodeT15,nodeT16,nodeT17,nodeT18,nodeT19,List.mem_append,or_assoc,List.mem_cons,Prod.mk.injEq,reduceCtorEq,and_false,false_and,false_or,Fn.prim.injEq,Option.some.injEq,List.not_mem_nil,or_false] at hm;rcases hm with ⟨rfl,hz,rfl⟩|⟨rfl,hz,rfl⟩|⟨rfl,hz,rfl⟩|⟨rfl,hz,rfl⟩|⟨rfl,hz,rfl⟩|⟨rfl,hz,rfl⟩|⟨rfl,hz,rfl⟩|⟨rfl,hz,rfl⟩|⟨rfl,hz,rfl⟩|⟨rfl,hz,rfl⟩
  ·omega
  ·omega
  ·omega
  ·omega
  ·omega
  ·omega
  ·omega
  ·omega
  ·omega
  ·omega
end Sg
namespace Go.Proofs.YtcdejnpngkeknaaGreatDoor
open Sg Go.RowKit
set_option maxRecDepth 100000
def own:ownKnob Tryz.prog.godebug=none:=by kernel_rfl
def laid:laidOutB Tryz.prog=true:=by kernel_rfl
def nodeStores_ctr (xs:List V) (h:fT 1048576 [(true,iQ)] xs) (hf:∀x∈xs,ij 1048576 x):gi Tryz.prog (cxU nodeFm) (aL (Sg.look nodeTab) 508) 508 xs (.bool true):=by
 match xs,h,hf with
 |[x0],h,hf=>
  obtain⟨h0,-⟩:=h;obtain⟨a0,rfl,c0⟩:=jf h0;exact all_ctr _ _ _ (ym t508 a0 (tX (hf _ (List.mem_cons_self ..))))
def bulk_one {H:Type} (x:DataW H):1<=Rows.uptoBulk x:=by
 cases x with
 |lit l=>cases l<;>simp[Rows.uptoBulk]
 |nil=>simp[Rows.uptoBulk]
 |ptr _=>simp[Rows.uptoBulk]
 |slice _ _=>simp[Rows.uptoBulk]
 |agg _=>simp[Rows.uptoBulk]
 |iface _ _=>simp[Rows.uptoBulk]
 |map _=>simp[Rows.uptoBulk]
 |held _=>simp[Rows.uptoBulk]
def bulk_ok {H:Type}:BK (H:=H) Rows.uptoBulk Rows.uptoBulkAll where
 str b:=by simp[Rows.uptoBulk]
 slice e s:=by simp[Rows.uptoBulk]
 agg p:=by simp[Rows.uptoBulk]
 cons d l:=by simp[Rows.uptoBulkAll]
 one d:=bulk_one d
def fit_of {H:Type} {l:List (DataW H)} (h:Rows.uptoSmall H l=true):∀d∈l,kW 1048576 Rows.uptoBulk Rows.uptoBulkAll d:=fun _ hd=>
 .inr ⟨bulk_ok,Nat.le_trans (bulk_ok.part hd) (of_decide_eq_true h)⟩
noncomputable def laidWorld (os:Os):World:=
 let w0:=World.holding Tryz.prog os ⟨#[],#[],[]⟩
 let put (h:Array Obj) (g:Nat) (cs:Array Value):Array Obj:=h.modify g fun
  |.cells _ t frozen=>.cells cs t frozen
  |o=>o
 let h1:=put w0.heap 0 (Lib.firstTab.map fun z=>Value.int .u8 z).toArray
 let h2:=put h1 1 ((List.range 16).flatMap fun i=>[Value.int .u8 (Lib.accLo i),Value.int .u8 (Lib.accHi i)]).toArray
 {w0 with heap:=h2}
def tabs_of {W:World} (hL:laidMetH Tryz.prog Rows.nodeStoresUptoRow.laid W):Lib.Utf8Tabs 0 1 W:=
 utf8Tabs_of_reads (ρ:=renU) {lays197 with} ⟨by kernel_rfl,by kernel_rfl,by kernel_rfl,by kernel_rfl,by kernel_rfl,by kernel_rfl,by kernel_rfl⟩
  ((show Go.Pinned.utf8First=Lib.firstData by kernel_rfl)▸Lib.laidMet.reads hL (.tail _ (.head _))) ((show Rows.laid_unicode_utf8_acceptRanges=Lib.acceptData by kernel_rfl)▸Lib.laidMet.reads hL (.head _))
def size_of {W:World} (h:Lib.Utf8Tabs 0 1 W):2<=W.heap.size:=by
 have lt:∀g o v,W.cell? ⟨g,o,none⟩=some v->g<W.heap.size:=fun g o v e=>by
  rcases Nat.lt_or_ge g W.heap.size with h|h
  ·exact h
  ·simp[World.cell?,Array.getElem?_eq_none h] at e
 have h1:=lt _ _ _ (h.1 0 (by decide));have h2:=lt _ _ _ (h.2 0 (by decide)).1;omega
def laid_met (os:Os) (args:Array Value):laidMet Tryz.prog Rows.nodeStoresUptoRow.laid ((laidWorld os).forCall (fun _ _=>0) ⟨#[],args,[]⟩).memory:=
 (LaidIn.of_run (l:=Rows.nodeStoresUptoRow.laid) [1,0] 8 (by kernel_rfl) (by kernel_rfl) (by kernel_rfl) (by kernel_rfl)).met
abbrev nodeStores_wits:Array Value:=#[Value.agg #[.int .i64 0,.slice none 0 0]]
set_option maxRecDepth 100000 in
theorem nodeStores_reads (os:Os) {H:Type} (enc:TypeId×Value->H) :
  (Rows.OpenSpec.upto Rows.nodeStoresSpec).preRow enc Tryz.prog Tryz.f3 Rows.nodeStoresUptoRow.domain false Rows.nodeStoresUptoRow.laid ((laidWorld os).forCall (fun _ _=>0) ⟨#[],nodeStores_wits,[]⟩).memory nodeStores_wits:=by
 have hw:(DataW.whole enc Tryz.prog ((laidWorld os).forCall (fun _ _=>0) ⟨#[],nodeStores_wits,[]⟩).memory Tryz.f3.params.toList Rows.nodeStoresSpec.vars false nodeStores_wits.toList 8).isSome=true:=by kernel_rfl
 obtain⟨⟨x1,x2,x3⟩,hx⟩:=Option.isSome_iff_exists.1 hw
 have hl:x1.length=1:=by
  have:=congrArg (Option.map fun x=>x.1.length) hx;have e:(DataW.whole enc Tryz.prog ((laidWorld os).forCall (fun _ _=>0) ⟨#[],nodeStores_wits,[]⟩).memory Tryz.f3.params.toList Rows.nodeStoresSpec.vars false nodeStores_wits.toList 8).map (fun x=>x.1.length)=some 1:=by kernel_rfl
  rw[hx] at e;simpa using e
 have e2:(DataW.whole enc Tryz.prog ((laidWorld os).forCall (fun _ _=>0) ⟨#[],nodeStores_wits,[]⟩).memory Tryz.f3.params.toList Rows.nodeStoresSpec.vars false nodeStores_wits.toList 8).map (fun x=>Rows.uptoSmall H (x.1++x.2.1))=some true:=by kernel_rfl
 rw[hx] at e2
 have hs:Rows.uptoSmall H (x1++x2)=true:=by simpa using e2
 exact OpenSpec.preRow_of_cond 8 hx (by kernel_rfl) (fun k hk=>by cases hk;exact hs) (by kernel_rfl) (laid_met os _)
def nodeStores_lifted (os:Os) (started:os.Started) (H:Type) (enc:TypeId×Value->H) (F:Stop.Interp) :
  ReturnsInHanded {} Tryz.checked os 3 .any ((Rows.OpenSpec.upto Rows.nodeStoresSpec).preRow enc Tryz.prog Tryz.f3 Rows.nodeStoresUptoRow.domain false Rows.nodeStoresUptoRow.laid) (((Rows.OpenSpec.upto Rows.nodeStoresSpec).at F).post enc Tryz.prog Tryz.f3 false true false false):=by
 refine returnsInHanded_of_row (C:=Tryz.checked) (s:=Rows.OpenSpec.upto Rows.nodeStoresSpec) own started (by kernel_rfl) Tryz.func3
  (witness_row_at (enc:=enc) (C:=Tryz.checked) false (laidWorld os) nodeStores_wits rfl (by kernel_rfl) (by kernel_rfl) (by kernel_rfl) (nodeStores_reads os enc)) ?_
 intro W base args ds gs cA hval hW _ hcond _ hL _ _
 have hT:=tabs_of hL
 exact ud (N:=1048576) (bk:=Rows.uptoBulk) (bkA:=Rows.uptoBulkAll) (s:=Rows.nodeStoresSpec) (conds:=[]) (cx:=cxU nodeFm) (own:=aL (Sg.look nodeTab) 508) (fid:=508) (ss:=[(true,iQ)]) (tb:=4) (by kernel_rfl) (by kernel_rfl) (by kernel_rfl) laid rfl (by kernel_rfl) (by kernel_rfl)
  (fun ds h=>by
   have h2:Tryz.f3.params.toList.length=1:=by kernel_rfl
   rw[h2] at h
   match ds,h with
   |[d0],_=>rfl) nodeStores_ctr W (size_of hT) hT base args ds gs cA hval hW (fun d hd=>fit_of (hcond _ rfl) d (List.mem_append_left _ hd))
def nodeStores_said:Rows.NodeStoresUptoSaid:=
 OpenClaim.holds_of_cond 3 Tryz.f3 rfl rfl rfl rfl rfl rfl rfl ⟨rfl,rfl,rfl,rfl,rfl⟩ rfl rfl rfl rfl rfl (by kernel_rfl) Tryz.func3 facts
  (of_decide_eq_true (by kernel_rfl)) (by unfold Func.isWrapper;first|(rw[if_pos (by decide +kernel)];kernel_rfl)|(rw[if_neg (by decide +kernel)];exact⟨rfl,rfl⟩))
  (fun os started H enc _ F=>by rw[OpenClaim.pre_eq_preRow];exact nodeStores_lifted os started H enc F)
def nodeStores_plain (f:FuncId) (fn:Func) (hf:Tryz.pinned.checked.prog.funcNamed "stratigraph/stratigraphlaw21.NodeStores"=some f) (hfn:Tryz.pinned.checked.prog.funcs[f]?=some fn) :
  true=Tryz.pinned.checked.prog.looks []/\∀(j:Nat) t,fn.params[j]?=some t->Tryz.pinned.checked.prog.wantsStandIn t=false:=by
 obtain rfl:f=3:=Option.some.inj ((show Tryz.prog.funcNamed "stratigraph/stratigraphlaw21.NodeStores"=some 3 by kernel_rfl).symm.trans hf) |>.symm
 obtain rfl:fn=Tryz.f3:=(Option.some.inj (Tryz.func3.symm.trans hfn)).symm
 refine⟨by kernel_rfl,fun j t ht=>?_⟩
 rw[Tryz.params3] at ht
 have hm:=Array.mem_of_getElem? ht
 simp only[List.mem_toArray,List.mem_cons,List.not_mem_nil,or_false] at hm
 obtain rfl:=hm
 exact (show Tryz.prog.wantsStandIn 24=false by kernel_rfl)
theorem nodeStores_holds:Rows.NodeStoresUptoCardSaid:=
 Claim7.holds_tied_plain_at .later [] _ _ _ _ nodeStores_said (fun _ h=>by cases h) (by kernel_rfl) (fun _ h=>by cases h) nodeStoresUpto_row_tie rfl ⟨rfl,rfl⟩ (by kernel_rfl) rfl nodeStores_plain (by kernel_rfl)
end Go.Proofs.YtcdejnpngkeknaaGreatDoor
