/- NodeTakes, at every input: proved over a checked abstract run of the translated code; no condition. A part. -/
import Derived.Test.YtdccphnkmcbjeaaGreatDoorCards
import Derived.Test.YtdccphnkmcbjeaaGreatDoorTie
import Derived.ProofKit
import Derived.OpenShut
import Derived.Lib.LaidIn
import Derived.Lib.LaidTab
import Derived.Deep.DeepHandedRow
import Derived.Deep.DeepWitnessRowRef
import Derived.Test.YtdccphnkmcbjeaaGreatDoorRows
import Derived.Test.YtdccphnkmcbjeaaGreatDoorNodeTakesA8
import Derived.Test.YtdccphnkmcbjeaaGreatDoorNodeTakesJ
set_option linter.unusedSimpArgs false
set_option linter.unusedVariables false
set_option linter.constructorNameAsVariable false
set_option linter.defProp false
set_option maxRecDepth 100000
namespace Sg
open _root_.Go _root_.Go.Proofs
theorem t116:H116 (look nodeTab):=rfl
theorem t153:H153 (look nodeTab):=rfl
theorem t353:H353 (look nodeTab):=rfl
theorem t354:H354 (look nodeTab):=⟨rfl,t353⟩
theorem t332:H332 (look nodeTab):=⟨rfl,t116,t153,t353,t354⟩
theorem t70:H70 (look nodeTab):=rfl
theorem t45:H45 (look nodeTab):=⟨rfl,t70⟩
theorem t101:H101 (look nodeTab):=rfl
theorem t372:H372 (look nodeTab):=⟨rfl,t101,t153⟩
theorem t360:H360 (look nodeTab):=⟨rfl,t372⟩
theorem t399:H399 (look nodeTab):=⟨rfl,t45,t360⟩
theorem t509:H509 (look nodeTab):=rfl
theorem t586:H586 (look nodeTab):=rfl
theorem t8510:H8510 (look nodeTab):=faL rfl (faL rfl (faL rfl (faL rfl (faL rfl (faL rfl (faL rfl (faL rfl (faL rfl (faL rfl (faL rfl (faL rfl (faL rfl (faL rfl (faL rfl (faL rfl (faL rfl (faL rfl (faL rfl (faL rfl (faL rfl (faL rfl (faL rfl (faL rfl (faL rfl (faL rfl (faL rfl (faL rfl (faL rfl (faL rfl (faL rfl (faL rfl (faL rfl (faL rfl (faL rfl (faL rfl (faL rfl (faL rfl (faL rfl (faL rfl (faL rfl (faL rfl (faL rfl (faL rfl (faL rfl (faL rfl (faL rfl (faL rfl (faL rfl (faL rfl (faL rfl (faL rfl (faL rfl (faL rfl (faL rfl (faL rfl (faL rfl (faL rfl (faL rfl (faL rfl (faL rfl (faL rfl (faL rfl (faL rfl (faL rfl (faL rfl (faL rfl (faL rfl (faL rfl (faL rfl (faL rfl (faL rfl (faL rfl (faL rfl (faL rfl (faL rfl (faL rfl (faL rfl (faL rfl (faL rfl (faL rfl (faL rfl (faL rfl (faL rfl (faL rfl (faL rfl (faL rfl (faL rfl (faL rfl (faL rfl (faL rfl (faL rfl (faL rfl (faL rfl (faL rfl (faL rfl (faL rfl (faL rfl (faL rfl (faL rfl (faL rfl (faL rfl (faL rfl (faL rfl (faL rfl (faL rfl (faL rfl (faL rfl (faL rfl (faL rfl (faL rfl (faL rfl (faL rfl (faL rfl (faL rfl (faL rfl (faL rfl (faL rfl (faL rfl (faL rfl (faL rfl (faL rfl (faL rfl (faL rfl (faL rfl (faL rfl (faL rfl (faL rfl (faL rfl (faL rfl (faL rfl (faL rfl (faL rfl (faL rfl (faL rfl (faL rfl (faL rfl (faL rfl (faL rfl (faL rfl (faL rfl (faL rfl (faL rfl (faL rfl (faL rfl (faL rfl (faL rfl (faL rfl (faL rfl (faL rfl (faL rfl (faL rfl (faL rfl (faL rfl (fun _ h=>by cases h))))))))))))))))))))))))))))))))))))))))))))))))))))))))))))))))))))))))))))))))))))))))))))))))))))))))))))))))))))))))))))))))))))))))))))))))))))))))))
theorem t510:H510 (look nodeTab):=⟨rfl,t586,t8510⟩
theorem t368:H368 (look nodeTab):=rfl
theorem t63:H63 (look nodeTab):=rfl
theorem t75:H75 (look nodeTab):=rfl
theorem t65:H65 (look nodeTab):=⟨rfl,t75⟩
theorem t64:H64 (look nodeTab):=⟨rfl,t65⟩
theorem t66:H66 (look nodeTab):=⟨rfl,t65⟩
theorem t76:H76 (look nodeTab):=rfl
theorem t67:H67 (look nodeTab):=⟨rfl,t76⟩
theorem t68:H68 (look nodeTab):=rfl
theorem t39:H39 (look nodeTab):=⟨rfl,t63,t64,t65,t66,t67,t68⟩
theorem t505:H505 (look nodeTab):=rfl
theorem t491:H491 (look nodeTab):=⟨rfl,t505⟩
theorem t32:H32 (look nodeTab):=rfl
theorem t28:H28 (look nodeTab):=⟨rfl,t32⟩
theorem t490:H490 (look nodeTab):=⟨rfl,t491,t28⟩
theorem t464:H464 (look nodeTab):=⟨rfl,t490⟩
theorem t465:H465 (look nodeTab):=⟨rfl,t491⟩
theorem t466:H466 (look nodeTab):=⟨rfl,t465⟩
theorem t507:H507 (look nodeTab):=rfl
theorem t493:H493 (look nodeTab):=⟨rfl,t507⟩
theorem t506:H506 (look nodeTab):=⟨rfl,t491⟩
theorem t492:H492 (look nodeTab):=⟨rfl,t506⟩
theorem t467:H467 (look nodeTab):=⟨rfl,t464,t493,t492,t465,t466⟩
theorem t97:H97 (look nodeTab):=rfl
theorem t98:H98 (look nodeTab):=⟨rfl,t28⟩
theorem t81:H81 (look nodeTab):=⟨rfl,t97,t98⟩
theorem t170:H170 (look nodeTab):=rfl
theorem t190:H190 (look nodeTab):=rfl
theorem t192:H192 (look nodeTab):=⟨rfl,t190⟩
theorem t186:H186 (look nodeTab):=⟨rfl,t170,t192⟩
theorem t22:H22 (look nodeTab):=⟨rfl,t28⟩
theorem t31:H31 (look nodeTab):=rfl
theorem t26:H26 (look nodeTab):=⟨rfl,t31⟩
theorem t27:H27 (look nodeTab):=rfl
theorem t15:H15 (look nodeTab):=⟨rfl,t26,t27⟩
theorem t7:H7 (look nodeTab):=⟨rfl,t22,t15⟩
theorem t203:H203 (look nodeTab):=⟨rfl,t7,t170,t192⟩
theorem t313:H313 (look nodeTab):=rfl
theorem t284:H284 (look nodeTab):=⟨rfl,t67,t313⟩
theorem t171:H171 (look nodeTab):=⟨rfl,t186,t170,t192⟩
theorem t298:H298 (look nodeTab):=⟨rfl,t171⟩
theorem t315:H315 (look nodeTab):=rfl
theorem t299:H299 (look nodeTab):=⟨rfl,t315⟩
theorem t244:H244 (look nodeTab):=⟨rfl,t28,t81,t186,t203,t284,t298,t299⟩
theorem t316:H316 (look nodeTab):=⟨rfl,t15⟩
theorem t301:H301 (look nodeTab):=⟨rfl,t299,t316⟩
theorem t249:H249 (look nodeTab):=⟨rfl,t28,t244,t284,t301⟩
theorem t428:H428 (look nodeTab):=⟨rfl,t464,t465,t466,t467,t249⟩
theorem t430:H430 (look nodeTab):=⟨rfl,t428⟩
theorem t40:H40 (look nodeTab):=⟨rfl,t39,t68⟩
theorem t41:H41 (look nodeTab):=⟨rfl,t40⟩
theorem t366:H366 (look nodeTab):=rfl
theorem t367:H367 (look nodeTab):=rfl
theorem t341:H341 (look nodeTab):=⟨rfl,t28,t67,t366,t367⟩
theorem t431:H431 (look nodeTab):=⟨rfl,t341⟩
theorem t468:H468 (look nodeTab):=rfl
theorem t432:H432 (look nodeTab):=⟨rfl,t468⟩
theorem t408:H408 (look nodeTab):=⟨rfl,t368,t39,t430,t41,t431,t432⟩
theorem t565:H565 (look nodeTab):=rfl
theorem t530:H530 (look nodeTab):=⟨rfl,t491,t565⟩
theorem t531:H531 (look nodeTab):=⟨rfl,t530⟩
theorem t567:H567 (look nodeTab):=rfl
theorem t539:H539 (look nodeTab):=⟨rfl,t506,t567⟩
theorem t540:H540 (look nodeTab):=⟨rfl,t530,t531⟩
theorem t566:H566 (look nodeTab):=⟨rfl,t341,t464,t465,t466,t492,t493⟩
theorem t532:H532 (look nodeTab):=⟨rfl,t530,t531,t539,t540,t566⟩
theorem t512:H512 (look nodeTab):=⟨rfl,t408,t530,t531,t532⟩
theorem t515:H515 (look nodeTab):=rfl
theorem t126:H126 (look nodeTab):=⟨rfl,t28⟩
theorem t162:H162 (look nodeTab):=rfl
theorem t163:H163 (look nodeTab):=rfl
theorem t164:H164 (look nodeTab):=rfl
theorem t185:H185 (look nodeTab):=rfl
theorem t165:H165 (look nodeTab):=⟨rfl,t185⟩
theorem t166:H166 (look nodeTab):=⟨rfl,t186⟩
theorem t141:H141 (look nodeTab):=⟨rfl,t162,t163,t164,t165,t166⟩
theorem t369:H369 (look nodeTab):=rfl
theorem t347:H347 (look nodeTab):=⟨rfl,t67,t369⟩
theorem t348:H348 (look nodeTab):=⟨rfl,t65⟩
theorem t346:H346 (look nodeTab):=⟨rfl,t28,t347,t348⟩
theorem t328:H328 (look nodeTab):=⟨rfl,t28,t126,t141,t346,t347,t348⟩
theorem t568:H568 (look nodeTab):=rfl
theorem t541:H541 (look nodeTab):=⟨rfl,t507,t568⟩
theorem t569:H569 (look nodeTab):=rfl
theorem t542:H542 (look nodeTab):=⟨rfl,t490,t569⟩
theorem t543:H543 (look nodeTab):=⟨rfl,t530,t531,t539,t540,t542⟩
theorem t517:H517 (look nodeTab):=⟨rfl,t328,t530,t531,t539,t540,t541,t542,t543⟩
theorem t502:H502 (look nodeTab):=rfl
theorem t487:H487 (look nodeTab):=⟨rfl,t502⟩
theorem t470:H470 (look nodeTab):=⟨rfl,t487⟩
theorem t24:H24 (look nodeTab):=rfl
theorem t469:H469 (look nodeTab):=⟨rfl,t470,t24⟩
theorem t434:H434 (look nodeTab):=⟨rfl,t469⟩
theorem t435:H435 (look nodeTab):=⟨rfl,t470⟩
theorem t495:H495 (look nodeTab):=rfl
theorem t472:H472 (look nodeTab):=⟨rfl,t495⟩
theorem t494:H494 (look nodeTab):=⟨rfl,t470⟩
theorem t471:H471 (look nodeTab):=⟨rfl,t494⟩
theorem t436:H436 (look nodeTab):=⟨rfl,t434,t472,t471,t435⟩
theorem t95:H95 (look nodeTab):=rfl
theorem t96:H96 (look nodeTab):=⟨rfl,t24⟩
theorem t80:H80 (look nodeTab):=⟨rfl,t95,t96⟩
theorem t188:H188 (look nodeTab):=rfl
theorem t189:H189 (look nodeTab):=rfl
theorem t168:H168 (look nodeTab):=⟨rfl,t188,t189⟩
theorem t195:H195 (look nodeTab):=⟨rfl,t188⟩
theorem t187:H187 (look nodeTab):=⟨rfl,t195⟩
theorem t167:H167 (look nodeTab):=⟨rfl,t168,t187⟩
theorem t169:H169 (look nodeTab):=⟨rfl,t187⟩
theorem t142:H142 (look nodeTab):=⟨rfl,t167,t168,t169⟩
theorem t5:H5 (look nodeTab):=⟨rfl,t24⟩
theorem t6:H6 (look nodeTab):=rfl
theorem t4:H4 (look nodeTab):=⟨rfl,t5,t6⟩
theorem t204:H204 (look nodeTab):=⟨rfl,t4,t168,t187⟩
theorem t292:H292 (look nodeTab):=rfl
theorem t293:H293 (look nodeTab):=⟨rfl,t292⟩
theorem t245:H245 (look nodeTab):=⟨rfl,t24,t80,t142,t167,t204,t292,t293⟩
theorem t300:H300 (look nodeTab):=⟨rfl,t6⟩
theorem t246:H246 (look nodeTab):=⟨rfl,t24,t245,t293,t300⟩
theorem t486:H486 (look nodeTab):=⟨rfl,t487⟩
theorem t459:H459 (look nodeTab):=⟨rfl,t486⟩
theorem t460:H460 (look nodeTab):=⟨rfl,t487⟩
theorem t504:H504 (look nodeTab):=rfl
theorem t489:H489 (look nodeTab):=⟨rfl,t504⟩
theorem t503:H503 (look nodeTab):=⟨rfl,t487⟩
theorem t488:H488 (look nodeTab):=⟨rfl,t503⟩
theorem t461:H461 (look nodeTab):=⟨rfl,t459,t489,t488,t460⟩
theorem t424:H424 (look nodeTab):=⟨rfl,t459,t460,t461⟩
theorem t411:H411 (look nodeTab):=⟨rfl,t434,t435,t436,t246,t424⟩
theorem t425:H425 (look nodeTab):=⟨rfl,t411⟩
theorem t60:H60 (look nodeTab):=rfl
theorem t61:H61 (look nodeTab):=rfl
theorem t62:H62 (look nodeTab):=rfl
theorem t38:H38 (look nodeTab):=rfl
theorem t42:H42 (look nodeTab):=⟨rfl,t62⟩
theorem t37:H37 (look nodeTab):=⟨rfl,t60,t61,t62,t38,t42⟩
theorem t426:H426 (look nodeTab):=⟨rfl,t38,t42⟩
theorem t445:H445 (look nodeTab):=rfl
theorem t414:H414 (look nodeTab):=⟨rfl,t24,t445⟩
theorem t405:H405 (look nodeTab):=⟨rfl,t425,t37,t426,t414⟩
theorem t533:H533 (look nodeTab):=⟨rfl,t487⟩
theorem t534:H534 (look nodeTab):=⟨rfl,t533⟩
theorem t535:H535 (look nodeTab):=⟨rfl,t503⟩
theorem t536:H536 (look nodeTab):=⟨rfl,t459,t460,t488,t489⟩
theorem t513:H513 (look nodeTab):=⟨rfl,t533,t534,t535,t536⟩
theorem t545:H545 (look nodeTab):=⟨rfl,t470⟩
theorem t546:H546 (look nodeTab):=⟨rfl,t545⟩
theorem t547:H547 (look nodeTab):=⟨rfl,t494⟩
theorem t548:H548 (look nodeTab):=⟨rfl,t414,t434,t435,t471,t472,t536⟩
theorem t520:H520 (look nodeTab):=⟨rfl,t405,t513,t545,t546,t547,t548⟩
theorem t114:H114 (look nodeTab):=⟨rfl,t24⟩
theorem t173:H173 (look nodeTab):=rfl
theorem t184:H184 (look nodeTab):=⟨rfl,t167⟩
theorem t174:H174 (look nodeTab):=⟨rfl,t167,t184⟩
theorem t147:H147 (look nodeTab):=⟨rfl,t173,t174⟩
theorem t349:H349 (look nodeTab):=rfl
theorem t351:H351 (look nodeTab):=rfl
theorem t350:H350 (look nodeTab):=⟨rfl,t24,t349,t351⟩
theorem t329:H329 (look nodeTab):=⟨rfl,t24,t114,t147,t349,t350,t351⟩
theorem t544:H544 (look nodeTab):=⟨rfl,t486⟩
theorem t518:H518 (look nodeTab):=⟨rfl,t533,t534,t535,t544,t504⟩
theorem t549:H549 (look nodeTab):=⟨rfl,t495⟩
theorem t550:H550 (look nodeTab):=⟨rfl,t469⟩
theorem t551:H551 (look nodeTab):=⟨rfl,t545,t547,t546,t550⟩
theorem t521:H521 (look nodeTab):=⟨rfl,t329,t518,t545,t546,t547,t549,t550,t551⟩
theorem t519:H519 (look nodeTab):=⟨rfl,t332,t399,t509,t510,t512,t515,t517,t520,t521⟩
theorem all_ctr (f:Nat) (args:List V) (r:V) (h:K' (look nodeTab) f args=some r):Ctr Tryz.prog (cxU nodeFm) (ownOf (look nodeTab) f) f args r:=by
 obtain⟨n,hn⟩:=K'_iff.1 h;refine tab_sound (by kernel_rfl) okAll (fun f own p hp=>?_) (fun f z p hlt hp=>?_) (fun f z p hp=>?_) n f args r hn
 ·have hm:=look_mem hp;simp only[nodeTab,List.mem_cons,Prod.mk.injEq,reduceCtorEq,and_false,false_and,false_or,Fn.prim.injEq,Option.some.injEq,List.not_mem_nil,or_false] at hm;rcases hm with ⟨rfl,hz,rfl⟩|⟨rfl,hz,rfl⟩|⟨rfl,hz,rfl⟩|⟨rfl,hz,rfl⟩|⟨rfl,hz,rfl⟩|⟨rfl,hz,rfl⟩|⟨rfl,hz,rfl⟩|⟨rfl,hz,rfl⟩|⟨rfl,hz,rfl⟩|⟨rfl,hz,rfl⟩|⟨rfl,hz,rfl⟩|⟨rfl,hz,rfl⟩
  ·subst hz;exact clone_ctr (zero:=[.int .i64 0]) (by kernel_rfl) okClone69
  ·subst hz;exact keyCt _ 170 rfl
  ·subst hz;exact clone_ctr (zero:=[.int .i64 0,.int .i64 0,.int .i64 0,.slice 1 [],.int .i64 0,.str [],.str [],.slice 1 [],.slice 36 []]) (by kernel_rfl) okClone497
  ·intro args r h;simp[noQ] at h
  ·subst hz;exact clone_ctr (zero:=[.int .i64 0,.int .i64 0,.str [],.str [],.int .i64 0,.slice 2 [],.int .i64 0,.int .i64 0,.int .i64 0,.int .i64 0,.int .i64 0,.int .i64 0,.slice 11 [],.int .i64 0,.int .i64 0,.int .i64 0,.int .i64 0]) (by kernel_rfl) okClone307
  ·subst hz;exact decCt _ 190 rfl
  ·intro args r h;simp[noQ] at h
  ·intro args r h;simp[noQ] at h
  ·subst hz;exact clone_ctr (zero:=[.int .i64 0,.int .i64 0,.int .i64 0,.int .i64 0,.int .i64 0,.int .i64 0,.bool false,.str [],.slice 2 [],.str [],.bool false]) (by kernel_rfl) okClone102
  ·intro args r h;simp[noQ] at h
  ·subst hz;exact clone_ctr (zero:=[.int .i64 0,.int .i64 0,.int .i64 0,.bool false,.str []]) (by kernel_rfl) okClone23
  ·subst hz;exact clone_ctr (zero:=[.str [],.slice 5 []]) (by kernel_rfl) okClone227
 ·have hm:=look_mem hp;simp only[nodeTab,List.mem_cons,Prod.mk.injEq,reduceCtorEq,and_false,false_and,false_or,Fn.prim.injEq,Option.some.injEq,List.not_mem_nil,or_false] at hm;rcases hm with ⟨rfl,hz,rfl⟩|⟨rfl,hz,rfl⟩|⟨rfl,hz,rfl⟩|⟨rfl,hz,rfl⟩|⟨rfl,hz,rfl⟩|⟨rfl,hz,rfl⟩|⟨rfl,hz,rfl⟩|⟨rfl,hz,rfl⟩|⟨rfl,hz,rfl⟩|⟨rfl,hz,rfl⟩
  ·omega
  ·omega
  ·obtain rfl:z=9:=by omega
   exact⟨_,_,insC381⟩
  ·omega
  ·obtain rfl:z=17:=by omega
   exact⟨_,_,insC415⟩
  ·obtain rfl:z=2:=by omega
   exact⟨_,_,insC424⟩
  ·omega
  ·obtain rfl:z=11:=by omega
   exact⟨_,_,insC426⟩
  ·omega
  ·omega
 ·have hm:=look_mem hp;simp only[nodeTab,List.mem_cons,Prod.mk.injEq,reduceCtorEq,and_false,false_and,false_or,Fn.prim.injEq,Option.some.injEq,List.not_mem_nil,or_false] at hm;rcases hm with ⟨rfl,hz,rfl⟩|⟨rfl,hz,rfl⟩|⟨rfl,hz,rfl⟩|⟨rfl,hz,rfl⟩|⟨rfl,hz,rfl⟩|⟨rfl,hz,rfl⟩|⟨rfl,hz,rfl⟩|⟨rfl,hz,rfl⟩|⟨rfl,hz,rfl⟩|⟨rfl,hz,rfl⟩
  ·omega
  ·omega
  ·omega
  ·omega
  ·omega
  ·omega
  ·omega
  ·omega
  ·omega
  ·omega
end Sg
namespace Go.Proofs.YtdccphnkmcbjeaaGreatDoor
open Sg Go.RowKit
set_option maxRecDepth 100000
theorem own:ownKnob Tryz.prog.godebug=none:=by kernel_rfl
theorem laid:laidOutB Tryz.prog=true:=by kernel_rfl
theorem nodeTakes_ctr (xs:List V) (h:ArgsV [(false,[.str])] xs):Ctr Tryz.prog (cxU nodeFm) (ownOf (Sg.look nodeTab) 519) 519 xs (.bool true):=by
 match xs,h with
 |[x0],h=>
  obtain⟨h0,-⟩:=h;obtain⟨a0,rfl,l0⟩:=arg_str h0;exact all_ctr _ _ _ (K519 t519 a0)
noncomputable def laidWorld (os:Os):World:=
 let w0:=World.holding Tryz.prog os ⟨#[],#[],[]⟩
 let put (h:Array Obj) (g:Nat) (cs:Array Value):Array Obj:=h.modify g fun
  |.cells _ t frozen=>.cells cs t frozen
  |o=>o
 let h1:=put w0.heap 0 (Lib.firstTab.map fun z=>Value.int .u8 z).toArray
 let h2:=put h1 1 ((List.range 16).flatMap fun i=>[Value.int .u8 (Lib.accLo i),Value.int .u8 (Lib.accHi i)]).toArray
 {w0 with heap:=h2}
theorem tabs_of {W:World} (hL:laidMetH Tryz.prog Rows.nodeTakesRow.laid W):Lib.Utf8Tabs 0 1 W:=
 utf8Tabs_of_reads (ρ:=renU) {lays197 with} ⟨by kernel_rfl,by kernel_rfl,by kernel_rfl,by kernel_rfl,by kernel_rfl,by kernel_rfl,by kernel_rfl⟩
  ((show Go.Pinned.utf8First=Lib.firstData by kernel_rfl)▸Lib.laidMet.reads hL (.tail _ (.head _))) ((show Rows.laid_unicode_utf8_acceptRanges=Lib.acceptData by kernel_rfl)▸Lib.laidMet.reads hL (.head _))
theorem size_of {W:World} (h:Lib.Utf8Tabs 0 1 W):2≤W.heap.size:=by
 have lt:∀g o v,W.cell? ⟨g,o,none⟩=some v→g<W.heap.size:=fun g o v e=>by
  rcases Nat.lt_or_ge g W.heap.size with h|h
  ·exact h
  ·simp[World.cell?,Array.getElem?_eq_none h] at e
 have h1:=lt _ _ _ (h.1 0 (by decide));have h2:=lt _ _ _ (h.2 0 (by decide)).1;omega
theorem laid_met (os:Os) (args:Array Value):laidMet Tryz.prog Rows.nodeTakesRow.laid ((laidWorld os).forCall (fun _ _=>0) ⟨#[],args,[]⟩).memory:=
 (LaidIn.of_run (l:=Rows.nodeTakesRow.laid) [1,0] 8 (by kernel_rfl) (by kernel_rfl) (by kernel_rfl) (by kernel_rfl)).met
abbrev nodeTakes_wits:Array Value:=#[Value.string ⟨#[]⟩]
set_option maxRecDepth 100000 in
theorem nodeTakes_reads (os:Os) {H:Type} (enc:TypeId×Value→H) :
  (OpenSpec.ofChange Rows.nodeTakesSpec).preRow enc Tryz.prog Tryz.f5 Rows.nodeTakesRow.domain false Rows.nodeTakesRow.laid ((laidWorld os).forCall (fun _ _=>0) ⟨#[],nodeTakes_wits,[]⟩).memory nodeTakes_wits:=by
 have hw:(DataW.whole enc Tryz.prog ((laidWorld os).forCall (fun _ _=>0) ⟨#[],nodeTakes_wits,[]⟩).memory Tryz.f5.params.toList Rows.nodeTakesSpec.vars false nodeTakes_wits.toList 8).isSome=true:=by kernel_rfl
 obtain⟨⟨x1,x2,x3⟩,hx⟩:=Option.isSome_iff_exists.1 hw
 have hl:x1.length=1:=by
  have:=congrArg (Option.map fun x=>x.1.length) hx;have e:(DataW.whole enc Tryz.prog ((laidWorld os).forCall (fun _ _=>0) ⟨#[],nodeTakes_wits,[]⟩).memory Tryz.f5.params.toList Rows.nodeTakesSpec.vars false nodeTakes_wits.toList 8).map (fun x=>x.1.length)=some 1:=by kernel_rfl
  rw[hx] at e;simpa using e
 exact OpenSpec.preRow_of_cond 8 hx (by kernel_rfl) (fun k hk=>by cases hk) (by kernel_rfl) (laid_met os _)
theorem nodeTakes_lifted (os:Os) (started:os.Started) (H:Type) (enc:TypeId×Value→H) (F:Stop.Interp) :
  ReturnsInHanded {} Tryz.checked os 5 .any ((OpenSpec.ofChange Rows.nodeTakesSpec).preRow enc Tryz.prog Tryz.f5 Rows.nodeTakesRow.domain false Rows.nodeTakesRow.laid) (((OpenSpec.ofChange Rows.nodeTakesSpec).at F).post enc Tryz.prog Tryz.f5 false true false false):=by
 refine returnsInHanded_of_row (C:=Tryz.checked) (s:=OpenSpec.ofChange Rows.nodeTakesSpec) own started (by kernel_rfl) Tryz.func5
  (witness_row_at (enc:=enc) (C:=Tryz.checked) false (laidWorld os) nodeTakes_wits rfl (by kernel_rfl) (by kernel_rfl) (by kernel_rfl) (nodeTakes_reads os enc)) ?_
 intro W base args ds gs before hval hW _ _ _ hL _ _
 have hT:=tabs_of hL
 exact lift (s:=Rows.nodeTakesSpec) (conds:=[]) (cx:=cxU nodeFm) (own:=ownOf (Sg.look nodeTab) 519) (fid:=519) (ss:=[(false,[.str])]) (tb:=4) (by kernel_rfl) (by kernel_rfl) (by kernel_rfl) laid rfl (by kernel_rfl) (by kernel_rfl)
  (fun ds h=>by
   have h2:Tryz.f5.params.toList.length=1:=by kernel_rfl
   rw[h2] at h
   match ds,h with
   |[d0],_=>rfl) nodeTakes_ctr W (size_of hT) hT base args ds gs before hval hW
theorem nodeTakes_said:Rows.NodeTakesSaid:=
 OpenClaim.holds_of_cond 5 Tryz.f5 rfl rfl rfl rfl rfl rfl rfl ⟨rfl,rfl,rfl,rfl,rfl⟩ rfl rfl rfl rfl rfl (by kernel_rfl) Tryz.func5 facts
  (of_decide_eq_true (by kernel_rfl)) (by unfold Func.isWrapper;first|(rw[if_pos (by decide +kernel)];kernel_rfl)|(rw[if_neg (by decide +kernel)];exact⟨rfl,rfl⟩))
  (fun os started H enc _ F=>by rw[OpenClaim.pre_eq_preRow];exact nodeTakes_lifted os started H enc F)
theorem nodeTakes_plain (f:FuncId) (fn:Func) (hf:Tryz.pinned.checked.prog.funcNamed "stratigraph/stratigraphlaw21.NodeTakes"=some f) (hfn:Tryz.pinned.checked.prog.funcs[f]?=some fn) :
  true=Tryz.pinned.checked.prog.looks []∧∀(j:Nat) t,fn.params[j]?=some t→Tryz.pinned.checked.prog.wantsStandIn t=false:=by
 obtain rfl:f=5:=Option.some.inj ((show Tryz.prog.funcNamed "stratigraph/stratigraphlaw21.NodeTakes"=some 5 by kernel_rfl).symm.trans hf) |>.symm
 obtain rfl:fn=Tryz.f5:=(Option.some.inj (Tryz.func5.symm.trans hfn)).symm
 refine⟨by kernel_rfl,fun j t ht=>?_⟩
 rw[Tryz.params5] at ht
 have hm:=Array.mem_of_getElem? ht
 simp only[List.mem_toArray,List.mem_cons,List.not_mem_nil,or_false] at hm
 obtain rfl:=hm
 exact (show Tryz.prog.wantsStandIn 9=false by kernel_rfl)
theorem nodeTakes_holds:Rows.NodeTakesCardSaid:=
 Claim7.holds_tied_plain_at .later [] _ _ _ _ nodeTakes_said (fun _ h=>by cases h) (by kernel_rfl) (fun _ h=>by cases h) nodeTakes_row_tie rfl ⟨rfl,rfl⟩ (by kernel_rfl) rfl nodeTakes_plain (by kernel_rfl)
end Go.Proofs.YtdccphnkmcbjeaaGreatDoor
