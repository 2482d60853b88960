/- ShellParses, at every input: proved over a checked abstract run of the translated code; no condition. A part. -/
import Derived.Test.YthppemaclcgpjaaGreatDoorChecked
import Derived.Test.YthppemaclcgpjaaGreatDoorShellParsesA6
set_option linter.unusedSimpArgs false
set_option linter.unusedVariables false
set_option linter.constructorNameAsVariable false
set_option linter.defProp false
set_option maxRecDepth 1000000
set_option maxHeartbeats 16000000
namespace Sg
open _root_.Go (IntKind BinOp UnOp)
open _root_.Go.Lib (itoa)
open _root_.Go.Proofs
variable {Pg:PgT}
theorem faL {a:Nat} {b:Fn} {l:List (Nat×Fn)} (h1:Pg a=some b) (h2:∀x∈l,Pg x.1=some x.2):∀x∈(a,b)::l,Pg x.1=some x.2:=List.forall_mem_cons.2 ⟨h1,h2⟩
theorem Yc7 {κ:Nat→List V→Option V} {script:List UInt8} {c0} {Q:St→Prop} (hs:script≠[]) (k589:κ 589 []=some (.agg (eCl c0)))
  (h:∀S:St,S.ρ 0=.str script→S.ρ 3=.lref 3 0→S.μ 3=some (eCl c0,false)→S.μ 7=none→S.μ 11=none→Q S):PreW κ q648 (start [.str script]) Q:=by
 have c1:decide (script=[])=false:=GE hs
 simp only[eCl] at k589
 simp only[PreW,q648,Ycn,Yco,Ycp,Ycq,go_sem,c1,k589]
 exact h _ (by simp[go_sem]) (by simp[go_sem]) (by simp[go_sem,eCl]) (by simp[go_sem]) (by simp[go_sem])
def H8648 (Pg:PgT):Prop:=H645 Pg∧H663 Pg∧H661 Pg∧H649 Pg∧H662 Pg∧H1648 Pg∧H2648 Pg∧H586 Pg
theorem Ya3 (h:H8648 Pg) {f:Nat} {a:List V} {v:V} (hv:crw f a=some v):K' Pg f a=some v:=frun_ok (Yd5 h.2.2.2.2.2.1 h.2.2.2.2.2.2.1 h.2.2.2.2.2.2.2) hv
theorem YdY:Yh ((Yv ln1).getD Yc)=Ydg:=by kernel_rfl
theorem YdZ:Yh ((Yv ln2).getD Yc)=Ydt:=by kernel_rfl
theorem Yeo:splt 10 runS=[ln1,ln2,ln3]:=by kernel_rfl
theorem Yep:Go.Lib.trimSuffix runS [10]=runS:=by kernel_rfl
theorem Yem (h:H8648 Pg):∃c0,K' Pg 589 []=some (.agg (eCl c0))∧RunOK (K' Pg) c0 [ln1,ln2,ln3] YaU:=by
 have k0:=Ya3 h Yea;have k1:=Ya3 h YdL;have k2:=Ya3 h YdM;have kr:=K663 h.2.1;have p1:=K645 h.1 ln1 (by decide);have p2:=K645 h.1 ln2 (by decide);have p3:=K645 h.1 ln3 (by decide);rw[Yap,YdS,←YdY] at p1;rw[Yap,YdT,←YdZ] at p2;rw[Yap,YdU] at p3;rw[←YdY] at k1;rw[←YdZ,Yc9] at k2;have e0:∃c,Ydk=eCl c:=⟨(_,_,_,_),rfl⟩;have e1:∃c,cu1=eCl c:=⟨(_,_,_,_),rfl⟩;have e2:∃c,cu2=eCl c:=⟨(_,_,_,_),rfl⟩;obtain⟨c0,e0⟩:=e0;obtain⟨c1,e1⟩:=e1;obtain⟨c2,e2⟩:=e2;rw[e0] at k0 k1;rw[e1] at k1 k2;rw[e2] at k2;refine⟨c0,k0,c1,okT++[10],_,.inr ⟨_,[],0,[],p1,k1,by decide,by decide,rfl,by decide,fun i r t h1 _=>by simp at h1,rfl⟩,
  ⟨c2,okT++(brT Yda++[10]),_,.inr ⟨_,[Yc6],0,[Yda],p2,k2,by decide,by decide,rfl,by decide,fun i r t h1 h2=>?_,rfl⟩,⟨c2,Ybm 3++[10],[],.inl ⟨_,p3,rfl,rfl⟩,rfl,rfl⟩,rfl⟩,?_⟩
 ·cases i with
  |zero=>
   simp only[List.getElem?_cons_zero,Ga] at h1 h2;subst h1;subst h2;exact⟨⟨rfl,rfl⟩,kr⟩
  |succ i=>simp at h1
 ·unfold Ybm;rw[Yde];rfl
end Sg
namespace Sg
open _root_.Go _root_.Go.RowKit _root_.Go.Proofs _root_.Go.Shelf
noncomputable def K0 (Pg:PgT) (f:Nat) (a:List V):Option V:=if ownOf Pg f=none then K' Pg f a else none
theorem K0_eq {Pg:PgT} {f:Nat} {a:List V} {v:V} (h:ownOf Pg f=none) (hv:K' Pg f a=some v):K0 Pg f a=some v:=(Gl h).trans hv
theorem Yeb {P:Program} {cx:Cx} {Pg:PgT} (hall:∀n f args r,Jw Pg n f args=some r→Ctr P cx (ownOf Pg f) f args r):KOK P cx (fun _=>none) (K0 Pg) where
 call:=fun f args r h=>by
  unfold K0 at h;split at h
  ·rename_i ho;obtain⟨n,hn⟩:=K'_iff.1 h;have:=hall n f args r hn;rwa [ho] at this
  ·simp at h
 ins:=fun f z _ h=>by simp at h
 del:=fun f z _ h=>by simp at h
 rf:=fun f k _ h=>by simp at h
theorem LineOK.mono {κ κ':Nat→List V→Option V} {c line c' txt} (h1:∀a v,κ 645 a=some v→κ' 645 a=some v) (h2:∀a v,κ 592 a=some v→κ' 592 a=some v) (h3:∀a v,κ 663 a=some v→κ' 663 a=some v)
  (h:LineOK κ c line c' txt):LineOK κ' c line c' txt:=by
 rcases h with ⟨s,k,r⟩|⟨s,told,e,ts,k1,k2,a1,a2,a3,a4,a5,a6⟩
 ·exact .inl ⟨s,h1 _ _ k,r⟩
 ·exact .inr ⟨s,told,e,ts,h1 _ _ k1,h2 _ _ k2,a1,a2,a3,a4,fun i r t e1 e2=>⟨(a5 i r t e1 e2).1,h3 _ _ (a5 i r t e1 e2).2⟩,a6⟩
theorem RunOK.mono {κ κ':Nat→List V→Option V} (h1:∀a v,κ 645 a=some v→κ' 645 a=some v) (h2:∀a v,κ 592 a=some v→κ' 592 a=some v) (h3:∀a v,κ 663 a=some v→κ' 663 a=some v) :
  ∀{ls:List (List UInt8)} {c txt},RunOK κ c ls txt→RunOK κ' c ls txt
 |[],_,_,h=>h
 |l::ls,c,txt,h=>by
  obtain⟨c',t,ts,a,b,e⟩:=h;exact⟨c',t,ts,a.mono h1 h2 h3,RunOK.mono h1 h2 h3 b,e⟩
theorem YcA {P:Program} {cx:Cx} {G:List Nat} {N:Nat} {args:List V} {vs:Array Value} {w:World} (hgn:cx.gn≤w.heap.size) (hG:cx.G w) (hnp:∀t,t<args.length→t∈G) (hsz:vs.size=args.length)
  (hrel:∀i,i<args.length→∃u,vs[i]?=some u∧RelD cx w (fun _=>False) u (gv args i)) :
  FR cx (·<w.heap.size) (fun _=>False) none G [] (fun _=>.undef) (start args) (vs++Array.replicate (N-vs.size) undef) w:=by
 have hRW:RelW cx (·<w.heap.size) (fun _=>False) (start args) w (fun _=>0) (fun _=>undef) (fun _=>False):=
  ⟨fun b hb=>hb.elim,⟨fun b hb=>GC hb hgn,hG⟩,fun _ h=>h,fun b hb=>hb.elim,fun s cs f hs=>by simp[start] at hs,fun s s' hs=>by simp[start] at hs,fun s z rows f hs=>by simp[start] at hs,fun s s' z rows f z' rows' f' hs=>by simp[start] at hs,fun s z rows f s' hs=>by simp[start] at hs⟩
 refine⟨fun t ht=>?_,_,_,_,hRW,fun t=>?_,fun i d hd=>by simp at hd,fun k b hk=>by simp at hk⟩
 ·have:¬t<args.length:=fun hlt=>ht (hnp t hlt)
  simp only[start]
  rw[List.getElem?_eq_none (by omega)];rfl
 ·by_cases ht:t<args.length
  ·obtain⟨u,p,q⟩:=hrel t ht
   have:(vs++Array.replicate (N-vs.size) undef).getD t undef=u:=by
    rw[Array.getD_eq_getD_getElem?,Array.getElem?_append_left (by omega),p];rfl
   rw[this]
   have:(start args).ρ t=gv args t:=by simp[start,gv,List.getD_eq_getElem?_getD]
   rw[this]
   exact .of_data (q.mono (Gm _) (fun _ _ _=>rfl) (fun b _ hn hx=>hn (hx.resolve_right id)))
  ·have:(start args).ρ t=.undef:=by simp only[start];rw[List.getElem?_eq_none (by omega)];rfl
   rw[this];exact RelD.undef _
theorem run_calls {P:Program} {cx:Cx} {Pg:PgT} {f:FuncId} {fn:Func} {code:Code} {fw fs:Nat} {T e:TypeId} {w:World} (hall:∀n f args r,Jw Pg n f args=some r→Ctr P cx (ownOf Pg f) f args r)
  (hH:H8648 Pg) (hown:∀f∈[589,645,592,663,662,649,661],ownOf Pg f=none)
  (hfn:P.funcs[f]?=some fn) (hc:fn.body=some code) (hN:fn.ntmps=59) (hres:fn.results=#[.tmp 2]) (hm:P.follows .mixedOrders=true) (hC:BldC P fw T e) (hS:BldS P fs T e)
  (hz:∀w:World,∃v,(zeroValue T).run P w=.ok v w∧v.cells=#[.pointer none,.slice none 0 0]) (hTe:T≠e) (hok:okFn P cx G648 59 4 fw fs 2 T c648 q648 code=true)
  (hgn:cx.gn≤w.heap.size) (hG:cx.G w):Calls P f #[.string ⟨runS.toArray⟩] w fun e' w'=>e'=.returned (.string ⟨YaU.toArray⟩)∧Below w.heap.size w w':=by
 have ho:=fun g hg=>hown g hg
 have o0:=ho 589 (by simp);have o1:=ho 645 (by simp);have o2:=ho 592 (by simp);have o3:=ho 663 (by simp);have o4:=ho 662 (by simp);have o5:=ho 649 (by simp);have o6:=ho 661 (by simp)
 obtain⟨c0,k0,hrun⟩:=Yem hH
 have hrun0:RunOK (K0 Pg) c0 [ln1,ln2,ln3] YaU:=hrun.mono (fun a v h=>K0_eq o1 h) (fun a v h=>K0_eq o2 h) (fun a v h=>K0_eq o3 h)
 have hκ:=Yeb hall
 refine calls_of_wp hfn hc ?_
 refine JeG (cx:=cx) (κ:=K0 Pg) (G:=G648) (N:=59) (tb:=4) (fw:=fw) (fs:=fs) (r:=2) (T:=T) (e:=e) (c1:=c648) (out:=YaU) hκ hm hC hS hN hres hz (by decide) (by decide) hTe hgn q648 code (start [.str runS]) (·<w.heap.size) _ w hok ?_ (fun k hk=>hk) rfl ?_ (Below.refl _ w) ?_
 ·refine YcA (P:=P) hgn hG (fun t ht=>?_) rfl fun i hi=>?_
  ·have:t=0:=by simp at ht;omega
   subst this;decide
  ·have:i=0:=by simp at hi;omega
   subst this
   exact⟨_,rfl,RelD.str (cx:=cx) ⟨runS.toArray⟩⟩
 ·simp[hN]
 ·refine Yc7 (script:=runS) (c0:=c0) (by decide) (K0_eq o0 k0) fun S h0 h3 hm3 h7 h11=>?_
  refine Ydu (script:=runS) (tr:=runS) (out:=YaU) (lines:=[ln1,ln2,ln3]) (c0:=c0) (S:=S) hκ hgn hC h0 h3 hm3 h7 h11 (K0_eq o6 ?_) (K0_eq o5 ?_) (fun n h1 h2=>K0_eq o4 (K662 hH.2.2.2.2.1 n h1 h2)) (by decide) (by decide) hrun0
  ·rw[Jf3 hH.2.2.1]
   unfold trimQ
   exact (Gl (show runS.length≤1099511627776 by decide)).trans (by rw[Yep])
  ·have:=K649 hH.2.2.2.1 runS 10 (by decide)
   rwa [Yeo] at this
theorem trimCt (l:List (Nat×Nat)) (id:Nat) (h:(cxU l).fm id=22):∀args r,trimQ args=some r→Ctr Tryz.prog (cxU l) none id args r:=by
 intro args r hq;unfold trimQ at hq;split at hq<;>try (simp only[reduceCtorEq] at hq;done)
 rename_i s p;split at hq<;>simp only[Ga,reduceCtorEq] at hq;rename_i hlen;subst hq;refine⟨by rw[h];exact⟨_,Tryz.func22,by kernel_rfl,by kernel_rfl⟩,fun w X vs hX hgn hG hsz hrel=>?_⟩;obtain⟨u,hu,hr⟩:=hrel 0 (by simp);obtain⟨v,hv,hr'⟩:=hrel 1 (by simp);obtain⟨x,rfl,rfl⟩:=Jbi (l:=s) hr;obtain⟨y,rfl,rfl⟩:=Jbi (l:=p) hr';rw[JkF (by simpa using hsz) hu hv,h];refine (Any.strings_TrimSuffix lays102 x y w (by rw[←size_list];omega)).mono fun e w' ⟨he,hb⟩=>?_;subst he;subst hb;exact⟨_,rfl,Below.refl _ _,RelD.str (cx:=cxU l) (ofL _)⟩
theorem showCt (l:List (Nat×Nat)) (id:Nat) (h:(cxU l).fm id=51):∀args r,showQ args=some r→Ctr Tryz.prog (cxU l) none id args r:=
 txt_ctr (f:=fun s=>if s.length≤1099511627776 then some (YQ s) else none) (fun args r hq=>by
  unfold showQ at hq;split at hq<;>try (simp only[reduceCtorEq] at hq;done)
  rename_i s;split at hq<;>simp only[Ga,reduceCtorEq] at hq;rename_i hlen;exact⟨s,YQ s,rfl,Gl hlen,hq.symm⟩) (by rw[h];exact⟨_,Tryz.func51,by kernel_rfl,by kernel_rfl⟩) fun s y w hy hgn hG=>by
  rw[h];split at hy<;>simp only[Ga,reduceCtorEq] at hy;rename_i hlen;subst hy;exact show_walk s w (by rw[←size_list];omega) hgn hG
theorem Yd6:BldC Tryz.prog 24 69 5 where
 ent:=⟨_,Tryz.func24,by kernel_rfl,by kernel_rfl⟩
 ws:=fun B b bs s w h1 h2 h3=>(bld_ws lays166 bldX B b bs s w h1 h2 h3).mono fun e w' ⟨he,r1,r2,r3,r4⟩=>⟨⟨_,he⟩,r1,r2,r3,r4⟩
theorem Yd7:BldS Tryz.prog 27 69 5 where
 ent:=⟨_,Tryz.func27,by kernel_rfl,by kernel_rfl⟩
 st:=fun B b l w h1 h2=>(Any.Builder_String_any_k lays169 bldX B b l w h1 h2).mono fun e w' ⟨he,_,r2,_⟩=>⟨he,r2⟩
noncomputable def runB:Code:=(Tryz.f8.body).getD .skip
theorem runCt (l:List (Nat×Nat)) (h:(cxU l).fm 648=8) {Pg:PgT} (hall:∀n f args r,Jw Pg n f args=some r→Ctr Tryz.prog (cxU l) (ownOf Pg f) f args r) (hH:H8648 Pg) (hown:∀f∈[589,645,592,663,662,649,661],ownOf Pg f=none)
  (hok:okFn Tryz.prog (cxU l) G648 59 4 24 27 2 69 c648 q648 runB=true):∀args r,runQ args=some r→Ctr Tryz.prog (cxU l) none 648 args r:=
 txt_ctr (f:=fun s=>if s=runS then some YaU else none) (fun args r hq=>by
  unfold runQ at hq;split at hq<;>try (simp only[reduceCtorEq] at hq;done)
  rename_i s;split at hq<;>simp only[Ga,reduceCtorEq] at hq;rename_i hs;exact⟨s,YaU,rfl,Gl hs,hq.symm⟩) (by rw[h];exact⟨_,Tryz.func8,by kernel_rfl,by kernel_rfl⟩) fun s y w hy hgn hG=>by
  rw[h];split at hy<;>simp only[Ga,reduceCtorEq] at hy;rename_i hs;subst hy;have e:s=⟨runS.toArray⟩:=by
   rw[←hs]
  rw[e];exact run_calls (fn:=Tryz.f8) (code:=runB) hall hH hown Tryz.func8 (by kernel_rfl) (by kernel_rfl) (by kernel_rfl) (by kernel_rfl) Yd6 Yd7 (fun w=>⟨_,Tryz.zeroValue69 w,rfl⟩) (by decide) hok hgn hG
end Sg
namespace Sg
open Go.Proofs
open _root_.Go
def noQ:List V→Option V:=fun _=>none
def shlFm:List (Nat×Nat):=[(643,3),(644,4),(645,5),(646,6),(647,7),(650,10),(651,11),(652,12),(653,13),(654,14),(655,15),(656,16),(657,17),(658,18),(659,19),(660,20),(589,21),(592,23),(663,26),(665,29),(666,30),(667,31),(668,32),(669,33),(24,34),(720,35),(594,36),(596,38),(599,43),(600,44),(601,45),(721,46),(603,47),(672,50),(678,57),(679,58),(188,59),(189,60),(680,61),(327,62),(395,63),(722,65),(553,297),(554,358),(555,64),(612,67),(613,68),(614,69),(615,71),(616,70),(617,72),(618,73),(619,74),(723,75),(724,76),(620,77),(558,79),(331,80),(725,81),(28,84),(191,86),(689,94),(154,95),(345,96),(397,98),(401,97),(43,99),(516,300),(511,361),(570,100),(571,101),(572,102),(626,103),(627,104),(628,106),(529,105),(629,107),(630,108),(726,109),(556,110),(557,111),(563,113),(564,112),(517,114),(512,115),(585,116),(566,117),(632,118),(727,119),(328,120),(352,121),(348,122),(65,123),(159,124),(156,125),(157,126),(148,127),(575,128),(728,129),(32,134),(368,148),(249,149),(421,150),(422,151),(423,152),(68,153),(39,154),(526,303),(528,304),(527,305),(485,227),(537,306),(538,307),(408,170),(484,156),(580,155),(581,157),(582,158),(636,162),(186,163),(285,164),(341,159),(457,160),(458,161),(637,165),(638,166),(729,299),(730,360),(562,167),(573,168),(574,169),(577,171),(578,172),(579,173),(531,174),(539,175),(530,176),(540,177),(541,178),(542,179),(543,180),(532,181),(491,182),(587,183),(465,184),(464,185),(492,186),(493,187),(466,188),(731,298),(732,359),(141,190),(126,191),(346,192),(347,193),(75,194),(177,195),(163,196),(162,197),(175,198),(178,199),(584,202),(244,215),(301,216),(284,217),(455,218),(456,219),(63,220),(64,221),(66,223),(67,222),(430,233),(41,234),(431,236),(432,235),(586,224),(642,228),(192,230),(366,225),(367,226),(144,231),(335,302),(407,363),(583,232),(506,237),(567,238),(565,239),(507,240),(568,241),(490,242),(569,243),(505,244),(340,301),(413,362),(164,246),(165,245),(166,247),(369,248),(194,250),(185,249),(171,251),(203,258),(81,259),(298,261),(299,260),(316,262),(313,264),(483,265),(76,266),(428,267),(40,268),(468,269),(112,316),(355,315),(113,317),(356,318),(15,263),(357,308),(51,375),(429,374),(121,309),(361,310),(362,311),(363,312),(364,313),(365,314),(437,364),(438,365),(427,366),(439,367),(440,368),(441,369),(261,371),(442,370),(443,372),(444,373),(7,271),(97,272),(98,273),(315,274),(467,277),(370,332),(371,333),(131,334),(26,276),(27,275),(72,400),(133,319),(21,323),(109,324),(375,326),(376,327),(377,328),(379,330),(381,331),(57,376),(473,377),(54,378),(462,380),(463,379),(474,381),(240,382),(247,383),(475,384),(47,385),(476,386),(477,387),(262,388),(256,389),(258,390),(265,391),(478,392),(253,393),(266,394),(267,395),(270,396),(271,397),(273,398),(275,399),(22,279),(31,280),(138,336),(139,335),(128,337),(129,338),(130,339),(383,341),(384,340),(145,344),(120,345),(74,401),(71,402),(496,403),(73,406),(499,407),(286,408),(287,409),(288,410),(289,411),(290,412),(291,413),(500,414),(501,415),(217,417),(304,418),(303,419),(302,420),(308,421),(309,422),(211,423),(311,424),(213,425),(91,426),(137,346),(172,349),(314,429),(82,430),(84,431),(200,432),(88,433),(312,434),(206,435),(17,436),(220,439),(221,440),(193,352),(319,442),(320,443),(100,444),(3,445),(10,449),(12,450),(25,451),(225,455),(226,456),(105,460),(106,459),(29,465),(30,466),(648,8),(649,9),(661,22),(597,39),(598,40),(69,41),(380,42),(662,25),(673,51),(382,52),(677,56),(621,78),(190,85),(704,147),(179,189),(180,200),(181,201),(170,229),(134,321),(136,320),(373,322),(374,325),(378,329),(385,342),(386,343),(497,404),(498,405),(307,416),(135,350),(317,437),(318,438),(222,446),(102,447),(103,448),(23,452),(227,457)]
noncomputable def shlT0:List (Nat×Fn):=[(643,.code F643),(644,.code F644),(645,.code F645),(646,.code F646),(647,.code F647),(650,.codeR F650 0),(651,.codeR F651 0),(652,.codeR F652 0),(653,.codeR F653 0),(654,.code F654),(655,.code F655),(656,.code F656)]
noncomputable def shlT1:List (Nat×Fn):=[(657,.code F657),(658,.code F658),(659,.code F659),(660,.code F660),(589,.code F589),(592,.code F592),(663,.code F663),(665,.codeR F665 0),(666,.codeR F666 0),(667,.codeR F667 0),(668,.code F668),(669,.code F669)]
noncomputable def shlT2:List (Nat×Fn):=[(24,.code F24),(720,.code F720),(594,.code F594),(596,.code F596),(599,.codeR F599 0),(603,.codeR F603 0),(672,.code F672),(678,.code F678),(679,.code F679),(188,.code F188),(189,.code F189),(680,.code F680)]
noncomputable def shlT3:List (Nat×Fn):=[(327,.code F327),(395,.code F395),(722,.code F722),(553,.code F553),(554,.code F554),(555,.code F555),(612,.code F612),(613,.code F613),(616,.codeR F616 0),(617,.codeR F617 0),(618,.code F618),(619,.codeR F619 0)]
noncomputable def shlT4:List (Nat×Fn):=[(620,.codeR F620 0),(558,.code F558),(725,.code F725),(28,.code F28),(689,.code F689),(154,.code F154),(345,.code F345),(397,.code F397),(401,.code F401),(43,.code F43),(516,.code F516),(511,.code F511)]
noncomputable def shlT5:List (Nat×Fn):=[(570,.code F570),(571,.code F571),(572,.code F572),(626,.code F626),(627,.code F627),(628,.code F628),(529,.code F529),(629,.code F629),(630,.codeR F630 0),(726,.code F726),(556,.code F556),(585,.code F585)]
noncomputable def shlT6:List (Nat×Fn):=[(566,.code F566),(632,.code F632),(727,.code F727),(328,.code F328),(348,.code F348),(65,.code F65),(728,.code F728),(32,.code F32),(368,.code F368),(249,.code F249),(421,.codeR F421 0),(422,.codeR F422 0)]
noncomputable def shlT7:List (Nat×Fn):=[(423,.codeR F423 0),(68,.code F68),(39,.code F39),(526,.codeR F422 0),(528,.codeR F457 0),(527,.codeR F527 0),(485,.code F485),(537,.codeR F421 0),(538,.codeR F538 0),(408,.code F408),(484,.code F484),(580,.code F580)]
noncomputable def shlT8:List (Nat×Fn):=[(581,.code F581),(582,.code F582),(636,.code F636),(186,.code F186),(285,.code F285),(341,.code F341),(457,.codeR F457 0),(458,.codeR F458 0),(637,.code F637),(638,.code F638),(729,.code F729),(730,.code F730)]
noncomputable def shlT9:List (Nat×Fn):=[(562,.code F562),(573,.code F573),(574,.code F574),(491,.code F491),(587,.code F587),(465,.codeR F465 0),(464,.codeR F464 0),(492,.codeR F492 0),(493,.codeR F493 0),(466,.codeR F466 0),(731,.code F731),(732,.code F732)]
noncomputable def shlT10:List (Nat×Fn):=[(141,.code F141),(126,.code F126),(346,.code F346),(347,.code F347),(75,.code F75),(163,.code F163),(162,.code F162),(244,.code F244),(301,.code F301),(284,.code F284),(455,.code F455),(456,.code F456)]
noncomputable def shlT11:List (Nat×Fn):=[(63,.code F63),(64,.code F64),(66,.code F66),(67,.code F67),(430,.code F430),(41,.code F41),(431,.code F431),(432,.code F432),(586,.code F586),(642,.code F642),(192,.code F192),(366,.code F366)]
noncomputable def shlT12:List (Nat×Fn):=[(367,.code F367),(144,.code F144),(335,.code F335),(407,.code F407),(583,.code F583),(506,.code F506),(507,.code F507),(490,.code F490),(340,.code F340),(413,.code F413),(165,.code F165),(166,.code F166)]
noncomputable def shlT13:List (Nat×Fn):=[(369,.code F369),(185,.code F185),(171,.code F171),(203,.code F203),(81,.code F81),(298,.code F298),(299,.code F299),(316,.code F316),(313,.code F313),(483,.code F483),(76,.code F76),(428,.code F428)]
noncomputable def shlT14:List (Nat×Fn):=[(40,.code F40),(468,.code F468),(112,.code F112),(355,.code F355),(113,.code F113),(356,.code F356),(15,.code F15),(357,.code F357),(51,.code F51),(429,.code F429),(361,.code F361),(437,.code F437)]
noncomputable def shlT15:List (Nat×Fn):=[(427,.code F427),(439,.code F439),(440,.code F440),(442,.code F442),(7,.code F7),(97,.code F97),(98,.code F98),(315,.code F315),(467,.codeR F467 0),(26,.code F26),(27,.code F27),(72,.code F72)]
noncomputable def shlT16:List (Nat×Fn):=[(21,.code F21),(109,.code F109),(57,.code F57),(473,.code F473),(462,.code F462),(463,.code F463),(474,.code F474),(240,.code F240),(47,.code F47),(22,.code F22),(31,.code F31),(128,.code F128)]
noncomputable def shlT17:List (Nat×Fn):=[(129,.code F129),(130,.code F130),(74,.code F74),(71,.code F71),(496,.code F496),(73,.code F73),(499,.code F499),(287,.code F287),(288,.code F288),(289,.code F289),(290,.code F290),(304,.code F304)]
noncomputable def shlT18:List (Nat×Fn):=[(137,.code F137),(314,.code F314),(82,.code F82),(84,.code F84),(200,.code F200),(88,.code F88),(312,.code F312),(220,.code F220),(221,.code F221),(319,.code F319),(320,.code F320),(100,.code F100)]
noncomputable def shlT19:List (Nat×Fn):=[(3,.code F3),(225,.code F225),(106,.code F106),(600,.codeR F600 0),(601,.codeR F601 0),(649,.prim none spltQ),(661,.prim none trimQ),(597,.prim (some 0) (cloneQ 38)),(598,.prim (some 0) (cloneQ 18)),(69,.prim (some 0) (cloneQ 1)),(380,.prim (some 0) (cloneQ 1)),(662,.prim none itoaQ)]
noncomputable def shlT20:List (Nat×Fn):=[(673,.prim none showQ),(382,.prim none joinQ),(677,.prim none atoiQ),(621,.prim (some 2001) noQ),(190,.prim none decQ),(704,.prim none idxQ),(179,.prim (some 0) (cloneQ 5)),(170,.prim none keyQ),(373,.prim (some 0) (cloneQ 3)),(497,.prim (some 0) (cloneQ 9)),(498,.prim (some 1009) noQ),(307,.prim (some 0) (cloneQ 17))]
noncomputable def shlT21:List (Nat×Fn):=[(317,.prim (some 1017) noQ),(222,.prim (some 1002) noQ),(102,.prim (some 0) (cloneQ 11)),(103,.prim (some 1011) noQ),(23,.prim (some 0) (cloneQ 5)),(227,.prim (some 0) (cloneQ 2)),(363,.prim (some 1) noQ),(364,.prim (some 1) noQ),(370,.prim (some 0) noQ),(371,.prim (some 0) noQ)]
noncomputable def shlTab (q:List V→Option V):List (Nat×Fn):=(648,.prim none q)::(shlT0++(shlT1++(shlT2++(shlT3++(shlT4++(shlT5++(shlT6++(shlT7++(shlT8++(shlT9++(shlT10++(shlT11++(shlT12++(shlT13++(shlT14++(shlT15++(shlT16++(shlT17++(shlT18++(shlT19++(shlT20++(shlT21))))))))))))))))))))))
set_option maxRecDepth 100000
theorem okap {P:Go.Program} {cx:Cx} {tab:List (Nat×Fn)}:∀{a b:List (Nat×Fn)} (h:okTab P cx tab a=true) (t:okTab P cx tab b=true),okTab P cx tab (a++b)=true
 |[],_,_,t=>t
 |(k,.code F)::l,_,h,t=>by
  simp only[okTab,Bool.and_eq_true] at h;simp only[List.cons_append,okTab,h.1,okap h.2 t,Bool.and_self]
 |(k,.codeR F j)::l,_,h,t=>by
  simp only[okTab,Bool.and_eq_true] at h;simp only[List.cons_append,okTab,h.1.1,h.1.2,okap h.2 t,Bool.and_self]
 |(k,.prim o p)::l,_,h,t=>by
  simp only[okTab,Bool.and_eq_true] at h;simp only[List.cons_append,okTab,h.1,okap h.2 t,Bool.and_self]
noncomputable abbrev okq (q:List V→Option V) (l:List (Nat×Fn)):Bool:=okTab Tryz.prog (cxU shlFm) (shlTab q) l
theorem ok0 (q:List V→Option V):okq q shlT0=true:=by kernel_rfl
theorem ok1 (q:List V→Option V):okq q shlT1=true:=by kernel_rfl
theorem ok2 (q:List V→Option V):okq q shlT2=true:=by kernel_rfl
theorem ok3 (q:List V→Option V):okq q shlT3=true:=by kernel_rfl
theorem ok4 (q:List V→Option V):okq q shlT4=true:=by kernel_rfl
theorem ok5 (q:List V→Option V):okq q shlT5=true:=by kernel_rfl
theorem ok6 (q:List V→Option V):okq q shlT6=true:=by kernel_rfl
theorem ok7 (q:List V→Option V):okq q shlT7=true:=by kernel_rfl
theorem ok8 (q:List V→Option V):okq q shlT8=true:=by kernel_rfl
theorem ok9 (q:List V→Option V):okq q shlT9=true:=by kernel_rfl
theorem ok10 (q:List V→Option V):okq q shlT10=true:=by kernel_rfl
theorem ok11 (q:List V→Option V):okq q shlT11=true:=by kernel_rfl
theorem ok12 (q:List V→Option V):okq q shlT12=true:=by kernel_rfl
theorem ok13 (q:List V→Option V):okq q shlT13=true:=by kernel_rfl
theorem ok14 (q:List V→Option V):okq q shlT14=true:=by kernel_rfl
theorem ok15 (q:List V→Option V):okq q shlT15=true:=by kernel_rfl
theorem ok16 (q:List V→Option V):okq q shlT16=true:=by kernel_rfl
theorem ok17 (q:List V→Option V):okq q shlT17=true:=by kernel_rfl
theorem ok18 (q:List V→Option V):okq q shlT18=true:=by kernel_rfl
theorem ok19 (q:List V→Option V):okq q shlT19=true:=by kernel_rfl
theorem ok20 (q:List V→Option V):okq q shlT20=true:=by kernel_rfl
theorem ok21 (q:List V→Option V):okq q shlT21=true:=by kernel_rfl
theorem okAll (q:List V→Option V):okTab Tryz.prog (cxU shlFm) (shlTab q) (shlTab q)=true:=by
 show (plQ none&&_)=true
 exact (Bool.and_eq_true _ _).mpr ⟨rfl,okap (ok0 q) (okap (ok1 q) (okap (ok2 q) (okap (ok3 q) (okap (ok4 q) (okap (ok5 q) (okap (ok6 q) (okap (ok7 q) (okap (ok8 q) (okap (ok9 q) (okap (ok10 q) (okap (ok11 q) (okap (ok12 q) (okap (ok13 q) (okap (ok14 q) (okap (ok15 q) (okap (ok16 q) (okap (ok17 q) (okap (ok18 q) (okap (ok19 q) (okap (ok20 q) (ok21 q)))))))))))))))))))))⟩
theorem okRun:okFn Tryz.prog (cxU shlFm) G648 59 4 24 27 2 69 c648 q648 runB=true:=by kernel_rfl
theorem okClone597:okF Tryz.prog (cxU shlFm) (onePg 597 (cloneF 38 [.int .i64 0,.str [],.str [],.int .i64 0,.bool false,.bool false,.int .i64 0,.slice 9 [],.slice 5 [],.slice 3 [],.int .i64 0,.slice 5 [],.slice 3 [],.int .i64 0,.int .i64 0,.int .i64 0,.int .i64 0,.int .i64 0,.int .i64 0,.int .i64 0,.int .i64 0,.int .i64 0,.int .i64 0,.int .i64 0,.str [],.slice 1 [],.int .i64 0,.int .i64 0,.int .i64 0,.str [],.str [],.slice 1 [],.int .i64 0,.int .i64 0,.int .i64 0,.slice 1 [],.slice 7 [],.bool false])) 39 (cloneF 38 [.int .i64 0,.str [],.str [],.int .i64 0,.bool false,.bool false,.int .i64 0,.slice 9 [],.slice 5 [],.slice 3 [],.int .i64 0,.slice 5 [],.slice 3 [],.int .i64 0,.int .i64 0,.int .i64 0,.int .i64 0,.int .i64 0,.int .i64 0,.int .i64 0,.int .i64 0,.int .i64 0,.int .i64 0,.int .i64 0,.str [],.slice 1 [],.int .i64 0,.int .i64 0,.int .i64 0,.str [],.str [],.slice 1 [],.int .i64 0,.int .i64 0,.int .i64 0,.slice 1 [],.slice 7 [],.bool false])=true:=by kernel_rfl
theorem okClone598:okF Tryz.prog (cxU shlFm) (onePg 598 (cloneF 18 [.int .i64 0,.int .i64 0,.slice 5 [],.slice 1 [],.int .i64 0,.int .i64 0,.int .i64 0,.str [],.str [],.bool false,.str [],.int .i64 0,.int .i64 0,.int .i64 0,.str [],.int .i64 0,.bool false,.int .i64 0])) 40 (cloneF 18 [.int .i64 0,.int .i64 0,.slice 5 [],.slice 1 [],.int .i64 0,.int .i64 0,.int .i64 0,.str [],.str [],.bool false,.str [],.int .i64 0,.int .i64 0,.int .i64 0,.str [],.int .i64 0,.bool false,.int .i64 0])=true:=by kernel_rfl
theorem okClone69:okF Tryz.prog (cxU shlFm) (onePg 69 (cloneF 1 [.int .i64 0])) 41 (cloneF 1 [.int .i64 0])=true:=by kernel_rfl
theorem okClone380:okF Tryz.prog (cxU shlFm) (onePg 380 (cloneF 1 [.str []])) 42 (cloneF 1 [.str []])=true:=by kernel_rfl
theorem okClone179:okF Tryz.prog (cxU shlFm) (onePg 179 (cloneF 5 [.str [],.str [],.int .i64 0,.int .i64 0,.int .i64 0])) 189 (cloneF 5 [.str [],.str [],.int .i64 0,.int .i64 0,.int .i64 0])=true:=by kernel_rfl
theorem okClone373:okF Tryz.prog (cxU shlFm) (onePg 373 (cloneF 3 [.int .i64 0,.int .i64 0,.int .i64 0])) 322 (cloneF 3 [.int .i64 0,.int .i64 0,.int .i64 0])=true:=by kernel_rfl
theorem okClone497:okF Tryz.prog (cxU shlFm) (onePg 497 (cloneF 9 [.int .i64 0,.int .i64 0,.int .i64 0,.slice 1 [],.int .i64 0,.str [],.str [],.slice 1 [],.slice 36 []])) 404 (cloneF 9 [.int .i64 0,.int .i64 0,.int .i64 0,.slice 1 [],.int .i64 0,.str [],.str [],.slice 1 [],.slice 36 []])=true:=by kernel_rfl
theorem okClone307:okF Tryz.prog (cxU shlFm) (onePg 307 (cloneF 17 [.int .i64 0,.int .i64 0,.str [],.str [],.int .i64 0,.slice 2 [],.int .i64 0,.int .i64 0,.int .i64 0,.int .i64 0,.int .i64 0,.int .i64 0,.slice 11 [],.int .i64 0,.int .i64 0,.int .i64 0,.int .i64 0])) 416 (cloneF 17 [.int .i64 0,.int .i64 0,.str [],.str [],.int .i64 0,.slice 2 [],.int .i64 0,.int .i64 0,.int .i64 0,.int .i64 0,.int .i64 0,.int .i64 0,.slice 11 [],.int .i64 0,.int .i64 0,.int .i64 0,.int .i64 0])=true:=by kernel_rfl
theorem okClone102:okF Tryz.prog (cxU shlFm) (onePg 102 (cloneF 11 [.int .i64 0,.int .i64 0,.int .i64 0,.int .i64 0,.int .i64 0,.int .i64 0,.bool false,.str [],.slice 2 [],.str [],.bool false])) 447 (cloneF 11 [.int .i64 0,.int .i64 0,.int .i64 0,.int .i64 0,.int .i64 0,.int .i64 0,.bool false,.str [],.slice 2 [],.str [],.bool false])=true:=by kernel_rfl
theorem okClone23:okF Tryz.prog (cxU shlFm) (onePg 23 (cloneF 5 [.int .i64 0,.int .i64 0,.int .i64 0,.bool false,.str []])) 452 (cloneF 5 [.int .i64 0,.int .i64 0,.int .i64 0,.bool false,.str []])=true:=by kernel_rfl
theorem okClone227:okF Tryz.prog (cxU shlFm) (onePg 227 (cloneF 2 [.str [],.slice 5 []])) 457 (cloneF 2 [.str [],.slice 5 []])=true:=by kernel_rfl
end Sg
namespace Sg
open Go Go.RowKit Go.Lib Go.Proofs
def insB:=And.intro Tryz.underlying0 (And.intro Tryz.underlying3 (And.intro Tryz.underlying4 (And.intro Tryz.isAgg0 (And.intro Tryz.isAgg3 (And.intro Tryz.isAgg4 (And.intro Tryz.sizeOf0 (And.intro Tryz.sizeOf3 (And.intro Tryz.sizeOf4 (And.intro Tryz.zeroValue0 (And.intro Tryz.zeroValue3 (And.intro Tryz.zeroValue4 (And.intro (run_underlying Tryz.underlying0) (And.intro (run_underlying Tryz.underlying3) ((run_underlying Tryz.underlying4)))))))))))))))
def insB78:=And.intro Tryz.underlying9 (And.intro Tryz.underlying44 (And.intro Tryz.isAgg9 (And.intro Tryz.isAgg44 (And.intro Tryz.sizeOf9 (And.intro Tryz.sizeOf44 (And.intro Tryz.zeroValue44 ((run_underlying Tryz.underlying44))))))))
theorem delC78:DelC Tryz.prog 78 1 where
 ent:=⟨Tryz.f78,Tryz.func78,by kernel_rfl,by kernel_rfl⟩
 pos:=by decide
 nothing:=by
  intro base n c i w hnc hi hnil;obtain⟨t0,t3,t4,a0,a3,a4,z0,z3,z4,v0,v3,v4,u0,u3,u4⟩:=insB;obtain⟨t9,t24,a9,a24,z9,z24,v24,u24⟩:=insB78;have mixed:Tryz.prog.follows .mixedOrders=true:=by kernel_rfl
  go_enter Tryz.func78,Tryz.ntmps78
  cases base with
  |none=>
   have h0:=hnil rfl;subst h0;have hi0:i=0:=by omega
   subst hi0
   go_wp2
   all_goals (go_ret;exact⟨rfl,rfl⟩)
  |some a=>
   obtain⟨ab,ao,asp⟩:=a
   go_wp2
   all_goals (go_ret;exact⟨rfl,rfl⟩)
 cut:=by
  intro b off n c i j cs w hij hj hnc hlim hcl hcs hfz h1c;obtain⟨t0,t3,t4,a0,a3,a4,z0,z3,z4,v0,v3,v4,u0,u3,u4⟩:=insB;obtain⟨t9,t24,a9,a24,z9,z24,v24,u24⟩:=insB78;have mixed:Tryz.prog.follows .mixedOrders=true:=by kernel_rfl
  obtain⟨i0,hi0,hzs,hzb⟩:∃i0,Tryz.prog.info? 9=some i0∧i0.size=1∧i0.bytes=16:=⟨_,rfl,rfl,rfl⟩;have hv9:∀w,(zeroValue 9).run Tryz.prog w=.ok (Value.string ⟨#[]⟩) w:=Tryz.zeroValue9;obtain⟨news,hnews⟩:∃news,news=cs.drop (j*1):=⟨_,rfl⟩;have hlen:news.length=(n-j)*1:=by rw[hnews,List.length_drop,hcl];omega
  obtain⟨A,hA,hsrc⟩:∃A:Addr,(if c=j then some (⟨b,off,none⟩:Addr) else some ⟨b,off+j*1,none⟩)=some A∧Hid (∀t u,news[t]?=some u→w.drew.cell? (A.add t)=some u):=by
   by_cases h:c=j
   ·refine⟨⟨b,off,none⟩,by simp[h],fun t u hu=>?_⟩;have h0:news.length=0:=by rw[hlen];omega
    rw[List.length_eq_zero_iff.1 h0] at hu;simp at hu
   ·refine⟨⟨b,off+j*1,none⟩,by simp[h],fun t u hu=>?_⟩;rw[Addr.add_lit,Nat.add_assoc];refine hcs (j*1+t) u ?_;rw[hnews,List.getElem?_drop] at hu;exact hu
  have s1:Hid (news.length=(n-j)*1):=hlen;have s2:Hid (∀u∈news,u.oneCell'=true):=fun u hu=>h1c u (List.mem_of_mem_drop (hnews▸hu));have hcell:∀k,k<n*1→(w.cell? ⟨b,off+k,none⟩).isSome=true:=fun k hk=>by
   have hk':k<cs.length:=by omega
   rw[hcs k cs[k] (by simp)];rfl
  have s3:Hid (∀t,t<news.length→(w.drew.cell? ⟨b,off+i*1+t,none⟩).isSome=true∧w.drew.frozen? ⟨b,off+i*1+t,none⟩=false):=by
   intro t ht;rw[hlen] at ht;rw[Nat.add_assoc];exact⟨hcell _ (by omega),hfz _⟩
  obtain⟨W1,hW1⟩:∃W1,W1=w.drew.setCells b (off+i*1) news:=⟨_,rfl⟩;have hZl:∀k,(Builtin.zeroCells (Value.string ⟨#[]⟩).cells k).toList.length=k*1:=fun k=>by simp[Builtin.zeroCells,Value.cells]
  have hZ1:∀k,∀v∈(Builtin.zeroCells (Value.string ⟨#[]⟩).cells k).toList,v.oneCell'=true:=fun k v hv=>zero_one (by decide) hv;have hcl2:∀ty,(Builtin.clear_ #[44] ty #[.slice (some ⟨b,off+(i+(n-j))*1,none⟩) (n-(i+(n-j))) (c-(i+(n-j)))]).run Tryz.prog W1=.ok (.tuple #[]) (W1.setCells b (off+(i+(n-j))*1) (Builtin.zeroCells (Value.string ⟨#[]⟩).cells (n-(i+(n-j)))).toList):=fun ty=>
   run_clear_k W1 44 9 ty _ t24 hv9 b _ _ _ (by omega) (hZ1 _) (fun k hk=>by
    rw[hZl] at hk;rw[hW1];refine isSome_setK b _ _ _ (fun t ht=>?_) _ ?_
    ·rw[hlen] at ht;rw[Nat.add_assoc];exact hcell _ (by omega)
    ·rw[Nat.add_assoc];exact hcell _ (by omega)) (fun k=>by rw[hW1,World.frozen?_setCells];exact hfz k)
  have hW:Hid (W1=w.drew.setCells b (off+i*1) news):=hW1;have X:Hid (news=cs.drop (j*1)):=hnews;have Y1:=hZl (n-(i+(n-j)));have Y2:=hZ1 (n-(i+(n-j)));obtain⟨ZS,hZS⟩:∃ZS,ZS=(Builtin.zeroCells (Value.string ⟨#[]⟩).cells (n-(i+(n-j)))).toList:=⟨_,rfl⟩;rw[←hZS] at hcl2 Y1 Y2;simp only[Nat.mul_one] at hcl2;have Y1h:Hid (ZS.length=(n-(i+(n-j)))*1):=Y1;have Y2h:Hid (∀v∈ZS,v.oneCell'=true):=Y2;have hic:i≤c:=by omega
  have hjc:j≤c:=by omega
  have heq:¬((i:Int)=(j:Int)):=by omega
  clear hW1 hnews hlen Y1 Y2 hZS hZl hZ1 hcell hcs hcl h1c
  go_enter Tryz.func78,Tryz.ntmps78
  go_wp2_with fail
  go_region_law_o (refine step_append_room rfl (.tmp 22) (.tmp 25) 44 rfl 9 i0 1 t24 hi0 hzs b off i c (by simp[Act.eval,Act.put]) A (n-j) (c-j) news (by (simp[Act.eval,Act.put])<;>simpa using hA) s1.out hsrc.out s2.out (by omega) s3.out ?_;rw[←hW.out])
  go_wp2
  all_goals
   go_ret
   refine⟨by rw[show n-(j-i)=i+(n-j) by omega];rfl,w.drew.drawn,ZS,?_,Y2h.out,?_⟩
   ·have hY:=Y1h.out
    simp only[Nat.mul_one] at hY ⊢
    omega
   ·have hX:=X.out
    have hw:=hW.out
    simp only[Nat.mul_one] at hX hw ⊢
    rw[←hX,show n-(j-i)=i+(n-j) by omega]
    have:({w with drawn:=w.drew.drawn}:World)=w.drew:=rfl
    rw[this,←hw]
def insB405:=And.intro Tryz.underlying194 (And.intro Tryz.underlying94 (And.intro Tryz.isAgg194 (And.intro Tryz.isAgg94 (And.intro Tryz.sizeOf194 (And.intro Tryz.sizeOf94 (And.intro Tryz.zeroValue94 ((run_underlying Tryz.underlying94))))))))
theorem insC405:InsC Tryz.prog 405 9 94 194 where
 ent:=⟨Tryz.f405,Tryz.func405,by kernel_rfl,by kernel_rfl⟩
 hS:=Tryz.underlying94
 hz:=by kernel_rfl
 pos:=by decide
 info:=⟨_,(Value.agg #[.int .i64 0,.int .i64 0,.int .i64 0,.slice none 0 0,.int .i64 0,.string ⟨#[]⟩,.string ⟨#[]⟩,.slice none 0 0,.slice none 0 0]),rfl,by decide,rfl,rfl⟩
 nothing:=by
  intro base n c i vc vb w hnc hi hnil;obtain⟨t0,t3,t4,a0,a3,a4,z0,z3,z4,v0,v3,v4,u0,u3,u4⟩:=insB;obtain⟨t9,t24,a9,a24,z9,z24,v24,u24⟩:=insB405;have mixed:Tryz.prog.follows .mixedOrders=true:=by kernel_rfl
  go_enter Tryz.func405,Tryz.ntmps405
  cases base with
  |none=>
   have h0:=hnil rfl;subst h0;have hi0:i=0:=by omega
   subst hi0
   go_wp2
   all_goals (go_ret;exact⟨rfl,rfl⟩)
  |some a=>
   obtain⟨ab,ao,asp⟩:=a
   go_wp2
   all_goals (go_ret;exact⟨rfl,rfl⟩)
 end_:=by
  intro base n c m vc vb w w' q hm hnc hlim hnil hrun;obtain⟨t0,t3,t4,a0,a3,a4,z0,z3,z4,v0,v3,v4,u0,u3,u4⟩:=insB;obtain⟨t9,t24,a9,a24,z9,z24,v24,u24⟩:=insB405;have mixed:Tryz.prog.follows .mixedOrders=true:=by kernel_rfl
  have hz1:¬((m:Int)=0):=by omega
  go_enter Tryz.func405,Tryz.ntmps405
  cases base with
  |none=>
   have h0:=hnil rfl;subst h0
   go_wp2_with (at_builtin;refine Lib.wpList_append_run _ rfl _ _ _ _ rfl _ _ rfl rfl _ _ hrun ?_)
   all_goals (go_ret;exact⟨rfl,rfl⟩)
  |some a=>
   obtain⟨ab,ao,asp⟩:=a
   go_wp2_with (at_builtin;refine Lib.wpList_append_run _ rfl _ _ _ _ rfl _ _ rfl rfl _ _ hrun ?_)
   all_goals (go_ret;exact⟨rfl,rfl⟩)
 shift:=by
  intro b off n c i vb voff m vc cs vs w hi hm hroom hlim hvb hcl hvl hcs hsp hfz hvs h1c h1v tA tB kA kB hsa hsb hkA;obtain⟨t0,t3,t4,a0,a3,a4,z0,z3,z4,v0,v3,v4,u0,u3,u4⟩:=insB;obtain⟨t9,t24,a9,a24,z9,z24,v24,u24⟩:=insB405;have hz1:¬((m:Int)=0):=by omega
  have hz2:¬((i:Int)=(n:Int)):=by omega
  have hsz:(Tryz.prog.info? 194).map (·.size)=some 9:=by kernel_rfl
  have hov:∀lb cb,(callFunc 427 #[.slice (some ⟨vb,voff,none⟩) m vc,.slice (some ⟨b,off+(i+m)*9,none⟩) lb cb]).run Tryz.prog w=.ok (.value (.bool false)) w:=fun lb cb=>by
   rw[run_callFunc_extern Tryz.func427 (by kernel_rfl) (by kernel_rfl) (by kernel_rfl) (e:=Extern.SlicesOverlaps.overlaps #[94,94] #[4]) (by kernel_rfl),
    run_overlaps_k w 94 4 194 t24 9 z9 ⟨vb,voff,none⟩ ⟨b,off+(i+m)*9,none⟩ m vc lb cb hvb tA tB kA kB hsa hsb hkA (hfz _) (hfz _)]
   rfl
  have mixed:Tryz.prog.follows .mixedOrders=true:=by kernel_rfl
  have hw1:IntKind.i64.wrap ((i:Int)+(m:Int))=(i:Int)+(m:Int):=by rw[IntKind.wrap_i64];omega
  have hb1:(0:Int)≤(i:Int)+(m:Int):=by omega
  have hin:i≤n:=by omega
  have htn:((i:Int)+(m:Int)).toNat=i+m:=by omega
  have hb2:¬(c=i+m):=by omega
  have hb3:(i:Int)≤(n:Int)+(m:Int):=by omega
  have hb4:¬(c=i):=by omega
  obtain⟨W1,hW1,hcp1,hcp2⟩:=ins_p1 t24 hsz b off n c i vb voff m vc cs vs w hi hm hvb hcl hvl hcs hsp hfz hvs h1c h1v
  go_enter Tryz.func405,Tryz.ntmps405
  go_wp2_with (simp only[hov])
  go_region_law_o (refine step_copy_k rfl _ _ 94 94 rfl _ _ (by simp[Act.eval,Act.put]) (by simp[Act.eval,Act.put]) (hcp1 _ _ _) ?_)
  go_wp2_with (at_builtin;refine wpList_copy_k _ rfl _ _ 94 94 rfl _ _ rfl rfl (hcp2 _ (fun _=>rfl) (fun _=>rfl) _ _) ?_)
  go_ret
  first|exact⟨rfl,rfl⟩|exact⟨rfl,by rw[hW1]⟩
 grow:=by
  intro b off n c i vb voff m vc cs vs w hi hm hnc hroom hlim hcl hvl hbw hvw hcs hvs h1c h1v;obtain⟨t0,t3,t4,a0,a3,a4,z0,z3,z4,v0,v3,v4,u0,u3,u4⟩:=insB;obtain⟨t9,t24,a9,a24,z9,z24,v24,u24⟩:=insB405;have mixed:Tryz.prog.follows .mixedOrders=true:=by kernel_rfl
  obtain⟨i0,hi0,hz0,hzs,hzb⟩:∃i0,Tryz.prog.info? 194=some i0∧i0.zero=some (Value.agg #[.int .i64 0,.int .i64 0,.int .i64 0,.slice none 0 0,.int .i64 0,.string ⟨#[]⟩,.string ⟨#[]⟩,.slice none 0 0,.slice none 0 0])∧i0.size=9∧i0.bytes=136:=⟨_,rfl,rfl,rfl,rfl⟩;have hz1:¬((m:Int)=0):=by omega
  have hz2:¬((i:Int)=(n:Int)):=by omega
  have hz3:(c:Int)<(n:Int)+(m:Int):=by omega
  obtain⟨G,ROW,hGn,hRl,hRs,hRt,hG63,hrz,hcpA,hcpB⟩:=ins_p2 t24 t3 i0 (Value.agg #[.int .i64 0,.int .i64 0,.int .i64 0,.slice none 0 0,.int .i64 0,.string ⟨#[]⟩,.string ⟨#[]⟩,.slice none 0 0,.slice none 0 0]) hi0 hz0 hzs (by decide) (by rw[hzb];decide) (fun k=>by simp[Builtin.zeroCells,Value.cells]) b off n c i vb voff m vc cs vs w hi hm hnc hroom hlim hcl hvl hbw hvw hcs hvs h1c h1v;have hGi:¬(G=i):=by omega
  have hGim:¬(G=i+m):=by omega
  have hci:¬(c=i):=by omega
  have hE1:∀x,((w.alloc (.cells ROW 194)).drew).cell? x=(w.drew.alloc (.cells ROW 194)).cell? x:=fun x=>rfl;have hE2:∀x,((w.alloc (.cells ROW 194)).drew).frozen? x=(w.drew.alloc (.cells ROW 194)).frozen? x:=fun x=>rfl;have hF1:∀x,(((w.alloc (.cells ROW 194)).drew.setCells w.heap.size (i*9) vs).drew).cell? x=((w.drew.alloc (.cells ROW 194)).setCells w.heap.size (i*9) vs).cell? x:=fun x=>rfl;have hF2:∀x,(((w.alloc (.cells ROW 194)).drew.setCells w.heap.size (i*9) vs).drew).frozen? x=((w.drew.alloc (.cells ROW 194)).setCells w.heap.size (i*9) vs).frozen? x:=fun x=>rfl;have hw1:IntKind.i64.wrap ((i:Int)+(m:Int))=(i:Int)+(m:Int):=by rw[IntKind.wrap_i64];omega
  have hb1:(0:Int)≤(i:Int)+(m:Int):=by omega
  have hin:i≤n:=by omega
  have htn:((i:Int)+(m:Int)).toNat=i+m:=by omega
  have hb3:(i:Int)≤(n:Int):=by omega
  go_enter Tryz.func405,Tryz.ntmps405
  go_wp2_with (first
   |(at_builtin;refine Lib.wpList_append_run _ rfl _ _ _ _ rfl _ _ rfl rfl _ _ (hrz _) ?_)
   |(at_builtin;refine wpList_copy_k _ rfl _ _ 94 94 rfl _ _ rfl rfl (hcpA _ hE1 hE2 _ _) ?_)
   |(at_builtin;refine wpList_copy_k _ rfl _ _ 94 94 rfl _ _ rfl rfl (hcpB _ (fun _=>rfl) (fun _=>rfl) _ _ _) ?_))
  go_region_law_o (refine step_copy_k rfl _ _ 94 94 rfl (.slice (some ⟨w.heap.size,(i+m)*9,none⟩) (n+m-(i+m)) (G-(i+m))) (.slice (some ⟨b,off+i*9,none⟩) (n-i) (c-i)) (by simp[Act.eval,Act.put]) (by simp[Act.eval,Act.put]) (hcpB _ hF1 hF2 3 (G-(i+m)) (c-i)) ?_)
  go_wp2
  go_ret
  exact⟨G,ROW,w.drew.drew.drawn,hGn,hRl,hRs,hRt,rfl,by first|rfl|(rw[drew_setK];rfl)|(simp only[drew_setK];rfl)⟩
def insB437:=And.intro Tryz.underlying256 (And.intro Tryz.underlying185 (And.intro Tryz.isAgg256 (And.intro Tryz.isAgg185 (And.intro Tryz.sizeOf256 (And.intro Tryz.sizeOf185 (And.intro Tryz.zeroValue185 ((run_underlying Tryz.underlying185))))))))
theorem insC437:InsC Tryz.prog 437 17 185 256 where
 ent:=⟨Tryz.f437,Tryz.func437,by kernel_rfl,by kernel_rfl⟩
 hS:=Tryz.underlying185
 hz:=by kernel_rfl
 pos:=by decide
 info:=⟨_,(Value.agg #[.int .i64 0,.int .i64 0,.string ⟨#[]⟩,.string ⟨#[]⟩,.int .i64 0,.slice none 0 0,.int .i64 0,.int .i64 0,.int .i64 0,.int .i64 0,.int .i64 0,.int .i64 0,.slice none 0 0,.int .i64 0,.int .i64 0,.int .i64 0,.int .i64 0]),rfl,by decide,rfl,rfl⟩
 nothing:=by
  intro base n c i vc vb w hnc hi hnil;obtain⟨t0,t3,t4,a0,a3,a4,z0,z3,z4,v0,v3,v4,u0,u3,u4⟩:=insB;obtain⟨t9,t24,a9,a24,z9,z24,v24,u24⟩:=insB437;have mixed:Tryz.prog.follows .mixedOrders=true:=by kernel_rfl
  go_enter Tryz.func437,Tryz.ntmps437
  cases base with
  |none=>
   have h0:=hnil rfl;subst h0;have hi0:i=0:=by omega
   subst hi0
   go_wp2
   all_goals (go_ret;exact⟨rfl,rfl⟩)
  |some a=>
   obtain⟨ab,ao,asp⟩:=a
   go_wp2
   all_goals (go_ret;exact⟨rfl,rfl⟩)
 end_:=by
  intro base n c m vc vb w w' q hm hnc hlim hnil hrun;obtain⟨t0,t3,t4,a0,a3,a4,z0,z3,z4,v0,v3,v4,u0,u3,u4⟩:=insB;obtain⟨t9,t24,a9,a24,z9,z24,v24,u24⟩:=insB437;have mixed:Tryz.prog.follows .mixedOrders=true:=by kernel_rfl
  have hz1:¬((m:Int)=0):=by omega
  go_enter Tryz.func437,Tryz.ntmps437
  cases base with
  |none=>
   have h0:=hnil rfl;subst h0
   go_wp2_with (at_builtin;refine Lib.wpList_append_run _ rfl _ _ _ _ rfl _ _ rfl rfl _ _ hrun ?_)
   all_goals (go_ret;exact⟨rfl,rfl⟩)
  |some a=>
   obtain⟨ab,ao,asp⟩:=a
   go_wp2_with (at_builtin;refine Lib.wpList_append_run _ rfl _ _ _ _ rfl _ _ rfl rfl _ _ hrun ?_)
   all_goals (go_ret;exact⟨rfl,rfl⟩)
 shift:=by
  intro b off n c i vb voff m vc cs vs w hi hm hroom hlim hvb hcl hvl hcs hsp hfz hvs h1c h1v tA tB kA kB hsa hsb hkA;obtain⟨t0,t3,t4,a0,a3,a4,z0,z3,z4,v0,v3,v4,u0,u3,u4⟩:=insB;obtain⟨t9,t24,a9,a24,z9,z24,v24,u24⟩:=insB437;have hz1:¬((m:Int)=0):=by omega
  have hz2:¬((i:Int)=(n:Int)):=by omega
  have hsz:(Tryz.prog.info? 256).map (·.size)=some 17:=by kernel_rfl
  have hov:∀lb cb,(callFunc 453 #[.slice (some ⟨vb,voff,none⟩) m vc,.slice (some ⟨b,off+(i+m)*17,none⟩) lb cb]).run Tryz.prog w=.ok (.value (.bool false)) w:=fun lb cb=>by
   rw[run_callFunc_extern Tryz.func453 (by kernel_rfl) (by kernel_rfl) (by kernel_rfl) (e:=Extern.SlicesOverlaps.overlaps #[185,185] #[4]) (by kernel_rfl),
    run_overlaps_k w 185 4 256 t24 17 z9 ⟨vb,voff,none⟩ ⟨b,off+(i+m)*17,none⟩ m vc lb cb hvb tA tB kA kB hsa hsb hkA (hfz _) (hfz _)]
   rfl
  have mixed:Tryz.prog.follows .mixedOrders=true:=by kernel_rfl
  have hw1:IntKind.i64.wrap ((i:Int)+(m:Int))=(i:Int)+(m:Int):=by rw[IntKind.wrap_i64];omega
  have hb1:(0:Int)≤(i:Int)+(m:Int):=by omega
  have hin:i≤n:=by omega
  have htn:((i:Int)+(m:Int)).toNat=i+m:=by omega
  have hb2:¬(c=i+m):=by omega
  have hb3:(i:Int)≤(n:Int)+(m:Int):=by omega
  have hb4:¬(c=i):=by omega
  obtain⟨W1,hW1,hcp1,hcp2⟩:=ins_p1 t24 hsz b off n c i vb voff m vc cs vs w hi hm hvb hcl hvl hcs hsp hfz hvs h1c h1v
  go_enter Tryz.func437,Tryz.ntmps437
  go_wp2_with (simp only[hov])
  go_region_law_o (refine step_copy_k rfl _ _ 185 185 rfl _ _ (by simp[Act.eval,Act.put]) (by simp[Act.eval,Act.put]) (hcp1 _ _ _) ?_)
  go_wp2_with (at_builtin;refine wpList_copy_k _ rfl _ _ 185 185 rfl _ _ rfl rfl (hcp2 _ (fun _=>rfl) (fun _=>rfl) _ _) ?_)
  go_ret
  first|exact⟨rfl,rfl⟩|exact⟨rfl,by rw[hW1]⟩
 grow:=by
  intro b off n c i vb voff m vc cs vs w hi hm hnc hroom hlim hcl hvl hbw hvw hcs hvs h1c h1v;obtain⟨t0,t3,t4,a0,a3,a4,z0,z3,z4,v0,v3,v4,u0,u3,u4⟩:=insB;obtain⟨t9,t24,a9,a24,z9,z24,v24,u24⟩:=insB437;have mixed:Tryz.prog.follows .mixedOrders=true:=by kernel_rfl
  obtain⟨i0,hi0,hz0,hzs,hzb⟩:∃i0,Tryz.prog.info? 256=some i0∧i0.zero=some (Value.agg #[.int .i64 0,.int .i64 0,.string ⟨#[]⟩,.string ⟨#[]⟩,.int .i64 0,.slice none 0 0,.int .i64 0,.int .i64 0,.int .i64 0,.int .i64 0,.int .i64 0,.int .i64 0,.slice none 0 0,.int .i64 0,.int .i64 0,.int .i64 0,.int .i64 0])∧i0.size=17∧i0.bytes=184:=⟨_,rfl,rfl,rfl,rfl⟩;have hz1:¬((m:Int)=0):=by omega
  have hz2:¬((i:Int)=(n:Int)):=by omega
  have hz3:(c:Int)<(n:Int)+(m:Int):=by omega
  obtain⟨G,ROW,hGn,hRl,hRs,hRt,hG63,hrz,hcpA,hcpB⟩:=ins_p2 t24 t3 i0 (Value.agg #[.int .i64 0,.int .i64 0,.string ⟨#[]⟩,.string ⟨#[]⟩,.int .i64 0,.slice none 0 0,.int .i64 0,.int .i64 0,.int .i64 0,.int .i64 0,.int .i64 0,.int .i64 0,.slice none 0 0,.int .i64 0,.int .i64 0,.int .i64 0,.int .i64 0]) hi0 hz0 hzs (by decide) (by rw[hzb];decide) (fun k=>by simp[Builtin.zeroCells,Value.cells]) b off n c i vb voff m vc cs vs w hi hm hnc hroom hlim hcl hvl hbw hvw hcs hvs h1c h1v;have hGi:¬(G=i):=by omega
  have hGim:¬(G=i+m):=by omega
  have hci:¬(c=i):=by omega
  have hE1:∀x,((w.alloc (.cells ROW 256)).drew).cell? x=(w.drew.alloc (.cells ROW 256)).cell? x:=fun x=>rfl;have hE2:∀x,((w.alloc (.cells ROW 256)).drew).frozen? x=(w.drew.alloc (.cells ROW 256)).frozen? x:=fun x=>rfl;have hF1:∀x,(((w.alloc (.cells ROW 256)).drew.setCells w.heap.size (i*17) vs).drew).cell? x=((w.drew.alloc (.cells ROW 256)).setCells w.heap.size (i*17) vs).cell? x:=fun x=>rfl;have hF2:∀x,(((w.alloc (.cells ROW 256)).drew.setCells w.heap.size (i*17) vs).drew).frozen? x=((w.drew.alloc (.cells ROW 256)).setCells w.heap.size (i*17) vs).frozen? x:=fun x=>rfl;have hw1:IntKind.i64.wrap ((i:Int)+(m:Int))=(i:Int)+(m:Int):=by rw[IntKind.wrap_i64];omega
  have hb1:(0:Int)≤(i:Int)+(m:Int):=by omega
  have hin:i≤n:=by omega
  have htn:((i:Int)+(m:Int)).toNat=i+m:=by omega
  have hb3:(i:Int)≤(n:Int):=by omega
  go_enter Tryz.func437,Tryz.ntmps437
  go_wp2_with (first
   |(at_builtin;refine Lib.wpList_append_run _ rfl _ _ _ _ rfl _ _ rfl rfl _ _ (hrz _) ?_)
   |(at_builtin;refine wpList_copy_k _ rfl _ _ 185 185 rfl _ _ rfl rfl (hcpA _ hE1 hE2 _ _) ?_)
   |(at_builtin;refine wpList_copy_k _ rfl _ _ 185 185 rfl _ _ rfl rfl (hcpB _ (fun _=>rfl) (fun _=>rfl) _ _ _) ?_))
  go_region_law_o (refine step_copy_k rfl _ _ 185 185 rfl (.slice (some ⟨w.heap.size,(i+m)*17,none⟩) (n+m-(i+m)) (G-(i+m))) (.slice (some ⟨b,off+i*17,none⟩) (n-i) (c-i)) (by simp[Act.eval,Act.put]) (by simp[Act.eval,Act.put]) (hcpB _ hF1 hF2 3 (G-(i+m)) (c-i)) ?_)
  go_wp2
  go_ret
  exact⟨G,ROW,w.drew.drew.drawn,hGn,hRl,hRs,hRt,rfl,by first|rfl|(rw[drew_setK];rfl)|(simp only[drew_setK];rfl)⟩
def insB446:=And.intro Tryz.underlying332 (And.intro Tryz.underlying253 (And.intro Tryz.isAgg332 (And.intro Tryz.isAgg253 (And.intro Tryz.sizeOf332 (And.intro Tryz.sizeOf253 (And.intro Tryz.zeroValue253 ((run_underlying Tryz.underlying253))))))))
theorem insC446:InsC Tryz.prog 446 2 253 332 where
 ent:=⟨Tryz.f446,Tryz.func446,by kernel_rfl,by kernel_rfl⟩
 hS:=Tryz.underlying253
 hz:=by kernel_rfl
 pos:=by decide
 info:=⟨_,(Value.agg #[.string ⟨#[]⟩,.slice none 0 0]),rfl,by decide,rfl,rfl⟩
 nothing:=by
  intro base n c i vc vb w hnc hi hnil;obtain⟨t0,t3,t4,a0,a3,a4,z0,z3,z4,v0,v3,v4,u0,u3,u4⟩:=insB;obtain⟨t9,t24,a9,a24,z9,z24,v24,u24⟩:=insB446;have mixed:Tryz.prog.follows .mixedOrders=true:=by kernel_rfl
  go_enter Tryz.func446,Tryz.ntmps446
  cases base with
  |none=>
   have h0:=hnil rfl;subst h0;have hi0:i=0:=by omega
   subst hi0
   go_wp2
   all_goals (go_ret;exact⟨rfl,rfl⟩)
  |some a=>
   obtain⟨ab,ao,asp⟩:=a
   go_wp2
   all_goals (go_ret;exact⟨rfl,rfl⟩)
 end_:=by
  intro base n c m vc vb w w' q hm hnc hlim hnil hrun;obtain⟨t0,t3,t4,a0,a3,a4,z0,z3,z4,v0,v3,v4,u0,u3,u4⟩:=insB;obtain⟨t9,t24,a9,a24,z9,z24,v24,u24⟩:=insB446;have mixed:Tryz.prog.follows .mixedOrders=true:=by kernel_rfl
  have hz1:¬((m:Int)=0):=by omega
  go_enter Tryz.func446,Tryz.ntmps446
  cases base with
  |none=>
   have h0:=hnil rfl;subst h0
   go_wp2_with (at_builtin;refine Lib.wpList_append_run _ rfl _ _ _ _ rfl _ _ rfl rfl _ _ hrun ?_)
   all_goals (go_ret;exact⟨rfl,rfl⟩)
  |some a=>
   obtain⟨ab,ao,asp⟩:=a
   go_wp2_with (at_builtin;refine Lib.wpList_append_run _ rfl _ _ _ _ rfl _ _ rfl rfl _ _ hrun ?_)
   all_goals (go_ret;exact⟨rfl,rfl⟩)
 shift:=by
  intro b off n c i vb voff m vc cs vs w hi hm hroom hlim hvb hcl hvl hcs hsp hfz hvs h1c h1v tA tB kA kB hsa hsb hkA;obtain⟨t0,t3,t4,a0,a3,a4,z0,z3,z4,v0,v3,v4,u0,u3,u4⟩:=insB;obtain⟨t9,t24,a9,a24,z9,z24,v24,u24⟩:=insB446;have hz1:¬((m:Int)=0):=by omega
  have hz2:¬((i:Int)=(n:Int)):=by omega
  have hsz:(Tryz.prog.info? 332).map (·.size)=some 2:=by kernel_rfl
  have hov:∀lb cb,(callFunc 461 #[.slice (some ⟨vb,voff,none⟩) m vc,.slice (some ⟨b,off+(i+m)*2,none⟩) lb cb]).run Tryz.prog w=.ok (.value (.bool false)) w:=fun lb cb=>by
   rw[run_callFunc_extern Tryz.func461 (by kernel_rfl) (by kernel_rfl) (by kernel_rfl) (e:=Extern.SlicesOverlaps.overlaps #[253,253] #[4]) (by kernel_rfl),
    run_overlaps_k w 253 4 332 t24 2 z9 ⟨vb,voff,none⟩ ⟨b,off+(i+m)*2,none⟩ m vc lb cb hvb tA tB kA kB hsa hsb hkA (hfz _) (hfz _)]
   rfl
  have mixed:Tryz.prog.follows .mixedOrders=true:=by kernel_rfl
  have hw1:IntKind.i64.wrap ((i:Int)+(m:Int))=(i:Int)+(m:Int):=by rw[IntKind.wrap_i64];omega
  have hb1:(0:Int)≤(i:Int)+(m:Int):=by omega
  have hin:i≤n:=by omega
  have htn:((i:Int)+(m:Int)).toNat=i+m:=by omega
  have hb2:¬(c=i+m):=by omega
  have hb3:(i:Int)≤(n:Int)+(m:Int):=by omega
  have hb4:¬(c=i):=by omega
  obtain⟨W1,hW1,hcp1,hcp2⟩:=ins_p1 t24 hsz b off n c i vb voff m vc cs vs w hi hm hvb hcl hvl hcs hsp hfz hvs h1c h1v
  go_enter Tryz.func446,Tryz.ntmps446
  go_wp2_with (simp only[hov])
  go_region_law_o (refine step_copy_k rfl _ _ 253 253 rfl _ _ (by simp[Act.eval,Act.put]) (by simp[Act.eval,Act.put]) (hcp1 _ _ _) ?_)
  go_wp2_with (at_builtin;refine wpList_copy_k _ rfl _ _ 253 253 rfl _ _ rfl rfl (hcp2 _ (fun _=>rfl) (fun _=>rfl) _ _) ?_)
  go_ret
  first|exact⟨rfl,rfl⟩|exact⟨rfl,by rw[hW1]⟩
 grow:=by
  intro b off n c i vb voff m vc cs vs w hi hm hnc hroom hlim hcl hvl hbw hvw hcs hvs h1c h1v;obtain⟨t0,t3,t4,a0,a3,a4,z0,z3,z4,v0,v3,v4,u0,u3,u4⟩:=insB;obtain⟨t9,t24,a9,a24,z9,z24,v24,u24⟩:=insB446;have mixed:Tryz.prog.follows .mixedOrders=true:=by kernel_rfl
  obtain⟨i0,hi0,hz0,hzs,hzb⟩:∃i0,Tryz.prog.info? 332=some i0∧i0.zero=some (Value.agg #[.string ⟨#[]⟩,.slice none 0 0])∧i0.size=2∧i0.bytes=40:=⟨_,rfl,rfl,rfl,rfl⟩;have hz1:¬((m:Int)=0):=by omega
  have hz2:¬((i:Int)=(n:Int)):=by omega
  have hz3:(c:Int)<(n:Int)+(m:Int):=by omega
  obtain⟨G,ROW,hGn,hRl,hRs,hRt,hG63,hrz,hcpA,hcpB⟩:=ins_p2 t24 t3 i0 (Value.agg #[.string ⟨#[]⟩,.slice none 0 0]) hi0 hz0 hzs (by decide) (by rw[hzb];decide) (fun k=>by simp[Builtin.zeroCells,Value.cells]) b off n c i vb voff m vc cs vs w hi hm hnc hroom hlim hcl hvl hbw hvw hcs hvs h1c h1v;have hGi:¬(G=i):=by omega
  have hGim:¬(G=i+m):=by omega
  have hci:¬(c=i):=by omega
  have hE1:∀x,((w.alloc (.cells ROW 332)).drew).cell? x=(w.drew.alloc (.cells ROW 332)).cell? x:=fun x=>rfl;have hE2:∀x,((w.alloc (.cells ROW 332)).drew).frozen? x=(w.drew.alloc (.cells ROW 332)).frozen? x:=fun x=>rfl;have hF1:∀x,(((w.alloc (.cells ROW 332)).drew.setCells w.heap.size (i*2) vs).drew).cell? x=((w.drew.alloc (.cells ROW 332)).setCells w.heap.size (i*2) vs).cell? x:=fun x=>rfl;have hF2:∀x,(((w.alloc (.cells ROW 332)).drew.setCells w.heap.size (i*2) vs).drew).frozen? x=((w.drew.alloc (.cells ROW 332)).setCells w.heap.size (i*2) vs).frozen? x:=fun x=>rfl;have hw1:IntKind.i64.wrap ((i:Int)+(m:Int))=(i:Int)+(m:Int):=by rw[IntKind.wrap_i64];omega
  have hb1:(0:Int)≤(i:Int)+(m:Int):=by omega
  have hin:i≤n:=by omega
  have htn:((i:Int)+(m:Int)).toNat=i+m:=by omega
  have hb3:(i:Int)≤(n:Int):=by omega
  go_enter Tryz.func446,Tryz.ntmps446
  go_wp2_with (first
   |(at_builtin;refine Lib.wpList_append_run _ rfl _ _ _ _ rfl _ _ rfl rfl _ _ (hrz _) ?_)
   |(at_builtin;refine wpList_copy_k _ rfl _ _ 253 253 rfl _ _ rfl rfl (hcpA _ hE1 hE2 _ _) ?_)
   |(at_builtin;refine wpList_copy_k _ rfl _ _ 253 253 rfl _ _ rfl rfl (hcpB _ (fun _=>rfl) (fun _=>rfl) _ _ _) ?_))
  go_region_law_o (refine step_copy_k rfl _ _ 253 253 rfl (.slice (some ⟨w.heap.size,(i+m)*2,none⟩) (n+m-(i+m)) (G-(i+m))) (.slice (some ⟨b,off+i*2,none⟩) (n-i) (c-i)) (by simp[Act.eval,Act.put]) (by simp[Act.eval,Act.put]) (hcpB _ hF1 hF2 3 (G-(i+m)) (c-i)) ?_)
  go_wp2
  go_ret
  exact⟨G,ROW,w.drew.drew.drawn,hGn,hRl,hRs,hRt,rfl,by first|rfl|(rw[drew_setK];rfl)|(simp only[drew_setK];rfl)⟩
def insB448:=And.intro Tryz.underlying336 (And.intro Tryz.underlying254 (And.intro Tryz.isAgg336 (And.intro Tryz.isAgg254 (And.intro Tryz.sizeOf336 (And.intro Tryz.sizeOf254 (And.intro Tryz.zeroValue254 ((run_underlying Tryz.underlying254))))))))
theorem insC448:InsC Tryz.prog 448 11 254 336 where
 ent:=⟨Tryz.f448,Tryz.func448,by kernel_rfl,by kernel_rfl⟩
 hS:=Tryz.underlying254
 hz:=by kernel_rfl
 pos:=by decide
 info:=⟨_,(Value.agg #[.int .i64 0,.int .i64 0,.int .i64 0,.int .i64 0,.int .i64 0,.int .i64 0,.bool false,.string ⟨#[]⟩,.slice none 0 0,.string ⟨#[]⟩,.bool false]),rfl,by decide,rfl,rfl⟩
 nothing:=by
  intro base n c i vc vb w hnc hi hnil;obtain⟨t0,t3,t4,a0,a3,a4,z0,z3,z4,v0,v3,v4,u0,u3,u4⟩:=insB;obtain⟨t9,t24,a9,a24,z9,z24,v24,u24⟩:=insB448;have mixed:Tryz.prog.follows .mixedOrders=true:=by kernel_rfl
  go_enter Tryz.func448,Tryz.ntmps448
  cases base with
  |none=>
   have h0:=hnil rfl;subst h0;have hi0:i=0:=by omega
   subst hi0
   go_wp2
   all_goals (go_ret;exact⟨rfl,rfl⟩)
  |some a=>
   obtain⟨ab,ao,asp⟩:=a
   go_wp2
   all_goals (go_ret;exact⟨rfl,rfl⟩)
 end_:=by
  intro base n c m vc vb w w' q hm hnc hlim hnil hrun;obtain⟨t0,t3,t4,a0,a3,a4,z0,z3,z4,v0,v3,v4,u0,u3,u4⟩:=insB;obtain⟨t9,t24,a9,a24,z9,z24,v24,u24⟩:=insB448;have mixed:Tryz.prog.follows .mixedOrders=true:=by kernel_rfl
  have hz1:¬((m:Int)=0):=by omega
  go_enter Tryz.func448,Tryz.ntmps448
  cases base with
  |none=>
   have h0:=hnil rfl;subst h0
   go_wp2_with (at_builtin;refine Lib.wpList_append_run _ rfl _ _ _ _ rfl _ _ rfl rfl _ _ hrun ?_)
   all_goals (go_ret;exact⟨rfl,rfl⟩)
  |some a=>
   obtain⟨ab,ao,asp⟩:=a
   go_wp2_with (at_builtin;refine Lib.wpList_append_run _ rfl _ _ _ _ rfl _ _ rfl rfl _ _ hrun ?_)
   all_goals (go_ret;exact⟨rfl,rfl⟩)
 shift:=by
  intro b off n c i vb voff m vc cs vs w hi hm hroom hlim hvb hcl hvl hcs hsp hfz hvs h1c h1v tA tB kA kB hsa hsb hkA;obtain⟨t0,t3,t4,a0,a3,a4,z0,z3,z4,v0,v3,v4,u0,u3,u4⟩:=insB;obtain⟨t9,t24,a9,a24,z9,z24,v24,u24⟩:=insB448;have hz1:¬((m:Int)=0):=by omega
  have hz2:¬((i:Int)=(n:Int)):=by omega
  have hsz:(Tryz.prog.info? 336).map (·.size)=some 11:=by kernel_rfl
  have hov:∀lb cb,(callFunc 463 #[.slice (some ⟨vb,voff,none⟩) m vc,.slice (some ⟨b,off+(i+m)*11,none⟩) lb cb]).run Tryz.prog w=.ok (.value (.bool false)) w:=fun lb cb=>by
   rw[run_callFunc_extern Tryz.func463 (by kernel_rfl) (by kernel_rfl) (by kernel_rfl) (e:=Extern.SlicesOverlaps.overlaps #[254,254] #[4]) (by kernel_rfl),
    run_overlaps_k w 254 4 336 t24 11 z9 ⟨vb,voff,none⟩ ⟨b,off+(i+m)*11,none⟩ m vc lb cb hvb tA tB kA kB hsa hsb hkA (hfz _) (hfz _)]
   rfl
  have mixed:Tryz.prog.follows .mixedOrders=true:=by kernel_rfl
  have hw1:IntKind.i64.wrap ((i:Int)+(m:Int))=(i:Int)+(m:Int):=by rw[IntKind.wrap_i64];omega
  have hb1:(0:Int)≤(i:Int)+(m:Int):=by omega
  have hin:i≤n:=by omega
  have htn:((i:Int)+(m:Int)).toNat=i+m:=by omega
  have hb2:¬(c=i+m):=by omega
  have hb3:(i:Int)≤(n:Int)+(m:Int):=by omega
  have hb4:¬(c=i):=by omega
  obtain⟨W1,hW1,hcp1,hcp2⟩:=ins_p1 t24 hsz b off n c i vb voff m vc cs vs w hi hm hvb hcl hvl hcs hsp hfz hvs h1c h1v
  go_enter Tryz.func448,Tryz.ntmps448
  go_wp2_with (simp only[hov])
  go_region_law_o (refine step_copy_k rfl _ _ 254 254 rfl _ _ (by simp[Act.eval,Act.put]) (by simp[Act.eval,Act.put]) (hcp1 _ _ _) ?_)
  go_wp2_with (at_builtin;refine wpList_copy_k _ rfl _ _ 254 254 rfl _ _ rfl rfl (hcp2 _ (fun _=>rfl) (fun _=>rfl) _ _) ?_)
  go_ret
  first|exact⟨rfl,rfl⟩|exact⟨rfl,by rw[hW1]⟩
 grow:=by
  intro b off n c i vb voff m vc cs vs w hi hm hnc hroom hlim hcl hvl hbw hvw hcs hvs h1c h1v;obtain⟨t0,t3,t4,a0,a3,a4,z0,z3,z4,v0,v3,v4,u0,u3,u4⟩:=insB;obtain⟨t9,t24,a9,a24,z9,z24,v24,u24⟩:=insB448;have mixed:Tryz.prog.follows .mixedOrders=true:=by kernel_rfl
  obtain⟨i0,hi0,hz0,hzs,hzb⟩:∃i0,Tryz.prog.info? 336=some i0∧i0.zero=some (Value.agg #[.int .i64 0,.int .i64 0,.int .i64 0,.int .i64 0,.int .i64 0,.int .i64 0,.bool false,.string ⟨#[]⟩,.slice none 0 0,.string ⟨#[]⟩,.bool false])∧i0.size=11∧i0.bytes=120:=⟨_,rfl,rfl,rfl,rfl⟩;have hz1:¬((m:Int)=0):=by omega
  have hz2:¬((i:Int)=(n:Int)):=by omega
  have hz3:(c:Int)<(n:Int)+(m:Int):=by omega
  obtain⟨G,ROW,hGn,hRl,hRs,hRt,hG63,hrz,hcpA,hcpB⟩:=ins_p2 t24 t3 i0 (Value.agg #[.int .i64 0,.int .i64 0,.int .i64 0,.int .i64 0,.int .i64 0,.int .i64 0,.bool false,.string ⟨#[]⟩,.slice none 0 0,.string ⟨#[]⟩,.bool false]) hi0 hz0 hzs (by decide) (by rw[hzb];decide) (fun k=>by simp[Builtin.zeroCells,Value.cells]) b off n c i vb voff m vc cs vs w hi hm hnc hroom hlim hcl hvl hbw hvw hcs hvs h1c h1v;have hGi:¬(G=i):=by omega
  have hGim:¬(G=i+m):=by omega
  have hci:¬(c=i):=by omega
  have hE1:∀x,((w.alloc (.cells ROW 336)).drew).cell? x=(w.drew.alloc (.cells ROW 336)).cell? x:=fun x=>rfl;have hE2:∀x,((w.alloc (.cells ROW 336)).drew).frozen? x=(w.drew.alloc (.cells ROW 336)).frozen? x:=fun x=>rfl;have hF1:∀x,(((w.alloc (.cells ROW 336)).drew.setCells w.heap.size (i*11) vs).drew).cell? x=((w.drew.alloc (.cells ROW 336)).setCells w.heap.size (i*11) vs).cell? x:=fun x=>rfl;have hF2:∀x,(((w.alloc (.cells ROW 336)).drew.setCells w.heap.size (i*11) vs).drew).frozen? x=((w.drew.alloc (.cells ROW 336)).setCells w.heap.size (i*11) vs).frozen? x:=fun x=>rfl;have hw1:IntKind.i64.wrap ((i:Int)+(m:Int))=(i:Int)+(m:Int):=by rw[IntKind.wrap_i64];omega
  have hb1:(0:Int)≤(i:Int)+(m:Int):=by omega
  have hin:i≤n:=by omega
  have htn:((i:Int)+(m:Int)).toNat=i+m:=by omega
  have hb3:(i:Int)≤(n:Int):=by omega
  go_enter Tryz.func448,Tryz.ntmps448
  go_wp2_with (first
   |(at_builtin;refine Lib.wpList_append_run _ rfl _ _ _ _ rfl _ _ rfl rfl _ _ (hrz _) ?_)
   |(at_builtin;refine wpList_copy_k _ rfl _ _ 254 254 rfl _ _ rfl rfl (hcpA _ hE1 hE2 _ _) ?_)
   |(at_builtin;refine wpList_copy_k _ rfl _ _ 254 254 rfl _ _ rfl rfl (hcpB _ (fun _=>rfl) (fun _=>rfl) _ _ _) ?_))
  go_region_law_o (refine step_copy_k rfl _ _ 254 254 rfl (.slice (some ⟨w.heap.size,(i+m)*11,none⟩) (n+m-(i+m)) (G-(i+m))) (.slice (some ⟨b,off+i*11,none⟩) (n-i) (c-i)) (by simp[Act.eval,Act.put]) (by simp[Act.eval,Act.put]) (hcpB _ hF1 hF2 3 (G-(i+m)) (c-i)) ?_)
  go_wp2
  go_ret
  exact⟨G,ROW,w.drew.drew.drawn,hGn,hRl,hRs,hRt,rfl,by first|rfl|(rw[drew_setK];rfl)|(simp only[drew_setK];rfl)⟩
end Sg
namespace Sg
open _root_.Go
variable {N : Nat}
theorem YcO {x:V} (h:HasN N .str x):∃s,x=.str s∧s.length≤N:=by cases h;exact⟨_,rfl,by assumption⟩
theorem arg_str {x:V} (h:ArgVN N (false,[.str]) x):∃s,x=.str s∧s.length≤N:=by
 obtain⟨c,hc,h⟩:=h;simp only[Gab,and_true] at hc;subst hc;exact YcO h
end Sg
