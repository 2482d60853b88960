/- StoreOrder, at every input: proved over a checked abstract run of the translated code; no condition. A part. -/
import Derived.KernelRfl
import Derived.Test.YtofkbkonceifeaaGreatDoorStoreOrderA4
set_option linter.unusedSimpArgs false
set_option linter.unusedVariables false
set_option linter.constructorNameAsVariable false
set_option linter.defProp false
set_option maxRecDepth 100000
set_option maxHeartbeats 4000000
namespace Sg
open _root_.Go (IntKind BinOp UnOp)
variable {Pg:PgT}
theorem Yfw {α:Type} {W:α→List UInt8} {P:α→Prop} (hW:∀a,P a→1≤(W a).length) {l:List α} (hl:∀a∈l,P a):l.length≤(Yb9 W l).length∧∀a∈l,(W a).length≤(Yb9 W l).length:=by
 have h1:=YdU hW hl;refine⟨by simp only[Yb9,Ge];omega,fun a ha=>?_⟩;have:(W a).length≤(l.flatMap W).length:=by
  clear h1 hl
  induction l with
  |nil=>simp at ha
  |cons b l ih=>
   simp only[GK,Ge];rcases GI.1 ha with rfl|ha
   ·omega
   ·have:=ih ha;omega
 simp only[Yb9,Ge];omega
theorem Ygl {t:List UInt8}:t.length≤(Yak t).length:=by simp[Yak]
theorem YkN {e:Entr} (h:YhZ e):e.key.length≤(YbN e).length∧e.chain.length≤(YbN e).length:=by
 have h1:=Ygl (t:=e.key);have h2:=(Yfw Yhw h.2.2).1;simp only[YbN,Ge];omega
theorem Yhs {s:Shd} (h:ShV s) (hl:(shB s).length≤10000):SmS s:=by
 obtain⟨⟨a1,a2,a3,a4,a5,a6,a7,a8,a9,a10,a11,⟨a12,a13⟩,⟨a14,a15⟩⟩,-⟩:=h;obtain⟨e1,e2⟩:=Yfw Yg8 a13;obtain⟨d1,d2⟩:=Yfw YfK a15;have t1:=Ygl (t:=s.span.lo);have t2:=Ygl (t:=s.span.hi);simp only[shB,Ge] at hl;refine⟨⟨by omega,fun e he=>?_⟩,by omega,fun d hd=>?_,by omega,by omega⟩
 ·have:=e2 e he;have:=YkN (a13 e he);omega
 ·have:=(a15 d hd).2;rw[←this];simp[mkD]
theorem YjK {c:Cel} (h:CV c) (hl:(cB c).length≤10000):SmC c:=by
 obtain⟨⟨a1,a2,a3,a4⟩,-⟩:=h;obtain⟨e1,e2⟩:=Yfw Yhr a4;simp only[cB,Ge] at hl;exact⟨by omega,fun s hs=>Yhs (a4 s hs) (by have:=e2 s hs;omega)⟩
def clP (t:Stamp) (d:Int) (e:V):List V:=[e,iz t.wall,iz t.tick,iz t.node,iz d]
structure C428 (S:St) (y:Rd) (t:Stamp) (d:Int) (vs:List Shd) (j:Nat):Prop where
 r2:S.ρ 2=.lref 2 0
 r4:S.ρ 4=.lref 8 0
 r5:S.ρ 5=.lref 5 0
 m8:S.μ 8=some (eRd y,false)
 m2:S.μ 2=some ([.slice 17 [],.int .i64 0,.int .i64 0,.int .i64 0,.int .i64 0],false)
 m5:S.μ 5=some (clP t d (nilOr 23 17 j),false)
 a23:S.A 23=YcL 17 (vs.map Yh) j
 vl:vs.length=j
theorem Yl0 (h467:H467 Pg) {y:Rd} {m:Nat} {t:Stamp} {d:Int} (hy:y.1.length≤2 ^ 20) (hm:m≤2 ^ 20) {S:St} {Q:Ex→St→Prop} (hS:C428 S y t d [] 0) (s15:S.ρ 15=iz m) (s16:S.ρ 16=iz 0)
  (hq:∀S',C428 S' (Yaz (gSh false) m y).2 t d (Yaz (gSh false) m y).1 m→Q .norm S'):Wp (K' Pg) l428_0 S (Blk 0 Q):=by
 unfold l428_0
 refine JiJ (fun (j:Nat) S'=>j≤m∧S'.ρ 15=iz m∧S'.ρ 16=iz j∧∃(vs:List Shd) (y':Rd),y'.1.length≤2 ^ 20∧
  Yaz (gSh false) m y=(vs++(Yaz (gSh false) (m-j) y').1,(Yaz (gSh false) (m-j) y').2)∧C428 S' y' t d vs j) (fun j=>m-j) 0 ?_ ?_
 ·simp only[JhF]
  exact⟨GE _,s15,s16,[],y,hy,rfl,hS⟩
 ·intro j S' ⟨hj,t15,t16,vs,y',hyl,hrep,hE⟩
  obtain⟨t2,t4,t5,m8,m2,m5,a23,hvl⟩:=hE
  cases c1:decide ((j:Int)<(m:Int)) with
  |false=>
   have hjm:j=m:=by have:=Gb c1;omega
   subst hjm
   have he:=Yfz hrep
   simp only[go_sem,t15,t16,c1]
   rw[he] at hq
   exact hq _ ⟨by simp only[go_sem,t2],by simp only[go_sem,t4],by simp only[go_sem,t5],m8,m2,m5,a23,hvl⟩
  |true=>
   have hlt:=Yj c1
   have hinc:=inc64q (i:=j) (by omega)
   have hone:=rep_one hlt hrep
   have k1:=K467 h467 y' hyl
   have l1:=GJ ((cSh (D:=false)).len y') hyl
   generalize gSh false y'=p1 at *
   obtain⟨b1,x1⟩:=p1
   simp only at hone l1
   have r1:=fun (S:St) (hm:S.μ 8=some (eRd y',false))=>Qc (p:=20300) k1 hm
   have hil:(vs.map Yh).length=j:=by simp[hvl]
   have ha:=fun S=>YdR (S:=S) (s:=23) (z:=17) (r:=Yh b1) hil (by unfold lim;omega)
   have v5:=m5
   simp only[clP] at v5
   simp only[go_sem] at r1 m8 ha
   simp only[go_sem,t4,t5,t15,t16,c1,m8,v5,a23,r1,YcU,ha,hinc,JhF]
   exact⟨j+1,by omega,by omega,rfl,vs++[b1],x1,l1,hone,by simp only[go_sem,t2],by simp only[go_sem,t4],by simp only[go_sem,t5],by simp only[go_sem],by simp only[go_sem,m2],by simp only[go_sem]<;>rfl,by simp only[go_sem,GF]<;>rfl,by simp[hvl]⟩
def YeG (o:Option Cel):V:=match o with
 |some c=>.tuple [.agg (Yk c),iz 0]
 |none=>.tuple [.agg [.slice 17 [],iz 0,iz 0,iz 0,iz 0],iz 3]
def H428 (Pg:PgT):Prop:=Pg 428=some (.code F428)∧H464 Pg∧H465 Pg∧H466 Pg∧H467 Pg∧H249 Pg
theorem K428g (h:H428 Pg) (t:List UInt8) (ht:t.length≤2 ^ 20) (hts:∀c,CV c→cB c=t→SmC c):K' Pg 428 [.str t]=some (YeG (tkC t)):=by
 obtain⟨h,h464,h465,h466,h467,h249⟩:=h;have hR:∀{a:Stamp} {n:Nat} {x1 x2:Rd},rd tkS zS (t,false)=(a,x1)→rd (tk 9) 0 x1=(n,x2)→
   gC false (t,false)=(mkC (a,n,(Yaz (gSh false) (rL x2).1 (rL x2).2).1),(Yaz (gSh false) (rL x2).1 (rL x2).2).2):=by
  intro a n x1 x2 e1 e2
  have d1:gN false=rd (tk 9) 0:=rfl
  have d3:gS false=rd tkS zS:=rfl
  simp only[gC,mapR,pairR,d1,d3,e1,e2]
  rfl
 have k1:=K464 h464 (t,false) (by simp only;omega);have l1:=(cS (D:=false)).len (t,false);change (rd tkS zS (t,false)).2.1.length≤t.length at l1;cases e1:rd tkS zS (t,false) with
 |mk a x1=>
 rw[e1] at k1 l1;simp only at k1 l1;have k2:=K465 h465 x1 (by omega);have l2:=codN.len x1;cases e2:rd (tk 9) 0 x1 with
 |mk n x2=>
 rw[e2] at k2 l2;simp only at k2 l2;have k3:=K466 h466 x2 (by omega);have l3:=Ykh (x:=x2) (by omega);have hg:=hR e1 e2;generalize rL x2=pL at *
 obtain⟨m,y⟩:=pL;simp only at k3 l3 hg;generalize hD:Yaz (gSh false) m y=pD at *
 obtain⟨sh,u,b⟩:=pD;simp only at hg;have hsm:b=false→u=[]→SmC (mkC (a,n,sh)):=fun hb hu=>by
  subst hb;subst hu;obtain⟨g1,g2⟩:=(cC (D:=false)).get hg;exact hts _ g2 (by rw[Gv] at g1;exact g1.symm)
 refine Qb h rfl ?_;have r1:=fun (S:St) (hm:S.μ 8=some (eRd (t,false),false))=>Qc (p:=20000) k1 hm;have r2:=fun (S:St) (hm:S.μ 8=some (eRd x1,false))=>Qc (p:=20100) k2 hm;have r3:=fun (S:St) (hm:S.μ 8=some (eRd x2,false))=>Qc (p:=20200) k3 hm;simp only[go_sem,eSt] at r1 r2 r3;simp only[F428,c428,go_sem,r1,r2,r3];refine Yl0 h467 (y:=y) (m:=m) (t:=a) (d:=n) l3.2 l3.1 ⟨by simp only[go_sem],by simp only[go_sem],by simp only[go_sem],by simp only[go_sem],by simp only[go_sem],by simp only[go_sem]<;>rfl,rfl,rfl⟩ (by simp only[go_sem]) (by simp only[go_sem]) fun S1 hE1=>?_;rw[hD] at hE1;obtain⟨t2,t4,t5,m8,m2,m5,a23,hvl⟩:=hE1;simp only at m8 a23 hvl;have hc1:=YbI a23 (by simp[hvl]);simp only[clP] at m5;simp only[go_sem] at m8;have e0:tkC t=if (b=false∧u=[])∧Yy (mkC (a,n,sh))=true then some (mkC (a,n,sh)) else none:=by
  unfold tkC;rw[hg];simp only[Gl,and_comm]
 rw[e0];cases b with
 |true=>
  rw[Gn (by simp)];simp only[go_sem,t2,t4,m8,m2,YeG]
 |false=>
  cases c2:decide (u=[]) with
  |false=>
   rw[Gn (by simp[Gb c2])];simp only[go_sem,t2,t4,m8,m2,c2,YeG]
  |true=>
   have hu:=Gg c2;have k249:=K249 h249 (mkC (a,n,sh)) (hsm rfl hu);cases c3:Yy (mkC (a,n,sh)) with
   |false=>
    rw[c3] at k249;rw[Gn (by simp)];simp only[go_sem,mkC] at k249;simp only[go_sem,t2,t4,t5,m8,m2,m5,c2,hc1,k249,YeG]
   |true=>
    rw[c3] at k249;rw[Gr ⟨⟨rfl,hu⟩,rfl⟩];simp only[go_sem,mkC] at k249;simp only[go_sem,t2,t4,t5,m8,m2,m5,c2,hc1,k249,YeG,mkC]
theorem K428 (h:H428 Pg) (t:List UInt8) (ht:t.length≤10000):K' Pg 428 [.str t]=some (YeG (tkC t)):=
 K428g h t (by omega) fun c hc e=>YjK hc (by rw[e];exact ht)
theorem repD_one {α:Type} {R:Rd→α×Rd} {m j:Nat} {vs:List α} {y y':Rd} (hj:j<m) (hn:y'.2=false) (h:YaC R m y=(vs++(YaC R (m-j) y').1,(YaC R (m-j) y').2)) :
  YaC R m y=((vs++[(R y').1])++(YaC R (m-(j+1)) (R y').2).1,(YaC R (m-(j+1)) (R y').2).2):=by
 rw[h,show m-j=(m-(j+1))+1 by omega]
 simp[YaC,hn]
theorem YeT {α:Type} {R:Rd→α×Rd} {m j:Nat} {vs:List α} {y y':Rd} (h:YaC R m y=(vs++(YaC R (m-j) y').1,(YaC R (m-j) y').2)) (hs:m≤j∨y'.2=true):YaC R m y=(vs,y'):=by
 rw[h];rcases hs with hs|hs
 ·rw[show m-j=0 by omega];simp[YaC]
 ·obtain⟨s,b⟩:=y';simp only at hs;subst hs;rw[Ydp];simp
theorem YeM {S:St} {Wv:List Nat} {v:Nat} (hv:Wv.contains v=false):(S.head [] [] Wv []).μ v=S.μ v:=by
 show (if Wv.contains v then none else (S.μ v).map _)=_
 rw[hv];cases S.μ v<;>rfl
structure B436 (S:St) (y:Rd) (sh:Shd) (es:List Entr) (ds:List Done):Prop where
 r0:S.ρ 0=.lref 0 0
 r2:S.ρ 2=.lref 2 0
 r3:S.ρ 3=.lref 3 0
 m0:S.μ 0=some (eRd y,false)
 m2:S.μ 2=some (zSh,false)
 m3:S.μ 3=some (shP sh (nilOr 97 2 es.length) (nilOr 139 11 ds.length),false)
 m11:S.μ 11=none
 a97:S.A 97=YcL 2 (es.map YaK) es.length
 a139:S.A 139=YcL 11 (ds.map YQ) ds.length
theorem B436.head {S:St} {y:Rd} {sh:Shd} {es:List Entr} {ds:List Done} {Wv Wa:List Nat} (h:B436 S y sh es ds) (h0:Wv.contains 0=false) (h2:Wv.contains 2=false) (h3:Wv.contains 3=false) (h97:Wa.contains 97=false) (h139:Wa.contains 139=false) :
  B436 (S.head [] [] Wv Wa) y sh es ds:=
 ⟨Jiu h.r0 (by simp only[stay,h0];rfl),Jiu h.r2 (by simp only[stay,h2];rfl),Jiu h.r3 (by simp only[stay,h3];rfl),Jit h.m0 rfl h0,Jit h.m2 rfl h2,Ydn h.m3 h3 h97 h139,Jis (.inl h.m11),(Ybr h97).trans h.a97,(Ybr h139).trans h.a139⟩
structure V436 (S:St) (M I m j:Nat) (key:List UInt8) (vs:List Ver):Prop where
 r4:S.ρ 4=iz M
 r5:S.ρ 5=iz I
 r6:S.ρ 6=.lref 6 0
 r7:S.ρ 7=iz m
 r8:S.ρ 8=iz j
 m6:S.μ 6=some ([.str key,nilOr 91 5 vs.length],false)
 m9:S.μ 9=none
 a91:S.A 91=YcL 5 (vs.map Yam) vs.length
 vl:vs.length=j
theorem Ymc (h434:H434 Pg) (h472:H472 Pg) (h471:H471 Pg) {y:Rd} {M I m:Nat} {key:List UInt8} {sh:Shd} {es:List Entr} {ds:List Done} (hy:y.1.length≤2 ^ 21) {S:St} {Q:Ex→St→Prop}
  (hB:B436 S y sh es ds) (hV:V436 S M I m 0 key [])
  (hm:(YaC (gV true) m y).1.length≤2 ^ 21)
  (hq:∀S' j,B436 S' (YaC (gV true) m y).2 sh es ds→V436 S' M I m j key (YaC (gV true) m y).1→Q .norm S'):Wp (K' Pg) l436_1 S (Blk 2 Q):=by
 unfold l436_1
 refine JiJ (fun (j:Nat) S'=>j≤m∧∃(vs:List Ver) (y':Rd),y'.1.length≤2 ^ 21∧
  YaC (gV true) m y=(vs++(YaC (gV true) (m-j) y').1,(YaC (gV true) (m-j) y').2)∧B436 S' y' sh es ds∧V436 S' M I m j key vs) (fun j=>m-j) 0 ?_ ?_
 ·exact⟨GE _,[],y,hy,rfl,hB.head rfl rfl rfl rfl rfl,Jiu hV.r4 rfl,Jiu hV.r5 rfl,Jiu hV.r6 rfl,Jiu hV.r7 rfl,Jiu hV.r8 rfl,(YeM rfl).trans hV.m6,Jis (.inr rfl),(Ybr rfl).trans hV.a91,rfl⟩
 ·intro j S' ⟨hj,vs,y',hyl,hrep,hB,hV⟩
  obtain⟨t0,t2,t3,m0,m2,m3,m11,a97,a139⟩:=hB
  obtain⟨t4,t5,t6,t7,t8,m6,m9,a91,hvl⟩:=hV
  obtain⟨u,b⟩:=y'
  simp only[go_sem] at m0
  have fin:(m≤j∨b=true)→∀(ρ':Nat→V),(∀i,i≠75→ρ' i=S'.ρ i)→Q .norm ⟨ρ',S'.μ,S'.A⟩:=fun hs ρ' hρ=>by
   have he:=YeT hrep hs;rw[he] at hq;exact hq _ j ⟨(hρ 0 (by omega)).trans t0,(hρ 2 (by omega)).trans t2,(hρ 3 (by omega)).trans t3,m0,m2,m3,m11,a97,a139⟩ ⟨(hρ 4 (by omega)).trans t4,(hρ 5 (by omega)).trans t5,(hρ 6 (by omega)).trans t6,(hρ 7 (by omega)).trans t7,(hρ 8 (by omega)).trans t8,m6,m9,a91,hvl⟩
  cases c1:decide ((j:Int)<(m:Int)) with
  |false=>
   have hjm:m≤j:=by have:=Gb c1;omega
   simp only[go_sem,t7,t8,c1]
   exact fin (.inl hjm) _ fun i hi=>Je5 (by simpa using hi)
  |true=>
   cases b with
   |true=>
    simp only[go_sem,t0,t7,t8,m0,c1]
    exact fin (.inr rfl) _ fun i hi=>Je5 (by simpa using hi)
   |false=>
    have hlt:=Yj c1
    have hone:=repD_one hlt rfl hrep
    have hjl:j+1≤2 ^ 21:=by
     have:=Gaz (fun p=>p.1.length) hone;simp only[Ge,List.length_singleton] at this;omega
    have hinc:=inc64q (i:=j) (by omega)
    have k1:=K434 h434 (u,false) (by simp only at hyl ⊢;omega)
    have l1:(cu tkS zS (u,false)).2.1.length≤2 ^ 21:=GJ ((cS (D:=true)).len (u,false)) hyl
    have hR:gV true (u,false)=(⟨(cu tkS zS (u,false)).1,(cu tkF false (cu tkS zS (u,false)).2).1,(cu tkT [] (cu tkF false (cu tkS zS (u,false)).2).2).1⟩,(cu tkT [] (cu tkF false (cu tkS zS (u,false)).2).2).2):=rfl
    rw[hR] at hone
    generalize cu tkS zS (u,false)=p1 at *
    obtain⟨b1,x1⟩:=p1
    simp only at hone l1
    have k2:=K472 h472 x1 (by omega)
    have l2:(cu tkF false x1).2.1.length≤2 ^ 21:=GJ ((cF (D:=true)).len x1) l1
    generalize cu tkF false x1=p2 at *
    obtain⟨b2,x2⟩:=p2
    simp only at hone l2
    have k3:=K471 h471 x2 (by omega)
    have l3:(cu tkT [] x2).2.1.length≤2 ^ 21:=GJ ((cT (D:=true)).len x2) l2
    generalize cu tkT [] x2=p3 at *
    obtain⟨b3,x3⟩:=p3
    simp only at hone l3
    have r1:=fun (S:St) (hm:S.μ 0=some (eRd (u,false),false))=>Qc (p:=21400) k1 hm
    have r2:=fun (S:St) (hm:S.μ 0=some (eRd x1,false))=>Qc (p:=21500) k2 hm
    have r3:=fun (S:St) (hm:S.μ 0=some (eRd x2,false))=>Qc (p:=21600) k3 hm
    have ha:=fun S=>YdR (S:=S) (s:=91) (z:=5) (n:=vs.length) (rows:=vs.map Yam) (r:=Yam ⟨b1,b2,b3⟩) (by simp) (by unfold lim;omega)
    simp only[go_sem,eSt] at r1 r2 r3 ha
    simp only[go_sem,t0,t6,t7,t8,c1,m0,m6,m9,a91,r1,r2,r3,YcU,ha,hinc]
    refine⟨j+1,by omega,by omega,vs++[⟨b1,b2,b3⟩],x3,l3,hone,B436.head ⟨by simp only[go_sem,t0],by simp only[go_sem,t2],by simp only[go_sem,t3],by simp only[go_sem],by simp only[go_sem,m2],by simp only[go_sem,m3],by simp only[go_sem,m11],by simp only[go_sem,a97],by simp only[go_sem,a139]⟩ rfl rfl rfl rfl rfl,
     Jiu (by simp only[go_sem,t4]) rfl,Jiu (by simp only[go_sem,t5]) rfl,Jiu (by simp only[go_sem,t6]) rfl,Jiu (by simp only[go_sem,t7]) rfl,Jiu (by simp only[go_sem]) rfl,(YeM rfl).trans (by simp only[go_sem,Ge]<;>rfl),Jis (.inr rfl),(Ybr rfl).trans (by simp only[go_sem,GF,Ge]<;>rfl),by simp[hvl]⟩
theorem Yd5 {α:Type} {R:Rd→α×Rd} {W:α→List UInt8} {P:α→Prop} (h:Cod R W P) (hW:∀a,P a→1≤(W a).length):∀{k:Nat} {x:Rd},(YaC R k x).1.length≤x.1.length+1
 |0,x=>by simp[YaC]
 |k+1,(s,true)=>by rw[Ydp];simp
 |k+1,(s,false)=>by
  have e:YaC R (k+1) (s,false)=((R (s,false)).1::(YaC R k (R (s,false)).2).1,(YaC R k (R (s,false)).2).2):=rfl;rw[e];simp only[List.length_cons];cases hq:R (s,false) with
  |mk a y=>
   obtain⟨r,b⟩:=y;cases b with
   |true=>simp only[Ydp,List.length_nil];omega
   |false=>
    obtain⟨g1,g2⟩:=h.get hq;have h1:=hW a g2;have h2:=Yd5 h hW (k:=k) (x:=(r,false));have h3:=Gaz List.length g1;simp only[Ge] at h3;simp only at h2 ⊢;omega
theorem YlE (h434:H434 Pg) (h472:H472 Pg) (h471:H471 Pg) (h435:H435 Pg) {y:Rd} {m:Nat} {sh:Shd} {ds:List Done} (hy:y.1.length≤2 ^ 20) {S:St} {Q:Ex→St→Prop}
  (hB:B436 S y sh [] ds) (s4:S.ρ 4=iz m) (s5:S.ρ 5=iz 0) (n6:S.μ 6=none) (n9:S.μ 9=none) (a91:S.A 91=none)
  (hq:∀S',B436 S' (YaC (gE true) m y).2 sh (YaC (gE true) m y).1 ds→Q .norm S'):Wp (K' Pg) l436_0 S (Blk 0 Q):=by
 have hcnt:=Yd5 (cE (D:=true)) Yg8 (k:=m) (x:=y)
 unfold l436_0
 refine JiJ (fun (j:Nat) S'=>j≤m∧S'.ρ 4=iz m∧S'.ρ 5=iz j∧S'.μ 6=none∧S'.μ 9=none∧S'.A 91=none∧∃(vs:List Entr) (y':Rd),vs.length=j∧y'.1.length≤2 ^ 20∧
  YaC (gE true) m y=(vs++(YaC (gE true) (m-j) y').1,(YaC (gE true) (m-j) y').2)∧B436 S' y' sh vs ds) (fun j=>m-j) 0 ?_ ?_
 ·exact⟨GE _,Jiu s4 rfl,Jiu s5 rfl,Jis (.inl n6),Jis (.inl n9),YiP rfl,[],y,rfl,hy,rfl,hB.head rfl rfl rfl rfl rfl⟩
 ·intro j S' ⟨hj,t4,t5,m6,m9,a91,vs,y',hvl,hyl,hrep,hB⟩
  obtain⟨t0,t2,t3,m0,m2,m3,m11,a97,a139⟩:=hB
  obtain⟨u,b⟩:=y'
  simp only[go_sem] at m0
  have fin:(m≤j∨b=true)→∀(ρ':Nat→V),(∀i,i≠58→ρ' i=S'.ρ i)→Q .norm ⟨ρ',S'.μ,S'.A⟩:=fun hs ρ' hρ=>by
   have he:=YeT hrep hs;rw[he] at hq;exact hq _ ⟨(hρ 0 (by omega)).trans t0,(hρ 2 (by omega)).trans t2,(hρ 3 (by omega)).trans t3,m0,m2,m3,m11,a97,a139⟩
  cases c1:decide ((j:Int)<(m:Int)) with
  |false=>
   have hjm:m≤j:=by have:=Gb c1;omega
   simp only[go_sem,t4,t5,c1]
   exact fin (.inl hjm) _ fun i hi=>Je5 (by simpa using hi)
  |true=>
   cases b with
   |true=>
    simp only[go_sem,t0,t4,t5,m0,c1]
    exact fin (.inr rfl) _ fun i hi=>Je5 (by simpa using hi)
   |false=>
    have hlt:=Yj c1
    have hone:=repD_one hlt rfl hrep
    have hjl:vs.length+1≤2 ^ 21:=by
     have:=Gaz (fun p=>p.1.length) hone;simp only[Ge,List.length_singleton] at this;omega
    have hinc:=inc64q (i:=j) (by omega)
    have k1:=K471 h471 (u,false) (by simp only at hyl ⊢;omega)
    have l1:(cu tkT [] (u,false)).2.1.length≤2 ^ 20:=GJ ((cT (D:=true)).len (u,false)) hyl
    have hR:gE true (u,false)=(⟨(cu tkT [] (u,false)).1,(YaC (gV true) (cu (tk 9) 0 (cu tkT [] (u,false)).2).1 (cu (tk 9) 0 (cu tkT [] (u,false)).2).2).1⟩,(YaC (gV true) (cu (tk 9) 0 (cu tkT [] (u,false)).2).1 (cu (tk 9) 0 (cu tkT [] (u,false)).2).2).2):=rfl
    rw[hR] at hone
    generalize cu tkT [] (u,false)=p1 at *
    obtain⟨b1,x1⟩:=p1
    simp only at hone l1
    have k2:=K435 h435 x1 (by omega)
    have l2:(cu (tk 9) 0 x1).2.1.length≤2 ^ 20:=GJ (Yb1.len x1) l1
    generalize cu (tk 9) 0 x1=p2 at *
    obtain⟨n2,x2⟩:=p2
    simp only at hone l2
    have r1:=fun (S:St) (hm:S.μ 0=some (eRd (u,false),false))=>Qc (p:=21200) k1 hm
    have r2:=fun (S:St) (hm:S.μ 0=some (eRd x1,false))=>Qc (p:=21300) k2 hm
    have hc2:=Yd5 (cV (D:=true)) Yhw (k:=n2) (x:=x2)
    have lz:=GJ (YeU (cV (D:=true)) (k:=n2) (x:=x2)) l2
    simp only[go_sem] at r1 r2
    simp only[go_sem,t0,t4,t5,c1,m0,m6,r1,r2]
    refine Ymc h434 h472 h471 (y:=x2) (M:=m) (I:=j) (m:=n2) (key:=b1) (sh:=sh) (es:=vs) (ds:=ds) (by omega) ⟨by simp only[go_sem,t0],by simp only[go_sem,t2],by simp only[go_sem,t3],by simp only[go_sem],by simp only[go_sem,m2],by simp only[go_sem,m3],by simp only[go_sem,m11],by simp only[go_sem,a97],by simp only[go_sem,a139]⟩
     ⟨by simp only[go_sem,t4],by simp only[go_sem,t5],by simp only[go_sem],by simp only[go_sem],by simp only[go_sem],by simp only[go_sem]<;>rfl,by simp only[go_sem,m9],a91,rfl⟩ (by omega) fun S2 j2 hB2 hV2=>?_
    generalize hz:YaC (gV true) n2 x2=z at *
    obtain⟨z1,z2⟩:=z
    simp only at hB2 hV2 hone hc2 lz
    obtain⟨u0,u2,u3,v0,v2,v3,v11,w97,w139⟩:=hB2
    obtain⟨u4,u5,u6,u7,u8,v6,v9,w91,hzl⟩:=hV2
    have hch:=YbI w91 (by simp)
    have hst:=YgS (s:=91) (z:=5) (n:=z1.length)
    have ha:=fun S=>YdR (S:=S) (s:=97) (z:=2) (n:=vs.length) (rows:=vs.map YaK) (r:=YaK ⟨b1,z1⟩) (by simp) (by unfold lim;omega)
    simp only[go_sem,Ye] at ha
    have v3':=v3
    simp only[shP] at v3'
    simp only[go_sem,u3,u4,u5,u6,v3',v6,w97,hch,hst,YcU,ha,hinc]
    refine⟨j+1,by omega,by omega,rfl,vs++[⟨b1,z1⟩],z2,by simp[hvl],lz,hone,?_⟩
    refine B436.head ?_ rfl rfl rfl rfl rfl
    exact⟨by simp only[go_sem,u0],by simp only[go_sem,u2],by simp only[go_sem,u3],by simp only[go_sem,v0],by simp only[go_sem,v2],by simp only[go_sem,Ge]<;>rfl,by simp only[go_sem,v11],by simp only[go_sem,GF,Ge]<;>rfl,by simp only[go_sem,w139]⟩
theorem YlI {S:St} {y:Rd} {sh:Shd} {es:List Entr} {ds:List Done} (r0:S.ρ 0=.lref 0 0) (r2:S.ρ 2=.lref 2 0) (r3:S.ρ 3=.lref 3 0) (m0:S.μ 0=some (eRd y,false)) (m2:S.μ 2=some (zSh,false))
  (m3:S.μ 3=some (shP sh (nilOr 97 2 es.length) (nilOr 139 11 ds.length),false)) (a97:S.A 97=YcL 2 (es.map YaK) es.length) (a139:S.A 139=YcL 11 (ds.map YQ) ds.length):B436 (S.head [] [] [11] []) y sh es ds:=
 ⟨Jiu r0 rfl,Jiu r2 rfl,Jiu r3 rfl,Jit m0 rfl rfl,Jit m2 rfl rfl,Ydn m3 rfl rfl rfl,Jis (.inr rfl),(Ybr rfl).trans a97,(Ybr rfl).trans a139⟩
theorem YkJ (h434:H434 Pg) (h472:H472 Pg) (h471:H471 Pg) (h435:H435 Pg) {y:Rd} {m:Nat} {sh:Shd} {es:List Entr} (hy:y.1.length≤2 ^ 20) {S:St} {Q:Ex→St→Prop}
  (hB:B436 S y sh es []) (s4:S.ρ 4=iz m) (s10:S.ρ 10=iz 0)
  (hq:∀S',B436 S' (YaC (gD true) m y).2 sh es (YaC (gD true) m y).1→Q .norm S'):Wp (K' Pg) l436_2 S (Blk 4 Q):=by
 have hcnt:=Yd5 (cD (D:=true)) YfK (k:=m) (x:=y)
 unfold l436_2
 refine JiJ (fun (j:Nat) S'=>j≤m∧S'.ρ 4=iz m∧S'.ρ 10=iz j∧∃(vs:List Done) (y':Rd),vs.length=j∧y'.1.length≤2 ^ 20∧
  YaC (gD true) m y=(vs++(YaC (gD true) (m-j) y').1,(YaC (gD true) (m-j) y').2)∧B436 S' y' sh es vs) (fun j=>m-j) 0 ?_ ?_
 ·exact⟨GE _,Jiu s4 rfl,Jiu s10 rfl,[],y,rfl,hy,rfl,hB.head rfl rfl rfl rfl rfl⟩
 ·intro j S' ⟨hj,t4,t10,vs,y',hvl,hyl,hrep,hB⟩
  obtain⟨t0,t2,t3,m0,m2,m3,m11,a97,a139⟩:=hB
  obtain⟨u,b⟩:=y'
  simp only[go_sem] at m0
  have fin:(m≤j∨b=true)→∀(ρ':Nat→V),(∀i,i≠110→ρ' i=S'.ρ i)→Q .norm ⟨ρ',S'.μ,S'.A⟩:=fun hs ρ' hρ=>by
   have he:=YeT hrep hs;rw[he] at hq;exact hq _ ⟨(hρ 0 (by omega)).trans t0,(hρ 2 (by omega)).trans t2,(hρ 3 (by omega)).trans t3,m0,m2,m3,m11,a97,a139⟩
  cases c1:decide ((j:Int)<(m:Int)) with
  |false=>
   have hjm:m≤j:=by have:=Gb c1;omega
   simp only[go_sem,t4,t10,c1]
   exact fin (.inl hjm) _ fun i hi=>Je5 (by simpa using hi)
  |true=>
   cases b with
   |true=>
    simp only[go_sem,t0,t4,t10,m0,c1]
    exact fin (.inr rfl) _ fun i hi=>Je5 (by simpa using hi)
   |false=>
    have hlt:=Yj c1
    have hone:=repD_one hlt rfl hrep
    have hjl:vs.length+1≤2 ^ 21:=by
     have:=Gaz (fun p=>p.1.length) hone;simp only[Ge,List.length_singleton] at this;omega
    have hinc:=inc64q (i:=j) (by omega)
    have le:∀{α:Type} {R:Rd→α×Rd} {W:α→List UInt8} {P:α→Prop},Cod R W P→∀{x:Rd},x.1.length≤2 ^ 20→(R x).2.1.length≤2 ^ 20:=fun h x hx=>GJ (h.len x) hx
    generalize hy':((u,false):Rd)=y' at *
    have hyl':y'.1.length≤2 ^ 20:=hyl
    have k1:=K435 h435 y' (by omega)
    have hR:gD true y'=(mkD ((cu (tk 9) 0 y').1,(cu (tk 9) 0 (cu (tk 9) 0 y').2).1,(cu (tk 9) 0 (cu (tk 9) 0 (cu (tk 9) 0 y').2).2).1,(cu tkS zS (cu (tk 9) 0 (cu (tk 9) 0 (cu (tk 9) 0 y').2).2).2).1,
      (cu tkF false (cu tkS zS (cu (tk 9) 0 (cu (tk 9) 0 (cu (tk 9) 0 y').2).2).2).2).1,(cu tkT [] (cu tkF false (cu tkS zS (cu (tk 9) 0 (cu (tk 9) 0 (cu (tk 9) 0 y').2).2).2).2).2).1),
      (cu tkT [] (cu tkF false (cu tkS zS (cu (tk 9) 0 (cu (tk 9) 0 (cu (tk 9) 0 y').2).2).2).2).2).2):=rfl
    rw[hR] at hone
    have l1:=le Yb1 hyl'
    generalize cu (tk 9) 0 y'=p1 at *
    obtain⟨b1,x1⟩:=p1
    simp only at hone l1
    have k2:=K435 h435 x1 (by omega)
    have l2:=le Yb1 l1
    generalize cu (tk 9) 0 x1=p2 at *
    obtain⟨b2,x2⟩:=p2
    simp only at hone l2
    have k3:=K435 h435 x2 (by omega)
    have l3:=le Yb1 l2
    generalize cu (tk 9) 0 x2=p3 at *
    obtain⟨b3,x3⟩:=p3
    simp only at hone l3
    have k4:=K434 h434 x3 (by omega)
    have l4:=le (cS (D:=true)) l3
    change (cu tkS zS x3).2.1.length≤2 ^ 20 at l4
    generalize cu tkS zS x3=p4 at *
    obtain⟨b4,x4⟩:=p4
    simp only at hone l4
    have k5:=K472 h472 x4 (by omega)
    have l5:=le (cF (D:=true)) l4
    change (cu tkF false x4).2.1.length≤2 ^ 20 at l5
    generalize cu tkF false x4=p5 at *
    obtain⟨b5,x5⟩:=p5
    simp only at hone l5
    have k6:=K471 h471 x5 (by omega)
    have l6:=le (cT (D:=true)) l5
    change (cu tkT [] x5).2.1.length≤2 ^ 20 at l6
    generalize cu tkT [] x5=p6 at *
    obtain⟨b6,x6⟩:=p6
    simp only at hone l6
    have r1:=fun (S:St) (hm:S.μ 0=some (eRd y',false))=>Qc (p:=21800) k1 hm
    have r2:=fun (S:St) (hm:S.μ 0=some (eRd x1,false))=>Qc (p:=21900) k2 hm
    have r3:=fun (S:St) (hm:S.μ 0=some (eRd x2,false))=>Qc (p:=22000) k3 hm
    have r4:=fun (S:St) (hm:S.μ 0=some (eRd x3,false))=>Qc (p:=22100) k4 hm
    have r5:=fun (S:St) (hm:S.μ 0=some (eRd x4,false))=>Qc (p:=22200) k5 hm
    have r6:=fun (S:St) (hm:S.μ 0=some (eRd x5,false))=>Qc (p:=22300) k6 hm
    have ha:=fun S=>YdR (S:=S) (s:=139) (z:=11) (n:=vs.length) (rows:=vs.map YQ) (r:=YQ (mkD (b1,b2,b3,b4,b5,b6))) (by simp) (by unfold lim;omega)
    have v3:=m3
    simp only[shP] at v3
    subst hy'
    simp only[go_sem,eSt,mkD,Gk] at r1 r2 r3 r4 r5 r6 ha
    simp only[go_sem,t0,t3,t4,t10,c1,m0,m11,v3,a139,r1,r2,r3,r4,r5,r6,YcU,ha,hinc]
    refine⟨j+1,by omega,by omega,rfl,vs++[mkD (b1,b2,b3,b4,b5,b6)],x6,by simp[hvl],l6,hone,?_⟩
    exact YlI (by simp only[go_sem,t0]) (by simp only[go_sem,t2]) (by simp only[go_sem,t3]) (by simp only[go_sem]) (by simp only[go_sem,m2]) (by simp only[go_sem,Ge]<;>rfl) (by simp only[go_sem,a97]) (by simp only[go_sem,GF,Ge]<;>rfl)
def H436 (Pg:PgT):Prop:=Pg 436=some (.codeR F436 0)∧H434 Pg∧H472 Pg∧H471 Pg∧H435 Pg
theorem K436 (h:H436 Pg) (x:Rd) (hx:x.1.length≤2 ^ 20):K' Pg 436 [.tuple (.lref 0 0::eRd x)]=some (.tuple [.agg (Yh (gSh true x).1),.tuple (eRd (gSh true x).2)]):=by
 obtain⟨h,h434,h472,h471,h435⟩:=h;have le:∀{α:Type} {R:Rd→α×Rd} {W:α→List UInt8} {P:α→Prop},Cod R W P→∀{x:Rd},x.1.length≤2 ^ 20→(R x).2.1.length≤2 ^ 20:=fun h x hx=>GJ (h.len x) hx;have hR:∀{a1 a2 a3 a4 a5 a6 a7:Nat} {b1 b2:List UInt8} {c1 c2:Stamp} {x1 x2 x3 x4 x5 x6 x7 x8 x9 x10 x11:Rd},cu (tk 9) 0 x=(a1,x1)→cu (tk 9) 0 x1=(a2,x2)→cu (tk 9) 0 x2=(a3,x3)→cu (tk 9) 0 x3=(a4,x4)→cu (tk 9) 0 x4=(a5,x5)→cu (tk 9) 0 x5=(a6,x6)→cu (tk 9) 0 x6=(a7,x7)→
   cu tkT [] x7=(b1,x8)→cu tkT [] x8=(b2,x9)→cu tkS zS x9=(c1,x10)→cu tkS zS x10=(c2,x11)→
   gSh true x=(mkS (a1,a2,a3,a4,a5,a6,a7,b1,b2,c1,c2,(lstD (gE true) x11).1,(lstD (gD true) (lstD (gE true) x11).2).1),(lstD (gD true) (lstD (gE true) x11).2).2):=by
  intro a1 a2 a3 a4 a5 a6 a7 b1 b2 c1 c2 x1 x2 x3 x4 x5 x6 x7 x8 x9 x10 x11 e1 e2 e3 e4 e5 e6 e7 e8 e9 e10 e11
  have d1:gN true=cu (tk 9) 0:=rfl
  have d2:gT true=cu tkT []:=rfl
  have d3:gS true=cu tkS zS:=rfl
  simp only[gSh,mapR,pairR,d1,d2,d3,e1,e2,e3,e4,e5,e6,e7,e8,e9,e10,e11]
  rfl
 have k1:=K435 h435 x (by omega);have l1:(cu (tk 9) 0 x).2.1.length≤2 ^ 20:=le Yb1 hx;cases e1:cu (tk 9) 0 x with
 |mk a1 x1=>
 rw[e1] at k1 l1;simp only at k1 l1;have k2:=K435 h435 x1 (by omega);have l2:(cu (tk 9) 0 x1).2.1.length≤2 ^ 20:=le Yb1 l1;cases e2:cu (tk 9) 0 x1 with
 |mk a2 x2=>
 rw[e2] at k2 l2;simp only at k2 l2;have k3:=K435 h435 x2 (by omega);have l3:(cu (tk 9) 0 x2).2.1.length≤2 ^ 20:=le Yb1 l2;cases e3:cu (tk 9) 0 x2 with
 |mk a3 x3=>
 rw[e3] at k3 l3;simp only at k3 l3;have k4:=K435 h435 x3 (by omega);have l4:(cu (tk 9) 0 x3).2.1.length≤2 ^ 20:=le Yb1 l3;cases e4:cu (tk 9) 0 x3 with
 |mk a4 x4=>
 rw[e4] at k4 l4;simp only at k4 l4;have k5:=K435 h435 x4 (by omega);have l5:(cu (tk 9) 0 x4).2.1.length≤2 ^ 20:=le Yb1 l4;cases e5:cu (tk 9) 0 x4 with
 |mk a5 x5=>
 rw[e5] at k5 l5;simp only at k5 l5;have k6:=K435 h435 x5 (by omega);have l6:(cu (tk 9) 0 x5).2.1.length≤2 ^ 20:=le Yb1 l5;cases e6:cu (tk 9) 0 x5 with
 |mk a6 x6=>
 rw[e6] at k6 l6;simp only at k6 l6;have k7:=K435 h435 x6 (by omega);have l7:(cu (tk 9) 0 x6).2.1.length≤2 ^ 20:=le Yb1 l6;cases e7:cu (tk 9) 0 x6 with
 |mk a7 x7=>
 rw[e7] at k7 l7;simp only at k7 l7;have k8:=K471 h471 x7 (by omega);have l8:(cu tkT [] x7).2.1.length≤2 ^ 20:=le (cT (D:=true)) l7;cases e8:cu tkT [] x7 with
 |mk b1 x8=>
 rw[e8] at k8 l8;simp only at k8 l8;have k9:=K471 h471 x8 (by omega);have l9:(cu tkT [] x8).2.1.length≤2 ^ 20:=le (cT (D:=true)) l8;cases e9:cu tkT [] x8 with
 |mk b2 x9=>
 rw[e9] at k9 l9;simp only at k9 l9;have k10:=K434 h434 x9 (by omega);have l10:(cu tkS zS x9).2.1.length≤2 ^ 20:=le (cS (D:=true)) l9;cases e10:cu tkS zS x9 with
 |mk c1 x10=>
 rw[e10] at k10 l10;simp only at k10 l10;have k11:=K434 h434 x10 (by omega);have l11:(cu tkS zS x10).2.1.length≤2 ^ 20:=le (cS (D:=true)) l10;cases e11:cu tkS zS x10 with
 |mk c2 x11=>
 rw[e11] at k11 l11;simp only at k11 l11;rw[hR e1 e2 e3 e4 e5 e6 e7 e8 e9 e10 e11];unfold lstD;have kL:=K435 h435 x11 (by omega);have lL:=le Yb1 l11;generalize cu (tk 9) 0 x11=pL at *
 obtain⟨m,y⟩:=pL;simp only at kL lL ⊢;have lE:=GJ (YeU (cE (D:=true)) (k:=m) (x:=y)) lL;generalize hE:YaC (gE true) m y=pE at *
 obtain⟨es,y2⟩:=pE;simp only at lE ⊢;have kM:=K435 h435 y2 (by omega);have lM:=le Yb1 lE;generalize cu (tk 9) 0 y2=pM at *
 obtain⟨m2,y3⟩:=pM;simp only at kM lM ⊢;generalize hD:YaC (gD true) m2 y3=pD at *
 obtain⟨ds,y4⟩:=pD;simp only;refine YgY [.cell 2 (some 17)] (ws:=[.agg _]) h rfl rfl (YaX _) (YaX _) (YdM _) fun S ⟨r0,r,hm,m0,a0⟩=>?_;have n2:=m0 2 rfl;have n3:=m0 3 rfl;have n6:=m0 6 rfl;have n9:=m0 9 rfl;have n11:=m0 11 rfl;have r1:=fun (S:St) (hm:S.μ 0=some (eRd x,false))=>Qc (p:=20000) k1 hm;have r2:=fun (S:St) (hm:S.μ 0=some (eRd x1,false))=>Qc (p:=20100) k2 hm;have r3:=fun (S:St) (hm:S.μ 0=some (eRd x2,false))=>Qc (p:=20200) k3 hm;have r4:=fun (S:St) (hm:S.μ 0=some (eRd x3,false))=>Qc (p:=20300) k4 hm;have r5:=fun (S:St) (hm:S.μ 0=some (eRd x4,false))=>Qc (p:=20400) k5 hm;have r6:=fun (S:St) (hm:S.μ 0=some (eRd x5,false))=>Qc (p:=20500) k6 hm;have r7:=fun (S:St) (hm:S.μ 0=some (eRd x6,false))=>Qc (p:=20600) k7 hm;have r8:=fun (S:St) (hm:S.μ 0=some (eRd x7,false))=>Qc (p:=20700) k8 hm;have r9:=fun (S:St) (hm:S.μ 0=some (eRd x8,false))=>Qc (p:=20800) k9 hm;have r10:=fun (S:St) (hm:S.μ 0=some (eRd x9,false))=>Qc (p:=20900) k10 hm;have r11:=fun (S:St) (hm:S.μ 0=some (eRd x10,false))=>Qc (p:=21000) k11 hm;have rA:=fun (S:St) (hm:S.μ 0=some (eRd x11,false))=>Qc (p:=21100) kL hm;have rB:=fun (S:St) (hm:S.μ 0=some (eRd y2,false))=>Qc (p:=21700) kM hm;simp only[go_sem,eSt] at hm r1 r2 r3 r4 r5 r6 r7 r8 r9 r10 r11 rA rB;simp only[F436,c436,go_sem,r0,hm,n2,n3,r1,r2,r3,r4,r5,r6,r7,r8,r9,r10,r11,rA];refine YlE h434 h472 h471 h435 (y:=y) (m:=m) (sh:=mkS (a1,a2,a3,a4,a5,a6,a7,b1,b2,c1,c2,[],[])) (ds:=[]) lL ⟨by simp only[go_sem,r0],by simp only[go_sem],by simp only[go_sem],by simp only[go_sem],by simp only[go_sem,zSh],by simp only[go_sem]<;>rfl,by simp only[go_sem,n11],a0 97,a0 139⟩ (by simp only[go_sem]) (by simp only[go_sem]) (by simp only[go_sem,n6]) (by simp only[go_sem,n9]) (a0 91) fun S1 hE1=>?_;rw[hE] at hE1;obtain⟨t0,t2,t3,u0,u2,u3,u11,w97,w139⟩:=hE1;simp only at w97 u0 u3;simp only[go_sem] at u0;simp only[go_sem,t0,u0,rB];refine YkJ h434 h472 h471 h435 (y:=y3) (m:=m2) (sh:=mkS (a1,a2,a3,a4,a5,a6,a7,b1,b2,c1,c2,[],[])) (es:=es) lM ⟨by simp only[go_sem,t0],by simp only[go_sem,t2],by simp only[go_sem,t3],by simp only[go_sem],by simp only[go_sem,u2],by simp only[go_sem,u3],by simp only[go_sem,u11],by simp only[go_sem,w97],by simp only[go_sem,w139]⟩ (by simp only[go_sem]) (by simp only[go_sem]) fun S2 hD1=>?_;rw[hD] at hD1;obtain⟨q0,q2,q3,v0,v2,v3,v11,z97,z139⟩:=hD1;simp only at z139 v0 v3;have hc1:=YbI z97 (by simp);have hc2:=YbI z139 (by simp);simp only[shP,mkS] at v3;simp only[zSh] at v2;simp only[go_sem,q2,q3,v2,v3];refine⟨v0,_,rfl,?_⟩;simp only[go_sem,hc1,hc2,mkS]
def YfN (o:Option Shd):V:=match o with
 |some s=>.tuple [.agg (Yh s),iz 0]
 |none=>.tuple [.agg zSh,iz 3]
def H478 (Pg:PgT):Prop:=Pg 478=some (.code F478)∧H467 Pg∧H244 Pg
theorem K478 (h:H478 Pg) (t:List UInt8) (ht:t.length≤10000):K' Pg 478 [.str t]=some (YfN (Yfn t)):=by
 obtain⟨h,h467,h244⟩:=h;have k1:=K467 h467 (t,false) (by simp only;omega);have hsm:∀{s:Shd},gSh false (t,false)=(s,([],false))→SmS s:=fun hg=>by
  obtain⟨g1,g2⟩:=(cSh (D:=false)).get hg;exact Yhs g2 (by rw[Gv] at g1;rw[←g1];exact ht)
 unfold Yfn;generalize hg:gSh false (t,false)=p at *
 obtain⟨s,u,b⟩:=p;refine Qb h rfl ?_;have r1:=fun (S:St) (hm:S.μ 8=some (eRd (t,false),false))=>Qc (p:=20000) k1 hm;simp only[go_sem] at r1;cases b with
 |true=>
  rw[Gn (by simp)];simp only[F478,c478,go_sem,r1,YfN,zSh]
 |false=>
  cases c2:decide (u=[]) with
  |false=>
   rw[Gn (by simp[Gb c2])];simp only[F478,c478,go_sem,r1,c2,YfN,zSh]
  |true=>
   have hu:=Gg c2;subst hu;have k244:=K244 h244 s (hsm rfl);cases c3:shR s with
   |false=>
    rw[c3] at k244;rw[Gn (by simp)];simp only[go_sem] at k244;simp only[F478,c478,go_sem,r1,k244,YfN,zSh]
   |true=>
    rw[c3] at k244;rw[Gr ⟨rfl,rfl⟩];simp only[go_sem] at k244;simp only[F478,c478,go_sem,r1,k244,YfN]
structure HW (S:St) (v:Nat) (b:List UInt8) (a:Nat):Prop where
 m:S.μ v=some ([.own a 1 b.length],false)
 a:S.A a=some (1,b.map rowB,.live)
def Yde (b:List UInt8):List V:=[.tuple [.slice 1 (b.map rowB)]]
theorem Ykq {args:List V} {b:List UInt8}:startR args 0 (Yde b)=some ⟨fun i=>if i=0 then .lref 0 0 else (args[i]?).getD .undef,upd (fun _=>none) 0 (some ([.own 9000 1 b.length],false)),upd (fun _=>none) 9000 (some (1,b.map rowB,.live))⟩:=by
 unfold startR Yde;simp only[JcI,Je2,Jib,Jdy,Option.bind_some,Gj]
theorem YiO {A:AA} {b:List UInt8} {a:Nat} (h:A a=some (1,b.map rowB,.live)):Jad [.own a 1 b.length] A=some (Yde b,upd A a (some (1,[],.dead))):=by
 simp only[Jcq,Jc2,Jed,h,JhE,Gj,Gz,Option.bind_some]
 rfl
structure SWr (S:St) (rest:List V) (b:List UInt8):Prop where
 r0:S.ρ 0=.lref 0 0
 r:∀i,S.ρ (i+1)=(rest[i]?).getD .undef
 h:HW S 0 b 9000
 m:∀i,(i == 0)=false→S.μ i=none
 a:∀x,x≠9000→S.A x=none
theorem Yhx {f:Nat} {F:F} {rest:List V} {b b':List UInt8} (hF:Pg f=some (.codeR F 0)) (hl:rest.length+1=F.np) (hrs:F.res=[])
  (h:∀S,SWr S rest b→Wp (K' Pg) F.body S fun ex S'=>(ex=.norm∨ex=.ret)∧∃a,HW S' 0 b' a) :
  K' Pg f (.tuple (.lref 0 0::Yde b)::rest)=some (.tuple [.tuple [],.tuple (Yde b')]):=by
 have hm:∀i,(i == 0)=false→(upd (fun _=>none) 0 (some ([V.own 9000 1 b.length],false)):Nat→Option (List V×Bool)) i=none:=fun i hi=>Je5 hi
 refine Qf hF (by simpa using hl) rfl Ykq ((h _ ⟨rfl,fun i=>rfl,⟨by simp[upd],by simp[upd]⟩,hm,fun x hx=>by simp only[upd];rw[Gn hx]⟩).mono fun ex S' hq=>⟨hq.1,?_⟩)
 obtain⟨a,h1⟩:=hq.2
 unfold Jaz
 rw[hrs]
 simp only[Jo,Option.bind_some,h1.m,YiO h1.a]
 rfl
theorem HW.head {S:St} {v:Nat} {b:List UInt8} {a h1:Nat} {Wv Wa:List Nat} (hT:HW S v b a) (hv:Wv.contains v=false) (hw:Wa.contains h1=false) :
  HW (S.head [] [v,0,h1] Wv Wa) v b h1∧(∀x,Wa.contains x=true→(S.head [] [v,0,h1] Wv Wa).A x=none)∧(∀x,x≠a→x≠h1→S.A x=none→(S.head [] [v,0,h1] Wv Wa).A x=none):=by
 have e1:S.swp1 v 0 h1=S.ren a h1:=by rw[JgQ,hT.m,Jh6];rfl
 have eh:S.head [] [v,0,h1] Wv Wa=(S.ren a h1).scrub [] Wv Wa:=by rw[Jir,e1];rfl
 rw[eh]
 refine⟨⟨?_,?_⟩,fun x hx=>?_,fun x h2 h3 h0=>?_⟩
 ·show (if Wv.contains v then none else ((S.μ v).map _).map _)=_
  rw[hv,hT.m]
  have:swp a h1 a=h1:=Jh8
  simp only[Gm,Gu,Option.map_some,GC,Gk,JT,this,Jv,hw]
  cases Wa.isEmpty<;>rfl
 ·show (if Wa.contains h1 then none else S.A (swp a h1 h1))=_
  rw[hw,Jia];exact hT.a
 ·show (if Wa.contains x then none else _)=_
  rw[hx];rfl
 ·show (if Wa.contains x then none else S.A (swp a h1 x))=_
  split
  ·rfl
  ·rw[Ya9 h2 h3];exact h0
theorem YgN (l:List UInt8):(l.map fun b=>[V.int .u8 (b.toNat:Int)])=l.map rowB:=rfl
def H422 (Pg:PgT):Prop:=Pg 422=some (.codeR F422 0)∧H456 Pg
theorem K422 (h:H422 Pg) (b:List UInt8) (l:List Int) (hl:∀n∈l,0≤n∧n<2 ^ 63) (hb:b.length+9*l.length≤2 ^ 24) :
  K' Pg 422 [.tuple (.lref 0 0::Yde b),Yi l]=some (.tuple [.tuple [],.tuple (Yde (b++Yao l))]):=by
 obtain⟨h,h456⟩:=h
 refine Yhx h rfl rfl fun S0 ⟨r0,r,hT0,m0,a0⟩=>?_
 have r1:=r 0
 simp only[JhD,Option.getD_some] at r1
 simp only[go_sem] at r1
 simp only[F422,c422,go_sem,r1,Gj]
 unfold l422_0
 refine JiJ (fun (i:Nat) S=>i≤l.length∧S.ρ 0=.lref 0 0∧S.ρ 8=Yi l∧S.ρ 9=iz l.length∧S.ρ 10=iz i∧HW S 0 (b++Yao (l.take i)) 9000) (fun i=>l.length-i) 0 ?_ ?_
 ·exact⟨GE _,Jiu (by simp only[go_sem,r0]) rfl,Jiu (by simp only[go_sem]) rfl,Jiu (by simp only[go_sem]) rfl,Jiu (by simp only[go_sem]) rfl,(HW.head (a:=9000) (h1:=9000) ⟨by simp only[go_sem,hT0.m]<;>simp[Yao],by simp only[hT0.a]<;>simp[Yao]⟩ rfl rfl).1⟩
 ·intro i S ⟨hi,s0,s8,s9,s10,hT⟩
  have hm:=hT.m
  have hA:=hT.a
  cases c1:decide ((i:Int)<(l.length:Int)) with
  |false=>
   have hil:i=l.length:=by have:=Gb c1;omega
   rw[hil,GM] at hT
   simp only[go_sem,s9,s10,c1]
   exact⟨9000,hT.m,hT.a⟩
  |true=>
   have hlt:=Yj c1
   obtain⟨n,hn,-⟩:=Jiq hlt
   have hinc:=inc64q (i:=i) (by omega)
   obtain⟨n0,n1⟩:=hl n (List.mem_of_getElem? hn)
   have k:K' Pg 456 [iz n]=some (.tuple [.str (putB n.toNat),iz 0]):=by
    have:=K456 h456 n.toNat (by omega);rw[show ((n.toNat:Nat):Int)=n by omega] at this;exact this
   have htk:l.take (i+1)=l.take i++[n]:=by rw[G8,hn];rfl
   have hbl:=Yeg (l:=l.take i) fun m hm=>by have:=hl m (Gah hm);omega
   rw[GG] at hbl
   have hp:=Ybc.2 (show n.toNat<2 ^ 63 by omega)
   have hlim:(b++Yao (l.take i)).length+(putB n.toNat).length≤lim:=by rw[Ge];unfold lim;omega
   generalize hg:b++Yao (l.take i)=g at *
   have hfull:b++Yao (l.take (i+1))=g++putB n.toNat:=by rw[htk,Yhg,←GS,hg]
   simp only[go_sem,s0,s8,s9,s10,c1,hn,k,hinc,hm,hA,hlim,Gj]
   refine⟨i+1,by omega,by omega,Jiu (by simp only[go_sem,s0]) rfl,Jiu (by simp only[go_sem,s8]) rfl,Jiu (by simp only[go_sem,s9]) rfl,Jiu (by simp only[go_sem]) rfl,(HW.head (a:=9000) (h1:=9000) ⟨?_,?_⟩ rfl rfl).1⟩
   ·rw[hfull];simp only[go_sem,Ge]
   ·rw[hfull];simp only[go_sem,GF]<;>rfl
def YjS (l:List (List UInt8)):V:=.slice 1 (l.map fun t=>[.str t])
attribute [go_sem] YjS
def YaJ (l:List (List UInt8)):List UInt8:=l.flatMap Yak
theorem YhW {l:List (List UInt8)} {n:List UInt8}:YaJ (l++[n])=YaJ l++Yak n:=by simp[YaJ]
def H457 (Pg:PgT):Prop:=Pg 457=some (.codeR F457 0)∧H484 Pg
theorem K457 (h:H457 Pg) (b:List UInt8) (l:List (List UInt8)) (hl:∀n∈l,n.length≤2 ^ 20) (hb:b.length+(YaJ l).length≤2 ^ 24) :
  K' Pg 457 [.tuple (.lref 0 0::Yde b),YjS l]=some (.tuple [.tuple [],.tuple (Yde (b++YaJ l))]):=by
 obtain⟨h,h484⟩:=h
 have hll:l.length≤(YaJ l).length:=YdU (P:=fun _=>True) (fun a _=>Ygm) (fun _ _=>Gy)
 refine Yhx h rfl rfl fun S0 ⟨r0,r,hT0,m0,a0⟩=>?_
 have r1:=r 0
 simp only[JhD,Option.getD_some] at r1
 simp only[go_sem] at r1
 simp only[F457,c457,go_sem,r1,Gj]
 unfold l457_0
 refine JiJ (fun (i:Nat) S=>i≤l.length∧S.ρ 0=.lref 0 0∧S.ρ 6=YjS l∧S.ρ 7=iz l.length∧S.ρ 8=iz i∧HW S 0 (b++YaJ (l.take i)) 9000) (fun i=>l.length-i) 0 ?_ ?_
 ·exact⟨GE _,Jiu (by simp only[go_sem,r0]) rfl,Jiu (by simp only[go_sem]) rfl,Jiu (by simp only[go_sem]) rfl,Jiu (by simp only[go_sem]) rfl,(HW.head (a:=9000) (h1:=9000) ⟨by simp only[go_sem,hT0.m]<;>simp[YaJ],by simp only[hT0.a]<;>simp[YaJ]⟩ rfl rfl).1⟩
 ·intro i S ⟨hi,s0,s6x,s7x,s8x,hT⟩
  have hm:=hT.m
  have hA:=hT.a
  cases c1:decide ((i:Int)<(l.length:Int)) with
  |false=>
   have hil:i=l.length:=by have:=Gb c1;omega
   rw[hil,GM] at hT
   simp only[go_sem,s7x,s8x,c1]
   exact⟨9000,hT.m,hT.a⟩
  |true=>
   have hlt:=Yj c1
   obtain⟨n,hn,-⟩:=Jiq hlt
   have hinc:=inc64q (i:=i) (by omega)
   have n0:=hl n (List.mem_of_getElem? hn)
   have k:=K484 h484 n (by omega)
   have htk:l.take (i+1)=l.take i++[n]:=by rw[G8,hn];rfl
   have hbl:(YaJ (l.take (i+1))).length≤(YaJ l).length:=by
    conv=>rhs;rw[←G4 (i+1) l]
    simp only[YaJ,Gaf,Ge];omega
   rw[htk,YhW,Ge] at hbl
   have hlim:(b++YaJ (l.take i)).length+(Yak n).length≤lim:=by rw[Ge];unfold lim;omega
   generalize hg:b++YaJ (l.take i)=g at *
   have hfull:b++YaJ (l.take (i+1))=g++Yak n:=by rw[htk,YhW,←GS,hg]
   simp only[go_sem,s0,s6x,s7x,s8x,c1,hn,k,hinc,hm,hA,hlim,Gj]
   refine⟨i+1,by omega,by omega,Jiu (by simp only[go_sem,s0]) rfl,Jiu (by simp only[go_sem,s6x]) rfl,Jiu (by simp only[go_sem,s7x]) rfl,Jiu (by simp only[go_sem]) rfl,(HW.head (a:=9000) (h1:=9000) ⟨?_,?_⟩ rfl rfl).1⟩
   ·rw[hfull];simp only[go_sem,Ge]
   ·rw[hfull];simp only[go_sem,GF]<;>rfl
theorem Yl1 {s:Stamp}:1≤(stB s).length:=by
 have:=Ycz s.wall.toNat;simp only[stB,Ge];omega
def YJ (l:List Stamp):List UInt8:=l.flatMap stB
theorem YgT {l:List Stamp} {n:Stamp}:YJ (l++[n])=YJ l++stB n:=by simp[YJ]
def H421 (Pg:PgT):Prop:=Pg 421=some (.codeR F421 0)∧H455 Pg
theorem K421 (h:H421 Pg) (b:List UInt8) (l:List Stamp) (hl:∀n∈l,Ya n=true) (hb:b.length+(YJ l).length≤2 ^ 24) :
  K' Pg 421 [.tuple (.lref 0 0::Yde b),YbM l]=some (.tuple [.tuple [],.tuple (Yde (b++YJ l))]):=by
 obtain⟨h,h455⟩:=h
 have hll:l.length≤(YJ l).length:=YdU (P:=fun _=>True) (fun a _=>Yl1) (fun _ _=>Gy)
 refine Yhx h rfl rfl fun S0 ⟨r0,r,hT0,m0,a0⟩=>?_
 have r1:=r 0
 simp only[JhD,Option.getD_some] at r1
 simp only[go_sem] at r1
 simp only[F421,c421,go_sem,r1,Gj]
 unfold l421_0
 refine JiJ (fun (i:Nat) S=>i≤l.length∧S.ρ 0=.lref 0 0∧S.ρ 8=YbM l∧S.ρ 9=iz l.length∧S.ρ 10=iz i∧HW S 0 (b++YJ (l.take i)) 9000∧S.μ 5=none) (fun i=>l.length-i) 0 ?_ ?_
 ·exact⟨GE _,Jiu (by simp only[go_sem,r0]) rfl,Jiu (by simp only[go_sem]) rfl,Jiu (by simp only[go_sem]) rfl,Jiu (by simp only[go_sem]) rfl,(HW.head (a:=9000) (h1:=9000) ⟨by simp only[go_sem,hT0.m]<;>simp[YJ],by simp only[hT0.a]<;>simp[YJ]⟩ rfl rfl).1,Jis (.inr rfl)⟩
 ·intro i S ⟨hi,s0,s6x,s7x,s8x,hT,n5⟩
  have hm:=hT.m
  have hA:=hT.a
  cases c1:decide ((i:Int)<(l.length:Int)) with
  |false=>
   have hil:i=l.length:=by have:=Gb c1;omega
   rw[hil,GM] at hT
   simp only[go_sem,s7x,s8x,c1]
   exact⟨9000,hT.m,hT.a⟩
  |true=>
   have hlt:=Yj c1
   obtain⟨n,hn,-⟩:=Jiq hlt
   have hinc:=inc64q (i:=i) (by omega)
   have n0:=hl n (List.mem_of_getElem? hn)
   have k:=K455 h455 n n0
   simp only[go_sem] at k
   have htk:l.take (i+1)=l.take i++[n]:=by rw[G8,hn];rfl
   have hbl:(YJ (l.take (i+1))).length≤(YJ l).length:=by
    conv=>rhs;rw[←G4 (i+1) l]
    simp only[YJ,Gaf,Ge];omega
   rw[htk,YgT,Ge] at hbl
   have hlim:(b++YJ (l.take i)).length+(stB n).length≤lim:=by rw[Ge];unfold lim;omega
   generalize hg:b++YJ (l.take i)=g at *
   have hfull:b++YJ (l.take (i+1))=g++stB n:=by rw[htk,YgT,←GS,hg]
   simp only[go_sem,s0,s6x,s7x,s8x,c1,hn,k,hinc,hm,hA,n5,hlim,Gj]
   refine⟨i+1,by omega,by omega,Jiu (by simp only[go_sem,s0]) rfl,Jiu (by simp only[go_sem,s6x]) rfl,Jiu (by simp only[go_sem,s7x]) rfl,Jiu (by simp only[go_sem]) rfl,(HW.head (a:=9000) (h1:=9000) ⟨?_,?_⟩ rfl rfl).1,Jis (.inr rfl)⟩
   ·rw[hfull];simp only[go_sem,Ge]
   ·rw[hfull];simp only[go_sem,GF]<;>rfl
def H458 (Pg:PgT):Prop:=Pg 458=some (.codeR F458 0)∧H485 Pg
theorem K458 (h:H458 Pg) (b:List UInt8) (x:Bool) (hb:b.length≤2 ^ 24) :
  K' Pg 458 [.tuple (.lref 0 0::Yde b),.bool x]=some (.tuple [.tuple [],.tuple (Yde (b++Ya0 x))]):=by
 obtain⟨h,h485⟩:=h
 have k:=K485 h485 x
 have hl1:(Ya0 x).length=1:=by simp[Ya0]
 refine Yhx h rfl rfl fun S0 ⟨r0,r,hT0,m0,a0⟩=>?_
 have r1:=r 0
 simp only[JhD,Option.getD_some] at r1
 have hm:=hT0.m
 have hA:=hT0.a
 have hlim:b.length+(Ya0 x).length≤lim:=by unfold lim;omega
 generalize Ya0 x=g at *
 simp only[F458,c458,go_sem,r0,r1,hm,hA,k,hlim,Gj]
 exact⟨9000,by simp only[go_sem,Ge],by simp only[go_sem,GF]<;>rfl⟩
theorem k422n (h:H422 Pg) (g:List UInt8) (l:List Int) (hl:∀n∈l,0≤n∧n<2 ^ 63) (hb:g.length+9*l.length≤2 ^ 24) :
  K' Pg 422 [.tuple [.lref 0 0,.tuple [.slice 1 (g.map rowB)]],.slice 1 (l.map fun a=>[iz a])]=some (.tuple [.tuple [],.tuple [.tuple [.slice 1 ((g++Yao l).map rowB)]]]):=K422 h g l hl hb
theorem YiT (h:H457 Pg) (g:List UInt8) (l:List (List UInt8)) (hl:∀n∈l,n.length≤2 ^ 20) (hb:g.length+(YaJ l).length≤2 ^ 24) :
  K' Pg 457 [.tuple [.lref 0 0,.tuple [.slice 1 (g.map rowB)]],.slice 1 (l.map fun t=>[.str t])]=some (.tuple [.tuple [],.tuple [.tuple [.slice 1 ((g++YaJ l).map rowB)]]]):=K457 h g l hl hb
theorem YiS (h:H421 Pg) (g:List UInt8) (l:List Stamp) (hl:∀n∈l,Ya n=true) (hb:g.length+(YJ l).length≤2 ^ 24) :
  K' Pg 421 [.tuple [.lref 0 0,.tuple [.slice 1 (g.map rowB)]],.slice 3 (l.map Yd)]=some (.tuple [.tuple [],.tuple [.tuple [.slice 1 ((g++YJ l).map rowB)]]]):=K421 h g l hl hb
theorem Ylo (h:H458 Pg) (g:List UInt8) (x:Bool) (hb:g.length≤2 ^ 24) :
  K' Pg 458 [.tuple [.lref 0 0,.tuple [.slice 1 (g.map rowB)]],.bool x]=some (.tuple [.tuple [],.tuple [.tuple [.slice 1 ((g++Ya0 x).map rowB)]]]):=K458 h g x hb
theorem YeK {α:Type} {W:α→List UInt8} {l:List α} {i:Nat}:((l.take i).flatMap W).length≤(l.flatMap W).length:=by
 conv=>rhs;rw[←G4 i l]
 simp only[Gaf,Ge];omega
def HWr (Pg:PgT):Prop:=H422 Pg∧H457 Pg∧H421 Pg∧H458 Pg
theorem Ymb (hw:HWr Pg) {g:List UInt8} {e:Entr} (he:YhZ e) (hst:∀v∈e.chain,v.val.length≤2 ^ 20) (hc:e.chain.length<2 ^ 60) (hb:g.length+(e.chain.flatMap Yci).length≤2 ^ 24) {S:St} {Q:Ex→St→Prop} {x3:List V} {w50 w51 w52:V}
  (h50:stay [7] w50=true) (h51:stay [7] w51=true) (h52:stay [7] w52=true) (hx3:x3.all V.datC=true)
  (s0:S.ρ 0=.lref 0 0) (s3:S.ρ 3=.lref 3 0) (s50:S.ρ 50=w50) (s51:S.ρ 51=w51) (s52:S.ρ 52=w52) (m3:S.μ 3=some (x3,false))
  (s68:S.ρ 68=.slice 5 (e.chain.map Yam)) (s69:S.ρ 69=iz e.chain.length) (s70:S.ρ 70=iz 0) {a:Nat} (hT:HW S 0 g a) (a9:S.A 20900=none)
  (hq:∀S',S'.ρ 0=.lref 0 0→S'.ρ 3=.lref 3 0→S'.ρ 50=w50→S'.ρ 51=w51→S'.ρ 52=w52→S'.μ 3=some (x3,false)→HW S' 0 (g++e.chain.flatMap Yci) 9000→S'.A 20900=none→Q .norm S'):Wp (K' Pg) l423_1 S (Blk 2 Q):=by
 obtain⟨h422,h457,h421,h458⟩:=hw
 unfold l423_1
 refine JiJ (fun (i:Nat) S=>i≤e.chain.length∧S.ρ 0=.lref 0 0∧S.ρ 3=.lref 3 0∧S.ρ 50=w50∧S.ρ 51=w51∧S.ρ 52=w52∧S.μ 3=some (x3,false)∧S.ρ 68=.slice 5 (e.chain.map Yam)∧S.ρ 69=iz e.chain.length∧S.ρ 70=iz i∧HW S 0 (g++(e.chain.take i).flatMap Yci) 9000∧S.μ 7=none∧S.A 20600=none∧S.A 20700=none∧S.A 20800=none∧S.A 20900=none) (fun i=>e.chain.length-i) 0 ?_ ?_
 ·have hA0:=hT.a
  have hh:=HW.head (Wv:=[7]) (Wa:=[20600,20700,20800]) (h1:=9000) hT rfl rfl
  exact⟨GE _,Jiu s0 rfl,Jiu s3 rfl,Jiu s50 h50,Jiu s51 h51,Jiu s52 h52,Jit m3 hx3 rfl,Jiu s68 rfl,Jiu s69 rfl,Jiu s70 rfl,by simpa using hh.1,Jis (.inr rfl),hh.2.1 _ rfl,hh.2.1 _ rfl,hh.2.1 _ rfl,hh.2.2 _ (fun e=>by rw[←e,a9] at hA0;cases hA0) (by decide) a9⟩
 ·intro i S ⟨hi,s0,s3,s50,s51,s52,m3,s68,s69,s70,hT,n7,a1,a2,a3,a9⟩
  have hm:=hT.m
  have hA:=hT.a
  cases c1:decide ((i:Int)<(e.chain.length:Int)) with
  |false=>
   have hil:i=e.chain.length:=by have:=Gb c1;omega
   rw[hil,GM] at hT
   simp only[go_sem,s69,s70,c1]
   exact hq _ (by simp only[go_sem,s0]) (by simp only[go_sem,s3]) (by simp only[go_sem,s50]) (by simp only[go_sem,s51]) (by simp only[go_sem,s52]) m3 ⟨hT.m,hT.a⟩ a9
  |true=>
   have hlt:=Yj c1
   obtain⟨v,hn,-⟩:=Jiq hlt
   have hinc:=inc64q (i:=i) (by omega)
   have hmem:=List.mem_of_getElem? hn
   have hv:=he.2.2 v hmem
   have hvl:=hst v hmem
   have htk:e.chain.take (i+1)=e.chain.take i++[v]:=by rw[G8,hn];rfl
   have hbl:=YeK (W:=Yci) (l:=e.chain) (i:=i+1)
   have hfull:g++(e.chain.take (i+1)).flatMap Yci=g++(e.chain.take i).flatMap Yci++stB v.at_++Ya0 v.gone++Yak v.val:=by rw[htk];simp[Yci]
   rw[htk,Gaf,Ge] at hbl
   simp only[GK,G3,Gv,Yci,Ge] at hbl
   generalize hg:g++(e.chain.take i).flatMap Yci=g1 at *
   have hgl:g1.length=g.length+((e.chain.take i).flatMap Yci).length:=by rw[←hg,Ge]
   have q1:=YiS h421 g1 [v.at_] (by simpa using hv.1.1) (by simp only[YJ,GK,G3,Gv];omega)
   have q2:=Ylo h458 (g1++YJ [v.at_]) v.gone (by simp only[YJ,GK,G3,Gv,Ge];omega)
   have q3:=YiT h457 (g1++YJ [v.at_]++Ya0 v.gone) [v.val] (by simpa using hvl) (by simp only[YJ,YaJ,GK,G3,Gv,Ge];omega)
   simp only[YJ,YaJ,GK,G3,Gv,GC,Gk] at q1 q2 q3
   simp only[go_sem] at q1 q2 q3
   generalize stB v.at_=b1 at *
   generalize Ya0 v.gone=b2 at *
   generalize Yak v.val=b3 at *
   simp only[go_sem,Jiv,s0,s68,s69,s70,c1,hn,hm,hA,n7,a1,a2,a3,q1,q2,q3,hinc,Gj]
   have hh:=fun {S:St} {a:Nat} (h:HW S 0 (g1++b1++b2++b3) a)=>HW.head (Wv:=[7]) (Wa:=[20600,20700,20800]) (h1:=9000) h rfl rfl
   have h4:=fun {S:St} (h:HW S 0 (g1++b1++b2++b3) 20800)=>hh h
   have hf:∀S,HW S 0 (g1++b1++b2++b3) 9000→HW S 0 (g++(e.chain.take (i+1)).flatMap Yci) 9000:=fun S h=>by rw[hfull];exact h
   refine⟨i+1,by omega,by omega,Jiu (by simp only[go_sem,s0]) rfl,Jiu (by simp only[go_sem,s3]) rfl,Jiu (by simp only[go_sem,s50]) h50,Jiu (by simp only[go_sem,s51]) h51,Jiu (by simp only[go_sem,s52]) h52,Jit (by simp only[go_sem,m3]) hx3 rfl,Jiu (by simp only[go_sem,s68]) rfl,Jiu (by simp only[go_sem,s69]) rfl,Jiu (by simp only[go_sem]) rfl,hf _ (h4 ⟨?_,?_⟩).1,Jis (.inr rfl),(h4 ⟨?_,?_⟩).2.1 _ rfl,(h4 ⟨?_,?_⟩).2.1 _ rfl,(h4 ⟨?_,?_⟩).2.1 _ rfl,(h4 ⟨?_,?_⟩).2.2 _ (by decide) (by decide) ?_⟩
   all_goals simp only[go_sem,a9,Ge]
def EntW (e:Entr):Prop:=YhZ e∧e.key.length≤2 ^ 20∧(∀v∈e.chain,v.val.length≤2 ^ 20)∧e.chain.length<2 ^ 60
theorem HW.out {S:St} {v:Nat} {b b':List UInt8} {a:Nat} (h:HW S v b a) (e:b=b'):HW S v b' a:=e▸h
theorem YlD (hw:HWr Pg) {g:List UInt8} {es:List Entr} (he:∀e∈es,EntW e) (hc:es.length<2 ^ 60) (hb:g.length+(es.flatMap YbN).length+100≤2 ^ 24) {S:St} {Q:Ex→St→Prop} {x3:List V}
  (hx3:x3.all V.datC=true)
  (s0:S.ρ 0=.lref 0 0) (s3:S.ρ 3=.lref 3 0) (m3:S.μ 3=some (x3,false))
  (s50:S.ρ 50=.slice 2 (es.map YaK)) (s51:S.ρ 51=iz es.length) (s52:S.ρ 52=iz 0) {a:Nat} (hT:HW S 0 g a) (a9:S.A 20900=none)
  (hq:∀S',S'.ρ 0=.lref 0 0→S'.ρ 3=.lref 3 0→S'.μ 3=some (x3,false)→HW S' 0 (g++es.flatMap YbN) 9000→S'.A 20900=none→Q .norm S'):Wp (K' Pg) l423_0 S (Blk 0 Q):=by
 have hw0:=hw
 obtain⟨h422,h457,h421,h458⟩:=hw
 unfold l423_0
 refine JiJ (fun (i:Nat) S=>i≤es.length∧S.ρ 0=.lref 0 0∧S.ρ 3=.lref 3 0∧S.μ 3=some (x3,false)∧S.ρ 50=.slice 2 (es.map YaK)∧S.ρ 51=iz es.length∧S.ρ 52=iz i∧HW S 0 (g++(es.take i).flatMap YbN) 9000∧S.μ 5=none∧S.A 20400=none∧S.A 20500=none∧S.A 20900=none) (fun i=>es.length-i) 0 ?_ ?_
 ·have hA0:=hT.a
  have hh:=HW.head (Wv:=[5,7]) (Wa:=[20400,20500,20600,20700,20800]) (h1:=9000) hT rfl rfl
  exact⟨GE _,Jiu s0 rfl,Jiu s3 rfl,Jit m3 hx3 rfl,Jiu s50 rfl,Jiu s51 rfl,Jiu s52 rfl,by simpa using hh.1,Jis (.inr rfl),hh.2.1 _ rfl,hh.2.1 _ rfl,hh.2.2 _ (fun e=>by rw[←e,a9] at hA0;cases hA0) (by decide) a9⟩
 ·intro i S ⟨hi,s0,s3,m3,s50,s51,s52,hT,n5,a1,a2,a9⟩
  have hm:=hT.m
  have hA:=hT.a
  cases c1:decide ((i:Int)<(es.length:Int)) with
  |false=>
   have hil:i=es.length:=by have:=Gb c1;omega
   rw[hil,GM] at hT
   simp only[go_sem,s51,s52,c1]
   exact hq _ (by simp only[go_sem,s0]) (by simp only[go_sem,s3]) m3 ⟨hT.m,hT.a⟩ a9
  |true=>
   have hlt:=Yj c1
   obtain⟨e,hn,-⟩:=Jiq hlt
   have hinc:=inc64q (i:=i) (by omega)
   obtain⟨hv,hk,hvl,hcl⟩:=he e (List.mem_of_getElem? hn)
   have htk:es.take (i+1)=es.take i++[e]:=by rw[G8,hn];rfl
   have hbl:=YeK (W:=YbN) (l:=es) (i:=i+1)
   have hfull:g++(es.take (i+1)).flatMap YbN=g++(es.take i).flatMap YbN++Yak e.key++putB e.chain.length++e.chain.flatMap Yci:=by rw[htk];simp[YbN,Yb9]
   rw[htk,Gaf,Ge] at hbl
   simp only[GK,G3,Gv,YbN,Yb9,Ge] at hbl
   generalize hg:g++(es.take i).flatMap YbN=g1 at *
   have hgl:g1.length=g.length+((es.take i).flatMap YbN).length:=by rw[←hg,Ge]
   have q1:=YiT h457 g1 [e.key] (by simpa using hk) (by simp only[YaJ,GK,G3,Gv];omega)
   have q2:=k422n h422 (g1++YaJ [e.key]) [(e.chain.length:Int)] (by simp only[List.mem_singleton,forall_eq];omega) (by simp only[YaJ,GK,G3,Gv,Ge,List.length_cons,List.length_nil];omega)
   simp only[Yao,YaJ,GK,G3,Gv,GC,Gk,Int.toNat_natCast] at q1 q2
   simp only[go_sem,Ye,Jiv,s0,s50,s51,s52,c1,hn,hm,hA,n5,a1,a2,q1,q2,Gj]
   refine Ymb hw0 (g:=g1++Yak e.key++putB e.chain.length) (w50:=.slice 2 (es.map YaK)) (w51:=iz es.length) (w52:=iz i) hv hvl hcl (by simp only[Ge];omega) rfl rfl rfl hx3 (by simp only[go_sem,s0]) (by simp only[go_sem,s3]) (by simp only[go_sem,s50]) (by simp only[go_sem,s51]) (by simp only[go_sem,s52]) (by simp only[go_sem,m3]) (by simp only[go_sem]) (by simp only[go_sem]) (by simp only[go_sem]) (a:=20500) ⟨by simp only[go_sem,Ge],by simp only[go_sem]⟩ (by simp only[go_sem,a9]) fun S1 t0 t3 t50 t51 t52 u3 hT1 b9=>?_
   have hh:=HW.head (Wv:=[5,7]) (Wa:=[20400,20500,20600,20700,20800]) (h1:=9000) (S:=⟨upd S1.ρ 52 (iz ((i+1:Nat):Int)),S1.μ,S1.A⟩) (v:=0) ⟨hT1.m,hT1.a⟩ rfl rfl
   simp only[go_sem,t52,hinc]
   refine⟨i+1,by omega,by omega,Jiu (by simp only[go_sem,t0]) rfl,Jiu (by simp only[go_sem,t3]) rfl,Jit (by simp only[go_sem,u3]) hx3 rfl,Jiu (by simp only[go_sem,t50]) rfl,Jiu (by simp only[go_sem,t51]) rfl,Jiu (by simp only[go_sem]) rfl,hh.1.out hfull.symm,Jis (.inr rfl),hh.2.1 _ rfl,hh.2.1 _ rfl,hh.2.2 _ (by decide) (by decide) b9⟩
def DonW (d:Done):Prop:=(0≤d.client∧d.client<2 ^ 63)∧(0≤d.req∧d.req<2 ^ 63)∧(0≤d.ans.err∧d.ans.err<2 ^ 63)∧Ya d.ans.at_=true∧d.ans.val.length≤2 ^ 20
theorem YkI (hw:HWr Pg) {g:List UInt8} {ds:List Done} (he:∀d∈ds,DonW d) (hc:ds.length<2 ^ 60) (hb:g.length+(ds.flatMap YaY).length+100≤2 ^ 24) {S:St} {Q:Ex→St→Prop}
  (s0:S.ρ 0=.lref 0 0)
  (s97:S.ρ 97=.slice 11 (ds.map YQ)) (s98:S.ρ 98=iz ds.length) (s99:S.ρ 99=iz 0) {a:Nat} (hT:HW S 0 g a)
  (hq:∀S',HW S' 0 (g++ds.flatMap YaY) 9000→Q .norm S'):Wp (K' Pg) l423_2 S (Blk 4 Q):=by
 have hw0:=hw
 obtain⟨h422,h457,h421,h458⟩:=hw
 unfold l423_2
 refine JiJ (fun (i:Nat) S=>i≤ds.length∧S.ρ 0=.lref 0 0∧S.ρ 97=.slice 11 (ds.map YQ)∧S.ρ 98=iz ds.length∧S.ρ 99=iz i∧HW S 0 (g++(ds.take i).flatMap YaY) 9000∧S.μ 9=none∧S.A 21000=none∧S.A 21100=none∧S.A 21200=none∧S.A 21300=none) (fun i=>ds.length-i) 0 ?_ ?_
 ·have hA0:=hT.a
  have hh:=HW.head (Wv:=[9]) (Wa:=[21000,21100,21200,21300]) (h1:=9000) hT rfl rfl
  exact⟨GE _,Jiu s0 rfl,Jiu s97 rfl,Jiu s98 rfl,Jiu s99 rfl,by simpa using hh.1,Jis (.inr rfl),hh.2.1 _ rfl,hh.2.1 _ rfl,hh.2.1 _ rfl,hh.2.1 _ rfl⟩
 ·intro i S ⟨hi,s0,s97,s98,s99,hT,n9,a1,a2,a3,a4⟩
  have hm:=hT.m
  have hA:=hT.a
  cases c1:decide ((i:Int)<(ds.length:Int)) with
  |false=>
   have hil:i=ds.length:=by have:=Gb c1;omega
   rw[hil,GM] at hT
   simp only[go_sem,s98,s99,c1]
   exact hq _ ⟨hT.m,hT.a⟩
  |true=>
   have hlt:=Yj c1
   obtain⟨d,hn,-⟩:=Jiq hlt
   have hinc:=inc64q (i:=i) (by omega)
   obtain⟨d1,d2,d3,d4,d5⟩:=he d (List.mem_of_getElem? hn)
   have htk:ds.take (i+1)=ds.take i++[d]:=by rw[G8,hn];rfl
   have hbl:=YeK (W:=YaY) (l:=ds) (i:=i+1)
   have hfull:g++(ds.take (i+1)).flatMap YaY=g++(ds.take i).flatMap YaY++(putB d.client.toNat++(putB d.req.toNat++putB d.ans.err.toNat))++stB d.ans.at_++Ya0 d.ans.found++Yak d.ans.val:=by rw[htk];simp[YaY]
   rw[htk,Gaf,Ge] at hbl
   simp only[GK,G3,Gv,YaY,Ge] at hbl
   have p1:=Ybc.2 (show d.client.toNat<2 ^ 63 by omega)
   have p2:=Ybc.2 (show d.req.toNat<2 ^ 63 by omega)
   have p3:=Ybc.2 (show d.ans.err.toNat<2 ^ 63 by omega)
   generalize hg:g++(ds.take i).flatMap YaY=g1 at *
   have hgl:g1.length=g.length+((ds.take i).flatMap YaY).length:=by rw[←hg,Ge]
   have q1:=k422n h422 g1 [d.client,d.req,d.ans.err] (by intro n hn;simp only[GI,List.not_mem_nil,or_false] at hn;rcases hn with rfl|rfl|rfl<;>assumption) (by simp only[List.length_cons,List.length_nil];omega)
   have q2:=YiS h421 (g1++Yao [d.client,d.req,d.ans.err]) [d.ans.at_] (by simpa using d4) (by simp only[Yao,YJ,GK,G3,Gv,Ge];omega)
   have q3:=Ylo h458 (g1++Yao [d.client,d.req,d.ans.err]++YJ [d.ans.at_]) d.ans.found (by simp only[Yao,YJ,GK,G3,Gv,Ge];omega)
   have q4:=YiT h457 (g1++Yao [d.client,d.req,d.ans.err]++YJ [d.ans.at_]++Ya0 d.ans.found) [d.ans.val] (by simpa using d5) (by simp only[Yao,YJ,YaJ,GK,G3,Gv,Ge];omega)
   simp only[Yao,YJ,YaJ,GK,G3,Gv,GC,Gk] at q1 q2 q3 q4
   simp only[go_sem] at q1 q2 q3 q4
   generalize putB d.client.toNat++(putB d.req.toNat++putB d.ans.err.toNat)=b0 at *
   generalize stB d.ans.at_=b1 at *
   generalize Ya0 d.ans.found=b2 at *
   generalize Yak d.ans.val=b3 at *
   simp only[go_sem,Jiv,s0,s97,s98,s99,c1,hn,hm,hA,n9,a1,a2,a3,a4,q1,q2,q3,q4,hinc,Gj]
   have h4:=fun {S:St} (h:HW S 0 (g1++b0++b1++b2++b3) 21300)=>HW.head (Wv:=[9]) (Wa:=[21000,21100,21200,21300]) (h1:=9000) h rfl rfl
   refine⟨i+1,by omega,by omega,Jiu (by simp only[go_sem,s0]) rfl,Jiu (by simp only[go_sem,s97]) rfl,Jiu (by simp only[go_sem,s98]) rfl,Jiu (by simp only[go_sem]) rfl,(h4 ⟨?_,?_⟩).1.out hfull.symm,Jis (.inr rfl),(h4 ⟨?_,?_⟩).2.1 _ rfl,(h4 ⟨?_,?_⟩).2.1 _ rfl,(h4 ⟨?_,?_⟩).2.1 _ rfl,(h4 ⟨?_,?_⟩).2.1 _ rfl⟩
   all_goals simp only[go_sem,Ge]
def ShdW (s:Shd):Prop:=(∀n∈[s.id,s.epoch,s.phase,s.hold,s.seen,s.move,s.closed],0≤n∧n<2 ^ 63)∧s.span.lo.length≤2 ^ 20∧s.span.hi.length≤2 ^ 20∧Ya s.mark=true∧Ya s.top=true∧
 (∀e∈s.ents,EntW e)∧s.ents.length<2 ^ 60∧(∀d∈s.done,DonW d)∧s.done.length<2 ^ 60
def H423 (Pg:PgT):Prop:=Pg 423=some (.codeR F423 0)∧H422 Pg∧H457 Pg∧H421 Pg∧H458 Pg
theorem K423 (h:H423 Pg) (b:List UInt8) (s:Shd) (hs:ShdW s) (hb:b.length+(shB s).length+300≤2 ^ 24) :
  K' Pg 423 [.tuple (.lref 0 0::Yde b),.agg (Yh s)]=some (.tuple [.tuple [],.tuple (Yde (b++shB s))]):=by
 obtain⟨h,hw⟩:=h
 have hw0:HWr Pg:=hw
 obtain⟨h422,h457,h421,h458⟩:=hw
 obtain⟨n7,lo,hi,mk,tp,he,hel,hd,hdl⟩:=hs
 have hbl:=hb
 simp only[shB,Yb9,Ge] at hbl
 have q1:=k422n h422 b [s.id,s.epoch,s.phase,s.hold,s.seen,s.move,s.closed] n7 (by simp only[List.length_cons,List.length_nil];omega)
 have hnl:=Yeg (l:=[s.id,s.epoch,s.phase,s.hold,s.seen,s.move,s.closed]) fun m hm=>by have:=n7 m hm;omega
 simp only[List.length_cons,List.length_nil] at hnl
 have hne:Yao [s.id,s.epoch,s.phase,s.hold,s.seen,s.move,s.closed]=putB s.id.toNat++(putB s.epoch.toNat++(putB s.phase.toNat++(putB s.hold.toNat++(putB s.seen.toNat++(putB s.move.toNat++putB s.closed.toNat))))):=by simp[Yao]
 have hsh:shB s=Yao [s.id,s.epoch,s.phase,s.hold,s.seen,s.move,s.closed]++(YaJ [s.span.lo,s.span.hi]++(YJ [s.mark,s.top]++(Yao [(s.ents.length:Int)]++(s.ents.flatMap YbN++(Yao [(s.done.length:Int)]++s.done.flatMap YaY))))):=by
  simp[shB,Yb9,Yao,YaJ,YJ]
 have hlen:(shB s).length=(Yao [s.id,s.epoch,s.phase,s.hold,s.seen,s.move,s.closed]).length+((YaJ [s.span.lo,s.span.hi]).length+((YJ [s.mark,s.top]).length+((Yao [(s.ents.length:Int)]).length+((s.ents.flatMap YbN).length+((Yao [(s.done.length:Int)]).length+(s.done.flatMap YaY).length))))):=by
  rw[hsh];simp only[Ge]
 rw[hsh]
 generalize Yao [s.id,s.epoch,s.phase,s.hold,s.seen,s.move,s.closed]=c1 at *
 have q2:=YiT h457 (b++c1) [s.span.lo,s.span.hi] (by simpa using ⟨lo,hi⟩) (by simp only[Ge];omega)
 generalize YaJ [s.span.lo,s.span.hi]=c2 at *
 have q3:=YiS h421 (b++c1++c2) [s.mark,s.top] (by simpa using ⟨mk,tp⟩) (by simp only[Ge];omega)
 generalize YJ [s.mark,s.top]=c3 at *
 have q4:=k422n h422 (b++c1++c2++c3) [(s.ents.length:Int)] (by simp only[List.mem_singleton,forall_eq];omega) (by simp only[Ge,List.length_cons,List.length_nil];omega)
 generalize Yao [(s.ents.length:Int)]=c4 at *
 generalize hc5:s.ents.flatMap YbN=c5 at *
 have q6:=k422n h422 (b++c1++c2++c3++c4++c5) [(s.done.length:Int)] (by simp only[List.mem_singleton,forall_eq];omega) (by simp only[Ge,List.length_cons,List.length_nil];omega)
 generalize Yao [(s.done.length:Int)]=c6 at *
 generalize hc7:s.done.flatMap YaY=c7 at *
 simp only[GC,Gk] at q1 q2 q3 q4 q6
 simp only[go_sem] at q1 q2 q3 q4 q6
 refine Yhx h rfl rfl fun S0 ⟨r0,r,hT0,m0,a0⟩=>?_
 have r1:=r 0
 simp only[JhD,Option.getD_some] at r1
 simp only[go_sem] at r1
 have hm:=hT0.m
 have hA:=hT0.a
 have m3:=m0 3 rfl
 have a1:=a0 20000 (by decide)
 have a2:=a0 20100 (by decide)
 have a3:=a0 20200 (by decide)
 have a4:=a0 20300 (by decide)
 have a9:=a0 20900 (by decide)
 simp only[F423,c423,go_sem,Jiv,r0,r1,hm,hA,m3,a1,a2,a3,a4,q1,q2,q3,q4,Gj]
 refine YlD hw0 (g:=b++c1++c2++c3++c4) (es:=s.ents) (x3:=Yh s) he hel (by simp only[Ge,hc5];omega) rfl (by simp only[go_sem,r0]) (by simp only[go_sem]) (by simp only[go_sem]) (by simp only[go_sem]) (by simp only[go_sem]) (by simp only[go_sem]) (a:=20300) ⟨by simp only[go_sem,Ge],by simp only[go_sem]⟩ (by simp only[go_sem,a9]) fun S1 t0 t3 u3 hT1 b9=>?_
 rw[hc5] at hT1
 have hm1:=hT1.m
 have hA1:=hT1.a
 simp only[go_sem] at u3
 simp only[go_sem,Jiv,t0,t3,u3,hm1,hA1,b9,q6,Gj]
 refine YkI hw0 (g:=b++c1++c2++c3++c4++c5++c6) (ds:=s.done) hd hdl (by simp only[Ge,hc7];omega) (by simp only[go_sem,t0]) (by simp only[go_sem]) (by simp only[go_sem]) (by simp only[go_sem]) (a:=20900) ⟨by simp only[go_sem,Ge],by simp only[go_sem]⟩ fun S2 hT2=>?_
 rw[hc7] at hT2
 simp only[go_sem]
 exact⟨9000,hT2.out (by simp)⟩
theorem Yew {n:Nat} (h:n<128):(putB n).length≤1:=(Ydo 0 n).2 (by simpa using h)
theorem YlR {n:Nat} (h:n<2 ^ 21):(putB n).length≤3:=(Ydo 2 n).2 (by simpa using h)
theorem YlQ {n:Nat} (h:n<2 ^ 14):(putB n).length≤2:=(Ydo 1 n).2 (by simpa using h)
theorem Ydh {n:Nat} (h:n<2 ^ 42):(putB n).length≤6:=(Ydo 5 n).2 (by simpa using h)
theorem YeJ {α:Type} {W:α→List UInt8} {k:Nat}:∀{l:List α},(∀a∈l,(W a).length≤k)→(l.flatMap W).length≤k*l.length
 |[],_=>by simp
 |a::l,h=>by
  have h1:=h a (GR ..);have h2:=YeJ (l:=l) fun b hb=>h b (G5 _ hb);simp only[GK,Ge,List.length_cons,Nat.mul_succ];omega
theorem Ygj {s:Stamp} (h:Ya s=true):(stB s).length≤11:=by
 simp only[Ya,Ydi,Gc,Gi] at h;have h1:=Ydh (n:=s.wall.toNat) (by omega);have h2:=YlR (n:=s.tick.toNat) (by omega);have h3:=YlQ (n:=s.node.toNat) (by omega);simp only[stB,Ge];omega
theorem Yd7 {t:List UInt8} (h:t.length≤16):(Yak t).length≤17:=by
 have:=Yew (n:=t.length) (by omega);simp only[Yak,Ge];omega
theorem YhC {x:Bool}:(Ya0 x).length=1:=by simp[Ya0]
theorem Ylk {v:Ver} (h:YS v=true):(Yci v).length≤29:=by
 simp only[YS,Gc,Gi] at h;have h1:=Ygj h.1.1;have h2:=Yd7 h.1.2;have h3:=YhC (x:=v.gone);simp only[Yci,Ge];omega
theorem YkO {e:Entr} (h:YcX e=true):(YbN e).length≤1874:=by
 simp only[YcX,Yg,Gc,Gi] at h;obtain⟨h1,h2,h3,h4⟩:=h;have k1:=Yd7 (Yaa h1).1;have k2:=Yew (n:=e.chain.length) (by omega);have k3:=YeJ (W:=Yci) (l:=e.chain) (k:=29) fun v hv=>Ylk (Yea h3 v hv);simp only[YbN,Yb9,Ge];omega
theorem Yi8 {d:Done} (h:rowR d=true):(0≤d.client∧d.client≤1099511627776)∧(0≤d.req∧d.req≤1099511627776)∧(0≤d.ans.err∧d.ans.err<128)∧Ya d.ans.at_=true∧d.ans.val.length≤16:=by
 simp only[rowR,Yr,YbX,Gc,Gi,GN] at h;obtain⟨⟨h1,h2⟩,⟨h3,h4⟩,c1,c2,c3,c4,c5,c6,c7⟩:=h;exact⟨⟨by omega,by omega⟩,⟨by omega,by omega⟩,⟨by omega,by omega⟩,c3,c4⟩
theorem YjP {d:Done} (h:rowR d=true):(YaY d).length≤42:=by
 obtain⟨h1,h2,h3,h4,h5⟩:=Yi8 h;have k1:=Ydh (n:=d.client.toNat) (by omega);have k2:=Ydh (n:=d.req.toNat) (by omega);have k3:=Yew (n:=d.ans.err.toNat) (by omega);have k4:=Ygj h4;have k5:=Yd7 h5;have k6:=YhC (x:=d.ans.found);simp only[YaY,Ge];omega
theorem Yf6 {n:Int} (h:nou n=true):0≤n∧n≤1099511627776:=by simpa [nou] using h
theorem Ygh {s:Shd} (hr:shR s=true):ShdW s∧(shB s).length≤121000:=by
 simp only[shR,shR0,Yr,YC,ixR,YA,Gc,G2,Gi,Gx] at hr;obtain⟨⟨⟨a1,a2⟩,⟨b1,b2⟩,c1,d1,e1,f1,g1,g2,⟨i1,i2⟩,⟨j1,j2⟩,k1,k2,l1,l2⟩,-⟩:=hr;have c1:=Yf6 c1;have d1:=Yf6 d1;have e1:=Yf6 e1;have f1:=Yf6 f1;have lo:s.span.lo.length≤16:=by
  rcases i1 with i1|i1
  ·rw[i1];simp
  ·exact (Yaa i1).1
 have hi:s.span.hi.length≤16:=by
  rcases i2 with i2|i2
  ·rw[i2];simp
  ·exact (Yaa i2.1).1
 have q1:=Ydh (n:=s.id.toNat) (by omega);have q2:=Ydh (n:=s.epoch.toNat) (by omega);have q3:=Yew (n:=s.phase.toNat) (by omega);have q4:=Ydh (n:=s.hold.toNat) (by omega);have q5:=Ydh (n:=s.seen.toNat) (by omega);have q6:=Ydh (n:=s.move.toNat) (by omega);have q7:=Ydh (n:=s.closed.toNat) (by omega);have q8:=Yd7 lo;have q9:=Yd7 hi;have q10:=Ygj k1;have q11:=Ygj k2;have q12:=Yew (n:=s.ents.length) (by omega);have q13:=Yew (n:=s.done.length) (by omega);have q14:=YeJ (W:=YbN) (l:=s.ents) (k:=1874) fun e he=>YkO (Yee j2 e he);have q15:=YeJ (W:=YaY) (l:=s.done) (k:=42) fun d hd=>YjP (YcA l1 d hd);refine⟨⟨?_,by omega,by omega,k1,k2,fun e he=>?_,by omega,fun d hd=>?_,by omega⟩,?_⟩
 ·intro n hn;simp only[GI,List.not_mem_nil,or_false] at hn;rcases hn with rfl|rfl|rfl|rfl|rfl|rfl|rfl<;>omega
 ·have h0:=Yee j2 e he;have h1:=h0;simp only[YcX,Yg,Gc,Gi] at h1;refine⟨YjT h0,by have:=(Yaa h1.1).1;omega,fun v hv=>?_,by omega⟩;have:=Yea h1.2.2.1 v hv;simp only[YS,Gc,Gi] at this;omega
 ·obtain⟨h1,h2,h3,h4,h5⟩:=Yi8 (YcA l1 d hd);exact⟨by omega,by omega,by omega,h4,by omega⟩
 ·simp only[shB,Yb9,Ge];omega
theorem YiE {top:Stamp}:∀{l:List Shd} {p:Int},cgo top p l=true→∀s∈l,shR s=true
 |[],_,_,s,hs=>by cases hs
 |x::l,p,h,s,hs=>by
  simp only[cgo,Gc] at h;rcases GI.1 hs with rfl|hs
  ·exact h.2.1
  ·exact YiE h.2.2.2 s hs
theorem YiD {c:Cel} (h:Yy c=true):c.shards.length≤8∧Ya c.top=true∧(0≤c.dropped∧c.dropped≤1099511627776)∧∀s∈c.shards,shR s=true:=by
 simp only[Yy,Gc,Gi] at h;exact⟨h.1,h.2.1,Yf6 h.2.2.1,YiE h.2.2.2⟩
theorem Ydx {c:Cel} (h:Yy c=true):(cB c).length≤968030:=by
 obtain⟨h1,h2,h3,h4⟩:=YiD h;have k1:=Ygj h2;have k2:=Ydh (n:=c.dropped.toNat) (by omega);have k3:=Yew (n:=c.shards.length) (by omega);have k4:=YeJ (W:=shB) (l:=c.shards) (k:=121000) fun s hs=>(Ygh (h4 s hs)).2;simp only[cB,Yb9,Ge];omega
theorem YjA {s:Shd} (hr:shR s=true):SmS s:=by
 have h0:=hr;simp only[shR,shR0,Yr,YC,ixR,YA,Gc,G2,Gi,Gx] at hr;obtain⟨⟨⟨a1,a2⟩,⟨b1,b2⟩,c1,d1,e1,f1,g1,g2,⟨i1,i2⟩,⟨j1,j2⟩,k1,k2,l1,l2⟩,-⟩:=hr;have lo:s.span.lo.length≤16:=by
  rcases i1 with i1|i1
  ·rw[i1];simp
  ·exact (Yaa i1).1
 have hi:s.span.hi.length≤16:=by
  rcases i2 with i2|i2
  ·rw[i2];simp
  ·exact (Yaa i2.1).1
 refine⟨⟨by omega,fun e he=>?_⟩,by omega,fun d hd=>?_,by omega,by omega⟩
 ·have h1:=Yee j2 e he;simp only[YcX,Yg,Gc,Gi] at h1;have:=(Yaa h1.1).1;omega
 ·have:=YcA l1 d hd;simp only[rowR,Yr,YbX,Gc,Gi,GN] at this;obtain⟨-,-,-,-,-,-,c5,-,-⟩:=this;rw[c5];simp
theorem Yal {c:Cel} (h:Yy c=true):SmC c:=by
 obtain⟨h1,h2,h3,h4⟩:=YiD h;exact⟨by omega,fun s hs=>YjA (h4 s hs)⟩
def H500 (Pg:PgT):Prop:=Pg 500=some (.code F500)∧H244 Pg∧H423 Pg
theorem K500 (h:H500 Pg) (s:Shd) (hs:SmS s):K' Pg 500 [.agg (Yh s)]=some (if shR s=true then .tuple [.str (shB s),iz 0] else .tuple [.str [],iz 1]):=by
 obtain⟨h,h244,h423⟩:=h;have k1:=K244 h244 s hs;simp only[go_sem] at k1;refine Qb h rfl ?_;cases c1:shR s with
 |false=>
  rw[Gn (by simp)];rw[c1] at k1;simp only[F500,c500,go_sem,k1]
 |true=>
  rw[Gr rfl];rw[c1] at k1;obtain⟨hw,hl⟩:=Ygh c1;have k2:=K423 h423 [] s hw (by simp only[List.length_nil];omega);simp only[Yde,List.nil_append,Gk] at k2;simp only[go_sem] at k2;have hb:=Jce (shB s);simp only[YgN] at hb;simp only[F500,c500,go_sem,Jiv,k1,k2,hb,Gj]
theorem YlY (h423:H423 Pg) {g:List UInt8} {ss:List Shd} (he:∀s∈ss,shR s=true) (hc:ss.length<2 ^ 60) (hb:g.length+(ss.flatMap shB).length+300≤2 ^ 24) {S:St} {Q:Ex→St→Prop}
  (s4:S.ρ 4=.lref 4 0) (s22:S.ρ 22=.slice 17 (ss.map Yh)) (s23:S.ρ 23=iz ss.length) (s24:S.ρ 24=iz 0) {a:Nat} (hT:HW S 4 g a)
  (hq:∀S',S'.ρ 4=.lref 4 0→HW S' 4 (g++ss.flatMap shB) 10400→Q .norm S'):Wp (K' Pg) l401_0 S (Blk 0 Q):=by
 unfold l401_0
 refine JiJ (fun (i:Nat) S=>i≤ss.length∧S.ρ 4=.lref 4 0∧S.ρ 22=.slice 17 (ss.map Yh)∧S.ρ 23=iz ss.length∧S.ρ 24=iz i∧HW S 4 (g++(ss.take i).flatMap shB) 10400∧S.μ 6=none∧S.A 20200=none) (fun i=>ss.length-i) 0 ?_ ?_
 ·have hh:=HW.head (Wv:=[6]) (Wa:=[20200]) (h1:=10400) hT rfl rfl
  exact⟨GE _,Jiu s4 rfl,Jiu s22 rfl,Jiu s23 rfl,Jiu s24 rfl,by simpa using hh.1,Jis (.inr rfl),hh.2.1 _ rfl⟩
 ·intro i S ⟨hi,s4,s22,s23,s24,hT,n6,a1⟩
  have hm:=hT.m
  have hA:=hT.a
  cases c1:decide ((i:Int)<(ss.length:Int)) with
  |false=>
   have hil:i=ss.length:=by have:=Gb c1;omega
   rw[hil,GM] at hT
   simp only[go_sem,s23,s24,c1]
   exact hq _ (by simp only[go_sem,s4]) ⟨hT.m,hT.a⟩
  |true=>
   have hlt:=Yj c1
   obtain⟨s,hn,-⟩:=Jiq hlt
   have hinc:=inc64q (i:=i) (by omega)
   have hs:=he s (List.mem_of_getElem? hn)
   have htk:ss.take (i+1)=ss.take i++[s]:=by rw[G8,hn];rfl
   have hbl:=YeK (W:=shB) (l:=ss) (i:=i+1)
   have hfull:g++(ss.take (i+1)).flatMap shB=g++(ss.take i).flatMap shB++shB s:=by rw[htk];simp
   rw[htk,Gaf,Ge] at hbl
   simp only[GK,G3,Gv] at hbl
   generalize hg:g++(ss.take i).flatMap shB=g1 at *
   have hgl:g1.length=g.length+((ss.take i).flatMap shB).length:=by rw[←hg,Ge]
   have q1:=K423 h423 g1 s (Ygh hs).1 (by omega)
   simp only[Yde] at q1
   simp only[go_sem] at q1
   generalize shB s=b1 at *
   simp only[go_sem,Jiv,s4,s22,s23,s24,c1,hn,hm,hA,n6,a1,q1,hinc,Gj]
   have h4:=fun {S:St} (h:HW S 4 (g1++b1) 20200)=>HW.head (Wv:=[6]) (Wa:=[20200]) (h1:=10400) h rfl rfl
   refine⟨i+1,by omega,by omega,Jiu (by simp only[go_sem,s4]) rfl,Jiu (by simp only[go_sem,s22]) rfl,Jiu (by simp only[go_sem,s23]) rfl,Jiu (by simp only[go_sem]) rfl,(h4 ⟨?_,?_⟩).1.out hfull.symm,Jis (.inr rfl),(h4 ⟨?_,?_⟩).2.1 _ rfl⟩
   all_goals simp only[go_sem,Ge]
def H401 (Pg:PgT):Prop:=Pg 401=some (.code F401)∧H249 Pg∧H421 Pg∧H422 Pg∧H423 Pg
theorem K401 (h:H401 Pg) (c:Cel) (hs:SmC c):K' Pg 401 [.agg (Yk c)]=some (if Yy c=true then .tuple [.str (cB c),iz 0] else .tuple [.str [],iz 1]):=by
 obtain⟨h,h249,h421,h422,h423⟩:=h;have k1:=K249 h249 c hs;simp only[go_sem] at k1;refine Qb h rfl ?_;cases c1:Yy c with
 |false=>
  rw[Gn (by simp)];rw[c1] at k1;simp only[F401,c401,go_sem,k1]
 |true=>
  rw[Gr rfl];rw[c1] at k1;obtain⟨r1,r2,r3,r4⟩:=YiD c1;have hl:=Ydx c1;simp only[cB,Yb9,Ge] at hl;have q1:=YiS h421 [] [c.top] (by simpa using r2) (by simp only[YJ,GK,G3,Gv,List.length_nil];omega);have q2:=k422n h422 ([]++YJ [c.top]) [c.dropped,(c.shards.length:Int)] (by simp only[GI,List.not_mem_nil,or_false,forall_eq_or_imp,forall_eq];omega) (by simp only[YJ,GK,G3,Gv,Ge,List.length_cons,List.length_nil];omega);have hcb:cB c=YJ [c.top]++Yao [c.dropped,(c.shards.length:Int)]++c.shards.flatMap shB:=by simp[cB,Yb9,YJ,Yao]
  have hn:(Yao [c.dropped,(c.shards.length:Int)]).length=(putB c.dropped.toNat).length+(putB c.shards.length).length:=by simp[Yao]
  have ht:(YJ [c.top]).length=(stB c.top).length:=by simp[YJ]
  simp only[List.nil_append,GC,Gk] at q1 q2;simp only[go_sem] at q1 q2;rw[hcb];generalize YJ [c.top]=b1 at *
  generalize Yao [c.dropped,(c.shards.length:Int)]=b2 at *
  simp only[F401,c401,go_sem,Jiv,k1,q1,q2,Gj];refine YlY h423 (g:=b1++b2) (ss:=c.shards) r4 (by omega) (by simp only[Ge];omega) (by simp only[go_sem]) (by simp only[go_sem]) (by simp only[go_sem]) (by simp only[go_sem]) (a:=20100) ⟨by simp only[go_sem,Ge],by simp only[go_sem]⟩ fun S1 t4 hT1=>?_;have hm1:=hT1.m;have hA1:=hT1.a;have hb:=Jce (b1++b2++c.shards.flatMap shB);simp only[YgN] at hb;simp only[go_sem,t4,hm1,hA1,hb,Gj]
theorem K487i (h:H487 Pg) (n:Int) (h0:0≤n) (h1:n<2 ^ 63):K' Pg 487 [iz n]=some (.tuple [.str (putB n.toNat),iz 0]):=by
 have:=K487 h n.toNat (by omega);rw[show ((n.toNat:Nat):Int)=n by omega] at this;exact this
def H460 (Pg:PgT):Prop:=Pg 460=some (.code F460)∧H487 Pg
theorem K460 (h:H460 Pg) (n:Int) (h0:0≤n) (h1:n<2 ^ 63):K' Pg 460 [iz n]=some (.str (putB n.toNat)):=by
 obtain⟨h,h487⟩:=h;have k:=K487i h487 n h0 h1;refine Qb h rfl ?_;simp only[F460,c460,go_sem,k]
def H503 (Pg:PgT):Prop:=Pg 503=some (.code F503)∧H487 Pg
theorem K503 (h:H503 Pg) (t:List UInt8) (ht:t.length<2 ^ 61):K' Pg 503 [.str t]=some (.str (Yak t)):=by
 obtain⟨h,h487⟩:=h;have k:=K487 h487 t.length (by omega);have hl:(putB t.length).length+t.length≤4611686018427387904:=by have:=Ybc.2 (show t.length<2 ^ 63 by omega);omega
 refine Qb h rfl ?_;simp only[F503,c503,go_sem,k,hl,Yak]
def H488 (Pg:PgT):Prop:=Pg 488=some (.code F488)∧H503 Pg
theorem K488 (h:H488 Pg) (t:List UInt8) (ht:t.length<2 ^ 61):K' Pg 488 [.str t]=some (.str (Yak t)):=by
 obtain⟨h,h503⟩:=h;have k:=K503 h503 t ht;refine Qb h rfl ?_;simp only[F488,c488,go_sem,k]
def H504 (Pg:PgT):Prop:=Pg 504=some (.code F504)
theorem K504 (h:H504 Pg) (b:Bool):K' Pg 504 [.bool b]=some (.str (Ya0 b)):=by
 refine Qb h rfl ?_;cases b<;>simp only[F504,c504,go_sem,Ya0]<;>rfl
def H489 (Pg:PgT):Prop:=Pg 489=some (.code F489)∧H504 Pg
theorem K489 (h:H489 Pg) (b:Bool):K' Pg 489 [.bool b]=some (.str (Ya0 b)):=by
 obtain⟨h,h504⟩:=h;have k:=K504 h504 b;refine Qb h rfl ?_;simp only[F489,c489,go_sem,k]
def H459 (Pg:PgT):Prop:=Pg 459=some (.code F459)∧H486 Pg
theorem K459 (h:H459 Pg) (s:Stamp) (hs:Ya s=true):K' Pg 459 [.agg (Yd s)]=some (.str (stB s)):=by
 obtain⟨h,h486⟩:=h;have k:=K486 h486 s hs;simp only[go_sem] at k;refine Qb h rfl ?_;simp only[F459,c459,go_sem,k]
theorem Ye3 {α:Type} {W:α→List UInt8} {l:List α} {j:Nat}:((l.take j).flatMap W).length≤(l.flatMap W).length:=by
 conv=>rhs;rw[←G4 j l]
 simp only[Gaf,Ge];omega
theorem Ye2 {α:Type} {W:α→List UInt8} {l:List α} {j:Nat} {x:α} (h:l[j]?=some x):(l.take (j+1)).flatMap W=(l.take j).flatMap W++W x:=by
 rw[G8,h];simp
theorem Ymd (h459:H459 Pg) (h489:H489 Pg) (h488:H488 Pg) {sh:Shd} {key g:List UInt8} {chain:List Ver} {I:Nat} (hc:∀v∈chain,Ya v.at_=true∧v.val.length≤2 ^ 20) (hn:chain.length≤2 ^ 20) (hg:g.length+(chain.flatMap Yci).length≤2 ^ 40)
  {S:St} {Q:Ex→St→Prop} (s1:S.ρ 1=.lref 1 0) (s3:S.ρ 3=.str g) (s4:S.ρ 4=iz I) (s5:S.ρ 5=.lref 5 0) (s6:S.ρ 6=iz 0) (n1:S.μ 1=some (Yh sh,false)) (n5:S.μ 5=some ([.str key,Ye chain],false)) (n8:S.μ 8=none)
  (hq:∀S',S'.ρ 1=.lref 1 0→S'.ρ 3=.str (g++chain.flatMap Yci)→S'.ρ 4=iz I→S'.μ 1=some (Yh sh,false)→S'.μ 8=none→Q .norm S'):Wp (K' Pg) l461_1 S (Blk 2 Q):=by
 unfold l461_1
 refine JiJ (fun (j:Nat) S'=>j≤chain.length∧S'.ρ 1=.lref 1 0∧S'.ρ 3=.str (g++(chain.take j).flatMap Yci)∧S'.ρ 4=iz I∧S'.ρ 5=.lref 5 0∧S'.ρ 6=iz j∧S'.μ 1=some (Yh sh,false)∧S'.μ 5=some ([.str key,Ye chain],false)∧S'.μ 8=none) (fun j=>chain.length-j) 0 ?_ ?_
 ·simp only[JhF]
  exact⟨GE _,s1,by rw[s3];simp,s4,s5,s6,n1,n5,n8⟩
 ·intro j S' ⟨hj,t1,t3,t4,t5,t6,m1,m5,m8⟩
  simp only[Ye] at m5
  cases c1:decide ((j:Int)<(chain.length:Int)) with
  |false=>
   have hjm:j=chain.length:=by have:=Gb c1;omega
   subst hjm
   rw[GM] at t3
   simp only[go_sem,t5,t6,m5,c1,Gj]
   exact hq _ (by simp only[go_sem,t1]) (by simp only[go_sem,t3]) (by simp only[go_sem,t4]) m1 m8
  |true=>
   have hlt:=Yj c1
   obtain⟨v,hv,-⟩:=Jiq hlt
   obtain⟨v1,v2⟩:=hc v (List.mem_of_getElem? hv)
   have hinc:=inc64q (i:=j) (by omega)
   have k1:=K459 h459 v.at_ v1
   have k2:=K489 h489 v.gone
   have k3:=K488 h488 v.val (by omega)
   have hsn:=Ye2 (W:=Yci) hv
   have hle:=Ye3 (W:=Yci) (l:=chain) (j:=j+1)
   rw[hsn,Ge] at hle
   simp only[Yci,Ge] at hle
   generalize hG:g++(chain.take j).flatMap Yci=G at *
   have hGl:G.length=g.length+((chain.take j).flatMap Yci).length:=by rw[←hG,Ge]
   have b1:G.length+(stB v.at_).length≤4611686018427387904:=by omega
   have b2:G.length+(stB v.at_).length+(Ya0 v.gone).length≤4611686018427387904:=by omega
   have b3:G.length+(stB v.at_).length+(Ya0 v.gone).length+(Yak v.val).length≤4611686018427387904:=by omega
   simp only[go_sem] at k1
   simp only[go_sem,t1,t3,t4,t5,t6,m5,c1,hv,k1,k2,k3,hinc,b1,b2,b3,Gj,Ge,JhF]
   refine⟨j+1,by omega,by omega,by rw[hsn,←GS,hG];simp[Yci],rfl,m1,rfl,m8⟩
theorem YlF (h459:H459 Pg) (h489:H489 Pg) (h488:H488 Pg) (h460:H460 Pg) {sh:Shd} {g:List UInt8} (hc:∀e∈sh.ents,e.key.length≤2 ^ 20∧e.chain.length≤2 ^ 20∧∀v∈e.chain,Ya v.at_=true∧v.val.length≤2 ^ 20) (hn:sh.ents.length≤2 ^ 20) (hg:g.length+(sh.ents.flatMap YbN).length≤2 ^ 40)
  {S:St} {Q:Ex→St→Prop} (s1:S.ρ 1=.lref 1 0) (s3:S.ρ 3=.str g) (s4:S.ρ 4=iz 0) (n1:S.μ 1=some (Yh sh,false)) (n5:S.μ 5=none) (n8:S.μ 8=none)
  (hq:∀S',S'.ρ 1=.lref 1 0→S'.ρ 3=.str (g++sh.ents.flatMap YbN)→S'.μ 1=some (Yh sh,false)→S'.μ 8=none→Q .norm S'):Wp (K' Pg) l461_0 S (Blk 0 Q):=by
 unfold l461_0
 refine JiJ (fun (j:Nat) S'=>j≤sh.ents.length∧S'.ρ 1=.lref 1 0∧S'.ρ 3=.str (g++(sh.ents.take j).flatMap YbN)∧S'.ρ 4=iz j∧S'.μ 1=some (Yh sh,false)∧S'.μ 5=none∧S'.μ 8=none) (fun j=>sh.ents.length-j) 0 ?_ ?_
 ·exact⟨GE _,Jiu s1 rfl,Jiu (by rw[s3];simp) rfl,Jiu s4 rfl,(YeM rfl).trans n1,Jis (.inr rfl),Jis (.inl n8)⟩
 ·intro j S' ⟨hj,t1,t3,t4,m1,m5,m8⟩
  have m1':=m1
  simp only[go_sem] at m1'
  cases c1:decide ((j:Int)<(sh.ents.length:Int)) with
  |false=>
   have hjm:j=sh.ents.length:=by have:=Gb c1;omega
   rw[hjm,GM] at t3
   simp only[go_sem,t1,t4,m1',c1,Gj]
   exact hq _ (by simp only[go_sem,t1]) (by simp only[go_sem,t3]) m1 m8
  |true=>
   have hlt:=Yj c1
   obtain⟨e,he,-⟩:=Jiq hlt
   obtain⟨v1,v2,v3⟩:=hc e (List.mem_of_getElem? he)
   have hinc:=inc64q (i:=j) (by omega)
   have k1:=K488 h488 e.key (by omega)
   have k2:=K460 h460 e.chain.length (by omega) (by omega)
   have hto:((e.chain.length:Int)).toNat=e.chain.length:=by omega
   rw[hto] at k2
   have hsn:=Ye2 (W:=YbN) he
   have hle:=Ye3 (W:=YbN) (l:=sh.ents) (j:=j+1)
   rw[hsn,Ge] at hle
   simp only[YbN,Yb9,Ge] at hle
   generalize hG:g++(sh.ents.take j).flatMap YbN=G at *
   have hGl:G.length=g.length+((sh.ents.take j).flatMap YbN).length:=by rw[←hG,Ge]
   have b1:G.length+(Yak e.key).length≤4611686018427387904:=by omega
   have b2:G.length+(Yak e.key).length+(putB e.chain.length).length≤4611686018427387904:=by omega
   simp only[go_sem,Ye,t1,t3,t4,m1',m5,c1,he,k1,k2,b1,b2,Gj,Ge]
   refine Ymd h459 h489 h488 (sh:=sh) (key:=e.key) (g:=G++Yak e.key++putB e.chain.length) (chain:=e.chain) (I:=j) v3 v2 (by simp only[Ge];omega) (by simp only[go_sem,t1]) (by simp only[go_sem]) (by simp only[go_sem,t4]) (by simp only[go_sem]) (by simp only[go_sem]) (by simp only[go_sem,m1']) (by simp only[go_sem,Ye]) (by simp only[go_sem,m8]) fun S2 u1 u3 u4 w1 w8=>?_
   have w1':=w1
   have hfin:g++(sh.ents.take (j+1)).flatMap YbN=G++Yak e.key++putB e.chain.length++e.chain.flatMap Yci:=by rw[hsn,←GS,hG];simp[YbN,Yb9]
   simp only[go_sem,u4,hinc,u1,u3,w1',w8,Option.map_some,Option.map_none]
   exact⟨j+1,by omega,by omega,by rw[hfin],rfl⟩
theorem YkK (h459:H459 Pg) (h489:H489 Pg) (h488:H488 Pg) (h460:H460 Pg) {sh:Shd} {g:List UInt8} (hc:∀d∈sh.done,rowR d=true) (hn:sh.done.length≤2 ^ 20) (hg:g.length+(sh.done.flatMap YaY).length≤2 ^ 40)
  {S:St} {Q:Ex→St→Prop} (s1:S.ρ 1=.lref 1 0) (s3:S.ρ 3=.str g) (s7:S.ρ 7=iz 0) (n1:S.μ 1=some (Yh sh,false)) (n8:S.μ 8=none)
  (hq:∀S',S'.ρ 3=.str (g++sh.done.flatMap YaY)→Q .norm S'):Wp (K' Pg) l461_2 S (Blk 4 Q):=by
 unfold l461_2
 refine JiJ (fun (j:Nat) S'=>j≤sh.done.length∧S'.ρ 1=.lref 1 0∧S'.ρ 3=.str (g++(sh.done.take j).flatMap YaY)∧S'.ρ 7=iz j∧S'.μ 1=some (Yh sh,false)∧S'.μ 8=none) (fun j=>sh.done.length-j) 0 ?_ ?_
 ·exact⟨GE _,Jiu s1 rfl,Jiu (by rw[s3];simp) rfl,Jiu s7 rfl,(YeM rfl).trans n1,Jis (.inr rfl)⟩
 ·intro j S' ⟨hj,t1,t3,t7,m1,m8⟩
  have m1':=m1
  simp only[go_sem] at m1'
  cases c1:decide ((j:Int)<(sh.done.length:Int)) with
  |false=>
   have hjm:j=sh.done.length:=by have:=Gb c1;omega
   rw[hjm,GM] at t3
   simp only[go_sem,t1,t7,m1',c1,Gj]
   exact hq _ (by simp only[go_sem,t3])
  |true=>
   have hlt:=Yj c1
   obtain⟨d,he,-⟩:=Jiq hlt
   have hr:=hc d (List.mem_of_getElem? he)
   simp only[rowR,Yr,YbX,Gc,Gi,GN] at hr
   obtain⟨⟨a1,a2⟩,⟨a3,a4⟩,a5,a6,a7,a8,-⟩:=hr
   have hinc:=inc64q (i:=j) (by omega)
   have k1:=K460 h460 d.client (by omega) (by omega)
   have k2:=K460 h460 d.req (by omega) (by omega)
   have k3:=K460 h460 d.ans.err a5 (by omega)
   have k4:=K459 h459 d.ans.at_ a7
   have k5:=K489 h489 d.ans.found
   have k6:=K488 h488 d.ans.val (by omega)
   have hsn:=Ye2 (W:=YaY) he
   have hle:=Ye3 (W:=YaY) (l:=sh.done) (j:=j+1)
   rw[hsn,Ge] at hle
   simp only[YaY,Ge] at hle
   generalize hG:g++(sh.done.take j).flatMap YaY=G at *
   have hGl:G.length=g.length+((sh.done.take j).flatMap YaY).length:=by rw[←hG,Ge]
   have b1:G.length+(putB d.client.toNat).length≤4611686018427387904:=by omega
   have b2:G.length+(putB d.client.toNat).length+(putB d.req.toNat).length≤4611686018427387904:=by omega
   have b3:G.length+(putB d.client.toNat).length+(putB d.req.toNat).length+(putB d.ans.err.toNat).length≤4611686018427387904:=by omega
   have b4:G.length+(putB d.client.toNat).length+(putB d.req.toNat).length+(putB d.ans.err.toNat).length+(stB d.ans.at_).length≤4611686018427387904:=by omega
   have b5:G.length+(putB d.client.toNat).length+(putB d.req.toNat).length+(putB d.ans.err.toNat).length+(stB d.ans.at_).length+(Ya0 d.ans.found).length≤4611686018427387904:=by omega
   have b6:G.length+(putB d.client.toNat).length+(putB d.req.toNat).length+(putB d.ans.err.toNat).length+(stB d.ans.at_).length+(Ya0 d.ans.found).length+(Yak d.ans.val).length≤4611686018427387904:=by omega
   have hfin:g++(sh.done.take (j+1)).flatMap YaY=G++putB d.client.toNat++putB d.req.toNat++putB d.ans.err.toNat++stB d.ans.at_++Ya0 d.ans.found++Yak d.ans.val:=by rw[hsn,←GS,hG];simp[YaY]
   simp only[go_sem] at k4
   simp only[go_sem,t1,t3,t7,m1',m8,c1,he,k1,k2,k3,k4,k5,k6,b1,b2,b3,b4,b5,b6,hinc,Gj,Ge,Option.map_some]
   exact⟨j+1,by omega,by omega,by rw[hfin],rfl⟩
def H461 (Pg:PgT):Prop:=Pg 461=some (.code F461)∧H459 Pg∧H489 Pg∧H488 Pg∧H460 Pg
theorem K461 (h:H461 Pg) (s:Shd) (hr:shR s=true) (hb:(shB s).length≤2 ^ 40):K' Pg 461 [.agg (Yh s)]=some (.str (shB s)):=by
 obtain⟨h,h459,h489,h488,h460⟩:=h;have hv:=Yfa hr;simp only[shR,shR0,Yr,nou,YC,ixR,YA,Gc,G2,Gi,Gx] at hr;obtain⟨⟨⟨a1,a2⟩,⟨b1,b2⟩,⟨c1,c2⟩,⟨d1,d2⟩,⟨e1,e2⟩,⟨f1,f2⟩,g1,g2,⟨i1,i2⟩,⟨j1,j2⟩,k1,k2,l1,l2⟩,-⟩:=hr;have lo:s.span.lo.length≤16:=by
  rcases i1 with i1|i1
  ·rw[i1];simp
  ·exact (Yaa i1).1
 have hi:s.span.hi.length≤16:=by
  rcases i2 with i2|i2
  ·rw[i2];simp
  ·exact (Yaa i2.1).1
 have hents:∀e∈s.ents,e.key.length≤2 ^ 20∧e.chain.length≤2 ^ 20∧∀v∈e.chain,Ya v.at_=true∧v.val.length≤2 ^ 20:=fun e he=>by
  have:=Yee j2 e he;simp only[YcX,Yg,Gc,Gi] at this;obtain⟨h1,h2,h3,h4⟩:=this;refine⟨by have:=(Yaa h1).1;omega,by omega,fun v hv=>?_⟩;have:=Yea h3 v hv;simp only[YS,Gc,Gi] at this;exact⟨this.1.1,by omega⟩
 have q1:=K460 h460 s.id (by omega) (by omega);have q2:=K460 h460 s.epoch (by omega) (by omega);have q3:=K460 h460 s.phase (by omega) (by omega);have q4:=K460 h460 s.hold (by omega) (by omega);have q5:=K460 h460 s.seen (by omega) (by omega);have q6:=K460 h460 s.move (by omega) (by omega);have q7:=K460 h460 s.closed (by omega) (by omega);have q8:=K488 h488 s.span.lo (by omega);have q9:=K488 h488 s.span.hi (by omega);have q10:=K459 h459 s.mark k1;have q11:=K459 h459 s.top k2;have q12:=K460 h460 s.ents.length (by omega) (by omega);have q13:=K460 h460 s.done.length (by omega) (by omega);rw[show ((s.ents.length:Int)).toNat=s.ents.length by omega] at q12;rw[show ((s.done.length:Int)).toNat=s.done.length by omega] at q13;simp only[go_sem] at q10 q11;have hb':=hb;simp only[shB,Yb9,Ge] at hb';have w1:(putB s.id.toNat).length+(putB s.epoch.toNat).length≤4611686018427387904:=by omega
 have w2:(putB s.id.toNat).length+(putB s.epoch.toNat).length+(putB s.phase.toNat).length≤4611686018427387904:=by omega
 have w3:(putB s.id.toNat).length+(putB s.epoch.toNat).length+(putB s.phase.toNat).length+(putB s.hold.toNat).length≤4611686018427387904:=by omega
 have w4:(putB s.id.toNat).length+(putB s.epoch.toNat).length+(putB s.phase.toNat).length+(putB s.hold.toNat).length+(putB s.seen.toNat).length≤4611686018427387904:=by omega
 have w5:(putB s.id.toNat).length+(putB s.epoch.toNat).length+(putB s.phase.toNat).length+(putB s.hold.toNat).length+(putB s.seen.toNat).length+(putB s.move.toNat).length≤4611686018427387904:=by omega
 have w6:(putB s.id.toNat).length+(putB s.epoch.toNat).length+(putB s.phase.toNat).length+(putB s.hold.toNat).length+(putB s.seen.toNat).length+(putB s.move.toNat).length+(putB s.closed.toNat).length≤4611686018427387904:=by omega
 have w7:(putB s.id.toNat).length+(putB s.epoch.toNat).length+(putB s.phase.toNat).length+(putB s.hold.toNat).length+(putB s.seen.toNat).length+(putB s.move.toNat).length+(putB s.closed.toNat).length+(Yak s.span.lo).length≤4611686018427387904:=by omega
 have w8:(putB s.id.toNat).length+(putB s.epoch.toNat).length+(putB s.phase.toNat).length+(putB s.hold.toNat).length+(putB s.seen.toNat).length+(putB s.move.toNat).length+(putB s.closed.toNat).length+(Yak s.span.lo).length+(Yak s.span.hi).length≤4611686018427387904:=by omega
 have w9:(putB s.id.toNat).length+(putB s.epoch.toNat).length+(putB s.phase.toNat).length+(putB s.hold.toNat).length+(putB s.seen.toNat).length+(putB s.move.toNat).length+(putB s.closed.toNat).length+(Yak s.span.lo).length+(Yak s.span.hi).length+(stB s.mark).length≤4611686018427387904:=by omega
 have w10:(putB s.id.toNat).length+(putB s.epoch.toNat).length+(putB s.phase.toNat).length+(putB s.hold.toNat).length+(putB s.seen.toNat).length+(putB s.move.toNat).length+(putB s.closed.toNat).length+(Yak s.span.lo).length+(Yak s.span.hi).length+(stB s.mark).length+(stB s.top).length≤4611686018427387904:=by omega
 have w11:(putB s.id.toNat).length+(putB s.epoch.toNat).length+(putB s.phase.toNat).length+(putB s.hold.toNat).length+(putB s.seen.toNat).length+(putB s.move.toNat).length+(putB s.closed.toNat).length+(Yak s.span.lo).length+(Yak s.span.hi).length+(stB s.mark).length+(stB s.top).length+(putB s.ents.length).length≤4611686018427387904:=by omega
 refine Qb h rfl ?_;simp only[F461,c461,go_sem,q1,q2,q3,q4,q5,q6,q7,q8,q9,q10,q11,q12,w1,w2,w3,w4,w5,w6,w7,w8,w9,w10,w11,Gj,Ge];refine YlF h459 h489 h488 h460 (sh:=s) (g:=putB s.id.toNat++putB s.epoch.toNat++putB s.phase.toNat++putB s.hold.toNat++putB s.seen.toNat++putB s.move.toNat++putB s.closed.toNat++Yak s.span.lo++Yak s.span.hi++stB s.mark++stB s.top++putB s.ents.length) hents (by omega) (by simp only[Ge];omega) (by simp only[go_sem]) (by simp only[go_sem]) (by simp only[go_sem]) (by simp only[go_sem]<;>rfl) (by simp only[go_sem]) (by simp only[go_sem]) fun S1 u1 u3 v1 v8=>?_;have v1':=v1;simp only[go_sem] at v1';generalize hg:putB s.id.toNat++putB s.epoch.toNat++putB s.phase.toNat++putB s.hold.toNat++putB s.seen.toNat++putB s.move.toNat++putB s.closed.toNat++Yak s.span.lo++Yak s.span.hi++stB s.mark++stB s.top++putB s.ents.length++s.ents.flatMap YbN=g at u3;have hgl:g.length+(putB s.done.length).length≤4611686018427387904:=by rw[←hg];simp only[Ge];omega
 have hgl2:(g++putB s.done.length).length+(s.done.flatMap YaY).length≤2 ^ 40:=by rw[←hg];simp only[Ge];omega
 simp only[go_sem,u1,u3,v1',q13,hgl,Gj];refine YkK h459 h489 h488 h460 (sh:=s) (g:=g++putB s.done.length) (fun d hd=>YcA l1 d hd) (by omega) hgl2 (by simp only[go_sem,u1]) (by simp only[go_sem]) (by simp only[go_sem]) (by simp only[go_sem,v1']) (by simp only[go_sem,v8]) fun S2 z3=>?_;have hall:g++putB s.done.length++s.done.flatMap YaY=shB s:=by rw[←hg];simp[shB,Yb9]
 simp only[go_sem,z3,hall]
def H424 (Pg:PgT):Prop:=Pg 424=some (.code F424)∧H459 Pg∧H460 Pg∧H461 Pg
theorem K424 (h:H424 Pg) (c:Cel) (hr:Yy c=true):K' Pg 424 [.agg (Yk c)]=some (.str (cB c)):=by
 obtain⟨h,h459,h460,h461⟩:=h;obtain⟨r1,r2,r3,r4⟩:=YiD hr;have hl:=Ydx hr;simp only[cB,Yb9,Ge] at hl;have q1:=K459 h459 c.top r2;have q2:=K460 h460 c.dropped (by omega) (by omega);have q3:=K460 h460 c.shards.length (by omega) (by omega);rw[show ((c.shards.length:Int)).toNat=c.shards.length by omega] at q3;simp only[go_sem] at q1;have w1:(stB c.top).length+(putB c.dropped.toNat).length≤4611686018427387904:=by omega
 have w2:(stB c.top).length+(putB c.dropped.toNat).length+(putB c.shards.length).length≤4611686018427387904:=by omega
 refine Qb h rfl ?_;simp only[F424,c424,go_sem,q1,q2,q3,w1,w2,Gj,Ge];have hg:cB c=stB c.top++putB c.dropped.toNat++putB c.shards.length++c.shards.flatMap shB:=by simp[cB,Yb9]
 have hgl:(stB c.top++putB c.dropped.toNat++putB c.shards.length).length+(c.shards.flatMap shB).length≤968030:=by simp only[Ge];omega
 rw[hg];generalize stB c.top++putB c.dropped.toNat++putB c.shards.length=g at *
 unfold l424_0;refine JiJ (fun (j:Nat) S'=>j≤c.shards.length∧S'.ρ 1=.lref 1 0∧S'.ρ 3=.str (g++(c.shards.take j).flatMap shB)∧S'.ρ 4=iz j∧S'.μ 1=some (Yk c,false)) (fun j=>c.shards.length-j) 0 ?_ ?_
 ·simp[go_sem]
 ·intro j S' ⟨hj,t1,t3,t4,m1⟩;have m1':=m1;simp only[go_sem] at m1';cases c1:decide ((j:Int)<(c.shards.length:Int)) with
  |false=>
   have hjm:j=c.shards.length:=by have:=Gb c1;omega
   rw[hjm,GM] at t3;simp only[go_sem,t1,t3,t4,m1',c1,Gj]
  |true=>
   have hlt:=Yj c1;obtain⟨e,he,-⟩:=Jiq hlt;have hs:=r4 e (List.mem_of_getElem? he);have hinc:=inc64q (i:=j) (by omega)
   have k1:=K461 h461 e hs (by have:=(Ygh hs).2;omega);simp only[go_sem] at k1;have htk:c.shards.take (j+1)=c.shards.take j++[e]:=by rw[G8,he];rfl
   have hle:=YeK (W:=shB) (l:=c.shards) (i:=j+1);have hfull:g++(c.shards.take (j+1)).flatMap shB=g++(c.shards.take j).flatMap shB++shB e:=by rw[htk];simp
   rw[htk,Gaf,Ge] at hle;simp only[GK,G3,Gv] at hle;generalize hG:g++(c.shards.take j).flatMap shB=G at *
   have hGl:G.length=g.length+((c.shards.take j).flatMap shB).length:=by rw[←hG,Ge]
   have b1:G.length+(shB e).length≤4611686018427387904:=by omega
   simp only[go_sem,t1,t3,t4,m1',c1,he,k1,b1,hinc,Gj,JhF];exact⟨j+1,by omega,by omega,by rw[hfull],rfl⟩
structure C411 (S:St) (y:Rd) (t:Stamp) (d:Int) (vs:List Shd):Prop where
 r2:S.ρ 2=.lref 2 0
 r4:S.ρ 4=.lref 10 0
 r5:S.ρ 5=.lref 5 0
 m10:S.μ 10=some (eRd y,false)
 m2:S.μ 2=some ([.slice 17 [],.int .i64 0,.int .i64 0,.int .i64 0,.int .i64 0],false)
 m5:S.μ 5=some (clP t d (nilOr 36 17 vs.length),false)
 a36:S.A 36=YcL 17 (vs.map Yh) vs.length
theorem C411.head {S:St} {y:Rd} {t:Stamp} {d:Int} {vs:List Shd} (h:C411 S y t d vs):C411 (S.head [] [] [] []) y t d vs:=by rw[JhF];exact h
theorem YlZ {tt:List UInt8} (h436:H436 Pg) {y:Rd} {m:Nat} {t:Stamp} {d:Int} (hy:y.1.length≤2 ^ 20) {S:St} {Q:Ex→St→Prop} (hS:C411 S y t d []) (s6:S.ρ 6=iz m) (s7:S.ρ 7=iz 0) (s0:S.ρ 0=.str tt)
  (hq:∀S',C411 S' (YaC (gSh true) m y).2 t d (YaC (gSh true) m y).1→S'.ρ 0=.str tt→Q .norm S'):Wp (K' Pg) l411_0 S (Blk 0 Q):=by
 have hcnt:=Yd5 (cSh (D:=true)) Yhr (k:=m) (x:=y)
 unfold l411_0
 refine JiJ (fun (j:Nat) S'=>j≤m∧S'.ρ 0=.str tt∧S'.ρ 6=iz m∧S'.ρ 7=iz j∧∃(vs:List Shd) (y':Rd),vs.length=j∧y'.1.length≤2 ^ 20∧
  YaC (gSh true) m y=(vs++(YaC (gSh true) (m-j) y').1,(YaC (gSh true) (m-j) y').2)∧C411 S' y' t d vs) (fun j=>m-j) 0 ?_ ?_
 ·simp only[JhF]
  exact⟨GE _,s0,s6,s7,[],y,rfl,hy,rfl,hS⟩
 ·intro j S' ⟨hj,t0,t6,t7,vs,y',hvl,hyl,hrep,hE⟩
  obtain⟨t2,t4,t5,m10,m2,m5,a36⟩:=hE
  obtain⟨u,b⟩:=y'
  simp only[go_sem] at m10
  have fin:(m≤j∨b=true)→∀(ρ':Nat→V),(∀i,i≠28→ρ' i=S'.ρ i)→Q .norm ⟨ρ',S'.μ,S'.A⟩:=fun hs ρ' hρ=>by
   have he:=YeT hrep hs;rw[he] at hq;exact hq _ ⟨(hρ 2 (by omega)).trans t2,(hρ 4 (by omega)).trans t4,(hρ 5 (by omega)).trans t5,m10,m2,m5,a36⟩ ((hρ 0 (by omega)).trans t0)
  cases c1:decide ((j:Int)<(m:Int)) with
  |false=>
   have hjm:m≤j:=by have:=Gb c1;omega
   simp only[go_sem,t6,t7,c1]
   exact fin (.inl hjm) _ fun i hi=>Je5 (by simpa using hi)
  |true=>
   cases b with
   |true=>
    simp only[go_sem,t4,t6,t7,m10,c1]
    exact fin (.inr rfl) _ fun i hi=>Je5 (by simpa using hi)
   |false=>
    have hlt:=Yj c1
    have hone:=repD_one hlt rfl hrep
    have hjl:vs.length+1≤2 ^ 21:=by
     have:=Gaz (fun p=>p.1.length) hone;simp only[Ge,List.length_singleton] at this;omega
    have hinc:=inc64q (i:=j) (by omega)
    have k1:=K436 h436 (u,false) hyl
    have l1:=GJ ((cSh (D:=true)).len (u,false)) hyl
    generalize gSh true (u,false)=p1 at *
    obtain⟨b1,x1⟩:=p1
    simp only at hone l1
    have r1:=fun (S:St) (hm:S.μ 10=some (eRd (u,false),false))=>Qc (p:=20300) k1 hm
    have ha:=fun S=>YdR (S:=S) (s:=36) (z:=17) (r:=Yh b1) (n:=vs.length) (rows:=vs.map Yh) (by simp) (by unfold lim;omega)
    have v5:=m5
    simp only[clP] at v5
    simp only[go_sem] at r1 ha
    simp only[go_sem,t4,t5,t6,t7,c1,m10,v5,a36,r1,YcU,ha,hinc,JhF]
    exact⟨j+1,by omega,by omega,t0,rfl,vs++[b1],x1,by simp[hvl],l1,hone,by simp only[go_sem,t2],by simp only[go_sem,t4],by simp only[go_sem,t5],by simp only[go_sem],by simp only[go_sem,m2],by simp only[go_sem,Ge]<;>rfl,by simp only[go_sem,GF,Ge]<;>rfl⟩
def Yen (o:Option Cel):V:=match o with
 |some c=>.tuple [.agg (Yk c),.bool true]
 |none=>.tuple [.agg [.slice 17 [],iz 0,iz 0,iz 0,iz 0],.bool false]
def H411 (Pg:PgT):Prop:=Pg 411=some (.code F411)∧H434 Pg∧H435 Pg∧H436 Pg∧H246 Pg∧H424 Pg
theorem K411g (h:H411 Pg) (t:List UInt8) (ht:t.length≤2 ^ 20) (hts:(gC true (t,false)).2.2=false→SmC (gC true (t,false)).1):K' Pg 411 [.str t]=some (Yen (tkC t)):=by
 obtain⟨h,h434,h435,h436,h246,h424⟩:=h;have hR:∀{a:Stamp} {n m:Nat} {x1 x2 x3:Rd},cu tkS zS (t,false)=(a,x1)→cu (tk 9) 0 x1=(n,x2)→cu (tk 9) 0 x2=(m,x3)→
   gC true (t,false)=(mkC (a,n,(YaC (gSh true) m x3).1),(YaC (gSh true) m x3).2):=by
  intro a n m x1 x2 x3 e1 e2 e3
  have d1:gN true=cu (tk 9) 0:=rfl
  have d3:gS true=cu tkS zS:=rfl
  have d4:gL true (gSh true)=lstD (gSh true):=rfl
  simp only[gC,mapR,pairR,d1,d3,d4,e1,e2,e3,lstD]
 have k1:=K434 h434 (t,false) (by simp only;omega);have l1:=(cS (D:=true)).len (t,false);change (cu tkS zS (t,false)).2.1.length≤t.length at l1;cases e1:cu tkS zS (t,false) with
 |mk a x1=>
 rw[e1] at k1 l1;simp only at k1 l1;have k2:=K435 h435 x1 (by omega);have l2:=Yb1.len x1;cases e2:cu (tk 9) 0 x1 with
 |mk n x2=>
 rw[e2] at k2 l2;simp only at k2 l2;have k3:=K435 h435 x2 (by omega);have l3:=Yb1.len x2;cases e3:cu (tk 9) 0 x2 with
 |mk m y=>
 rw[e3] at k3 l3;simp only at k3 l3;have hg:=hR e1 e2 e3;have e0:=tkC_doc (t:=t);rw[←e0];rw[hg] at hts ⊢;clear e0;generalize hD:YaC (gSh true) m y=pD at *
 obtain⟨sh,u,b⟩:=pD;simp only at hg hts ⊢;refine Qb h rfl ?_;have r1:=fun (S:St) (hm:S.μ 10=some (eRd (t,false),false))=>Qc (p:=20000) k1 hm;have r2:=fun (S:St) (hm:S.μ 10=some (eRd x1,false))=>Qc (p:=20100) k2 hm;have r3:=fun (S:St) (hm:S.μ 10=some (eRd x2,false))=>Qc (p:=20200) k3 hm;simp only[go_sem,eSt] at r1 r2 r3;simp only[F411,c411,go_sem,r1,r2,r3];refine YlZ (tt:=t) h436 (y:=y) (m:=m) (t:=a) (d:=n) (by omega) ⟨by simp only[go_sem],by simp only[go_sem],by simp only[go_sem],by simp only[go_sem],by simp only[go_sem],by simp only[go_sem]<;>rfl,rfl⟩ (by simp only[go_sem]) (by simp only[go_sem]) (by simp only[go_sem]) fun S1 hE1 t0=>?_;rw[hD] at hE1;obtain⟨t2,t4,t5,m10,m2,m5,a36⟩:=hE1;simp only at m10 a36 m5;have hc1:=YbI a36 (by simp);simp only[clP] at m5;simp only[go_sem] at m10;cases b with
 |true=>
  rw[Gn (by simp)];simp only[go_sem,t2,t4,m10,m2,Yen]
 |false=>
  have k246:=K246 h246 (mkC (a,n,sh)) (hts rfl);cases c3:Yy (mkC (a,n,sh)) with
  |false=>
   rw[c3] at k246;rw[Gn (by simp)];simp only[go_sem,mkC] at k246;simp only[go_sem,t2,t4,t5,m10,m2,m5,hc1,k246,Yen]
  |true=>
   rw[c3] at k246;have k424:=K424 h424 (mkC (a,n,sh)) c3;simp only[go_sem,mkC] at k246 k424;cases c4:decide (cB ⟨sh,a,(n:Int)⟩=t) with
   |false=>
    rw[Gn (by simpa [mkC] using Gb c4)];simp only[go_sem,t0,t2,t4,t5,m10,m2,m5,hc1,k246,k424,c4,Yen]
   |true=>
    rw[Gr ⟨rfl,rfl,by simpa [mkC] using Gg c4⟩];simp only[go_sem,t0,t2,t4,t5,m10,m2,m5,hc1,k246,k424,c4,Yen,mkC]
theorem K411r (h:H411 Pg) (c:Cel) (hc:Yy c=true):K' Pg 411 [.str (cB c)]=some (.tuple [.agg (Yk c),.bool true]):=by
 have hp:=(cC (D:=true)).put (r:=[]) (Yg1 hc);rw[Gv] at hp;rw[K411g h (cB c) (by have:=Ydx hc;omega) (by rw[hp];exact fun _=>Yal hc),YcQ.2 ⟨rfl,hc⟩]
 rfl
def frQ (m n:Int):Bool:=!(decide (n<m)||decide (1099511627776<n))
def YN (n:Int):Bool:=frQ 0 n
theorem YgZ {m:Int}:∀{l:List Int},(!(l.any fun n=>decide (n<m)||decide (1099511627776<n)))=l.all (frQ m)
 |[]=>rfl
 |a::l=>by
  simp only[List.any_cons,List.all_cons,←YgZ (l:=l),frQ,Bool.not_or]
structure Msg where
 kind:Int
 from_:Int
 to:Int
 shard:Int
 epoch:Int
 move:Int
 lease:Int
 n:Int
 of_:Int
 at_:Stamp
 text:List UInt8
 req:Rq
 ans:Ans
 places:List Place
 mem:List Int
@[go_sem] def Y9 (m:Msg):List V:=[iz m.kind,iz m.from_,iz m.to,iz m.shard,iz m.epoch,iz m.move,iz m.lease,iz m.n,iz m.of_,iz m.at_.wall,iz m.at_.tick,iz m.at_.node,.str m.text,iz m.req.client,iz m.req.req,iz m.req.kind,.str m.req.key,.str m.req.value,.bool m.req.had,.str m.req.old,iz m.req.at_.wall,iz m.req.at_.tick,iz m.req.at_.node,.str m.req.hi,iz m.req.limit,iz m.ans.err,iz m.ans.at_.wall,iz m.ans.at_.tick,iz m.ans.at_.node,.bool m.ans.found,.str m.ans.val,YB m.ans.items,.str m.ans.next,.bool m.ans.more,Yaf m.places,Yi m.mem]
@[go_sem] def Ybo (l:List Msg):V:=.slice 36 (l.map Y9)
def SmM (m:Msg):Prop:=m.ans.items.length≤10000∧m.places.length≤10000∧m.mem.length≤10000
def Yeo (m:Msg):Bool:=(!decide (m.kind<1)&&(!decide (37<m.kind)&&(!decide (m.ans.err<0)&&(!decide (16<m.ans.err)&&(!decide (8<(m.ans.items.length:Int))&&(!decide (8<(m.places.length:Int))&&!decide (8<(m.mem.length:Int))))))))&&(([m.kind,m.from_,m.to,m.shard,m.epoch,m.move,m.lease,m.n,m.of_,m.req.client,m.req.req,m.req.kind,m.req.limit]++(m.places.flatMap fun p=>[p.shard,p.cell,p.epoch])++m.mem).all YN&&(Ya m.at_&&(Ya m.req.at_&&Ya m.ans.at_)))
def Yf8 (m:Msg):List Int:=[m.kind,m.from_,m.to,m.shard,m.epoch,m.move,m.lease,m.n,m.of_,m.req.client,m.req.req,m.req.kind,m.req.limit]
def YdK (l:List Place):List Int:=l.flatMap fun p=>[p.shard,p.cell,p.epoch]
def Yd1 (m:Msg):List Int:=Yf8 m++YdK m.places++m.mem
theorem Yk1 {l:List Place} {i:Nat} {x:Place} (h:l[i]?=some x):YdK (l.take (i+1))=YdK (l.take i)++[x.shard,x.cell,x.epoch]:=by
 rw[Y4 h];simp[YdK]
theorem Ye8 (l:List Place):(YdK l).length=3*l.length:=by
 induction l with
 |nil=>rfl
 |cons x l ih=>
  have:YdK (x::l)=[x.shard,x.cell,x.epoch]++YdK l:=by simp[YdK]
  rw[this,Ge,ih];simp;omega
def H366 (Pg:PgT):Prop:=Pg 366=some (.code F366)
theorem K366 (h:H366 Pg) (m:Msg) (hp:m.places.length≤10000) (hm:m.mem.length≤10000):K' Pg 366 [.agg (Y9 m)]=some (Yi (Yd1 m)):=by
 refine Qb h rfl ?_;simp only[go_sem];unfold l366_0;refine JiJ (fun (i:Nat) S=>i≤m.places.length∧S.ρ 1=.lref 1 0∧S.μ 1=some (Y9 m,false)∧S.ρ 3=.own 36 1 (13+3*i)∧S.A 36=some (1,(Yf8 m++YdK (m.places.take i)).map (fun a=>[iz a]),.live)∧S.μ 5=none∧S.ρ 38=Yaf m.places∧S.ρ 39=iz m.places.length∧S.ρ 40=iz i) (fun i=>m.places.length-i) 0 ?_ ?_
 ·simp[go_sem,Yf8,YdK]
 ·intro i S ⟨hi,s1,m1,s3,a36,m5,s38,s39,s40⟩;simp only[go_sem,s39,s40];refine JiK (fun hlt=>?_) (fun hlt=>?_)
  ·have hlt:=Yj hlt;obtain⟨x,hx,-⟩:=Jiq hlt;have hl:(Yf8 m).length+(YdK (m.places.take i)).length=13+3*i:=by
    rw[Ye8,GG];have:(Yf8 m).length=13:=rfl;omega
   have hlim:13+3*i+3≤lim:=by simp only[lim];omega
   simp only[go_sem,s1,m1,s3,a36,m5,s38,s39,s40,hx,hl,hlim,Gj];exact⟨i+1,by omega,by omega,by congr 1,by rw[Yk1 hx];simp,by rw[Yn hlt (by omega)]⟩
  ·have hlt:=YE hi hlt;subst hlt;rw[GM] at a36;have hl:(Yf8 m).length+(YdK m.places).length=13+3*m.places.length:=by rw[Ye8];rfl
   have hlim:13+3*m.places.length+m.mem.length≤lim:=by simp only[lim];omega
   simp only[go_sem,s1,m1,s3,a36,hl,hlim,Gj,Yd1,GF]
def H367 (Pg:PgT):Prop:=Pg 367=some (.code F367)
theorem K367 (h:H367 Pg) (n:Int):K' Pg 367 [iz n]=some (.bool (decide (n<0)||decide (1099511627776<n))):=by
 refine Qb h rfl ?_;cases c:decide (n<0)<;>simp only[go_sem,c]
def H341 (Pg:PgT):Prop:=Pg 341=some (.code F341)∧H28 Pg∧H67 Pg∧H366 Pg∧H367 Pg
theorem K341 (h:H341 Pg) (m:Msg) (hm:SmM m):K' Pg 341 [.agg (Y9 m)]=some (.bool (Yeo m)):=by
 obtain⟨h,h28,h67,h366,h367⟩:=h;obtain⟨hi,hp,hmm⟩:=hm;have k366:=K366 h366 m hp hmm;have k67:=K67 h67 (Yd1 m) 367 [] (fun n=>decide (n<0)||decide (1099511627776<n)) (by
  unfold Yd1;rw[Ge,Ge,Ye8];have:(Yf8 m).length=13:=rfl;omega) rfl (fun x _=>K367 h367 x)
 have e:(Yd1 m).any (fun n=>decide (n<0)||decide (1099511627776<n))=!(Yd1 m).all YN:=by
  have:=YgZ (m:=0) (l:=Yd1 m);have ef:(fun n=>YN n)=frQ 0:=rfl
  show _=!(Yd1 m).all (frQ 0)
  rw[←this,Bool.not_not]
 rw[e] at k67;have k28a:=K28 h28 m.at_;have k28b:=K28 h28 m.req.at_;have k28c:=K28 h28 m.ans.at_;have hq:Yeo m=((!decide (m.kind<1)&&(!decide (37<m.kind)&&(!decide (m.ans.err<0)&&(!decide (16<m.ans.err)&&(!decide (8<(m.ans.items.length:Int))&&(!decide (8<(m.places.length:Int))&&!decide (8<(m.mem.length:Int))))))))&&((Yd1 m).all YN&&(Ya m.at_&&(Ya m.req.at_&&Ya m.ans.at_)))):=rfl;rw[hq];generalize (Yd1 m).all YN=nq at k67 ⊢;generalize Yd1 m=nl at k366 k67;simp only[Yi,Yd,Y9,YB,Yaf] at k366 k67 k28a k28b k28c;clear hi hp hmm e hq h28 h67 h366 h367;refine Qb h rfl ?_;clear h;cases c1:decide (m.kind<1) with
 |true=>simp only[go_sem,c1]
 |false=>
 cases c2:decide (37<m.kind) with
 |true=>simp only[go_sem,c1,c2]
 |false=>
 cases c3:decide (m.ans.err<0) with
 |true=>simp only[go_sem,c1,c2,c3]
 |false=>
 cases c4:decide (16<m.ans.err) with
 |true=>simp only[go_sem,c1,c2,c3,c4]
 |false=>
 cases c5:decide (8<(m.ans.items.length:Int)) with
 |true=>simp only[go_sem,c1,c2,c3,c4,c5]
 |false=>
 cases c6:decide (8<(m.places.length:Int)) with
 |true=>simp only[go_sem,c1,c2,c3,c4,c5,c6]
 |false=>
 cases c7:decide (8<(m.mem.length:Int)) with
 |true=>simp only[go_sem,c1,c2,c3,c4,c5,c6,c7]
 |false=>
 cases nq with
 |false=>simp only[go_sem,c1,c2,c3,c4,c5,c6,c7,k366,k67]
 |true=>
 cases c8:Ya m.at_ with
 |false=>simp only[go_sem,c1,c2,c3,c4,c5,c6,c7,k366,k67,k28a,c8]
 |true=>
 cases c9:Ya m.req.at_ with
 |false=>simp only[go_sem,c1,c2,c3,c4,c5,c6,c7,k366,k67,k28a,k28b,c8,c9]
 |true=>simp only[go_sem,c1,c2,c3,c4,c5,c6,c7,k366,k67,k28a,k28b,k28c,c8,c9]
theorem YgR {r:Rep} {w:Word} (h:w∈YM r):w.members=r.members:=by
 simp only[YM,GaA] at h;obtain⟨m,-,rfl⟩:=h;rfl
structure Own where
 cell:Int
 rep:Rep
 outs:List Msg
structure Sto where
 id:Int
 owns:List Own
@[go_sem] def YbL (o:Own):List V:=[iz o.cell,iz o.rep.id,iz o.rep.view,Yi o.rep.members,iz o.rep.n,.str o.rep.base,.str o.rep.text,Yi o.rep.acks,Ybo o.outs]
@[go_sem] def YhB (l:List Own):V:=.slice 9 (l.map YbL)
@[go_sem] def YU (s:Sto):List V:=[iz s.id,YhB s.owns]
def H398 (Pg:PgT):Prop:=Pg 398=some (.code F398)
theorem K398 (h:H398 Pg) (s:Sto) (ho:s.owns.length≤1048576):K' Pg 398 [.agg (YU s)]=some (.agg (YU s)):=by
 refine Qb h rfl ?_;simp only[F398,c398,go_sem,Gj];unfold l398_0;refine JiJ (fun (i:Nat) S=>i≤s.owns.length∧S.ρ 2=.lref 2 0∧S.ρ 3=.lref 3 0∧S.ρ 10=.slice 9 (s.owns.map YbL)∧S.ρ 11=iz s.owns.length∧S.ρ 12=iz i∧S.μ 2=some ([iz 0,.slice 9 []],false)∧S.μ 3=some ([iz s.id,nilOr 26 9 i],false)∧S.μ 5=none∧S.A 26=YcL 9 ((s.owns.take i).map YbL) i) (fun i=>s.owns.length-i) 0 ?_ ?_
 ·refine⟨GE _,Jiu (by simp only[go_sem]) rfl,Jiu (by simp only[go_sem]) rfl,Jiu (by simp only[go_sem]) rfl,Jiu (by simp only[go_sem]) rfl,Jiu (by simp only[go_sem]) rfl,Jit (by simp only[go_sem]) rfl rfl,?_,Jis (.inr rfl),(Ybr rfl).trans rfl⟩;rw[YeM rfl];simp only[go_sem];rfl
 ·intro i S ⟨hi,s2,s3,s10,s11,s12,m2,m3,m5,a26⟩;cases c1:decide ((i:Int)<(s.owns.length:Int)) with
  |false=>
   have hil:i=s.owns.length:=by have:=Gb c1;omega
   rw[hil,GM] at a26;rw[hil] at m3;have hc:=YbI a26 (by simp);simp only[go_sem,s2,s3,s11,s12,m2,m3,c1,hc]
  |true=>
   have hlt:=Yj c1;obtain⟨o,hn,-⟩:=Jiq hlt;have hinc:=inc64q (i:=i) (by omega)
   have ha:=fun S=>YdR (S:=S) (s:=26) (z:=9) (r:=YbL o) (n:=i) (rows:=(s.owns.take i).map YbL) (by simp;omega) (by unfold lim;omega);have htk:s.owns.take (i+1)=s.owns.take i++[o]:=Y4 hn;simp only[go_sem] at ha;simp only[go_sem,s2,s3,s10,s11,s12,m2,m3,m5,a26,c1,hn,YcU,ha,hinc];exact⟨i+1,by omega,by omega,rfl,rfl,by rw[htk,GF];rfl⟩
def RepOk (r:Rep):Prop:=r.members.length≤10000∧r.acks.length≤10000
theorem RepOk.ok {r:Rep} (h:RepOk r):r.Ok:=⟨by have:=h.1;omega,by have:=h.2;omega⟩
def Ygz (o:Own):Prop:=RepOk o.rep∧o.outs.length≤10000∧∀m∈o.outs,SmM m
def Ybd (s:Sto):Prop:=s.owns.length≤10000∧∀o∈s.owns,Ygz o
def Ybe {α:Type} (p:α→Bool):List α→Nat→Int
 |[],_=>-1
 |a::l,i=>if p a then i else Ybe p l (i+1)
theorem YfU {α:Type} {p:α→Bool}:∀{l:List α} {i:Nat},decide (0≤Ybe p l i)=l.any p
 |[],i=>by simp[Ybe]
 |a::l,i=>by
  simp only[Ybe];split
  ·rename_i h;simp[h]
  ·rename_i h;rw[YfU];simp[h]
theorem ixAt_find {α:Type} {p:α→Bool}:∀{l:List α} {i:Nat},(Ybe p l i=-1∧l.find? p=none∧∀x∈l,p x=false)∨∃j x,Ybe p l i=((i+j:Nat):Int)∧l[j]?=some x∧l.find? p=some x∧p x=true
 |[],i=>.inl ⟨rfl,rfl,fun x hx=>by cases hx⟩
 |a::l,i=>by
  cases hp:p a with
  |true=>exact .inr ⟨0,a,by simp[Ybe,hp],rfl,by simp[List.find?,hp],hp⟩
  |false=>
   rcases ixAt_find (p:=p) (l:=l) (i:=i+1) with ⟨h1,h2,h3⟩|⟨j,x,h1,h2,h3,h4⟩
   ·refine .inl ⟨by simp[Ybe,hp,h1],by simp[List.find?,hp,h2],fun x hx=>?_⟩;rcases GI.1 hx with rfl|hx
    ·exact hp
    ·exact h3 x hx
   ·exact .inr ⟨j+1,x,by simp only[Ybe,hp,Gm,Gu,h1];congr 1;omega,h2,by simp[List.find?,hp,h3],h4⟩
def H463 (Pg:PgT):Prop:=Pg 463=some (.code F463)
theorem K463 (h:H463 Pg) (l:List Own) (g:Nat) (cap:List V) (p:Own→Bool) (hl:l.length<2 ^ 60) (hg:∀x∈l,K' Pg g (.agg (YbL x)::cap)=some (.bool (p x))) :
  K' Pg 463 [.slice 9 (l.map YbL),.func g cap]=some (iz (Ybe p l 0)):=by
 refine Qb h rfl ?_
 simp only[F463,c463,go_sem,Gj]
 unfold l463_0
 refine JiJ (fun (i:Nat) S=>i≤l.length∧S.ρ 0=.slice 9 (l.map YbL)∧S.ρ 1=.func g cap∧S.ρ 7=iz l.length∧S.ρ 8=iz i∧Ybe p (l.drop i) i=Ybe p l 0) (fun i=>l.length-i) 0 ?_ ?_
 ·simp[go_sem]
 ·intro i S ⟨hi,h0,h1,h7,h8,ho⟩
  simp only[go_sem,h7,h8]
  refine JiK (fun h=>?_) (fun h=>?_)
  ·have h:=Yj h
   obtain⟨x,hx,hd⟩:=Jiq h
   rw[hd] at ho
   have hgx:=hg x (List.mem_of_getElem? hx)
   simp only[go_sem] at hgx
   simp only[go_sem,h0,h1,h8,hx,hgx]
   refine JiK (fun hc=>?_) (fun hc=>?_)
   ·simp only[Ybe,hc,Gz] at ho
    simp only[go_sem,←ho]
   ·simp only[Ybe,hc,Gm,Gu] at ho
    simp only[go_sem,h0,h1,h7,h8]
    exact⟨i+1,by omega,by omega,by rw[Yn h hl],ho⟩
  ·have h:=YE hi h
   subst h
   simp only[GW,Ybe] at ho
   simp only[go_sem,←ho]
def H468 (Pg:PgT):Prop:=Pg 468=some (.code F468)
theorem K468 (h:H468 Pg) (l:List Msg) (g:Nat) (cap:List V) (p:Msg→Bool) (hl:l.length<2 ^ 60) (hg:∀x∈l,K' Pg g (.agg (Y9 x)::cap)=some (.bool (p x))) :
  K' Pg 468 [.slice 36 (l.map Y9),.func g cap]=some (iz (Ybe p l 0)):=by
 refine Qb h rfl ?_
 simp only[F468,c468,go_sem,Gj]
 unfold l468_0
 refine JiJ (fun (i:Nat) S=>i≤l.length∧S.ρ 0=.slice 36 (l.map Y9)∧S.ρ 1=.func g cap∧S.ρ 7=iz l.length∧S.ρ 8=iz i∧Ybe p (l.drop i) i=Ybe p l 0) (fun i=>l.length-i) 0 ?_ ?_
 ·simp[go_sem]
 ·intro i S ⟨hi,h0,h1,h7,h8,ho⟩
  simp only[go_sem,h7,h8]
  refine JiK (fun h=>?_) (fun h=>?_)
  ·have h:=Yj h
   obtain⟨x,hx,hd⟩:=Jiq h
   rw[hd] at ho
   have hgx:=hg x (List.mem_of_getElem? hx)
   simp only[go_sem] at hgx
   simp only[go_sem,h0,h1,h8,hx,hgx]
   refine JiK (fun hc=>?_) (fun hc=>?_)
   ·simp only[Ybe,hc,Gz] at ho
    simp only[go_sem,←ho]
   ·simp only[Ybe,hc,Gm,Gu] at ho
    simp only[go_sem,h0,h1,h7,h8]
    exact⟨i+1,by omega,by omega,by rw[Yn h hl],ho⟩
  ·have h:=YE hi h
   subst h
   simp only[GW,Ybe] at ho
   simp only[go_sem,←ho]
def H501 (Pg:PgT):Prop:=Pg 501=some (.code F501)
theorem K501 (h:H501 Pg) (l:List Shd) (g:Nat) (cap:List V) (p:Shd→Bool) (hl:l.length<2 ^ 60) (hg:∀x∈l,K' Pg g (.agg (Yh x)::cap)=some (.bool (p x))) :
  K' Pg 501 [.slice 17 (l.map Yh),.func g cap]=some (iz (Ybe p l 0)):=by
 refine Qb h rfl ?_
 simp only[F501,c501,go_sem,Gj]
 unfold l501_0
 refine JiJ (fun (i:Nat) S=>i≤l.length∧S.ρ 0=.slice 17 (l.map Yh)∧S.ρ 1=.func g cap∧S.ρ 7=iz l.length∧S.ρ 8=iz i∧Ybe p (l.drop i) i=Ybe p l 0) (fun i=>l.length-i) 0 ?_ ?_
 ·simp[go_sem]
 ·intro i S ⟨hi,h0,h1,h7,h8,ho⟩
  simp only[go_sem,h7,h8]
  refine JiK (fun h=>?_) (fun h=>?_)
  ·have h:=Yj h
   obtain⟨x,hx,hd⟩:=Jiq h
   rw[hd] at ho
   have hgx:=hg x (List.mem_of_getElem? hx)
   simp only[go_sem] at hgx
   simp only[go_sem,h0,h1,h8,hx,hgx]
   refine JiK (fun hc=>?_) (fun hc=>?_)
   ·simp only[Ybe,hc,Gz] at ho
    simp only[go_sem,←ho]
   ·simp only[Ybe,hc,Gm,Gu] at ho
    simp only[go_sem,h0,h1,h7,h8]
    exact⟨i+1,by omega,by omega,by rw[Yn h hl],ho⟩
  ·have h:=YE hi h
   subst h
   simp only[GW,Ybe] at ho
   simp only[go_sem,←ho]
def YcE (c:Int) (o:Own):Bool:=decide (o.cell=c)
def YhY (id c:Int):Own:=⟨c,⟨id,0,[],0,[],[],[]⟩,[]⟩
def atO (s:Sto) (c:Int):Option Own:=s.owns.find? (YcE c)
def H409 (Pg:PgT):Prop:=Pg 409=some (.code F409)
theorem K409 (h:H409 Pg) (s:Sto) (c:Int) (hl:s.owns.length<2 ^ 60):K' Pg 409 [.agg (YU s),iz c]=some (iz (Ybe (YcE c) s.owns 0)):=by
 refine Qb h rfl ?_;simp only[F409,c409,go_sem];unfold l409_0;refine JiJ (fun (i:Nat) S=>i≤s.owns.length∧S.ρ 1=iz c∧S.ρ 2=.lref 2 0∧S.μ 2=some (YU s,false)∧S.ρ 5=iz i∧Ybe (YcE c) (s.owns.drop i) i=Ybe (YcE c) s.owns 0) (fun i=>s.owns.length-i) 0 ?_ ?_
 ·simp[go_sem]
 ·intro i S ⟨hi,s1,s2,m2,s5,ho⟩;simp only[go_sem] at m2;simp only[go_sem,s2,m2,s5,Gj];refine JiK (fun h=>?_) (fun h=>?_)
  ·have h:=Yj h;obtain⟨x,hx,hd⟩:=Jiq h;rw[hd] at ho;simp only[go_sem,s1,s2,m2,s5,hx];refine JiK (fun hc=>?_) (fun hc=>?_)
   ·simp only[Ybe,YcE,hc,Gz] at ho;simp only[go_sem,s5,←ho]
   ·simp only[Ybe,YcE,hc,Gm,Gu] at ho;simp only[go_sem,s1,s2,m2,s5];exact⟨i+1,by omega,by omega,by rw[Yn h hl],ho⟩
  ·have h:=YE hi h;subst h;simp only[GW,Ybe] at ho;simp only[go_sem,←ho]
def H462 (Pg:PgT):Prop:=Pg 462=some (.code F462)
theorem K462 (h:H462 Pg) (o:Own) (c:Int):K' Pg 462 [.agg (YbL o),.cptr [iz c] 0]=some (.bool (YcE c o)):=by
 refine Qb h rfl ?_;simp only[F462,c462,go_sem,YcE]
def Yw (s:Sto) (c:Int):Own:=(atO s c).getD (YhY s.id c)
def H427 (Pg:PgT):Prop:=Pg 427=some (.code F427)∧H462 Pg∧H463 Pg
theorem K427 (h:H427 Pg) (s:Sto) (c:Int) (hl:s.owns.length<2 ^ 60):K' Pg 427 [.agg (YU s),iz c]=some (.tuple [.agg (YbL (Yw s c)),.bool (atO s c).isSome]):=by
 obtain⟨h,h462,h463⟩:=h;have k:=K463 h463 s.owns 462 [.cptr [iz c] 0] (YcE c) hl fun x _=>K462 h462 x c;refine Qb h rfl ?_;unfold Yw atO;rcases ixAt_find (p:=YcE c) (l:=s.owns) (i:=0) with ⟨h1,h2,h3⟩|⟨j,x,h1,h2,h3,h4⟩
 ·rw[h1] at k;rw[h2];simp only[Option.isSome_none,Option.getD_none,YhY];simp only[F427,c427,go_sem,k,Gk]
 ·rw[h1,Gav] at k;rw[h3];have hj:decide ((j:Int)<0)=false:=Gp (by omega);simp only[Option.isSome_some,Option.getD_some];simp only[F427,c427,go_sem,k,hj,h2]
def Yab (t:List UInt8):Bool:=(tkC t).isSome
def H430 (Pg:PgT):Prop:=Pg 430=some (.code F430)∧H428 Pg
theorem K430 (h:H430 Pg) (t:List UInt8) (ht:t.length≤10000):K' Pg 430 [.str t]=some (.bool (Yab t)):=by
 obtain⟨h,h428⟩:=h;have k:=K428 h428 t ht;refine Qb h rfl ?_;unfold Yab;cases e:tkC t with
 |none=>
  rw[e] at k;simp only[YeG] at k;simp only[F430,c430,go_sem,k,Option.isSome_none]
 |some c=>
  rw[e] at k;simp only[YeG] at k;simp only[go_sem] at k;simp only[F430,c430,go_sem,k,Option.isSome_some]
def Yb0 (c:Int):Bool:=decide (1≤c)&&decide (c≤3)
def H368 (Pg:PgT):Prop:=Pg 368=some (.code F368)
theorem K368 (h:H368 Pg) (c:Int):K' Pg 368 [iz c]=some (.bool (Yb0 c)):=by
 refine Qb h rfl ?_;cases c1:decide (1≤c)<;>simp only[F368,c368,go_sem,c1,Yb0]
def outQ (id:Int) (m:Msg):Bool:=Yeo m&&decide (m.from_=id)
def H431 (Pg:PgT):Prop:=Pg 431=some (.code F431)∧H341 Pg
theorem K431 (h:H431 Pg) (m:Msg) (s:Sto) (hm:SmM m):K' Pg 431 [.agg (Y9 m),.cptr (YU s) 0]=some (.bool (!outQ s.id m)):=by
 obtain⟨h,h341⟩:=h;have k:=K341 h341 m hm;simp only[Y9,YB,Yaf,Yi] at k;refine Qb h rfl ?_;cases c1:Yeo m<;>rw[c1] at k<;>simp only[F431,c431,go_sem,k,outQ,c1]
def H432 (Pg:PgT):Prop:=Pg 432=some (.code F432)∧H468 Pg
theorem K432 (h:H432 Pg) (l:List Msg) (g:Nat) (cap:List V) (p:Msg→Bool) (hl:l.length<2 ^ 60) (hg:∀x∈l,K' Pg g (.agg (Y9 x)::cap)=some (.bool (p x))) :
  K' Pg 432 [Ybo l,.func g cap]=some (.bool (l.any p)):=by
 obtain⟨h,h468⟩:=h
 have k:=K468 h468 l g cap p hl hg
 simp only[Ybo]
 refine Qb h rfl ?_
 simp only[F432,c432,go_sem,k,YfU]
def ownQ1 (id last:Int) (o:Own):Bool:=!decide (o.cell≤last)&&(Yb0 o.cell&&(decide (o.rep.id=id)&&(rightB o.rep&&(Yab o.rep.base&&Yab o.rep.text))))
def Yc2 (id:Int) (o:Own):Bool:=(decide ((o.outs.length:Int)≤0)||YI o.rep)&&o.outs.all (outQ id)
def YbA (id last:Int) (o:Own):Bool:=ownQ1 id last o&&Yc2 id o
def Ycd (id:Int):Int→List Own→Bool
 |_,[]=>true
 |last,o::l=>YbA id last o&&Ycd id o.cell l
def idQ (id:Int):Bool:=decide (1≤id)&&decide (id≤3)
def Ybw (s:Sto):Bool:=Ycd s.id 0 s.owns&&idQ s.id
theorem YkA {id:Int} {l:List Msg}:(l.any fun m=>!outQ id m)=!l.all (outQ id):=by
 induction l with
 |nil=>rfl
 |cons a l ih=>simp only[List.any_cons,List.all_cons,ih,Bool.not_and]
def H408 (Pg:PgT):Prop:=Pg 408=some (.code F408)∧H368 Pg∧H39 Pg∧H430 Pg∧H41 Pg∧H431 Pg∧H432 Pg
theorem K408g (h:H408 Pg) (s:Sto) (hs:Ybd s) (hk:∀o∈s.owns,K' Pg 430 [.str o.rep.base]=some (.bool (Yab o.rep.base))∧K' Pg 430 [.str o.rep.text]=some (.bool (Yab o.rep.text))):K' Pg 408 [.agg (YU s)]=some (.bool (Ybw s)):=by
 obtain⟨h,h368,h39,h430,h41,h431,h432⟩:=h;obtain⟨hl,ho⟩:=hs;refine Qb h rfl ?_;simp only[F408,c408,go_sem,Gj];unfold l408_0;refine JiJ (fun (p:Nat×Int×Bool) S=>p.1≤s.owns.length∧S.ρ 1=.lref 1 0∧S.μ 1=some (YU s,p.2.2)∧S.ρ 3=iz p.2.1∧S.ρ 7=.slice 9 (s.owns.map YbL)∧S.ρ 8=iz s.owns.length∧S.ρ 9=iz p.1∧S.μ 5=none∧Ycd s.id p.2.1 (s.owns.drop p.1)=Ycd s.id 0 s.owns) (fun p=>s.owns.length-p.1) (0,0,false) ?_ ?_
 ·refine⟨GE _,?_⟩;simp[go_sem]
 ·intro p S ⟨hi,s1,m1,s3,s7,s8,s9,m5,hq⟩;obtain⟨i,last,fz⟩:=p;simp only at hi m1 s3 s9 hq;simp only[go_sem] at m1;cases c1:decide ((i:Int)<(s.owns.length:Int)) with
  |false=>
   have hil:i=s.owns.length:=by have:=Gb c1;omega
   subst hil;simp only[GW,Ycd] at hq;have hr:Ybw s=idQ s.id:=by simp only[Ybw,←hq,GP]
   rw[hr];cases c2:decide (1≤s.id)<;>simp only[go_sem,s1,m1,s8,s9,c1,c2,idQ]
  |true=>
   have hlt:=Yj c1;obtain⟨o,hn,hd⟩:=Jiq hlt;have hinc:=inc64q (i:=i) (by omega)
   obtain⟨o1,o2,o3⟩:=ho o (List.mem_of_getElem? hn);obtain⟨kb,kt⟩:=hk o (List.mem_of_getElem? hn);rw[hd,Ycd] at hq;have k368:=K368 h368 o.cell;have k39:=K39 h39 o.rep o1.ok;have k41:=K41 h41 o.rep o1.ok;have k432:=K432 h432 o.outs 431 [.cptr (YU s) 0] (fun m=>!outQ s.id m) (by omega) fun m hm=>K431 h431 m s (o3 m hm);rw[YkA] at k432;simp only[YX,Yi,Ybo,YU,YhB] at k39 k41 k432;have bad:YbA s.id last o=false→Ybw s=false:=fun hb=>by
    rw[hb,Gs] at hq;simp only[Ybw,←hq,Gs]
   cases d1:decide (o.cell≤last) with
   |true=>
    have:=bad (by simp only[YbA,ownQ1,d1,GQ,Gs]);simp only[go_sem,s3,s7,s8,s9,m5,c1,hn,this,d1]
   |false=>
   cases d2:Yb0 o.cell with
   |false=>
    have:=bad (by simp only[YbA,ownQ1,d2,Gs,GB]);rw[d2] at k368;simp only[go_sem,s3,s7,s8,s9,m5,c1,hn,this,d1,k368]
   |true=>
   rw[d2] at k368;cases d3:decide (o.rep.id=s.id) with
   |false=>
    have:=bad (by simp only[YbA,ownQ1,d3,Gs,GB]);simp only[go_sem,s1,m1,s3,s7,s8,s9,m5,c1,hn,this,d1,k368,d3]
   |true=>
   cases d4:rightB o.rep with
   |false=>
    have:=bad (by simp only[YbA,ownQ1,d4,Gs,GB]);rw[d4] at k39;simp only[go_sem,s1,m1,s3,s7,s8,s9,m5,c1,hn,this,d1,k368,d3,k39]
   |true=>
   rw[d4] at k39;cases d5:Yab o.rep.base with
   |false=>
    have:=bad (by simp only[YbA,ownQ1,d5,Gs,GB]);rw[d5] at kb;simp only[go_sem,s1,m1,s3,s7,s8,s9,m5,c1,hn,this,d1,k368,d3,k39,kb]
   |true=>
   rw[d5] at kb;cases d6:Yab o.rep.text with
   |false=>
    have:=bad (by simp only[YbA,ownQ1,d6,Gs,GB]);rw[d6] at kt;simp only[go_sem,s1,m1,s3,s7,s8,s9,m5,c1,hn,this,d1,k368,d3,k39,kb,kt]
   |true=>
   rw[d6] at kt;have h1:ownQ1 s.id last o=true:=by simp only[ownQ1,d1,d2,d3,d4,d5,d6,GY,GU]
   have go:Yc2 s.id o=true→Ycd s.id o.cell (s.owns.drop (i+1))=Ycd s.id 0 s.owns:=fun h2=>by
    rw[←hq];simp only[YbA,h1,h2,GP]
   have e1:decide (0<(o.outs.length:Int))=!decide ((o.outs.length:Int)≤0):=by
    by_cases hz:(o.outs.length:Int)≤0
    ·rw[GD hz,Gp (by omega)];rfl
    ·rw[Gp hz,GD (by omega)];rfl
   cases d7:decide ((o.outs.length:Int)≤0) with
   |true=>
    rw[d7] at e1;cases d8:o.outs.all (outQ s.id) with
    |false=>
     have:=bad (by simp only[YbA,Yc2,d8,GB]);rw[d8] at k432;simp only[go_sem,s1,m1,s3,s7,s8,s9,m5,c1,hn,this,d1,k368,d3,k39,kb,kt,e1,k432,Gj]
    |true=>
     have hgo:=go (by simp only[Yc2,d7,d8,GaK,GU]);rw[d8] at k432;simp only[go_sem,s1,m1,s3,s7,s8,s9,m5,c1,hn,d1,k368,d3,k39,kb,kt,e1,k432,hinc,Gj];exact⟨(i+1,o.cell,_),by simp only;omega,by simp only;omega,rfl,rfl,rfl,hgo⟩
   |false=>
    rw[d7] at e1;cases d9:YI o.rep with
    |false=>
     have:=bad (by simp only[YbA,Yc2,d7,d9,Gau,Gs,GB]);rw[d9] at k41;simp only[go_sem,s1,m1,s3,s7,s8,s9,m5,c1,hn,this,d1,k368,d3,k39,kb,kt,e1,k41,Gj]
    |true=>
    rw[d9] at k41;cases d8:o.outs.all (outQ s.id) with
    |false=>
     have:=bad (by simp only[YbA,Yc2,d8,GB]);rw[d8] at k432;simp only[go_sem,s1,m1,s3,s7,s8,s9,m5,c1,hn,this,d1,k368,d3,k39,kb,kt,e1,k41,k432,Gj]
    |true=>
     have hgo:=go (by simp only[Yc2,d8,d9,Bool.or_true,GU]);rw[d8] at k432;simp only[go_sem,s1,m1,s3,s7,s8,s9,m5,c1,hn,d1,k368,d3,k39,kb,kt,e1,k41,k432,hinc,Gj];exact⟨(i+1,o.cell,_),by simp only;omega,by simp only;omega,rfl,rfl,rfl,hgo⟩
def Yc8 (m:Msg):Bool:=!decide (m.kind<1)&&(!decide (37<m.kind)&&(!decide (m.ans.err<0)&&(!decide (16<m.ans.err)&&(!decide (8<(m.ans.items.length:Int))&&(!decide (8<(m.places.length:Int))&&!decide (8<(m.mem.length:Int)))))))
def Ycn (m:Msg):Bool:=YN m.from_&&(YN m.to&&(YN m.shard&&(YN m.epoch&&(YN m.move&&(YN m.lease&&(YN m.n&&(YN m.of_&&(YN m.req.client&&(YN m.req.req&&(YN m.req.kind&&YN m.req.limit))))))))))
def YhN (p:Place):Bool:=YN p.shard&&(YN p.cell&&YN p.epoch)
theorem YiY:∀{l:List Place},(l.flatMap fun p=>[p.shard,p.cell,p.epoch]).all YN=l.all YhN
 |[]=>rfl
 |p::l=>by
  have ih:=YiY (l:=l);simp only[GK,List.all_append,List.all_cons,List.all_nil,GU,ih,YhN]
theorem Yik (m:Msg):Yeo m=(Yc8 m&&(Ycn m&&(m.places.all YhN&&(m.mem.all YN&&(Ya m.at_&&(Ya m.req.at_&&Ya m.ans.at_)))))):=by
 have e0:Yeo m=(Yc8 m&&(([m.kind,m.from_,m.to,m.shard,m.epoch,m.move,m.lease,m.n,m.of_,m.req.client,m.req.req,m.req.kind,m.req.limit]++(m.places.flatMap fun p=>[p.shard,p.cell,p.epoch])++m.mem).all YN&&(Ya m.at_&&(Ya m.req.at_&&Ya m.ans.at_)))):=rfl;rw[e0];cases hq:Yc8 m with
 |false=>rfl
 |true=>
  have hk:YN m.kind=true:=by
   simp only[Yc8,Gc,GN,Gq] at hq;obtain⟨h1,h2,-⟩:=hq;simp only[YN,frQ,GN,Gap,Gq];omega
  simp only[List.all_append,YiY,List.all_cons,List.all_nil,hk,GP,GU,Ycn];simp only[Bool.and_assoc]
def YbY:Stamp:=⟨0,0,0⟩
def Ycj:Rq:=⟨0,0,0,[],[],false,[],YbY,[],0⟩
def Ybl:Ans:=⟨0,YbY,false,[],[],[],false⟩
def zMs:Msg:=⟨0,0,0,0,0,0,0,0,0,YbY,[],Ycj,Ybl,[],[]⟩
def msgW (c:Int) (w:Word):Msg:={zMs with kind:=34+w.kind,from_:=w.frm,to:=w.to,n:=c,epoch:=w.view,of_:=w.n,mem:=w.members,text:=w.text}
def Yai (c:Int) (l:List Word):List Msg:=l.map (msgW c)
def Yh1 (l:List Word):Prop:=∀w∈l,-1000≤w.kind∧w.kind≤1000
def H429 (Pg:PgT):Prop:=Pg 429=some (.code F429)
theorem K429 (h:H429 Pg) (c:Int) (l:List Word) (hw:Yh1 l) (hl:l.length≤100000000):K' Pg 429 [iz c,Yax l]=some (Ybo (Yai c l)):=by
 refine Qb h rfl ?_;simp only[F429,c429,go_sem,Gj];unfold l429_0;refine JiJ (fun (i:Nat) S=>i≤l.length∧S.ρ 0=iz c∧S.ρ 5=.own 5 36 i∧S.A 5=some (36,(Yai c (l.take i)).map Y9,.live)∧S.ρ 8=Yax l∧S.ρ 9=iz l.length∧S.ρ 10=iz i∧S.μ 7=none) (fun i=>l.length-i) 0 ?_ ?_
 ·simp[go_sem,Yai]
 ·intro i S hI;have hlen:((Yai c (l.take i)).map Y9).length=(l.take i).length:=by simp[Yai]
  obtain⟨hi,s0,s5,a5,s8,s9,s10,m7⟩:=hI;rw[GG,GaB hi] at hlen;cases c1:decide ((i:Int)<(l.length:Int)) with
  |false=>
   have hil:i=l.length:=by have:=Gb c1;omega
   subst hil;rw[GM] at a5 hlen;simp only[go_sem,s5,a5,s9,s10,c1,hlen]
  |true=>
   have hlt:=Yj c1;obtain⟨w,hn,-⟩:=Jiq hlt;have hinc:=inc64q (i:=i) (by omega)
   obtain⟨w1,w2⟩:=hw w (List.mem_of_getElem? hn);have k1:IntKind.i64.wrap (35+w.kind)=35+w.kind:=JiG (by omega) (by omega);have k2:IntKind.i64.wrap (35+w.kind-1)=34+w.kind:=by rw[JiG (by omega) (by omega)];omega
   have hlim:i+1≤lim:=by unfold lim;omega
   simp only[go_sem,s0,s5,a5,s8,s9,s10,m7,c1,hn,k1,k2,hlen,hlim,hinc];exact⟨i+1,by omega,by omega,rfl,by rw[Y4 hn];simp only[Yai,GF,GC,Gk,msgW,zMs,Ycj,Ybl,YbY,Y9,YB,Yaf,Yi],rfl⟩
theorem Ybu {r:Rep}:(YM r).length≤r.members.length:=by simp only[YM,Gj];exact List.length_filter_le _ _
theorem Ydq {r:Rep}:Yh1 (YM r):=fun w hw=>by
 simp only[YM,GaA] at hw;obtain⟨m,-,rfl⟩:=hw;simp only;omega
def Ybq (o:Own):List Msg:=Yai o.cell (if YI o.rep then YM o.rep else [])
def YbE (s:Sto):List Msg:=s.owns.flatMap Ybq
theorem Yff {o:Own}:(Ybq o).length≤o.rep.members.length:=by
 unfold Ybq Yai;rw[Gj];split
 ·exact Ybu
 ·simp
theorem Ydr {n:Nat}:∀{l:List Own},(∀o∈l,o.rep.members.length≤n)→(l.flatMap Ybq).length≤n*l.length
 |[],_=>by simp
 |o::l,h=>by
  have h1:=h o (GR ..);have h2:=Ydr (l:=l) fun b hb=>h b (G5 _ hb);have h3:=Yff (o:=o);simp only[GK,Ge,List.length_cons,Nat.mul_succ];omega
def H407 (Pg:PgT):Prop:=Pg 407=some (.code F407)∧H408 Pg∧H51 Pg∧H429 Pg
theorem K407g (h:H407 Pg) (s:Sto) (hs:Ybd s) (k408:K' Pg 408 [.agg (YU s)]=some (.bool (Ybw s))):K' Pg 407 [.agg (YU s)]=some (.tuple [.agg (YU s),Ybo (if Ybw s then YbE s else [])]):=by
 obtain⟨h,h408,h51,h429⟩:=h;obtain⟨hl,ho⟩:=hs;simp only[go_sem] at k408;refine Qb h rfl ?_;cases hr:Ybw s with
 |false=>
  rw[hr] at k408;simp only[F407,c407,go_sem,k408,Gm,Gu,Gk]
 |true=>
 rw[hr] at k408;simp only[F407,c407,go_sem,k408,Gj,Gz];unfold l407_0;refine JiJ (fun (i:Nat) S=>i≤s.owns.length∧S.ρ 1=.lref 1 0∧S.μ 1=some (YU s,false)∧S.ρ 2=.lref 2 0∧S.μ 2=some ([iz 0,.slice 9 []],false)∧S.ρ 4=.own 4 36 ((s.owns.take i).flatMap Ybq).length∧S.A 4=some (36,((s.owns.take i).flatMap Ybq).map Y9,.live)∧S.ρ 12=.slice 9 (s.owns.map YbL)∧S.ρ 13=iz s.owns.length∧S.ρ 14=iz i∧S.μ 6=none) (fun i=>s.owns.length-i) 0 ?_ ?_
 ·simp[go_sem]
 ·intro i S ⟨hi,s1,m1,s2,m2,s4,a4,s12,s13,s14,m6⟩;simp only[go_sem] at m1;cases c1:decide ((i:Int)<(s.owns.length:Int)) with
  |false=>
   have hil:i=s.owns.length:=by have:=Gb c1;omega
   subst hil;rw[GM] at a4 s4;simp only[go_sem,s1,m1,s2,m2,s4,a4,s13,s14,c1,YbE,Gj]
  |true=>
   have hlt:=Yj c1;obtain⟨o,hn,-⟩:=Jiq hlt;have hinc:=inc64q (i:=i) (by omega)
   obtain⟨o1,o2,o3⟩:=ho o (List.mem_of_getElem? hn);have k51:=K51 h51 o.rep o1.ok o1.1;have hwl:(if YI o.rep then YM o.rep else []).length≤100000000:=by
    split
    ·have:=Ybu (r:=o.rep);have:=o1.1;omega
    ·simp
   have k429:=K429 h429 o.cell (if YI o.rep then YM o.rep else []) (by split;exact Ydq;intro w hw;cases hw) hwl;have htk:s.owns.take (i+1)=s.owns.take i++[o]:=Y4 hn;have hmax:=Ydr (n:=10000) (l:=s.owns.take i) fun x hx=>(ho x (Gah hx)).1.1;rw[GG] at hmax;have ht:Yai o.cell (if YI o.rep then YM o.rep else [])=Ybq o:=rfl;have htl:=Yff (o:=o);have hol:=o1.1;rw[ht] at k429;have hfm:(s.owns.take (i+1)).flatMap Ybq=(s.owns.take i).flatMap Ybq++Ybq o:=by rw[htk];simp
   generalize (s.owns.take i).flatMap Ybq=g at *
   generalize Ybq o=t at *
   generalize (if YI o.rep then YM o.rep else [])=wl at *
   have hlim:g.length+t.length≤lim:=by unfold lim;omega
   simp only[YX,Yi,Yax,Ybo] at k51 k429;simp only[go_sem,s1,m1,s2,m2,s4,a4,s12,s13,s14,m6,c1,hn,k51,k429,hlim,hinc,Gj];exact⟨i+1,by omega,by omega,by rw[hfm,Ge],by rw[hfm,GF],rfl⟩
theorem Yga:∀{id last:Int} {l:List Own},Ycd id last l=true→∀o∈l,rightB o.rep=true∧Yab o.rep.base=true∧Yab o.rep.text=true∧Yb0 o.cell=true∧o.rep.id=id∧(o.outs≠[]→YI o.rep=true)∧∀m∈o.outs,outQ id m=true
 |id,last,[],_,o,ho=>by cases ho
 |id,last,x::l,h,o,ho=>by
  simp only[Ycd,Gc] at h;rcases GI.1 ho with rfl|ho
  ·have h1:=h.1;simp only[YbA,ownQ1,Yc2,Gc,G2,Gi,Gx] at h1;obtain⟨⟨a1,a2,a3,a4,a5,a6⟩,a7,a8⟩:=h1;refine⟨a4,a5,a6,a2,a3,fun hne=>?_,a8⟩;rcases a7 with a7|a7
   ·exact absurd (List.length_eq_zero_iff.1 (by omega)) hne
   ·exact a7
  ·exact Yga h.2 o ho
theorem Yej {s:Sto} (h:Ybw s=true):∀o∈s.owns,rightB o.rep=true∧Yab o.rep.base=true∧Yab o.rep.text=true∧Yb0 o.cell=true∧o.rep.id=s.id∧(o.outs≠[]→YI o.rep=true)∧∀m∈o.outs,outQ s.id m=true:=by
 simp only[Ybw,Gc] at h;exact Yga h.1
def Yd9:Cel:=⟨[],⟨0,0,0⟩,0⟩
def cellO (s:Sto) (c:Int):Option Cel:=if Ybw s&&((atO s c).isSome&&Yp (Yw s c).rep) then tkC (Yw s c).rep.base else none
theorem Ydm {s:Sto} {c:Int} (h:(atO s c).isSome=true):Yw s c∈s.owns∧(Yw s c).cell=c:=by
 unfold Yw;cases e:atO s c with
 |none=>rw[e] at h;cases h
 |some o=>
  refine⟨List.mem_of_find?_eq_some e,?_⟩;have:=List.find?_some e;simpa [YcE] using this
def H406 (Pg:PgT):Prop:=Pg 406=some (.code F406)∧H427 Pg∧H408 Pg∧H40 Pg∧H428 Pg
theorem K406g (h:H406 Pg) (s:Sto) (c:Int) (hs:Ybd s) (k408:K' Pg 408 [.agg (YU s)]=some (.bool (Ybw s))) (hk:∀o∈s.owns,Yab o.rep.base=true→K' Pg 428 [.str o.rep.base]=some (YeG (tkC o.rep.base))) :
  K' Pg 406 [.agg (YU s),iz c]=some (.tuple [.agg (Yk ((cellO s c).getD Yd9)),.bool (cellO s c).isSome]):=by
 obtain⟨h,h427,h408,h40,h428⟩:=h
 obtain⟨hl,ho⟩:=hs
 have k427:=K427 h427 s c (by omega)
 unfold cellO
 simp only[go_sem] at k408 k427
 refine Qb h rfl ?_
 cases hr:Ybw s with
 |false=>
  rw[hr] at k408
  simp only[F406,c406,go_sem,k408,k427,Gs,Gm,Gu,Option.getD_none,Option.isSome_none,Yd9,Gk]
 |true=>
 rw[hr] at k408
 cases ha:(atO s c).isSome with
 |false=>
  rw[ha] at k427
  simp only[F406,c406,go_sem,k408,k427,Gs,GB,Gm,Gu,Option.getD_none,Option.isSome_none,Yd9,Gk]
 |true=>
 rw[ha] at k427
 obtain⟨hm,-⟩:=Ydm ha
 obtain⟨o1,-,-⟩:=ho _ hm
 obtain⟨r1,r2,-⟩:=Yej hr _ hm
 have k40:=K40 h40 (Yw s c).rep o1.ok
 rw[r1,GP] at k40
 simp only[YX,Yi] at k40
 cases hd:Yp (Yw s c).rep with
 |false=>
  rw[hd] at k40
  simp only[F406,c406,go_sem,k408,k427,k40,GB,Gm,Gu,Option.getD_none,Option.isSome_none,Yd9,Gk]
 |true=>
  rw[hd] at k40
  have k428:=hk _ hm r2
  have hb:=r2
  simp only[Yab] at hb
  cases ht:tkC (Yw s c).rep.base with
  |none=>rw[ht] at hb;cases hb
  |some x=>
   rw[ht] at k428
   simp only[YeG] at k428
   simp only[go_sem] at k428
   simp only[F406,c406,go_sem,k408,k427,k40,k428,G1,Gz,Option.getD_some,Option.isSome_some]
def Ybf:List Own→Own→List Own
 |[],o=>[o]
 |p::l,o=>if o.cell≤p.cell then (if p.cell=o.cell then o::l else o::p::l) else p::Ybf l o
def geO (c:Int) (o:Own):Bool:=decide (c≤o.cell)
theorem ixAt_spec {α:Type} {p:α→Bool}:∀{l:List α} {i:Nat},(Ybe p l i=-1∧∀x∈l,p x=false)∨∃j x,Ybe p l i=((i+j:Nat):Int)∧l[j]?=some x∧p x=true∧∀y∈l.take j,p y=false
 |[],i=>.inl ⟨rfl,fun x hx=>by cases hx⟩
 |a::l,i=>by
  cases hp:p a with
  |true=>exact .inr ⟨0,a,by simp[Ybe,hp],rfl,hp,fun y hy=>by cases hy⟩
  |false=>
   rcases ixAt_spec (p:=p) (l:=l) (i:=i+1) with ⟨h1,h3⟩|⟨j,x,h1,h2,h3,h4⟩
   ·refine .inl ⟨by simp[Ybe,hp,h1],fun x hx=>?_⟩;rcases GI.1 hx with rfl|hx
    ·exact hp
    ·exact h3 x hx
   ·refine .inr ⟨j+1,x,by simp only[Ybe,hp,Gm,Gu,h1];congr 1;omega,h2,h3,fun y hy=>?_⟩;rw[List.take_succ_cons] at hy;rcases GI.1 hy with rfl|hy
    ·exact hp
    ·exact h4 y hy
theorem YgL {o:Own}:∀{l:List Own},(∀x∈l,geO o.cell x=false)→Ybf l o=l++[o]
 |[],_=>rfl
 |p::l,h=>by
  have h1:=h p (GR ..);simp only[geO,Gq] at h1;rw[Ybf,Gn h1,YgL fun x hx=>h x (G5 _ hx)]
  rfl
theorem Yi3 {o x:Own}:∀{l:List Own} {j:Nat},l[j]?=some x→geO o.cell x=true→(∀y∈l.take j,geO o.cell y=false)→Ybf l o=if x.cell=o.cell then l.set j o else l.take j++(o::l.drop j)
 |[],j,h,_,_=>by simp at h
 |p::l,0,h,hx,_=>by
  simp only[List.getElem?_cons_zero,Ga] at h;subst h;simp only[geO,Gi] at hx;rw[Ybf,Gr hx]
  rfl
 |p::l,j+1,h,hx,hy=>by
  have h1:=hy p (by rw[List.take_succ_cons];exact GR ..);simp only[geO,Gq] at h1;rw[Ybf,Gn h1,Yi3 (j:=j) (by simpa using h) hx fun y hm=>hy y (by rw[List.take_succ_cons];exact G5 _ hm)];split<;>simp
def H496 (Pg:PgT):Prop:=Pg 496=some (.code F496)
theorem K496 (h:H496 Pg) (p o:Own):K' Pg 496 [.agg (YbL p),.cptr (YbL o) 0]=some (.bool (geO o.cell p)):=by
 refine Qb h rfl ?_;simp only[F496,c496,go_sem,geO]
def H497 (Pg:PgT):Prop:=Pg 497=some (.prim (some 0) (cloneQ 9))
theorem K497 (h:H497 Pg) (rows:List (List V)) (hl:rows.length≤lim):K' Pg 497 [.slice 9 rows]=some (.slice 9 rows):=by
 rw[Jip h];simp[cloneQ,hl]
def H473 (Pg:PgT):Prop:=Pg 473=some (.code F473)∧H463 Pg∧H496 Pg∧H497 Pg
theorem K473 (h:H473 Pg) (s:Sto) (o:Own) (hl:s.owns.length≤100000):K' Pg 473 [.agg (YU s),.agg (YbL o)]=some (.agg (YU ⟨s.id,Ybf s.owns o⟩)):=by
 obtain⟨h,h463,h496,h497⟩:=h;have k463:=K463 h463 s.owns 496 [.cptr (YbL o) 0] (geO o.cell) (by omega) fun x _=>K496 h496 x o;have hlim:s.owns.length≤lim:=by unfold lim;omega
 have hlim1:s.owns.length+1≤lim:=by unfold lim;omega
 have k497:=K497 h497 (s.owns.map YbL) (by simpa using hlim);simp only[go_sem] at k463;refine Qb h rfl ?_;rcases ixAt_spec (p:=geO o.cell) (l:=s.owns) (i:=0) with ⟨h1,h3⟩|⟨j,x,h1,h2,h3,h4⟩
 ·rw[h1] at k463;rw[YgL h3];simp only[F473,c473,go_sem,k463,k497,hlim1,Gj,GF,GC,Gk]
 ·rw[h1,Gav] at k463;rw[Yi3 h2 h3 h4];have hj:decide ((j:Int)<0)=false:=Gp (by omega);have hjl:j<s.owns.length:=(List.getElem?_eq_some_iff.1 h2).1;cases c1:decide (x.cell=o.cell) with
  |true=>
   rw[Gr (Gg c1)];simp only[F473,c473,go_sem,k463,k497,hj,h2,hjl,c1,Gj,List.map_set,Gaw]
  |false=>
   rw[Gn (Gb c1)];have hje:j≤s.owns.length:=Nat.le_of_lt hjl;have hnum:min j s.owns.length+(s.owns.length-j+1)=s.owns.length+1:=by omega
   simp only[F473,c473,go_sem,k463,k497,hj,h2,hjl,hje,hlim1,c1,Gj,GF,GC,Gk,GaF,Gao,Ge,List.length_cons,GG,GL,List.length_nil,hnum]
theorem YdW {r:Rep} {w:Word}:(Yx r w).2.length≤1∧∀x∈(Yx r w).2,(x.kind=2∨x.kind=3)∧x.members=[]:=by
 have nil:([]:List Word).length≤1∧∀x∈([]:List Word),(x.kind=2∨x.kind=3)∧x.members=[]:=⟨by simp,fun x hx=>by cases hx⟩;have one:∀y:Word,(y.kind=2∨y.kind=3)∧y.members=[]→[y].length≤1∧∀x∈[y],(x.kind=2∨x.kind=3)∧x.members=[]:=fun y hy=>⟨by simp,fun x hx=>by
  have:x=y:=by simpa using hx
  subst this;exact hy⟩
 unfold Yx;split
 ·split
  ·split
   ·unfold Yaj;split
    ·exact nil
    ·split
     ·split
      ·split
       ·unfold shipT;split
        ·exact one _ ⟨.inr rfl,rfl⟩
        ·split
         ·exact nil
         ·split
          ·exact one _ ⟨.inl rfl,rfl⟩
          ·exact one _ ⟨.inl rfl,rfl⟩
       ·exact nil
      ·exact nil
     ·exact nil
   ·split
    ·split<;>exact nil
    ·split
     ·split<;>exact nil
     ·exact nil
  ·exact nil
 ·exact nil
theorem hear_len' {r:Rep} {w:Word}:(Yx r w).1.members.length≤max r.members.length w.members.length∧(Yx r w).1.acks.length≤r.acks.length+1∧(Yx r w).1.id=r.id∧
  ((Yx r w).1.base=r.base∨(Yx r w).1.base=r.text∨(Yx r w).1.base=w.text∧w.kind=1)∧((Yx r w).1.text=r.text∨(Yx r w).1.text=w.text∧w.kind=1):=by
 have same:r.members.length≤max r.members.length w.members.length∧r.acks.length≤r.acks.length+1∧r.id=r.id∧(r.base=r.base∨r.base=r.text∨r.base=w.text∧w.kind=1)∧(r.text=r.text∨r.text=w.text∧w.kind=1):=
  ⟨Gan _ _,Nat.le_succ _,rfl,.inl rfl,.inl rfl⟩
 unfold Yx
 split
 ·split
  ·split
   ·rename_i hk
    unfold Yaj
    split
    ·exact same
    ·split
     ·split
      ·split
       ·unfold shipT
        split
        ·exact same
        ·split
         ·exact same
         ·split
          ·exact⟨Gaj _ _,by simp[Y8],rfl,.inr (.inr ⟨rfl,hk⟩),.inr ⟨rfl,hk⟩⟩
          ·exact same
       ·exact same
      ·exact same
     ·exact same
   ·split
    ·split
     ·obtain⟨e1,e2,e3,e4,e5,e6⟩:=Yba (YaO r w)
      refine⟨by rw[e3];exact Gan _ _,by rw[e6];simp[YaO],by rw[e1];rfl,?_,.inl (by rw[e5];rfl)⟩
      unfold YaU
      split
      ·exact .inr (.inl rfl)
      ·exact .inl rfl
     ·exact same
    ·split
     ·split
      ·exact⟨by simp[Yb3],by simp[Yb3],rfl,.inr (.inl rfl),.inl rfl⟩
      ·exact same
     ·exact same
  ·exact same
 ·exact same
def Yd8 (m:Msg):Word:=⟨m.kind-34,m.from_,m.to,m.epoch,m.of_,m.mem,m.text⟩
def hrd (s:Sto) (m:Msg):Rep×List Word:=Yx (Yw s m.n).rep (Yd8 m)
def noWd (s:Sto) (m:Msg):Bool:=(!(atO s m.n).isSome&&!Yb0 m.n)||(decide (m.kind=35)&&!Yab m.text)
def Yc9 (o:Own) (r:Rep):List Msg:=if YI o.rep&&(!YI r&&(rightB r&&Yp r)) then o.outs else []
def Ycl (o:Own) (r:Rep):Own:=⟨o.cell,r,if YI r then o.outs else []⟩
def Yau (s:Sto) (m:Msg):Sto×List Msg:=
 if noWd s m then (s,[]) else if !(atO s m.n).isSome&&decide ((hrd s m).1.view=0) then (s,[])
 else (⟨s.id,Ybf s.owns (Ycl (Yw s m.n) (hrd s m).1)⟩,Yai m.n (hrd s m).2++Yc9 (Yw s m.n) (hrd s m).1)
@[go_sem] def eSM (x:Sto×List Msg):V:=.tuple [.agg (YU x.1),Ybo x.2]
theorem Yfr {s:Sto} {c:Int} (hs:Ybd s):Ygz (Yw s c):=by
 cases h:(atO s c).isSome with
 |true=>exact hs.2 _ (Ydm h).1
 |false=>
  unfold Yw;cases e:atO s c with
  |some o=>rw[e] at h;cases h
  |none=>exact⟨⟨by simp[YhY],by simp[YhY]⟩,by simp[YhY],fun m hm=>by cases hm⟩
def YgW:C:=.seq (.region false r437_10) (.seq (.region false r437_11) (.seq (.seq (.region false r437_12) (.cond (.g 80) (.seq (.seq (.region false r437_13) (.cond (.g 85) (.region false r437_14) (.skip))) (.region false r437_15)) (.skip))) (.seq (.region false r437_16) (.ret))))
theorem c437_eq:c437=.seq (.region false r437_0) (.seq (.region false r437_1) (.seq (.seq (.region false r437_2) (.cond (.g 26) (.seq (.region false r437_3) (.ret)) (.skip))) (.seq (.seq (.region false r437_4) (.cond (.g 36) (.seq (.region false r437_5) (.ret)) (.skip))) (.seq (.region false r437_6) (.seq (.region false r437_7) (.seq (.seq (.region false r437_8) (.cond (.g 70) (.seq (.region false r437_9) (.ret)) (.skip))) YgW)))))):=rfl
theorem T437 {s:Sto} {m:Msg} {o:Own} {r:Rep} {wl:List Word} {S:St} (hol:(Yai m.n wl).length≤1) (hoo:o.outs.length≤9000)
  (k41:K' Pg 41 [.agg (YX r)]=some (.bool (YI r))) (k40:K' Pg 40 [.agg (YX r)]=some (.bool (rightB r&&Yp r))) (k429:K' Pg 429 [iz m.n,Yax wl]=some (Ybo (Yai m.n wl)))
  (k473:K' Pg 473 [.agg (YU s),.agg (YbL (Ycl o r))]=some (.agg (YU ⟨s.id,Ybf s.owns (Ycl o r)⟩)))
  (s2:S.ρ 2=.lref 2 0) (m2:S.μ 2=some (YU s,false)) (s3:S.ρ 3=.lref 3 0) (m3:S.μ 3=some (Y9 m,false)) (s4:S.ρ 4=.lref 4 0) (m4:S.μ 4=some ([.int .i64 0,.slice 9 []],false)) (s6:S.ρ 6=.lref 6 0) (m6:S.μ 6=some (YbL o,false))
  (s8:S.ρ 8=.bool (YI o.rep)) (s9:S.ρ 9=.lref 9 0) (m9:S.μ 9=some (YX r,false)) (s10:S.ρ 10=Yax wl) (a75:S.A 75=none) :
  Wp (K' Pg) YgW S fun ex S=>(ex=.norm∨ex=.ret)∧JaF F437 S=some (eSM (⟨s.id,Ybf s.owns (Ycl o r)⟩,Yai m.n wl++Yc9 o r)):=by
 have hlim:(Yai m.n wl).length+o.outs.length≤lim:=by unfold lim;omega
 generalize Yai m.n wl=sl at *
 unfold Ycl Yc9
 unfold Ycl at k473
 simp only[go_sem] at m2 m3 m6 m9
 cases b2:YI r with
 |true=>
  rw[b2] at k41 k473
  simp only[GQ,Gs,GB,Gm,Gu,Gz,Gv] at k473 ⊢
  simp only[go_sem] at k41 k40 k429 k473
  simp only[YgW,F437,go_sem,s2,m2,s3,m3,s4,m4,s6,m6,s9,m9,s10,a75,k41,k429,k473,Gj]
 |false=>
  rw[b2] at k41 k473
  simp only[GY,GP,Gm,Gu] at k473 ⊢
  cases b1:YI o.rep with
  |false=>
   rw[b1] at s8
   simp only[Gs,Gm,Gu,Gv]
   simp only[go_sem,Gk] at k41 k40 k429 k473
   simp only[YgW,F437,go_sem,s2,m2,s3,m3,s4,m4,s6,m6,s8,s9,m9,s10,a75,k41,k429,k473,Gj]
  |true=>
   rw[b1] at s8
   cases b3:(rightB r&&Yp r) with
   |false=>
    rw[b3] at k40
    simp only[GB,Gm,Gu,Gv]
    simp only[go_sem,Gk] at k41 k40 k429 k473
    simp only[YgW,F437,go_sem,s2,m2,s3,m3,s4,m4,s6,m6,s8,s9,m9,s10,a75,k41,k40,k429,k473,Gj]
   |true=>
    rw[b3] at k40
    simp only[G1,Gz]
    simp only[go_sem,Gk] at k41 k40 k429 k473
    simp only[YgW,F437,go_sem,s2,m2,s3,m3,s4,m4,s6,m6,s8,s9,m9,s10,a75,k41,k40,k429,k473,hlim,Gj,GF,Ge]
def H437 (Pg:PgT):Prop:=Pg 437=some (.code F437)∧H427 Pg∧H368 Pg∧H430 Pg∧H41 Pg∧H57 Pg∧H429 Pg∧H40 Pg∧H473 Pg
theorem K437 (h:H437 Pg) (s:Sto) (m:Msg) (hs:Ybd s) (ha:(Yw s m.n).rep.acks.length≤9000) (hm:m.mem.length≤10000) (ho:(Yw s m.n).outs.length≤9000) (hk:0≤m.kind∧m.kind≤1000) (kt:K' Pg 430 [.str m.text]=some (.bool (Yab m.text))) :
  K' Pg 437 [.agg (YU s),.agg (Y9 m)]=some (eSM (Yau s m)):=by
 obtain⟨h,h427,h368,h430,h41,h57,h429,h40,h473⟩:=h
 have k427:=K427 h427 s m.n (by have:=hs.1;omega)
 obtain⟨o1,o2,o3⟩:=Yfr (c:=m.n) hs
 have k368:=K368 h368 m.n
 have k41a:=K41 h41 (Yw s m.n).rep o1.ok
 have hw1:IntKind.i64.wrap (m.kind-35)=m.kind-35:=JiG (by omega) (by omega)
 have hw2:IntKind.i64.wrap (m.kind-35+1)=m.kind-34:=by rw[JiG (by omega) (by omega)];omega
 have k57:K' Pg 57 [.agg (YX (Yw s m.n).rep),.agg (YaL (Yd8 m))]=some (eRW (hrd s m)):=K57 h57 (Yw s m.n).rep (Yd8 m) o1.ok o1.2 hm
 obtain⟨l1,l2,-⟩:=hear_len' (r:=(Yw s m.n).rep) (w:=Yd8 m)
 obtain⟨q1,q2⟩:=YdW (r:=(Yw s m.n).rep) (w:=Yd8 m)
 have rok:RepOk (hrd s m).1:=⟨GJ l1 (Nat.max_le.2 ⟨o1.1,hm⟩),by unfold hrd;omega⟩
 have k41b:=K41 h41 (hrd s m).1 rok.ok
 have k40:=K40 h40 (hrd s m).1 rok.ok
 have k429:=K429 h429 m.n (hrd s m).2 (fun w hw=>by have:=(q2 w hw).1;omega) (by unfold hrd;omega)
 have k473:=K473 h473 s (Ycl (Yw s m.n) (hrd s m).1) (by have:=hs.1;omega)
 have hol:(Yai m.n (hrd s m).2).length≤1:=by simp only[Yai,Gj];unfold hrd;exact q1
 have tl:=fun {S:St}=>T437 (S:=S) (s:=s) (m:=m) (o:=Yw s m.n) (r:=(hrd s m).1) (wl:=(hrd s m).2) hol ho k41b k40 k429 k473
 have hn:Yau s m=if noWd s m then (s,[]) else if !(atO s m.n).isSome&&decide ((hrd s m).1.view=0) then (s,[]) else (⟨s.id,Ybf s.owns (Ycl (Yw s m.n) (hrd s m).1)⟩,Yai m.n (hrd s m).2++Yc9 (Yw s m.n) (hrd s m).1):=rfl
 rw[hn]
 unfold noWd
 clear hn k429 k473 k40 k41b rok q1 q2 l1 l2
 generalize hrd s m=hd at *
 obtain⟨r,wl⟩:=hd
 generalize Yw s m.n=o at *
 generalize (atO s m.n).isSome=ok at *
 generalize Yab m.text=bt at *
 generalize Yb0 m.n=cq at *
 simp only[Yd8,eRW] at k57
 simp only[go_sem] at k427 k41a k57
 have hF:F437.body=c437:=rfl
 refine Qb h rfl ?_
 rw[hF,c437_eq]
 cases ok with
 |true=>
  cases d1:decide (m.kind=35) with
  |true=>
   cases bt with
   |false=>simp only[go_sem,k427,d1,kt,GQ,GY,Gs,G1,Gau,Gz,Gk]
   |true=>
    simp only[GQ,Gs,GB,Bool.or_false,Gm,Gu]
    simp only[go_sem,k427,d1,kt,k41a,hw1,hw2,k57]
    exact tl (by simp only[go_sem]) (by simp only[go_sem]) (by simp only[go_sem]) (by simp only[go_sem]) (by simp only[go_sem]) (by simp only[go_sem]) (by simp only[go_sem]) (by simp only[go_sem]) (by simp only[go_sem]) (by simp only[go_sem]) (by simp only[go_sem]) (by simp only[go_sem]) rfl
  |false=>
   simp only[GQ,Gs,Bool.or_false,Gm,Gu]
   simp only[go_sem,k427,d1,k41a,hw1,hw2,k57]
   exact tl (by simp only[go_sem]) (by simp only[go_sem]) (by simp only[go_sem]) (by simp only[go_sem]) (by simp only[go_sem]) (by simp only[go_sem]) (by simp only[go_sem]) (by simp only[go_sem]) (by simp only[go_sem]) (by simp only[go_sem]) (by simp only[go_sem]) (by simp only[go_sem]) rfl
 |false=>
  cases cq with
  |false=>simp only[go_sem,k427,k368,GY,G1,GaK,Gz,Gk]
  |true=>
  cases d1:decide (m.kind=35) with
  |true=>
   cases bt with
   |false=>simp only[go_sem,k427,k368,d1,kt,GQ,GY,GB,G1,Gau,Gz,Gk]
   |true=>
    cases d2:decide (r.view=0) with
    |true=>simp only[go_sem,k427,k368,d1,kt,k41a,hw1,hw2,k57,d2,GQ,GY,GB,G1,Gau,Gm,Gu,Gz,Gk]
    |false=>
     simp only[GQ,GB,Bool.or_false,Gm,Gu]
     simp only[go_sem,k427,k368,d1,kt,k41a,hw1,hw2,k57,d2]
     exact tl (by simp only[go_sem]) (by simp only[go_sem]) (by simp only[go_sem]) (by simp only[go_sem]) (by simp only[go_sem]) (by simp only[go_sem]) (by simp only[go_sem]) (by simp only[go_sem]) (by simp only[go_sem]) (by simp only[go_sem]) (by simp only[go_sem]) (by simp only[go_sem]) rfl
  |false=>
   cases d2:decide (r.view=0) with
   |true=>simp only[go_sem,k427,k368,d1,k41a,hw1,hw2,k57,d2,GQ,GY,Gs,GB,G1,Bool.or_false,Gm,Gu,Gz,Gk]
   |false=>
    simp only[GQ,Gs,GB,Bool.or_false,Gm,Gu]
    simp only[go_sem,k427,k368,d1,k41a,hw1,hw2,k57,d2]
    exact tl (by simp only[go_sem]) (by simp only[go_sem]) (by simp only[go_sem]) (by simp only[go_sem]) (by simp only[go_sem]) (by simp only[go_sem]) (by simp only[go_sem]) (by simp only[go_sem]) (by simp only[go_sem]) (by simp only[go_sem]) (by simp only[go_sem]) (by simp only[go_sem]) rfl
def saT:List (Nat×Fn):=[(400,.code F400),(395,.code F395),(345,.code F345),(397,.code F397),(401,.code F401),(406,.code F406),(407,.code F407),(408,.code F408),(413,.code F413),(43,.code F43),(368,.code F368),(420,.code F420),(249,.code F249),(421,.codeR F421 0),(422,.codeR F422 0),(423,.codeR F423 0),(427,.code F427),(40,.code F40),(428,.code F428),(51,.code F51),(429,.code F429),(39,.code F39),(430,.code F430),(41,.code F41),(431,.code F431),(432,.code F432),(341,.code F341),(439,.code F439),(440,.code F440),(15,.code F15),(442,.code F442),(68,.code F68),(244,.code F244),(301,.code F301),(28,.code F28),(284,.code F284),(455,.code F455),(456,.code F456),(457,.codeR F457 0),(458,.codeR F458 0),(462,.code F462),(463,.code F463),(464,.codeR F464 0),(465,.codeR F465 0),(466,.codeR F466 0),(467,.codeR F467 0),(72,.code F72),(63,.code F63),(64,.code F64),(65,.code F65),(66,.code F66),(67,.code F67),(468,.code F468),(366,.code F366),(367,.code F367),(473,.code F473),(474,.code F474),(240,.code F240),(26,.code F26),(27,.code F27),(47,.code F47),(186,.code F186),(203,.code F203),(81,.code F81),(298,.code F298),(299,.code F299),(316,.code F316),(32,.code F32),(313,.code F313),(483,.code F483),(484,.code F484),(485,.code F485),(490,.code F490),(491,.code F491),(492,.codeR F492 0),(493,.codeR F493 0),(75,.code F75),(76,.code F76),(71,.code F71),(496,.code F496),(499,.code F499),(285,.code F285),(287,.code F287),(171,.code F171),(288,.code F288),(289,.code F289),(290,.code F290),(31,.code F31),(304,.code F304),(192,.code F192),(7,.code F7),(97,.code F97),(98,.code F98),(315,.code F315),(506,.code F506),(507,.code F507),(314,.code F314),(82,.code F82),(84,.code F84),(200,.code F200),(88,.code F88),(312,.code F312),(220,.code F220),(221,.code F221),(22,.code F22),(319,.code F319),(320,.code F320),(100,.code F100),(3,.code F3),(225,.code F225),(106,.code F106),(69,.prim (some 0) (cloneQ 1)),(497,.prim (some 0) (cloneQ 9)),(307,.prim (some 0) (cloneQ 17)),(170,.prim none keyQ),(102,.prim (some 0) (cloneQ 11)),(23,.prim (some 0) (cloneQ 5)),(227,.prim (some 0) (cloneQ 2))]
def snT:List (Nat×Fn):=[(395,.code F395),(345,.code F345),(397,.code F397),(401,.code F401),(43,.code F43),(368,.code F368),(249,.code F249),(421,.codeR F421 0),(422,.codeR F422 0),(423,.codeR F423 0),(39,.code F39),(68,.code F68),(244,.code F244),(301,.code F301),(28,.code F28),(284,.code F284),(455,.code F455),(456,.code F456),(457,.codeR F457 0),(63,.code F63),(64,.code F64),(65,.code F65),(66,.code F66),(67,.code F67),(186,.code F186),(203,.code F203),(81,.code F81),(299,.code F299),(32,.code F32),(313,.code F313),(483,.code F483),(484,.code F484),(75,.code F75),(76,.code F76),(315,.code F315),(69,.prim (some 0) (cloneQ 1))]
theorem faL {a:Nat} {b:Fn} {l:List (Nat×Fn)} (h1:Pg a=some b) (h2:∀x∈l,Pg x.1=some x.2):∀x∈(a,b)::l,Pg x.1=some x.2:=List.forall_mem_cons.2 ⟨h1,h2⟩
theorem YlV:isT (Jm (Ycx saT) 60 400 [])=true:=by decide +kernel
def YjJ:List UInt8:=[0,0,0,0,1,1,1,1,0,0,0,0,0,0,0,0,0,0,0,0,0,0]
def Ydc:List UInt8:=[0,0,0,0,0]
def newS (k:Nat):Sto:=match k with
 |1=>⟨1,[⟨1,⟨1,1,[1,2],1,YjJ,YjJ,[1,2]⟩,[]⟩,⟨3,⟨1,1,[3,1],1,Ydc,Ydc,[]⟩,[]⟩]⟩
 |2=>⟨2,[⟨1,⟨2,1,[1,2],1,YjJ,YjJ,[]⟩,[]⟩,⟨2,⟨2,1,[2,3],1,Ydc,Ydc,[2,3]⟩,[]⟩]⟩
 |_=>⟨3,[⟨2,⟨3,1,[2,3],1,Ydc,Ydc,[]⟩,[]⟩,⟨3,⟨3,1,[3,1],1,Ydc,Ydc,[3,1]⟩,[]⟩]⟩
theorem Yla:Jm (Ycx snT) 60 395 [iz 1]=some (.tuple [.agg (YU (newS 1)),iz 0]):=by kernel_rfl
theorem Ylb:Jm (Ycx snT) 60 395 [iz 2]=some (.tuple [.agg (YU (newS 2)),iz 0]):=by kernel_rfl
theorem Ylc:Jm (Ycx snT) 60 395 [iz 3]=some (.tuple [.agg (YU (newS 3)),iz 0]):=by kernel_rfl
def H400 (Pg:PgT):Prop:=∀x∈saT,Pg x.1=some x.2
theorem K400 (h:H400 Pg):K' Pg 400 []=some (.bool true):=by
 exact Jb1 (YbZ (Ycp h) 60 _ _ _ (Yie YlV))
def H395 (Pg:PgT):Prop:=∀x∈snT,Pg x.1=some x.2
theorem K395 (h:H395 Pg) (id:Int):K' Pg 395 [iz id]=some (if 1≤id∧id≤3 then .tuple [.agg (YU (newS id.toNat)),iz 0] else .tuple [.agg [iz 0,.slice 9 []],iz 1]):=by
 have hT:=YbZ (Ycp h);replace h:=h _ (by unfold snT;exact GR ..);cases c1:decide (id<1) with
 |true=>
  rw[Gn (by have:=Gg c1;omega)];refine Qb h rfl ?_;simp only[F395,c395,go_sem,c1]
 |false=>
 cases c2:decide (3<id) with
 |true=>
  rw[Gn (by have:=Gg c2;omega)];refine Qb h rfl ?_;simp only[F395,c395,go_sem,c1,c2]
 |false=>
 have d1:=Gb c1;have d2:=Gb c2;rw[Gr (by omega)];have d3:id=1∨id=2∨id=3:=by omega
 rcases d3 with rfl|rfl|rfl
 ·exact Jb1 (hT 60 _ _ _ Yla)
 ·exact Jb1 (hT 60 _ _ _ Ylb)
 ·exact Jb1 (hT 60 _ _ _ Ylc)
def H320 (Pg:PgT):Prop:=Pg 320=some (.code F320)
theorem K320 (h:H320 Pg) (s:Shd) (n:Int):K' Pg 320 [.agg (Yh s),iz n]=some (iz (IntKind.i64.wrap (s.id-n))):=by
 refine Qb h rfl ?_;simp only[go_sem]
def H319 (Pg:PgT):Prop:=Pg 319=some (.code F319)
theorem K319 (h:H319 Pg) (l:List Shd) (m:Int) (g:Nat) (f:Nat→Int) (n:Nat) (hl:l.length<2 ^ 60)
  (hg:∀i v,l[i]?=some v→K' Pg g [.agg (Yh v),iz m]=some (iz (f i))) (hn:n≤l.length) (h1:∀j,j<n→f j<0) (h2:∀j,n≤j→j<l.length→0≤f j) :
  K' Pg 319 [Ys l,iz m,.func g []]=some (.tuple [iz n,.bool (decide (n<l.length)&&decide (f n=0))]):=by
 refine Qb h rfl ?_
 simp only[Yh,Yf,Yc] at hg
 simp only[go_sem]
 unfold l319_0
 refine JiJ (fun (p:Nat×Nat) S=>p.1≤n∧n≤p.2∧p.2≤l.length∧S.ρ 0=Ys l∧S.ρ 1=iz m∧S.ρ 2=.func g []∧S.ρ 8=iz l.length∧S.ρ 9=iz p.1∧S.ρ 10=iz p.2) (fun p=>p.2-p.1) (0,l.length) ?_ ?_
 ·simp[go_sem,hn]
 ·intro⟨i,j⟩ S ⟨hi,hj,hjl,h0,hs,h2',h8,h9,h10⟩
  simp only at hi hj hjl h9 h10
  simp only[go_sem,h9,h10]
  refine JiK (fun h=>?_) (fun h=>?_)
  ·simp only[Gi,G0] at h
   have e1:IntKind.i64.wrap ((i:Int)+j)=(i:Int)+j:=JiG (by omega) (by omega)
   have e2:IntKind.u64.wrap ((i:Int)+j)=(i:Int)+j:=_root_.Go.IntWalk.u64_in _ ⟨by omega,by omega⟩
   have e3:Int.fdiv ((i:Int)+j) 2=(((i+j) / 2:Nat):Int):=by
    rw[GaD _ (by omega)];omega
   have e4:IntKind.i64.wrap ((((i+j) / 2:Nat):Int))=(((i+j) / 2:Nat):Int):=JiG (by omega) (by omega)
   have e5:IntKind.i64.wrap ((((i+j) / 2:Nat):Int)+1)=(((i+j) / 2+1:Nat):Int):=JiG (by omega) (by omega)
   obtain⟨x,hx,hd⟩:=Jiq (l:=l) (i:=(i+j) / 2) (by omega)
   have hgx:=hg _ _ hx
   simp only[go_sem,h0,hs,h2',h9,h10,e1,e2,e3,e4,hx,hgx]
   refine JiK (fun hc=>?_) (fun hc=>?_)
   ·simp only[go_sem,h0,hs,h2',h8,h10,e5]
    have hf:f ((i+j) / 2)<0:=by simpa using hc
    refine⟨((i+j) / 2+1,j),by simp only;omega,?_,hj,hjl,rfl,rfl⟩
    simp only
    rcases GA ((i+j) / 2) n with h'|h'
    ·exact h'
    ·have:=h2 _ h' (by omega);omega
   ·simp only[go_sem,h0,hs,h2',h8,h9]
    have hf:¬f ((i+j) / 2)<0:=by simpa using hc
    refine⟨(i,(i+j) / 2),by simp only;omega,hi,?_,by simp only;omega,rfl,rfl⟩
    simp only
    rcases GA ((i+j) / 2) n with h'|h'
    ·exact absurd (h1 _ h') hf
    ·exact h'
  ·simp only[Gq,G0] at h
   have:i=n:=by omega
   subst this
   simp only[go_sem,h8,h9]
   refine JiI (fun hc=>?_) (fun hc=>?_)
   ·simp only[Gi,G0] at hc
    obtain⟨x,hx,hd⟩:=Jiq hc
    have hgx:=hg _ _ hx
    simp only[go_sem,h0,hs,h2',h9,hx,hgx,hc,GaN,G0]
   ·simp only[Gq,G0] at hc
    simp only[go_sem,hc,GaE,G0]
def OrdS (l:List Shd):Prop:=YdO l∧l.length≤10000∧∀s∈l,1≤s.id∧s.id≤1099511627776
theorem Ybv {c:Cel} (h:Yy c=true):OrdS c.shards:=by
 obtain⟨h1,-,-,h4,h5⟩:=Yt.1 h;exact⟨h4,by omega,fun s hs=>Yez (h5 s hs).2.1⟩
def H314 (Pg:PgT):Prop:=Pg 314=some (.code F314)∧H319 Pg∧H320 Pg
theorem K314 (h:H314 Pg) (c:Cel) (n:Int) (hc:OrdS c.shards) (hn:1≤n∧n≤1099511627776):K' Pg 314 [.agg (Yk c),iz n]=some (.tuple [iz (YaH n c.shards),.bool (Yah n c.shards)]):=by
 obtain⟨h,h319,h320⟩:=h;obtain⟨hi,hl,hr⟩:=hc;have hw:∀s∈c.shards,IntKind.i64.wrap (s.id-n)=s.id-n:=fun s hs=>by have:=hr s hs;exact JiG (by omega) (by omega)
 have k:=K319 h319 c.shards n 320 (fun i=>match c.shards[i]? with|none=>0|some s=>s.id-n) (YaH n c.shards) (by omega) (fun i v hv=>by
  simp only[hv];rw[K320 h320,hw v (List.mem_of_getElem? hv)]) (YeS _) (fun j hj=>by
  obtain⟨x,hx,-⟩:=Jiq (G6 hj (YeS _));simp only[hx];have:=Yi0 hj hx;omega) (fun j hj hjl=>by
  obtain⟨x,hx,-⟩:=Jiq hjl;simp only[hx];have:=YiZ hi hj hx;omega)
 have e:(decide (YaH n c.shards<c.shards.length)&&decide ((match c.shards[YaH n c.shards]? with|none=>0|some s=>s.id-n)=0))=Yah n c.shards:=by
  unfold Yah;cases hx:c.shards[YaH n c.shards]? with
  |none=>
   have:¬YaH n c.shards<c.shards.length:=by have:=List.getElem?_eq_none_iff.1 hx;omega
   simp[this]
  |some x=>
   have h1:=(List.getElem?_eq_some_iff.1 hx).1;simp only[h1,GaN,GP];exact GZ.2 (by omega)
 rw[e] at k;simp only[Ys] at k;refine Qb h rfl ?_;simp only[go_sem,k]
def H287 (Pg:PgT):Prop:=Pg 287=some (.code F287)∧H314 Pg
theorem K287 (h:H287 Pg) (c:Cel) (n:Int) (hc:OrdS c.shards) (hn:1≤n∧n≤1099511627776):K' Pg 287 [.agg (Yk c),iz n]=some (.agg (Yh ((YY c.shards n).getD Yl))):=by
 obtain⟨h,h314⟩:=h;have k:=K314 h314 c n hc hn;simp only[Yk,Ys] at k;rw[Yha hc.1];refine Qb h rfl ?_;cases q:Yah n c.shards with
 |false=>simp only[go_sem,k,q,Yl,Option.getD_none]
 |true=>
  have hx:∃x,c.shards[YaH n c.shards]?=some x:=by
   unfold Yah at q;split at q
   ·simp at q
   ·rename_i x hx;exact⟨x,hx⟩
  obtain⟨x,hx⟩:=hx;simp only[go_sem,k,q,hx,Yl,Option.getD_some]
theorem Yey {t:List Done} {d:Done} (h:(Yay t d).2=0):YA t=true∧rowR d=true∧(Yay t d).1=Ybm t d∧YA (Ybm t d)=true∧YaT t d.client<d.req:=by
 by_cases hc:YA t=true∧rowR d=true
 ·obtain⟨hr,hd⟩:=hc;rw[Yex hr hd] at h ⊢;have h0:0<d.client:=by simp only[rowR,Yr,Gc,Gi] at hd;omega
  split at h
  ·simp at h
  ·split at h
   ·simp at h
   ·rename_i h1 h2;refine⟨hr,hd,by rw[Gn h1,Gn h2],?_,by omega⟩;simp only[YA,Yid hd (Yap hr).1 h0,GP,Gi];omega
 ·have:Yay t d=([],1):=by
   simp only[Yay];rw[Gn (by simpa [Gc] using hc)]
  rw[this] at h;simp at h
theorem YeQ {a b:List Done} (h:(Y3 a b).2=0):YA a=true∧YA b=true∧(Y3 a b).1=YG a b∧YA (YG a b)=true:=by
 simp only[Y3] at h ⊢;split at h
 ·rename_i hc;simp only[Gc] at hc;split at h
  ·simp at h
  ·rename_i h8;refine⟨hc.1,hc.2,by rw[Gr (by simp[hc.1,hc.2]),Gn h8],?_⟩;simp only[YA,Yc1 a b 0 (Yap hc.1).1 (Yap hc.2).1,GP,Gi];omega
 ·simp at h
@[go_sem] theorem YmB {k:IntKind} {n:Int} {b:Bool}:(V.tuple [.int k n,.bool b]).scalar=true:=rfl
@[go_sem] theorem YmC {n:Int} {b:Bool}:(V.tuple [iz n,.bool b]).scalar=true:=rfl
theorem Yfe {n:Int} {l:List Shd} (h:Yah n l=true):∃x,l[YaH n l]?=some x∧x.id=n:=by
 unfold Yah at h;split at h
 ·simp at h
 ·rename_i x hx;exact⟨x,hx,Gg h⟩
def H307 (Pg:PgT):Prop:=Pg 307=some (.prim (some 0) (cloneQ 17))
theorem K307 (h:H307 Pg) (rows:List (List V)) (hl:rows.length≤lim):K' Pg 307 [.slice 17 rows]=some (.slice 17 rows):=by
 rw[Jip h];simp[cloneQ,hl]
def H304 (Pg:PgT):Prop:=Pg 304=some (.code F304)∧H307 Pg∧H314 Pg
theorem K304 (h:H304 Pg) (c:Cel) (s:Shd) (hc:OrdS c.shards) (hn:1≤s.id∧s.id≤1099511627776):K' Pg 304 [.agg (Yk c),.agg (Yh s)]=some (.agg (Yk (YcC c s))):=by
 obtain⟨h,h307,h314⟩:=h;have hl:=hc.2.1;have k307:=K307 h307 (c.shards.map Yh) (by simp[lim];omega);have k314:=K314 h314 c s.id hc hn;have hp:=YeS (n:=s.id) c.shards;simp only[Yk,Ys] at k314;simp only[YcC,Yir hc.1];refine Qb h rfl ?_;cases q:Yah s.id c.shards with
 |true=>
  obtain⟨x,hx,hid⟩:=Yfe q;have hj:=(List.getElem?_eq_some_iff.1 hx).1;have hs:∀r,(c.shards.map Yh).set (YaH s.id c.shards) r=(c.shards.map Yh).take (YaH s.id c.shards)++r::(c.shards.map Yh).drop (YaH s.id c.shards+1):=fun r=>Ymm (by simpa using hj);have hz:((c.shards.map Yh).take (YaH s.id c.shards)).length+(((c.shards.map Yh).drop (YaH s.id c.shards+1)).length+1)=c.shards.length:=by
   rw[GG,GL,Gj];omega
  simp only[go_sem,k314,k307,q,hx,hj,hs,hz,GF,GaF,Gao]
 |false=>
  have hlim:c.shards.length+1≤lim:=by simp only[lim];omega
  have hz:((c.shards.map Yh).take (YaH s.id c.shards)).length+(((c.shards.map Yh).drop (YaH s.id c.shards)).length+1)=c.shards.length+1:=by
   rw[GG,GL,Gj];omega
  simp only[go_sem,k314,k307,q,hp,hlim,hz,GF,GaF,Gao]
def H308 (Pg:PgT):Prop:=Pg 308=some (.code F308)∧H307 Pg∧H314 Pg
theorem K308 (h:H308 Pg) (c:Cel) (n:Int) (hc:OrdS c.shards) (hn:1≤n∧n≤1099511627776):K' Pg 308 [.agg (Yk c),iz n]=some (.agg (Yk ⟨YbF c.shards n,c.top,c.dropped⟩)):=by
 obtain⟨h,h307,h314⟩:=h;have hl:=hc.2.1;have k307:=K307 h307 (c.shards.map Yh) (by simp[lim];omega);have k314:=K314 h314 c n hc hn;simp only[Yk,Ys] at k314;rw[YiI hc.1];refine Qb h rfl ?_;cases q:Yah n c.shards with
 |true=>
  obtain⟨x,hx,hid⟩:=Yfe q;have hj:=(List.getElem?_eq_some_iff.1 hx).1;have hj1:YaH n c.shards+1≤c.shards.length:=hj;have hlim:c.shards.length≤lim:=by simp only[lim];omega
  have hinc:IntKind.i64.wrap ((YaH n c.shards:Int)+1)=((YaH n c.shards+1:Nat):Int):=Yn hj (by omega);have hle:YaH n c.shards≤YaH n c.shards+1:=by omega
  have hz:((c.shards.map Yh).take (YaH n c.shards)).length+((c.shards.map Yh).drop (YaH n c.shards+1)).length=c.shards.length-1:=by
   rw[GG,GL,Gj];omega
  simp only[go_sem,k314,k307,q,hinc,hj1,hlim,hle,hz,GF,GaF,Gao]
 |false=>
  simp only[go_sem,k314,q]
def H311 (Pg:PgT):Prop:=Pg 311=some (.code F311)∧H186 Pg
theorem K311 (h:H311 Pg) (a b:Span):K' Pg 311 [.agg (Y6 a),.agg (Y6 b)]=some (eSE (Y7 a b)):=by
 obtain⟨h,h186⟩:=h;have ka:=K186 h186 a;have kb:=K186 h186 b;simp only[Y6] at ka kb;refine Qb h rfl ?_;cases c1:YC a with
 |false=>simp only[go_sem,ka,c1,Y7,YaP]
 |true=>
 cases c2:YC b with
 |false=>simp only[go_sem,ka,kb,c1,c2,Y7,YaP]
 |true=>
 cases c3:decide (a.hi=[]) with
 |true=>simp only[go_sem,ka,kb,c1,c2,c3,Y7,YaP]
 |false=>cases c4:decide (a.hi=b.lo)<;>simp only[go_sem,ka,kb,c1,c2,c3,c4,Y7,YaP]
@[go_sem] def YjR (o:Option Ver):V:=.tuple [.agg (Yam (o.getD Yan)),.bool o.isSome]
def H312 (Pg:PgT):Prop:=Pg 312=some (.code F312)∧H10 Pg∧H203 Pg∧H220 Pg
theorem K312 (h:H312 Pg) (l:List Entr) (k:List UInt8) (t:Stamp) (hl:Sm l):K' Pg 312 [Yf l,.str k,.agg (Yd t)]=some (YjR (Yco l k t)):=by
 obtain⟨h,h10,h203,h220⟩:=h;have k203:=K203 h203 l hl;simp only[Yf] at k203;refine Qb h rfl ?_;cases c1:ixR l with
 |false=>simp only[go_sem,k203,c1,Yco,Yan,Option.getD_none,Option.isSome_none]
 |true=>
 have k220:=K220 h220 l k c1;simp only[Yf] at k220;cases c2:YW k l with
 |false=>simp only[go_sem,k203,k220,c1,c2,Yco,Yan,Option.getD_none,Option.isSome_none]
 |true=>
  obtain⟨e,he,-⟩:=YeW c2;have k10:=K10 h10 e.chain t (by have:=(hl.at he).1;omega);simp only[Ye,Yd,eOV] at k10;simp only[Yam] at k10;simp only[go_sem,k203,k220,c1,c2,he,Ye,k10,Yco]
def H286 (Pg:PgT):Prop:=Pg 286=some (.code F286)
theorem K286 (h:H286 Pg) (e:Int):K' Pg 286 [iz e]=some (.agg (YaQ (fault e))):=by
 refine Qb h rfl ?_;simp only[go_sem,fault]
def H288 (Pg:PgT):Prop:=Pg 288=some (.code F288)
theorem K288 (h:H288 Pg) (r:Rq):K' Pg 288 [.agg (eRq r)]=some (.bool (wrR r)):=by
 refine Qb h rfl ?_;cases c1:decide (r.kind=1) with
 |true=>simp only[go_sem,c1,wrR]
 |false=>cases c2:decide (r.kind=2)<;>simp only[go_sem,c1,c2,wrR]
def H290 (Pg:PgT):Prop:=Pg 290=some (.code F290)∧H312 Pg
theorem K290 (h:H290 Pg) (c:Cel) (s:Shd) (k:List UInt8) (hs:Sm s.ents):K' Pg 290 [.agg (Yk c),.agg (Yh s),.str k]=some (.agg (YaQ (YF s k c.top))):=by
 obtain⟨h,h312⟩:=h;have k312:=K312 h312 s.ents k c.top hs;simp only[Yf,Yd,YjR] at k312;refine Qb h rfl ?_;unfold YF;cases q:Yco s.ents k c.top with
 |none=>
  simp only[q,Option.getD_none,Option.isSome_none,Yan,Yam] at k312;simp only[go_sem,k312,fault]
 |some v=>
  simp only[q,Option.getD_some,Option.isSome_some,Yam] at k312;simp only[go_sem,k312]
def H247 (Pg:PgT):Prop:=Pg 247=some (.code F247)∧H249 Pg∧H284 Pg∧H287 Pg
@[go_sem] def YeF (o:Option Shd):V:=.tuple [.agg (Yh (o.getD Yl)),.bool o.isSome]
theorem YcG {s:Shd} (h:1≤s.id):decide (s.id=0)=false:=Gp (by omega)
theorem K247 (h:H247 Pg) (c:Cel) (n:Int) (hc:SmC c):K' Pg 247 [.agg (Yk c),iz n]=some (YeF (YP c n)):=by
 obtain⟨h,h249,h284,h287⟩:=h;have k249:=K249 h249 c hc;have k284:=K284a h284 1 n;simp only[rg1] at k284;simp only[Yk,Ys] at k249;refine Qb h rfl ?_;cases c1:Yy c with
 |false=>simp only[go_sem,k249,c1,YP,Yl,Option.getD_none,Option.isSome_none]
 |true=>
 cases c2:Yr n with
 |false=>simp only[go_sem,k249,k284,c1,c2,YP,Yl,Option.getD_none,Option.isSome_none]
 |true=>
 have hord:=Ybv c1;have k287:=K287 h287 c n hord (by simpa [Yr] using c2);simp only[Yk,Ys] at k287;cases q:YY c.shards n with
 |none=>
  simp only[q,Option.getD_none,Yl] at k287;simp only[go_sem,k249,k284,k287,c1,c2,q,YP,Yl,Option.getD_none,Option.isSome_none]
 |some s=>
  have hid:=YcG (hord.2.2 s (Yo q).1).1;simp only[q,Option.getD_some] at k287;simp only[go_sem,k249,k284,k287,c1,c2,q,hid,YP,Option.getD_some,Option.isSome_some]
def YaM (s:Sto) (wall:Int) (m:Msg):Bool:=Ybw s&&(Yeo m&&(!decide (wall<0)&&(!decide (1099511627776<wall)&&decide (m.to=s.id))))
theorem Yjt {m:Msg} (h:Yeo m=true):1≤m.kind∧m.kind≤37:=by
 simp only[Yeo,Gc,GN,Gq] at h;obtain⟨⟨h1,h2,-⟩,-⟩:=h;omega
def H6413 (Pg:PgT):Prop:=Pg 413=some (.code F413)∧H408 Pg∧H341 Pg∧H437 Pg
theorem K413w (h:H6413 Pg) (s:Sto) (wall:Int) (m:Msg) (hs:Ybd s) (k408:K' Pg 408 [.agg (YU s)]=some (.bool (Ybw s))) (ha:(Yw s m.n).rep.acks.length≤9000) (ho:(Yw s m.n).outs.length≤9000) (hm:SmM m) (hk:35≤m.kind)
  (kt:K' Pg 430 [.str m.text]=some (.bool (Yab m.text))):K' Pg 413 [.agg (YU s),iz wall,.agg (Y9 m)]=some (eSM (if YaM s wall m then Yau s m else (s,[]))):=by
 obtain⟨h,h408,h341,h437⟩:=h
 have k341:=K341 h341 m hm
 simp only[go_sem] at k408 k341
 refine Qb h rfl ?_
 have nok:∀b,YaM s wall m=b→b=false→(if YaM s wall m then Yau s m else (s,[]))=(s,[]):=fun b e1 e2=>by rw[e1,e2];rfl
 cases d1:Ybw s with
 |false=>
  rw[d1] at k408
  rw[nok _ rfl (by simp only[YaM,d1,Gs])]
  simp only[F413,c413,go_sem,k408,Gk]
 |true=>
 rw[d1] at k408
 cases d2:Yeo m with
 |false=>
  rw[d2] at k341
  rw[nok _ rfl (by simp only[YaM,d2,Gs,GB])]
  simp only[F413,c413,go_sem,k408,k341,Gk]
 |true=>
 rw[d2] at k341
 cases d3:decide (wall<0) with
 |true=>
  rw[nok _ rfl (by simp only[YaM,d3,GQ,Gs,GB])]
  simp only[F413,c413,go_sem,k408,k341,d3,Gk]
 |false=>
 cases d4:decide (1099511627776<wall) with
 |true=>
  rw[nok _ rfl (by simp only[YaM,d4,GQ,Gs,GB])]
  simp only[F413,c413,go_sem,k408,k341,d3,d4,Gk]
 |false=>
 cases d5:decide (m.to=s.id) with
 |false=>
  rw[nok _ rfl (by simp only[YaM,d5,GB])]
  simp only[F413,c413,go_sem,k408,k341,d3,d4,d5,Gk]
 |true=>
  have hok:YaM s wall m=true:=by simp only[YaM,d1,d2,d3,d4,d5];rfl
  rw[hok,Gr rfl]
  have hkk:=Yjt d2
  have k437:=K437 h437 s m hs ha hm.2.2 ho (by omega) kt
  simp only[go_sem] at k437
  have c35:m.kind=35∨m.kind=36∨m.kind=37:=by omega
  cases e1:decide (m.kind=35) with
  |true=>simp only[F413,c413,go_sem,k408,k341,k437,d3,d4,d5,e1]
  |false=>
  cases e2:decide (m.kind=36) with
  |true=>simp only[F413,c413,go_sem,k408,k341,k437,d3,d4,d5,e1,e2]
  |false=>
   have e3:decide (m.kind=37)=true:=by
    have:=Gb e1;have:=Gb e2;exact GD (by omega)
   simp only[F413,c413,go_sem,k408,k341,k437,d3,d4,d5,e1,e2,e3]
theorem YgK {o:Own}:∀{l:List Own},(Ybf l o).find? (YcE o.cell)=some o
 |[]=>by simp[Ybf,YcE]
 |p::l=>by
  rw[Ybf];split
  ·split
   ·simp[YcE]
   ·simp[YcE]
  ·rename_i h;have:YcE o.cell p=false:=by simp only[YcE,Gq];omega
   rw[List.find?_cons,this,YgK]
theorem YfP {s:Sto} {c:Int} {o:Own} (h:atO s c=some o):Yw s c=o:=by unfold Yw;rw[h];rfl
theorem Ygd {o x:Own}:∀{l:List Own},x∈Ybf l o→x=o∨x∈l
 |[],h=>by simpa [Ybf] using h
 |p::l,h=>by
  rw[Ybf] at h;split at h
  ·split at h
   ·rcases GI.1 h with h|h
    ·exact .inl h
    ·exact .inr (G5 _ h)
   ·rcases GI.1 h with h|h
    ·exact .inl h
    ·exact .inr h
  ·rcases GI.1 h with h|h
   ·exact .inr (by rw[h];exact GR ..)
   ·rcases Ygd h with h|h
    ·exact .inl h
    ·exact .inr (G5 _ h)
theorem Yd3 {o:Own}:∀{l:List Own},(Ybf l o).length≤l.length+1
 |[]=>by simp[Ybf]
 |p::l=>by
  have:=Yd3 (o:=o) (l:=l);rw[Ybf];split
  ·split<;>simp
  ·simp only[List.length_cons];omega
def Bd (k n t:Nat) (s:Sto):Prop:=s.owns.length≤k∧∀o∈s.owns,o.rep.members.length≤n∧o.rep.acks.length≤n∧o.outs.length≤n∧o.rep.base.length≤t∧o.rep.text.length≤t∧∀m∈o.outs,SmM m
theorem Bd.ok {k n t:Nat} {s:Sto} (h:Bd k n t s) (hk:k≤10000) (hn:n≤10000):Ybd s:=
 ⟨by have:=h.1;omega,fun o ho=>by
  obtain⟨a,b,c,-,-,d⟩:=h.2 o ho;exact⟨⟨by omega,by omega⟩,by omega,d⟩⟩
theorem Bd.find {k n t:Nat} {s:Sto} (h:Bd k n t s) (c:Int):(Yw s c).rep.members.length≤n∧(Yw s c).rep.acks.length≤n∧(Yw s c).outs.length≤n∧(Yw s c).rep.base.length≤t∧(Yw s c).rep.text.length≤t∧∀m∈(Yw s c).outs,SmM m:=by
 cases e:(atO s c).isSome with
 |true=>exact h.2 _ (Ydm e).1
 |false=>
  unfold Yw;cases e':atO s c with
  |some o=>rw[e'] at e;cases e
  |none=>simp[YhY]
theorem Yje {k n t:Nat} {s:Sto} {m:Msg} (h:Bd k n t s) (hm:m.mem.length≤n) (ht:m.text.length≤t):Bd (k+1) (n+1) t (Yau s m).1:=by
 have hw:Bd (k+1) (n+1) t s:=⟨by have:=h.1;omega,fun o ho=>by
  obtain⟨a,b,c,d,e,f⟩:=h.2 o ho;exact⟨by omega,by omega,by omega,d,e,f⟩⟩
 unfold Yau;split
 ·exact hw
 ·split
  ·exact hw
  ·obtain⟨a,b,c,d,e,f⟩:=h.find m.n;obtain⟨l1,l2,-,l4,l5⟩:=hear_len' (r:=(Yw s m.n).rep) (w:=Yd8 m);refine⟨GJ Yd3 (by have:=h.1;omega),fun o ho=>?_⟩;rcases Ygd ho with rfl|ho
   ·have hmm:(Yd8 m).members.length≤n:=hm;have htt:(Yd8 m).text.length≤t:=ht;refine⟨?_,?_,?_,?_,?_,?_⟩
    ·exact GJ l1 (by omega)
    ·exact GJ l2 (by omega)
    ·unfold Ycl;simp only;split
     ·omega
     ·simp
    ·show (Yx (Yw s m.n).rep (Yd8 m)).1.base.length≤t
     rcases l4 with l|l|⟨l,-⟩<;>rw[l]<;>assumption
    ·show (Yx (Yw s m.n).rep (Yd8 m)).1.text.length≤t
     rcases l5 with l|⟨l,-⟩<;>rw[l]<;>assumption
    ·unfold Ycl;simp only;split
     ·exact f
     ·intro m hm;cases hm
   ·exact hw.2 o ho
def Ygo (w:Int):Bool:=decide (0≤w)&&decide (w≤1099511627776)
def Yck (a:Stamp) (w:Int):Stamp×Int:=
 if Ya a&&Ygo w then (if a.wall<w then (⟨w,0,a.node⟩,0) else if a.tick=1048576 then (⟨0,0,0⟩,6) else (⟨a.wall,a.tick+1,a.node⟩,0)) else (⟨0,0,0⟩,1)
theorem Yfk {a:Stamp} (h:Ya a=true):(0≤a.wall∧a.wall≤1099511627776)∧(0≤a.tick∧a.tick≤1048576)∧0≤a.node∧a.node≤255:=by
 simp only[Ya,Ydi,Gc,Gi] at h;omega
def H499 (Pg:PgT):Prop:=Pg 499=some (.code F499)∧H28 Pg
theorem K499 (h:H499 Pg) (a:Stamp) (w:Int):K' Pg 499 [.agg (Yd a),iz w]=some (.bool (Ya a&&Ygo w)):=by
 obtain⟨h,h28⟩:=h;have k:=K28 h28 a;simp only[go_sem] at k;refine Qb h rfl ?_;cases c1:Ya a with
 |false=>rw[c1] at k;simp only[F499,c499,go_sem,k,Gs]
 |true=>
  rw[c1] at k;cases c2:decide (0≤w)<;>simp only[F499,c499,go_sem,k,Ygo,c2,GP]
def H474 (Pg:PgT):Prop:=Pg 474=some (.code F474)∧H499 Pg
theorem K474 (h:H474 Pg) (a:Stamp) (w:Int):∃c:Stamp,K' Pg 474 [.agg (Yd a),iz w]=some (.tuple [.agg (Yd c),.agg (Yd (Yck a w).1),iz (Yck a w).2]):=by
 obtain⟨h,h499⟩:=h;have k:=K499 h499 a w;simp only[go_sem] at k;unfold Yck;cases c1:(Ya a&&Ygo w) with
 |false=>
  rw[c1] at k;refine⟨⟨0,0,0⟩,Qb h rfl ?_⟩;simp only[F474,c474,go_sem,k,Gm,Gu]
 |true=>
  rw[c1] at k;simp only[Gc] at c1;obtain⟨p1,p2,p3⟩:=Yfk c1.1;simp only[Gz];cases c2:decide (a.wall<w) with
  |true=>
   rw[Gr (Gg c2)];refine⟨⟨w,0,a.node⟩,Qb h rfl ?_⟩;simp only[F474,c474,go_sem,k,c2]
  |false=>
   rw[Gn (Gb c2)];cases c3:decide (a.tick=1048576) with
   |true=>
    rw[Gr (Gg c3)];refine⟨⟨0,0,0⟩,Qb h rfl ?_⟩;simp only[F474,c474,go_sem,k,c2,c3]
   |false=>
    rw[Gn (Gb c3)];have hw:IntKind.i64.wrap (a.tick+1)=a.tick+1:=JiG (by omega) (by omega);refine⟨⟨a.wall,a.tick+1,a.node⟩,Qb h rfl ?_⟩;simp only[F474,c474,go_sem,k,c2,c3,hw]
def doneM (id:Int) (m:Msg) (a:Ans):Msg:={zMs with kind:=2,from_:=id,to:=m.from_,n:=m.n,req:={Ycj with client:=m.req.client,req:=m.req.req},ans:=a}
def H439 (Pg:PgT):Prop:=Pg 439=some (.code F439)
theorem K439 (h:H439 Pg) (s:Sto) (m:Msg) (a:Ans):K' Pg 439 [.agg (YU s),.agg (Y9 m),.agg (YaQ a)]=some (.agg (Y9 (doneM s.id m a))):=by
 refine Qb h rfl ?_;simp only[F439,c439,go_sem,doneM,zMs,Ycj,YbY,Gk]
def propS (s:Sto) (o:Own) (c:Cel) (outs:List Msg):Sto×List Msg:=
 if (Yv o.rep (cB c)).2.2≠0 then (s,[])
 else (⟨s.id,Ybf s.owns ⟨o.cell,(Yv o.rep (cB c)).1,if YI (Yv o.rep (cB c)).1 then outs else []⟩⟩,Yai o.cell (Yv o.rep (cB c)).2.1++if YI (Yv o.rep (cB c)).1 then [] else outs)
theorem YhO {r:Rep} {t:List UInt8} (hm:r.members.length≤10000):(Yv r t).1.members.length≤10000∧(Yv r t).1.acks.length≤max 1 r.acks.length∧(Yv r t).2.1.length≤10000∧Yh1 (Yv r t).2.1:=by
 have z:Yu.members.length≤10000∧Yu.acks.length≤max 1 r.acks.length∧([]:List Word).length≤10000∧Yh1 []:=⟨by simp[Yu],by simp[Yu],by simp,fun w hw=>by cases hw⟩;unfold Yv;split
 ·split
  ·split
   ·split
    ·exact z
    ·obtain⟨e1,e2,e3,e4,e5,e6⟩:=Yba ⟨r.id,r.view,r.members,r.n+1,r.base,t,[r.id]⟩;refine⟨by rw[e3];exact hm,by rw[e6];simp;omega,GJ Ybu hm,Ydq⟩
   ·exact z
  ·exact z
 ·exact z
def H442 (Pg:PgT):Prop:=Pg 442=some (.code F442)∧H401 Pg∧H47 Pg∧H429 Pg∧H41 Pg∧H473 Pg
theorem K442 (h:H442 Pg) (s:Sto) (o:Own) (c:Cel) (outs:List Msg) (hs:s.owns.length≤100000) (ho:RepOk o.rep) (hc:Yy c=true) (hl:outs.length≤10000) :
  K' Pg 442 [.agg (YU s),.agg (YbL o),.agg (Yk c),Ybo outs]=some (eSM (propS s o c outs)):=by
 obtain⟨h,h401,h47,h429,h41,h473⟩:=h
 have k401:=K401 h401 c (Yal hc)
 rw[Gr hc] at k401
 have k47:=K47 h47 o.rep (cB c) ho.ok ho.1
 obtain⟨l1,l2,l3,l4⟩:=YhO (t:=cB c) ho.1
 have rok:RepOk (Yv o.rep (cB c)).1:=⟨l1,by have:=ho.2;omega⟩
 have k41:=K41 h41 (Yv o.rep (cB c)).1 rok.ok
 have k429:=K429 h429 o.cell (Yv o.rep (cB c)).2.1 l4 (by omega)
 have k473:=fun x=>K473 h473 s ⟨o.cell,(Yv o.rep (cB c)).1,x⟩ hs
 have hsl:(Yai o.cell (Yv o.rep (cB c)).2.1).length≤10000:=by simpa [Yai] using l3
 unfold propS
 generalize cB c=bs at *
 generalize Yv o.rep bs=p at *
 obtain⟨r,wl,e⟩:=p
 simp only[Yg7] at k47
 simp only at k41 k429 k473 hsl ⊢
 generalize Yai o.cell wl=sl at *
 have hlim:sl.length+outs.length≤lim:=by unfold lim;omega
 simp only[go_sem] at k401 k47 k41 k429 k473
 refine Qb h rfl ?_
 cases c1:decide (e=0) with
 |false=>
  rw[Gr (Gb c1)]
  simp only[F442,c442,go_sem,k401,k47,c1,Gk]
 |true=>
  rw[Gn (by simpa using Gg c1)]
  cases c2:YI r with
  |true=>
   rw[c2] at k41
   simp only[Gz,Gv]
   simp only[F442,c442,go_sem,k401,k47,c1,k41,k429,k473,Gj]
  |false=>
   rw[c2] at k41
   have k:=k473 []
   simp only[Gk] at k
   simp only[Gm,Gu]
   simp only[F442,c442,go_sem,k401,k47,c1,k41,k429,k,hlim,Gj,GF,Gk,Ge]
theorem YjQ:eIt=Ylm:=rfl
@[go_sem] def eCA (x:Cel×Ans):V:=.tuple [.agg (Yk x.1),.agg (YaQ x.2)]
def OnN (P:St→Prop):Ex→St→Prop:=fun ex S=>ex=.norm∧P S
@[go_sem] theorem YmT {P:St→Prop} {S:St}:OnN P .norm S=P S:=by simp[OnN]
theorem Yiv {s:Stamp} (h:Ya s=true):0≤s.wall∧s.wall≤1099511627776:=by
 simp only[Ya,Ydi,Gc,Gi] at h;omega
def H291 (Pg:PgT):Prop:=Pg 291=some (.code F291)∧H15 Pg∧H21 Pg∧H192 Pg∧H206 Pg∧H286 Pg∧H312 Pg
theorem K291 (h:H291 Pg) (c:Cel) (s:Shd) (r:Rq) (wall:Int) (hs:Sm s.ents) (hr:ixR s.ents=true) (ht:Ya r.at_=true) :
  K' Pg 291 [.agg (Yk c),.agg (Yh s),.agg (eRq r),iz wall]=some (eCA (Ya4 c s r wall)):=by
 obtain⟨h,h15,h21,h192,h206,h286,h312⟩:=h
 have k15:=K15 h15 r.at_ s.mark
 have k21:=K21 h21 c.top r.at_
 have k192:=K192 h192 s.span.hi r.hi
 have f13:=K286 h286 13
 have f12:=K286 h286 12
 have k312:=K312 h312 s.ents r.key r.at_ hs
 have k206:=fun hi=>K206 h206 s.ents r.key hi r.at_ r.limit hs
 simp only[hr,Gz,Yf,Yg6,YfM,YjQ,Yd] at k206
 simp only[Yf,Yd,YjR,Yam] at k15 k21 k312
 simp only[YaQ,YB,fault,Gk] at f13 f12
 have hw:IntKind.i64.wrap (r.at_.wall-1000)=r.at_.wall-1000:=by have:=Yiv ht;exact JiG (by omega) (by omega)
 have hlt:decide (YD (Yq s.span.hi) (Yq r.hi)<0)=ltS s.span.hi r.hi:=rfl
 clear h15 h21 h192 h206 h286 h312 hr ht hs
 refine Qb h rfl ?_
 clear h
 cases c1:decide (Yb r.at_ s.mark<0) with
 |true=>
  have hm:Ya4 c s r wall=(c,fault 13):=by simp only[Ya4,Gg c1,Gz]
  rw[hm]
  simp only[go_sem,fault, *]
 |false=>
 have c1':=Gb c1
 cases c2:decide (wall<r.at_.wall-1000) with
 |true=>
  have hm:Ya4 c s r wall=(c,fault 12):=by simp only[Ya4,c1',Gg c2,Gz,Gu]
  rw[hm]
  simp only[go_sem,fault, *]
 |false=>
 have hm:Ya4 c s r wall=(⟨c.shards,later c.top r.at_,c.dropped⟩,if r.kind=5 then Ygq s r else Yfj s r):=by simp only[Ya4,c1',Gb c2,Gu]
 rw[hm]
 cases c3:decide (r.kind=5) with
 |true=>
  rw[Gr (Gg c3)]
  unfold Ygq
  cases q:Yco s.ents r.key r.at_ with
  |none=>
   simp only[q,Option.getD_none,Option.isSome_none,Yan] at k312
   simp only[go_sem,k15,k21,k312,hw,c1,c2,c3]
  |some v=>
   simp only[q,Option.getD_some,Option.isSome_some] at k312
   simp only[go_sem,k15,k21,k312,hw,c1,c2,c3]
 |false=>
  rw[Gn (Gb c3)]
  unfold Yfj hiP
  cases q1:decide (s.span.hi=[]) with
  |true=>
   have ho:onP s r=false:=by simp[onP,q1]
   simp only[go_sem,k15,k21,k206,hw,c1,c2,c3,q1,ho]
  |false=>
  cases q2:decide (r.hi=[]) with
  |true=>
   have ho:onP s r=true:=by simp[onP,q1,q2]
   simp only[ho,Gz,GP]
   have k:=k206 s.span.hi
   generalize YbC s.ents r.key s.span.hi r.at_ r.limit=p at k
   cases q4:p.2.2<;>simp only[go_sem,k15,k21,k,hw,c1,c2,c3,q1,q2,q4]
  |false=>
   cases q3:ltS s.span.hi r.hi with
   |true=>
    have ho:onP s r=true:=by simp[onP,q1,q3]
    simp only[ho,Gz,GP]
    have k:=k206 s.span.hi
    generalize YbC s.ents r.key s.span.hi r.at_ r.limit=p at k
    cases q4:p.2.2<;>simp only[go_sem,k15,k21,k192,hlt,k,hw,c1,c2,c3,q1,q2,q3,q4]
   |false=>
    have ho:onP s r=false:=by simp[onP,q1,q2,q3]
    simp only[go_sem,k15,k21,k192,hlt,k206,hw,c1,c2,c3,q1,q2,q3,ho]
def Ylw:C:=.seq (.region false r289_12) (.cond (.g 55) (.region true r289_13) (.seq (.region false r289_14) (.cond (.g 81) (.region false r289_15) (.seq (.region false r289_16) (.cond (.g 98) (.region false r289_17) (.skip))))))
def Ylv:C:=.seq (.seq (.region false r289_18) (.cond (.g 113) (.seq (.region true r289_19) (.ret)) (.skip))) (.seq (.seq (.region false r289_20) (.seq (.region false r289_21) (.cond (.g 131) (.seq (.region true r289_22) (.ret)) (.skip)))) (.seq (.region false r289_23) (.seq (.region false r289_24) (.seq (.region true r289_25) (.ret)))))
theorem c289_eq:c289=.seq (.region false r289_0) (.seq (.seq (.region false r289_1) (.block 0 (.seq (.region false r289_2) (.cond (.g 22) (.seq (.region false r289_3) (.seq (.region true r289_4) (.ret))) (.seq (.region false r289_5) (.cond (.g 35) (.seq (.region true r289_6) (.ret)) (.skip))))))) (.seq (.seq (.region false r289_7) (.cond (.g 43) (.seq (.region true r289_8) (.ret)) (.skip))) (.seq (.region false r289_9) (.seq (.region false r289_10) (.seq (.region false r289_11) (.seq (.block 1 Ylw) Ylv)))))):=rfl
def Ygx:List V:=[iz 0,iz 0,iz 0,iz 0,.bool false,.str [],.slice 2 [],.str [],.bool false]
def Ygy:List V:=[.slice 17 [],iz 0,iz 0,iz 0,iz 0]
structure P289 (c:Cel) (s':Shd) (r:Rq) (now:Stamp) (a:Ans) (e:Int) (S:St):Prop where
 g4:S.ρ 4=.lref 4 0
 g5:S.ρ 5=.lref 5 0
 g6:S.ρ 6=.lref 6 0
 g7:S.ρ 7=.lref 7 0
 g8:S.ρ 8=.lref 8 0
 g9:S.ρ 9=.lref 9 0
 g13:S.ρ 13=.lref 13 0
 g14:S.ρ 14=iz e
 m4:S.μ 4=some (Yk c,false)
 m5:S.μ 5=some (Yh s',false)
 m6:S.μ 6=some (eRq r,false)
 m7:S.μ 7=some (Yd now,false)
 m8:S.μ 8=some (Ygy,false)
 m9:S.μ 9=some (Ygx,false)
 m13:S.μ 13=some (YaQ a,false)
def H289 (Pg:PgT):Prop:=Pg 289=some (.code F289)∧H15 Pg∧H82 Pg∧H84 Pg∧H88 Pg∧H200 Pg∧H286 Pg∧H290 Pg∧H304 Pg
theorem YmH (h200:H200 Pg) (c:Cel) (s:Shd) (r:Rq) (now:Stamp) (o:Ans) (hs:Sm s.ents) (S:St) (hP:P289 c s r now ⟨0,now,o.found,[],[],[],false⟩ 0 S) (g12:S.ρ 12=.lref 12 0) (m12:S.μ 12=some (YaQ o,false)) :
  Wp (K' Pg) Ylw S (OnN (P289 c {s with ents:=(YT o s r now).1} r now (YaE o r now) (YT o s r now).2)):=by
 obtain⟨g4,g5,g6,g7,g8,g9,g13,g14,m4,m5,m6,m7,m8,m9,m13⟩:=hP
 have kp:=K200 h200 s.ents r.key ⟨now,false,r.value⟩ hs
 have kd:=K200 h200 s.ents r.key ⟨now,true,[]⟩ hs
 simp only[Yf,eEE,Yam] at kp kd
 unfold Ylw
 have swap:∀(s':Shd) (a:Ans) (e:Int) (S':St),(S'.ρ 4=.lref 4 0∧S'.ρ 5=.lref 5 0∧S'.ρ 6=.lref 6 0∧S'.ρ 7=.lref 7 0∧S'.ρ 8=.lref 8 0∧S'.ρ 9=.lref 9 0∧S'.ρ 13=.lref 13 0∧S'.ρ 14=iz e∧S'.μ 4=some (Yk c,false)∧S'.μ 5=some (Yh s',false)∧S'.μ 6=some (eRq r,false)∧S'.μ 7=some (Yd now,false)∧S'.μ 8=some (Ygy,false)∧S'.μ 9=some (Ygx,false)∧S'.μ 13=some (YaQ a,false))→P289 c s' r now a e S':=
  fun s' a e S' ⟨a1,a2,a3,a4,a5,a6,a7,a8,a9,a10,a11,a12,a13,a14,a15⟩=>⟨a1,a2,a3,a4,a5,a6,a7,a8,a9,a10,a11,a12,a13,a14,a15⟩
 have clash:Ya5 o r=true→P289 c {s with ents:=(YT o s r now).1} r now (YaE o r now) (YT o s r now).2=P289 c s r now ⟨15,now,o.found,o.val,[],[],false⟩ 0:=fun hc=>by
  simp only[YT,YaE,hc,Gz]
 have put:Ya5 o r=false→decide (r.kind=2)=false→P289 c {s with ents:=(YT o s r now).1} r now (YaE o r now) (YT o s r now).2=P289 c {s with ents:=(YaV s.ents r.key ⟨now,false,r.value⟩).1} r now ⟨0,now,o.found,[],[],[],false⟩ (YaV s.ents r.key ⟨now,false,r.value⟩).2:=fun hc hk=>by
  simp only[YT,YaE,hc,hk,GY,Gz,Gm,Gu]
 have delt:Ya5 o r=false→decide (r.kind=2)=true→o.found=true→P289 c {s with ents:=(YT o s r now).1} r now (YaE o r now) (YT o s r now).2=P289 c {s with ents:=(YaV s.ents r.key ⟨now,true,[]⟩).1} r now ⟨0,now,o.found,[],[],[],false⟩ (YaV s.ents r.key ⟨now,true,[]⟩).2:=fun hc hk hf=>by
  simp only[YT,YaE,hc,hk,hf,GQ,Gz,Gm,Gu]
 have delf:Ya5 o r=false→decide (r.kind=2)=true→o.found=false→P289 c {s with ents:=(YT o s r now).1} r now (YaE o r now) (YT o s r now).2=P289 c s r now ⟨0,now,o.found,[],[],[],false⟩ 0:=fun hc hk hf=>by
  simp only[YT,YaE,hc,hk,hf,GQ,Gm,Gu]
 cases q1:decide (r.kind=3) with
 |true=>
  have q5:decide (r.kind=2)=false:=Gp (by have:=Gg q1;omega)
  cases q2:(o.found == r.had) with
  |false=>
   rw[clash (by rw[Ya5,q1,q2];rfl)]
   simp only[go_sem,g6,g12,g13,m6,m12,m13,q1,q2]
   exact swap _ _ _ _ (by simp only[go_sem,g4,g5,g6,g7,g8,g9,g13,g14,m4,m5,m6,m7,m8,m9])
  |true=>
  cases q3:o.found with
  |false=>
   rw[put (by rw[Ya5,q2,q3,q1];rfl) q5,q3]
   simp only[YaQ] at m12 m13
   rw[q3] at q2 m12 m13
   simp only[go_sem,g5,g6,g7,g12,m5,m6,m7,m12,q1,q2,q5,kp]
   exact swap _ _ _ _ (by simp only[go_sem,g4,g5,g6,g7,g8,g9,g13,m4,m6,m7,m8,m9,m13])
  |true=>
  cases q4:decide (o.val=r.old) with
  |false=>
   rw[clash (by rw[Ya5,q1,q2,q3,q4];rfl),q3]
   simp only[YaQ] at m12 m13
   rw[q3] at q2 m12 m13
   simp only[go_sem,g6,g12,g13,m6,m12,m13,q1,q2,q4]
   exact swap _ _ _ _ (by simp only[go_sem,g4,g5,g6,g7,g8,g9,g13,g14,m4,m5,m6,m7,m8,m9])
  |true=>
   rw[put (by rw[Ya5,q1,q2,q3,q4];rfl) q5,q3]
   simp only[YaQ] at m12 m13
   rw[q3] at q2 m12 m13
   simp only[go_sem,g5,g6,g7,g12,m5,m6,m7,m12,q1,q2,q4,q5,kp]
   exact swap _ _ _ _ (by simp only[go_sem,g4,g5,g6,g7,g8,g9,g13,m4,m6,m7,m8,m9,m13])
 |false=>
  have hc:Ya5 o r=false:=by rw[Ya5,q1];rfl
  cases q5:decide (r.kind=2) with
  |false=>
   rw[put hc q5]
   simp only[go_sem,g5,g6,g7,m5,m6,m7,q1,q5,kp]
   exact swap _ _ _ _ (by simp only[go_sem,g4,g5,g6,g7,g8,g9,g13,m4,m6,m7,m8,m9,m13])
  |true=>
  cases q3:o.found with
  |false=>
   rw[delf hc q5 q3,q3]
   simp only[YaQ] at m12 m13
   rw[q3] at m12 m13
   simp only[go_sem,g6,g12,m6,m12,q1,q5]
   exact swap _ _ _ _ (by simp only[go_sem,g4,g5,g6,g7,g8,g9,g13,g14,m4,m5,m6,m7,m8,m9,m13])
  |true=>
   rw[delt hc q5 q3,q3]
   simp only[YaQ] at m12 m13
   rw[q3] at m12 m13
   simp only[go_sem,g5,g6,g7,g12,m5,m6,m7,m12,q1,q5,kd]
   exact swap _ _ _ _ (by simp only[go_sem,g4,g5,g6,g7,g8,g9,g13,m4,m6,m7,m8,m9,m13])
theorem YmG (h88:H88 Pg) (h286:H286 Pg) (h304:H304 Pg) (c:Cel) (s:Shd) (r:Rq) (now:Stamp) (a:Ans) (e:Int) (hc:OrdS c.shards) (hn:1≤s.id∧s.id≤1099511627776) (hd:s.done.length≤10000) (S:St) (hP:P289 c s r now a e S) (z:Cel×Ans)
  (hz:z=if e≠0 then (c,fault e) else if (Yay s.done ⟨r.client,r.req,a⟩).2≠0 then (c,fault (Yay s.done ⟨r.client,r.req,a⟩).2) else (⟨putC c.shards {s with done:=(Yay s.done ⟨r.client,r.req,a⟩).1},now,c.dropped⟩,a)) :
  Wp (K' Pg) Ylv S (fun ex S=>(ex=.norm∨ex=.ret)∧JaF F289 S=some (eCA z)):=by
 obtain⟨g4,g5,g6,g7,g8,g9,g13,g14,m4,m5,m6,m7,m8,m9,m13⟩:=hP
 have k88:=K88 h88 s.done ⟨r.client,r.req,a⟩ (by omega)
 have fe:=K286 h286 e
 have k304:=fun d=>K304 h304 c {s with done:=d} hc hn
 simp only[Yc,eTE,YQ,YB] at k88
 simp only[YaQ,YB,fault,Gk] at fe
 simp only[Ygy,Ygx] at m8 m9
 unfold Ylv
 cases q1:decide (e=0) with
 |false=>
  rw[Gr (Gb q1)] at hz
  rw[hz]
  simp only[go_sem,g4,g8,g9,g14,m4,m8,m9,q1,fe,fault]
 |true=>
 rw[Gn (by simpa using Gg q1)] at hz
 generalize Yay s.done ⟨r.client,r.req,a⟩=p at k88 hz
 cases q2:decide (p.2=0) with
 |false=>
  have fp:=K286 h286 p.2
  simp only[YaQ,YB,fault,Gk] at fp
  rw[Gr (Gb q2)] at hz
  rw[hz]
  simp only[go_sem,g4,g5,g6,g8,g9,g13,g14,m4,m5,m6,m8,m9,m13,q1,q2,k88,fp,fault]
 |true=>
  rw[Gn (by simpa using Gg q2)] at hz
  have k304:=k304 p.1
  simp only[Yk,Ys,Yh,Yf,Yc,YcC] at k304
  rw[hz]
  simp only[go_sem,g4,g5,g6,g7,g8,g9,g13,g14,m4,m5,m6,m7,m8,m9,m13,q1,q2,k88,k304]
theorem K289 (h:H289 Pg) (c:Cel) (s:Shd) (r:Rq) (now:Stamp) (hc:OrdS c.shards) (hs:SmS s) (hn:1≤s.id∧s.id≤1099511627776) :
  K' Pg 289 [.agg (Yk c),.agg (Yh s),.agg (eRq r),.agg (Yd now)]=some (eCA (YH c s r now)):=by
 obtain⟨h,h15,h82,h84,h88,h200,h286,h290,h304⟩:=h
 have hd:=hs.2.1
 have k15:=K15 h15 now c.top
 have k82:=K82 h82 s.done r.client r.req (by omega)
 have k84:=K84 h84 s.done r.client (by omega)
 have k290:=K290 h290 c s r.key hs.1
 have f10:=K286 h286 10
 have f1:=K286 h286 1
 simp only[Yd] at k15
 simp only[Yc,eOD,YQ] at k82 k84
 simp only[Yk,Ys,Yh,Yf,Yc] at k290
 simp only[YaQ,YB,fault,Gk] at f10 f1
 refine Qb h rfl ?_
 simp only[F289]
 cases q1:decide (Yag s.done r.client r.req=2) with
 |true=>
  have hm:YH c s r now=(c,((Yb7 s.done r.client).getD YK).ans):=by simp only[YH,Gg q1,Gz]
  rw[hm]
  simp only[go_sem,k82,k84,q1]
 |false=>
 have q1':=Gb q1
 cases q2:decide (Yag s.done r.client r.req=3) with
 |true=>
  have hm:YH c s r now=(c,fault 10):=by unfold YH;rw[Gn q1',Gr (Gg q2)]
  rw[hm]
  simp only[go_sem,k82,q1,q2,f10,fault]
 |false=>
 have q2':=Gb q2
 cases q3:decide (Yb now c.top≤0) with
 |true=>
  have hm:YH c s r now=(c,fault 1):=by unfold YH;rw[Gn q1',Gn q2',Gr (Gg q3)]
  rw[hm]
  simp only[go_sem,k82,k15,q1,q2,q3,f1,fault]
 |false=>
 have q3':=Gb q3
 have hm:YH c s r now=if (YT (YF s r.key c.top) s r now).2≠0 then (c,fault (YT (YF s r.key c.top) s r now).2)
   else if (Yay s.done ⟨r.client,r.req,YaE (YF s r.key c.top) r now⟩).2≠0 then (c,fault (Yay s.done ⟨r.client,r.req,YaE (YF s r.key c.top) r now⟩).2)
   else (⟨putC c.shards {s with ents:=(YT (YF s r.key c.top) s r now).1,done:=(Yay s.done ⟨r.client,r.req,YaE (YF s r.key c.top) r now⟩).1},now,c.dropped⟩,YaE (YF s r.key c.top) r now):=by
  simp only[YH,q1',q2',q3',Gu]
 generalize YF s r.key c.top=o at k290 hm
 rw[c289_eq]
 simp only[go_sem,k82,k15,q1,q2,q3,k290]
 refine (YmH h200 c s r now o hs.1 _ ⟨?_,?_,?_,?_,?_,?_,?_,?_,?_,?_,?_,?_,?_,?_,?_⟩ ?_ ?_).mono ?_
 iterate 17 (simp only[go_sem,Ygy,Ygx])
 rintro ex S ⟨rfl,hP⟩
 simp only[JcM,Jcj]
 exact YmG h88 h286 h304 c {s with ents:=(YT o s r now).1} r now (YaE o r now) (YT o s r now).2 hc hn hd S hP _ hm
@[go_sem] def eCB (x:Cel×Bool):V:=.tuple [.agg (Yk x.1),.bool x.2]
theorem Yz {c:Cel} {n:Int} {s:Shd} (h:YP c n=some s):Yy c=true∧Yr n=true∧YY c.shards n=some s∧OrdS c.shards∧s.id=n∧1≤s.id∧s.id≤1099511627776∧s∈c.shards:=by
 unfold YP at h;split at h
 ·rename_i hc;rw[Gc] at hc;have ho:=Ybv hc.1;have hm:=(Yo h).1;exact⟨hc.1,hc.2,h,ho,(Yo h).2,(ho.2.2 s hm).1,(ho.2.2 s hm).2,hm⟩
 ·cases h
theorem leN {a b:Int}:decide (a≤b)=!decide (b<a):=by by_cases h:b<a<;>simp[h]<;>omega
def H256 (Pg:PgT):Prop:=Pg 256=some (.code F256)∧H247 Pg∧H284 Pg∧H304 Pg
theorem K256 (h:H256 Pg) (c:Cel) (n e l:Int) (hc:SmC c):K' Pg 256 [.agg (Yk c),iz n,iz e,iz l]=some (eCB (Ybk c n e l)):=by
 obtain⟨h,h247,h284,h304⟩:=h;have k247:=K247 h247 c n hc;have k284:=K284b h284 1 e l;simp only[rg1] at k284;simp only[Yk,Ys,YeF] at k247;clear h247 h284;refine Qb h rfl ?_;clear h;cases q:YP c n with
 |none=>
  have m:Ybk c n e l=(c,false):=by simp only[Ybk,q]
  rw[m];simp only[q,Option.getD_none,Option.isSome_none,Yl,Yh,Yf,Yc,Gk] at k247;simp only[go_sem,k247]
 |some s=>
 obtain⟨-,-,-,ho,-,hi1,hi2,-⟩:=Yz q;have k304:=K304 h304 c {s with hold:=l} ho ⟨hi1,hi2⟩;have hle:decide (l≤s.seen)=!decide (s.seen<l):=leN;simp only[Yk,Ys,Yh,Yf,Yc] at k304;simp only[q,Option.getD_some,Option.isSome_some,Yh,Yf,Yc] at k247;simp only[Ybk,q];clear q hc h304 ho hi1 hi2;cases c1:Yr e with
 |false=>simp only[go_sem,GU, *]
 |true=>
 cases c2:Yr l with
 |false=>simp only[go_sem,GU, *]
 |true=>
 cases c3:decide (s.epoch=e) with
 |false=>simp only[go_sem,GU, *]
 |true=>
 cases c4:decide (s.phase=1) with
 |false=>simp only[go_sem,GU, *]
 |true=>
 cases c5:decide (s.seen<l) with
 |false=>simp only[go_sem,GU, *]
 |true=>
 cases c6:decide (s.hold=0) with
 |true=>simp only[go_sem,GU, *]
 |false=>
 cases c7:decide (s.hold=l)<;>simp only[go_sem, *]
def H258 (Pg:PgT):Prop:=Pg 258=some (.code F258)∧H21 Pg∧H28 Pg∧H247 Pg∧H284 Pg∧H304 Pg
theorem K258 (h:H258 Pg) (c:Cel) (n l:Int) (t:Stamp) (hc:SmC c):K' Pg 258 [.agg (Yk c),iz n,iz l,.agg (Yd t)]=some (eCB (Ybp c n l t)):=by
 obtain⟨h,h21,h28,h247,h284,h304⟩:=h;have k247:=K247 h247 c n hc;have k284:=K284a h284 1 l;have k28:=K28 h28 t;have k21:=K21 h21 c.top t;simp only[rg1] at k284;simp only[Yd] at k28 k21;simp only[Yk,Ys,YeF] at k247;clear h247 h284 h28 h21;refine Qb h rfl ?_;clear h;cases q:YP c n with
 |none=>
  have m:Ybp c n l t=(c,false):=by simp only[Ybp,q]
  rw[m];simp only[q,Option.getD_none,Option.isSome_none,Yl,Yh,Yf,Yc,Gk] at k247;simp only[go_sem,k247]
 |some s=>
 obtain⟨-,-,-,ho,-,hi1,hi2,-⟩:=Yz q;have k304:=fun x=>K304 h304 c {s with seen:=l,hold:=x} ho ⟨hi1,hi2⟩;simp only[Yk,Ys,Yh,Yf,Yc,YcC] at k304;simp only[q,Option.getD_some,Option.isSome_some,Yh,Yf,Yc] at k247;simp only[Ybp,q];clear q hc h304 ho hi1 hi2;cases c1:Yr l with
 |false=>simp only[go_sem,GU, *]
 |true=>
 cases c2:Ya t with
 |false=>simp only[go_sem,GU, *]
 |true=>
 cases c3:decide (l≤s.seen) with
 |true=>
  have c3':=Gg c3;simp only[go_sem, *]
 |false=>
 have c3':=Gb c3;cases c4:decide (s.hold=l) with
 |true=>
  have c4':=Gg c4;simp only[c3',c4',Gz,Gu,GU];simp only[go_sem, *]
 |false=>
  have c4':=Gb c4;simp only[c3',c4',Gz,Gu,GU];simp only[go_sem, *]
theorem YcV {c:Cel} {n e:Int} {r:Rq} {now:Stamp} {w:Int} (h:(Yy c&&(Yr n&&(Yr e&&(nou w&&(Ya now&&rqR r)))))=false):doC c n e r now w=(c,fault 1):=by
 simp only[doC,h,Gm,Gu]
theorem Ylr {r:Rq} (h:rqR r=true):Ya r.at_=true:=by
 simp only[rqR,Gc] at h;exact h.2.2.2.2.2.2.2.2.1
def H240 (Pg:PgT):Prop:=Pg 240=some (.code F240)∧H28 Pg∧H171 Pg∧H249 Pg∧H284 Pg∧H285 Pg∧H286 Pg∧H287 Pg∧H288 Pg∧H289 Pg∧H290 Pg∧H291 Pg
theorem K240 (h:H240 Pg) (c:Cel) (n e:Int) (r:Rq) (now:Stamp) (w:Int) (hc:SmC c):K' Pg 240 [.agg (Yk c),iz n,iz e,.agg (eRq r),.agg (Yd now),iz w]=some (eCA (doC c n e r now w)):=by
 obtain⟨h,h28,h171,h249,h284,h285,h286,h287,h288,h289,h290,h291⟩:=h;have k249:=K249 h249 c hc;have k1:=K284b h284 1 n e;have k0:=K284a h284 0 w;have k28:=K28 h28 now;have k285:=K285 h285 r;have k288:=K288 h288 r;have f1:=K286 h286 1;have f10:=K286 h286 10;have f11:=K286 h286 11;simp only[rg1] at k1;simp only[rg0] at k0;simp only[Yk,Ys] at k249;simp only[Yd] at k28;simp only[eRq] at k285 k288;simp only[YaQ,YB,fault,Gk] at f1 f10 f11;refine Qb h rfl ?_;clear h h28 h249 h284 h285 h286 h288;cases c1:Yy c with
 |false=>
  rw[YcV (by rw[c1];rfl)];simp only[go_sem,fault,k249,f1,c1]
 |true=>
 cases c2:(Yr n&&Yr e) with
 |false=>
  have c2':(Yy c&&(Yr n&&(Yr e&&(nou w&&(Ya now&&rqR r)))))=false:=by rw[←Bool.and_assoc (Yr n),c2,Gs,GB]
  rw[YcV c2'];rw[c2] at k1;simp only[go_sem,fault,k249,k1,f1,c1]
 |true=>
 rw[c2] at k1;have c2n:Yr n=true:=by rw[Gc] at c2;exact c2.1
 have c2e:Yr e=true:=by rw[Gc] at c2;exact c2.2
 cases c3:nou w with
 |false=>
  rw[YcV (by rw[c3];simp)];simp only[go_sem,fault,k249,k1,k0,f1,c1,c3]
 |true=>
 cases c4:Ya now with
 |false=>
  rw[YcV (by rw[c4];simp)];simp only[go_sem,fault,k249,k1,k0,k28,f1,c1,c3,c4]
 |true=>
 cases c5:rqR r with
 |false=>
  rw[YcV (by rw[c5];simp)];simp only[go_sem,fault,k249,k1,k0,k28,k285,f1,c1,c3,c4,c5]
 |true=>
 have ho:=Ybv c1;have hn:1≤n∧n≤1099511627776:=by simpa [Yr] using c2n
 have k287:=K287 h287 c n ho hn;simp only[Yk,Ys] at k287;cases q:YY c.shards n with
 |none=>
  have m:doC c n e r now w=(c,fault 10):=by simp only[doC,c1,c2n,c2e,c3,c4,c5,q,G1,Gz]
  rw[m];have k171:=K171 h171 ⟨[],[]⟩ r.key;simp only[Y6] at k171;simp only[q,Option.getD_none,Yl,Yh,Yf,Yc,Gk] at k287;cases d1:decide (r.key=[])<;>simp only[go_sem,fault,k249,k1,k0,k28,k285,k287,k171,f10,c1,c3,c4,c5,d1]
 |some s=>
 have hs:=ho.2.2 s (Yo q).1;have hid:=YcG hs.1;have hsm:=hc.2 s (Yo q).1;have k171:=K171 h171 s.span r.key;have k289:=K289 h289 c s r now ho hsm hs;have k290:=K290 h290 c s r.key hsm.1;have k291:=K291 h291 c s r w hsm.1 (Ycg (((Yt.1 c1).2.2.2.2 s (Yo q).1).2.1)).1 (Ylr c5);have m:doC c n e r now w=if !decide (s.epoch=e)||!YcY s r then (c,fault 10)
   else if !decide (s.phase=1)||(wrR r&&!decide (s.hold=0)) then (c,fault 11)
   else if wrR r then YH c s r now else if decide (r.kind=4)=true then (c,YF s r.key c.top) else Ya4 c s r w:=by
  simp only[doC,c1,c2n,c2e,c3,c4,c5,q,G1,Gz,Gi]
 rw[m];generalize YH c s r now=x9 at k289;generalize YF s r.key c.top=x0 at k290;generalize Ya4 c s r w=x1 at k291;simp only[Y6] at k171;simp only[Yk,Ys,Yh,Yf,Yc,eRq,Yd,eCA,YaQ,YB] at k289 k290 k291;simp only[q,Option.getD_some,Yh,Yf,Yc] at k287;clear h171 h287 h289 h290 h291 hc ho hn hs hsm q m c2 c2n c2e;cases d1:decide (s.epoch=e) with
 |false=>
  cases d2:decide (r.key=[]) with
  |false=>simp only[go_sem,fault, *]
  |true=>cases d3:decide (s.span.lo=[])<;>simp only[go_sem,fault, *]
 |true=>
 cases d2:decide (r.key=[]) with
 |false=>
  cases d4:Yas s.span r.key with
  |false=>
   have hQ:YcY s r=false:=by rw[YcY,d2,d4];rfl
   simp only[go_sem,fault, *]
  |true=>
   have hQ:YcY s r=true:=by rw[YcY,d2,d4];rfl
   cases d5:decide (s.phase=1) with
   |false=>simp only[go_sem,fault, *]
   |true=>
   cases d6:wrR r with
   |true=>cases d7:decide (s.hold=0)<;>simp only[go_sem,fault, *]
   |false=>
    cases d8:decide (r.kind=4) with
    |true=>
     simp only[go_sem,fault, *]
    |false=>
     simp only[go_sem,fault, *]
 |true=>
  cases d3:decide (s.span.lo=[]) with
  |true=>
   have hQ:YcY s r=true:=by rw[YcY,d2,d3];rfl
   cases d5:decide (s.phase=1) with
   |false=>simp only[go_sem,fault, *]
   |true=>
   cases d6:wrR r with
   |true=>cases d7:decide (s.hold=0)<;>simp only[go_sem,fault, *]
   |false=>
    cases d8:decide (r.kind=4) with
    |true=>
     simp only[go_sem,fault, *]
    |false=>
     simp only[go_sem,fault, *]
  |false=>
  cases d4:Yas s.span r.key with
  |false=>
   have hQ:YcY s r=false:=by rw[YcY,d2,d3,d4];rfl
   simp only[go_sem,fault, *]
  |true=>
   have hQ:YcY s r=true:=by rw[YcY,d2,d3,d4];rfl
   cases d5:decide (s.phase=1) with
   |false=>simp only[go_sem,fault, *]
   |true=>
   cases d6:wrR r with
   |true=>cases d7:decide (s.hold=0)<;>simp only[go_sem,fault, *]
   |false=>
    cases d8:decide (r.kind=4) with
    |true=>
     simp only[go_sem,fault, *]
    |false=>
     simp only[go_sem,fault, *]
def H261 (Pg:PgT):Prop:=Pg 261=some (.code F261)∧H21 Pg∧H28 Pg∧H249 Pg
theorem K261 (h:H261 Pg) (c:Cel) (t:Stamp) (hc:SmC c):K' Pg 261 [.agg (Yk c),.agg (Yd t)]=some (.agg (Yk (Ycf c t))):=by
 obtain⟨h,h21,h28,h249⟩:=h;have k249:=K249 h249 c hc;have k28:=K28 h28 t;have k21:=K21 h21 c.top t;simp only[Yd] at k28 k21;simp only[Yk,Ys] at k249;refine Qb h rfl ?_;cases c1:Yy c with
 |false=>simp only[go_sem,k249,c1,Ycf]
 |true=>cases c2:Ya t<;>simp only[go_sem,k249,k28,k21,c1,c2,Ycf]
def H262 (Pg:PgT):Prop:=Pg 262=some (.code F262)∧H21 Pg∧H28 Pg∧H217 Pg∧H249 Pg∧H307 Pg
def Ye7 (t:Stamp) (l:List Shd) (i:Nat):List Shd:=(l.take i).map (prS t)++l.drop i
theorem YkC {c:Cel} (h:Yy c=true) {s:Shd} (hs:s∈c.shards):shR s=true:=((Yt.1 h).2.2.2.2 s hs).2.1
theorem YkX {t:Stamp} {l:List Shd}:Ye7 t l l.length=l.map (prS t):=by simp[Ye7]
theorem Ymu {t:Stamp} {l:List Shd} {i:Nat} {x:Shd} (hx:l[i]?=some x):(Ye7 t l i).set i (prS t x)=Ye7 t l (i+1):=by
 obtain⟨hi,rfl⟩:=List.getElem?_eq_some_iff.1 hx;have hl:((l.take i).map (prS t)).length=i:=by rw[Gj,GG];omega
 rw[Ye7,Ye7,GaI hi,List.set_append_right _ _ (by omega),hl,Nat.sub_self,List.set_cons_zero,G8,hx];simp only[Option.toList_some,GF,GC,Gk,GS,List.cons_append,List.nil_append]
theorem K262 (h:H262 Pg) (c:Cel) (t:Stamp) (hc:SmC c):K' Pg 262 [.agg (Yk c),.agg (Yd t)]=some (.agg (Yk (YaI c t))):=by
 obtain⟨h,h21,h28,h217,h249,h307⟩:=h;have k249:=K249 h249 c hc;have k28:=K28 h28 t;have k307:=K307 h307 (c.shards.map Yh) (by have:=hc.1;simp[lim];omega);simp only[Yd] at k28;simp only[Yk,Ys] at k249;refine Qb h rfl ?_;cases c1:Yy c with
 |false=>simp only[go_sem,k249,c1,YaI]
 |true=>
 cases c2:Ya t with
 |false=>simp only[go_sem,k249,k28,c1,c2,YaI]
 |true=>
 have e:YaI c t=⟨c.shards.map (prS t),c.top,c.dropped⟩:=by simp only[YaI,c1,c2,G1,Gz]
 rw[e];simp only[go_sem,k249,k28,k307,c1,c2];unfold l262_0;refine JiJ (fun (i:Nat) S=>i≤c.shards.length∧S.ρ 2=.lref 2 0∧S.μ 2=some ([.own 18 17 c.shards.length,iz c.top.wall,iz c.top.tick,iz c.top.node,iz c.dropped],false)∧S.ρ 3=.lref 3 0∧S.μ 3=some (Yd t,false)∧S.ρ 4=.lref 4 0∧S.μ 4=some ([.slice 17 [],iz 0,iz 0,iz 0,iz 0],false)∧S.A 18=some (17,(Ye7 t c.shards i).map Yh,.live)∧S.ρ 21=.own 18 17 c.shards.length∧S.ρ 22=iz c.shards.length∧S.ρ 23=iz i∧S.μ 6=none) (fun i=>c.shards.length-i) 0 ?_ ?_
 ·simp only[go_sem,Ye7,List.take_zero,GaH,Gk,List.nil_append]
 ·intro i S ⟨hi,h2,m2,h3,m3,h4,m4,a18,h21',h22,h23,m6⟩;simp only[go_sem,h22,h23];refine JiK (fun h=>?_) (fun h=>?_)
  ·have h:=Yj h;obtain⟨x,hx,hd⟩:=Jiq h;have k217:=K217 h217 x.ents t (hc.2 x (List.mem_of_getElem? hx)).1;have k21:=K21 h21 x.mark t;rw[(Ycg (YkC c1 (List.mem_of_getElem? hx))).1,Gr rfl] at k217;simp only[Yf,Yd] at k217 k21;have hinc:IntKind.i64.wrap ((i:Int)+1)=((i+1:Nat):Int):=Yn h (by have:=hc.1;omega);have hmx:(Ye7 t c.shards i)[i]?=some x:=by
    rw[Ye7,List.getElem?_append_right (by simp;omega),Gj,GG,GaB hi,Nat.sub_self,List.getElem?_drop];simpa using hx
   have hml:(Ye7 t c.shards i).length=c.shards.length:=by rw[Ye7,Ge,Gj,GG,GL];omega
   have hg:∀r,(((Ye7 t c.shards i).map Yh).set i r)[i]?=some r:=fun r=>by rw[List.getElem?_set_self];rw[Gj,hml];exact h
   simp only[go_sem,h2,m2,h3,m3,h4,m4,a18,h21',h22,h23,m6,hmx,h,k217,k21,hml,hg,List.set_set,Gaw,Gj];refine⟨i+1,by omega,by omega,?_,by rw[hinc]⟩;rw[←Ymu hx,List.map_set]
   rfl
  ·have h:=YE hi h;subst h;rw[YkX] at a18;simp only[go_sem,h2,m2,h4,m4,a18,Gj,Gz]
def H302 (Pg:PgT):Prop:=Pg 302=some (.code F302)
theorem K302 (h:H302 Pg) (s:Shd) (m:Int):K' Pg 302 [.agg (Yh s),iz m]=some (.bool (YbK s m)):=by
 refine Qb h rfl ?_;cases c1:decide (s.phase=3)<;>simp only[go_sem,c1,YbK]
def H303 (Pg:PgT):Prop:=Pg 303=some (.code F303)
theorem K303 (h:H303 Pg) (s:Shd) (m:Int):K' Pg 303 [.agg (Yh s),iz m]=some (.bool (Yad s m)):=by
 refine Qb h rfl ?_;cases c1:decide (s.phase=2)<;>simp only[go_sem,c1,Yad]
def H265 (Pg:PgT):Prop:=Pg 265=some (.code F265)∧H247 Pg∧H284 Pg∧H303 Pg∧H304 Pg
theorem K265 (h:H265 Pg) (c:Cel) (n e m:Int) (hc:SmC c):K' Pg 265 [.agg (Yk c),iz n,iz e,iz m]=some (eCB (YO c n e m)):=by
 obtain⟨h,h247,h284,h303,h304⟩:=h;have k247:=K247 h247 c n hc;have k284:=K284b h284 1 e m;simp only[rg1] at k284;simp only[Yk,Ys,YeF] at k247;clear h247 h284;refine Qb h rfl ?_;clear h;cases q:YP c n with
 |none=>
  have m:YO c n e m=(c,false):=by simp only[YO,q]
  rw[m];simp only[q,Option.getD_none,Option.isSome_none,Yl,Yh,Yf,Yc,Gk] at k247;simp only[go_sem,k247]
 |some s=>
 obtain⟨-,-,-,ho,-,hi1,hi2,-⟩:=Yz q;have k303:=K303 h303 s m;have k304:=K304 h304 c {s with phase:=2,move:=m,top:=c.top} ho ⟨hi1,hi2⟩;have hle:decide (m≤s.closed)=!decide (s.closed<m):=leN;simp only[Yh,Yf,Yc] at k303;simp only[Yk,Ys,Yh,Yf,Yc] at k304;simp only[q,Option.getD_some,Option.isSome_some,Yh,Yf,Yc] at k247;simp only[YO,q];clear q hc h303 h304 ho hi1 hi2;cases c1:Yr e with
 |false=>simp only[go_sem,GU, *]
 |true=>
 cases c2:Yr m with
 |false=>simp only[go_sem,GU, *]
 |true=>
 cases c3:Yad s m with
 |true=>simp only[go_sem,GU, *]
 |false=>
 cases c4:decide (s.epoch=e) with
 |false=>simp only[go_sem,GU, *]
 |true=>
 cases c5:decide (s.phase=1) with
 |false=>simp only[go_sem,GU, *]
 |true=>
 cases c6:decide (s.hold=0) with
 |false=>simp only[go_sem,GU, *]
 |true=>
 cases c7:decide (s.closed<m)<;>simp only[go_sem, *]
def H270 (Pg:PgT):Prop:=Pg 270=some (.code F270)∧H247 Pg∧H284 Pg∧H303 Pg∧H304 Pg
theorem K270 (h:H270 Pg) (c:Cel) (n m:Int) (hc:SmC c):K' Pg 270 [.agg (Yk c),iz n,iz m]=some (eCB (Ya1 c n m)):=by
 obtain⟨h,h247,h284,h303,h304⟩:=h;have k247:=K247 h247 c n hc;have k284:=K284a h284 1 m;simp only[rg1] at k284;simp only[Yk,Ys,YeF] at k247;clear h247 h284;refine Qb h rfl ?_;clear h;cases q:YP c n with
 |none=>
  have m:Ya1 c n m=(c,false):=by simp only[Ya1,q]
  rw[m];simp only[q,Option.getD_none,Option.isSome_none,Yl,Yh,Yf,Yc,Gk] at k247;simp only[go_sem,k247]
 |some s=>
 obtain⟨-,-,-,ho,-,hi1,hi2,-⟩:=Yz q;have k303:=K303 h303 {s with closed:=m} m;have hfr:Yad {s with closed:=m} m=Yad s m:=rfl;have k304:=fun p=>K304 h304 c {s with closed:=m,phase:=p} ho ⟨hi1,hi2⟩;rw[hfr] at k303;simp only[Yh,Yf,Yc] at k303;simp only[Yk,Ys,Yh,Yf,Yc] at k304;simp only[q,Option.getD_some,Option.isSome_some,Yh,Yf,Yc] at k247;simp only[Ya1,q];clear q hc h303 h304 ho hi1 hi2 hfr;cases c1:Yr m with
 |false=>simp only[go_sem,GU, *]
 |true=>
 cases c2:decide (m≤s.closed) with
 |true=>simp only[go_sem,GaK, *]
 |false=>
 cases c3:decide (s.phase=2) with
 |false=>
  have hf:Yad s m=false:=by simp only[Yad,c3,Gs]
  simp only[go_sem, *]
 |true=>
 cases c4:decide (s.move=m) with
 |false=>simp only[go_sem, *]
 |true=>
  have hf:Yad s m=true:=by simp only[Yad,c3,c4,G1]
  simp only[go_sem, *]
def H267 (Pg:PgT):Prop:=Pg 267=some (.code F267)∧H249 Pg∧H284 Pg∧H287 Pg∧H303 Pg∧H308 Pg
theorem K267 (h:H267 Pg) (c:Cel) (n m:Int) (hc:SmC c):K' Pg 267 [.agg (Yk c),iz n,iz m]=some (eCB (Yac c n m)):=by
 obtain⟨h,h249,h284,h287,h303,h308⟩:=h;have k249:=K249 h249 c hc;have k284:=K284b h284 1 n m;simp only[rg1] at k284;simp only[Yk,Ys] at k249;clear h249 h284;refine Qb h rfl ?_;clear h;cases c1:Yy c with
 |false=>simp only[go_sem,k249,c1,Yac]
 |true=>
 cases c2:Yr n with
 |false=>simp only[go_sem,k249,k284,c1,c2,Yac]
 |true=>
 cases c3:Yr m with
 |false=>simp only[go_sem,k249,k284,c1,c2,c3,Yac]
 |true=>
 have ho:=Ybv c1;have hn:1≤n∧n≤1099511627776:=by simpa [Yr] using c2
 have k287:=K287 h287 c n ho hn;have k308:=K308 h308 c n ho hn;simp only[Yk,Ys] at k287 k308;cases q:YY c.shards n with
 |none=>
  simp only[q,Option.getD_none,Yl,Yh,Yf,Yc,Gk] at k287;simp only[go_sem,k249,k284,k287,c1,c2,c3,q,Yac]
 |some s=>
 have hid:=YcG (ho.2.2 s (Yo q).1).1;have k303:=K303 h303 s m;simp only[Yh,Yf,Yc] at k303;simp only[q,Option.getD_some,Yh,Yf,Yc] at k287;cases c4:Yad s m<;>simp only[go_sem,k249,k284,k287,k303,k308,c1,c2,c3,c4,q,hid,Yac]
theorem mxI {a b:Int}:(if a<b then b else a)=max a b:=by by_cases h:a<b<;>simp[h]<;>omega
def H266 (Pg:PgT):Prop:=Pg 266=some (.code F266)∧H247 Pg∧H284 Pg∧H302 Pg∧H304 Pg
theorem K266 (h:H266 Pg) (c:Cel) (n m e:Int) (hc:SmC c):K' Pg 266 [.agg (Yk c),iz n,iz m,iz e]=some (eCB (Yat c n m e)):=by
 obtain⟨h,h247,h284,h302,h304⟩:=h;have k247:=K247 h247 c n hc;have k284:=K284b h284 1 m e;simp only[rg1] at k284;simp only[Yk,Ys,YeF] at k247;clear h247 h284;refine Qb h rfl ?_;clear h;cases q:YP c n with
 |none=>
  have m:Yat c n m e=(c,false):=by simp only[Yat,q]
  rw[m];simp only[q,Option.getD_none,Option.isSome_none,Yl,Yh,Yf,Yc,Gk] at k247;simp only[go_sem,k247]
 |some s=>
 obtain⟨-,-,-,ho,-,hi1,hi2,-⟩:=Yz q;have k302:=K302 h302 s m;have k304:=K304 h304 ⟨c.shards,c.top,max c.dropped m⟩ {s with phase:=1,epoch:=e,closed:=m} ho ⟨hi1,hi2⟩;have hle:decide (e≤s.epoch)=!decide (s.epoch<e):=leN;have hmx:(if c.dropped<m then m else c.dropped)=max c.dropped m:=mxI;simp only[Yh,Yf,Yc] at k302;simp only[Yk,Ys,Yh,Yf,Yc,YcC] at k304;simp only[q,Option.getD_some,Option.isSome_some,Yh,Yf,Yc] at k247;simp only[Yat,q];clear q hc h302 h304 ho hi1 hi2;cases c1:Yr m with
 |false=>simp only[go_sem,GU, *]
 |true=>
 cases c2:Yr e with
 |false=>simp only[go_sem,GU, *]
 |true=>
 have tail:YbK s m=true→True:=fun _=>Gy;clear tail;cases c3:decide (s.phase=1) with
 |false=>
  cases c4:YbK s m with
  |false=>simp only[go_sem,GU, *]
  |true=>
  cases c5:decide (s.epoch<e)<;>simp only[go_sem, *]
 |true=>
  have hr:YbK s m=false:=by
   have:=Gg c3;simp[YbK,this]
  cases c4:decide (s.epoch=e) with
  |false=>simp only[go_sem, *]
  |true=>cases c5:decide (s.closed=m)<;>simp only[go_sem, *]
def H271 (Pg:PgT):Prop:=Pg 271=some (.code F271)∧H249 Pg∧H284 Pg∧H287 Pg∧H302 Pg∧H308 Pg
theorem Yit {m:Int}:YbK Yl m=false:=rfl
theorem K271 (h:H271 Pg) (c:Cel) (n m:Int) (hc:SmC c):K' Pg 271 [.agg (Yk c),iz n,iz m]=some (eCB (Ybn c n m)):=by
 obtain⟨h,h249,h284,h287,h302,h308⟩:=h;have k249:=K249 h249 c hc;have k284:=K284b h284 1 n m;simp only[rg1] at k284;simp only[Yk,Ys] at k249;clear h249 h284;refine Qb h rfl ?_;clear h;cases c1:Yy c with
 |false=>simp only[go_sem,k249,c1,Ybn]
 |true=>
 cases c2:Yr n with
 |false=>simp only[go_sem,k249,k284,c1,c2,Ybn]
 |true=>
 cases c3:Yr m with
 |false=>simp only[go_sem,k249,k284,c1,c2,c3,Ybn]
 |true=>
 have ho:=Ybv c1;have hn:1≤n∧n≤1099511627776:=by simpa [Yr] using c2
 have k287:=K287 h287 c n ho hn;have k308:=K308 h308 c n ho hn;simp only[Yk,Ys] at k287 k308;cases q:YY c.shards n with
 |none=>
  have k302:=K302 h302 Yl m;rw[Yit] at k302;simp only[Yl,Yh,Yf,Yc,Gk] at k302;simp only[q,Option.getD_none,Yl,Yh,Yf,Yc,Gk] at k287;simp only[go_sem,k249,k284,k287,k302,c1,c2,c3,q,Ybn,mxI]
 |some s=>
 have k302:=K302 h302 s m;simp only[Yh,Yf,Yc] at k302;simp only[q,Option.getD_some,Yh,Yf,Yc] at k287;cases c4:YbK s m<;>simp only[go_sem,k249,k284,k287,k302,k308,c1,c2,c3,c4,q,Ybn,mxI]
theorem YjG {f:Nat} {F:F} {args:List V} {P:V→Prop} (hF:Pg f=some (.code F)) (hl:args.length=F.np)
  (h:Wp (K' Pg) F.body (JD args) fun ex S=>(ex=.norm∨ex=.ret)∧∃r,JaF F S=some r∧P r):∃r,K' Pg f args=some r∧P r:=by
 obtain⟨m,ex,S',h1,h2,r,h3,h4⟩:=h
 exact⟨r,Qb hF hl ⟨m,ex,S',h1,h2,h3⟩,h4⟩
theorem K319w (h:H319 Pg) (l:List Shd) (m:Int) (g:Nat) (f:Nat→Int) (hl:l.length<2 ^ 60)
  (hg:∀i v,l[i]?=some v→K' Pg g [.agg (Yh v),iz m]=some (iz (f i))) :
  ∃r,K' Pg 319 [Ys l,iz m,.func g []]=some r∧∃k:Nat,r=.tuple [iz k,.bool (decide (k<l.length)&&decide (f k=0))]:=by
 refine YjG h rfl ?_
 simp only[Yh,Yf,Yc] at hg
 simp only[go_sem]
 unfold l319_0
 refine JiJ (fun (p:Nat×Nat) S=>p.1≤p.2∧p.2≤l.length∧S.ρ 0=Ys l∧S.ρ 1=iz m∧S.ρ 2=.func g []∧S.ρ 8=iz l.length∧S.ρ 9=iz p.1∧S.ρ 10=iz p.2) (fun p=>p.2-p.1) (0,l.length) ?_ ?_
 ·simp[go_sem]
 ·intro⟨i,j⟩ S ⟨hij,hjl,h0,hs,h2',h8,h9,h10⟩
  simp only at hij hjl h9 h10
  simp only[go_sem,h9,h10]
  refine JiK (fun h=>?_) (fun h=>?_)
  ·simp only[Gi,G0] at h
   have e1:IntKind.i64.wrap ((i:Int)+j)=(i:Int)+j:=JiG (by omega) (by omega)
   have e2:IntKind.u64.wrap ((i:Int)+j)=(i:Int)+j:=_root_.Go.IntWalk.u64_in _ ⟨by omega,by omega⟩
   have e3:Int.fdiv ((i:Int)+j) 2=(((i+j) / 2:Nat):Int):=by
    rw[GaD _ (by omega)];omega
   have e4:IntKind.i64.wrap ((((i+j) / 2:Nat):Int))=(((i+j) / 2:Nat):Int):=JiG (by omega) (by omega)
   have e5:IntKind.i64.wrap ((((i+j) / 2:Nat):Int)+1)=(((i+j) / 2+1:Nat):Int):=JiG (by omega) (by omega)
   obtain⟨x,hx,hd⟩:=Jiq (l:=l) (i:=(i+j) / 2) (by omega)
   have hgx:=hg _ _ hx
   simp only[go_sem,h0,hs,h2',h9,h10,e1,e2,e3,e4,hx,hgx]
   refine JiK (fun hc=>?_) (fun hc=>?_)
   ·simp only[go_sem,h0,hs,h2',h8,h10,e5]
    exact⟨((i+j) / 2+1,j),by simp only;omega,by simp only;omega,hjl,rfl,rfl⟩
   ·simp only[go_sem,h0,hs,h2',h8,h9]
    exact⟨(i,(i+j) / 2),by simp only;omega,by simp only;omega,by simp only;omega,rfl,rfl⟩
  ·simp only[Gq,G0] at h
   simp only[go_sem,h8,h9]
   refine JiI (fun hc=>?_) (fun hc=>?_)
   ·simp only[Gi,G0] at hc
    obtain⟨x,hx,hd⟩:=Jiq hc
    have hgx:=hg _ _ hx
    simp only[go_sem,h0,hs,h2',h9,hx,hgx,hc,GaN,G0]
    exact⟨_,rfl,i,by simp[hc]⟩
   ·simp only[Gq,G0] at hc
    simp only[go_sem,hc,GaE,G0]
    exact⟨_,rfl,i,by simp[hc]⟩
theorem YmE {n:Int} (h1:-18446744073709551616<n) (h2:n<18446744073709551616) (h:IntKind.i64.wrap n=0):n=0:=by
 unfold IntKind.wrap at h;simp only[IntKind.bits,IntKind.signed,GP,Gi,show (2:Int) ^ 64=18446744073709551616 from rfl,show (2:Int) ^ (64-1)=9223372036854775808 from rfl] at h;by_cases g:n % 18446744073709551616≥9223372036854775808
 ·rw[Gr g] at h;omega
 ·rw[Gn g] at h;omega
def i64 (n:Int):Prop:=-9223372036854775808≤n∧n≤9223372036854775807
theorem YjW {l:List Shd} {n:Int} (h:OrdS l) (hn:¬(1≤n∧n≤1099511627776)):YY l n=none:=by
 cases q:YY l n with
 |none=>rfl
 |some s=>
  have:=h.2.2 s (Yo q).1;rw[(Yo q).2] at this;exact absurd this hn
theorem K287w (h:H287 Pg) (c:Cel) (n:Int) (hc:OrdS c.shards) (hn:i64 n):K' Pg 287 [.agg (Yk c),iz n]=some (.agg (Yh ((YY c.shards n).getD Yl))):=by
 by_cases hr:1≤n∧n≤1099511627776
 ·exact K287 h c n hc hr
 ·rw[YjW hc hr];obtain⟨h,h314,h319,h320⟩:=h;have hl:=hc.2.1;obtain⟨r,k,j,rfl⟩:=K319w h319 c.shards n 320 (fun i=>match c.shards[i]? with|none=>1|some s=>IntKind.i64.wrap (s.id-n)) (by omega) (fun i v hv=>by
   simp only[hv];exact K320 h320 v n)
  have e:(decide (j<c.shards.length)&&decide ((match c.shards[j]? with|none=>1|some s=>IntKind.i64.wrap (s.id-n))=0))=false:=by
   cases hx:c.shards[j]? with
   |none=>simp
   |some x=>
    have hx':=hc.2.2 x (List.mem_of_getElem? hx);have:IntKind.i64.wrap (x.id-n)≠0:=fun h0=>by
     have:=YmE (by have:=hn.1;have:=hn.2;omega) (by have:=hn.1;have:=hn.2;omega) h0;exact hr (by omega)
    simp[this]
  rw[e] at k;simp only[Ys] at k;have k314:K' Pg 314 [.agg (Yk c),iz n]=some (.tuple [iz j,.bool false]):=by
   refine Qb h314 rfl ?_;simp only[go_sem,k]
  simp only[Yk,Ys] at k314;refine Qb h rfl ?_;simp only[go_sem,k314,Yl,Option.getD_none]
def H253 (Pg:PgT):Prop:=Pg 253=some (.code F253)∧H21 Pg∧H244 Pg∧H249 Pg∧H284 Pg∧H287 Pg∧H301 Pg∧H302 Pg∧H303 Pg∧H304 Pg
theorem Ygp {n:Nat}:decide ((n:Int)=8)=decide (n=8):=GZ.2 (by omega)
theorem K253 (h:H253 Pg) (c:Cel) (s:Shd) (m:Int) (hc:SmC c) (hs:SmS s) (hi:i64 s.id):K' Pg 253 [.agg (Yk c),.agg (Yh s),iz m]=some (eCB (installC c s m)):=by
 obtain⟨h,h21,h244,h249,h284,h287,h301,h302,h303,h304⟩:=h;have k249:=K249 h249 c hc;have k284:=K284a h284 1 m;simp only[rg1] at k284;simp only[Yk,Ys] at k249;refine Qb h rfl ?_;cases c1:Yy c with
 |false=>simp only[go_sem,k249,c1,installC]
 |true=>
 cases c2:Yr m with
 |false=>simp only[go_sem,k249,k284,c1,c2,installC]
 |true=>
 have ho:=Ybv c1;have k287:=K287w h287 c s.id ho hi;simp only[Yk,Ys] at k287;cases q:YY c.shards s.id with
 |some o=>
  have hid:=YcG (ho.2.2 o (Yo q).1).1;have k302:=K302 h302 o m;simp only[Yh,Yf,Yc] at k302;simp only[q,Option.getD_some,Yh,Yf,Yc] at k287;simp only[go_sem,k249,k284,k287,k302,c1,c2,q,hid,installC]
 |none=>
 simp only[q,Option.getD_none,Yl,Yh,Yf,Yc,Gk] at k287;have hle:decide (m≤c.dropped)=!decide (c.dropped<m):=leN;have k244:=K244 h244 s hs;have k303:=K303 h303 s m;simp only[Yh,Yf,Yc] at k244 k303;cases c3:decide (c.dropped<m) with
 |false=>simp only[go_sem,k249,k284,k287,c1,c2,c3,q,hle,installC]
 |true=>
 cases c4:decide (c.shards.length=8) with
 |true=>simp only[go_sem,k249,k284,k287,c1,c2,c3,c4,q,hle,Ygp,installC]
 |false=>
 cases c5:shR s with
 |false=>simp only[go_sem,k249,k284,k287,k244,c1,c2,c3,c4,c5,q,hle,Ygp,installC]
 |true=>
 cases c6:Yad s m with
 |false=>simp only[go_sem,k249,k284,k287,k244,k303,c1,c2,c3,c4,c5,c6,q,hle,Ygp,installC]
 |true=>
 have k301:=K301 h301 s s.top hs.1 (Ycg c5).2;have hid3:=Yez c5;have k304:=K304 h304 c {s with phase:=3} ho ⟨hid3.1,hid3.2⟩;clear hid3;have k21:=K21 h21 c.top s.top;simp only[Yh,Yf,Yc,Yd] at k301 k21;simp only[Yk,Ys,Yh,Yf,Yc,YcC] at k304;cases c7:uptoE s s.top<;>simp only[go_sem,k249,k284,k287,k244,k303,k301,k304,k21,c1,c2,c3,c4,c5,c6,c7,q,hle,Ygp,installC]
theorem Yho {l:List Shd} {s:Shd} (h:OrdS l) (hl:l.length≤900) (hs:1≤s.id∧s.id≤1099511627776):OrdS (putC l s):=by
 refine⟨Yhn h.1,?_,fun x hx=>?_⟩
 ·have:=Yd4 (s:=s) (l:=l);omega
 ·rcases YdE hx with rfl|hx
  ·exact hs
  ·exact h.2.2 x hx
def H309 (Pg:PgT):Prop:=Pg 309=some (.code F309)
def opn (s:Shd) (e:Int):Bool:=!decide (s.id=0)&&YbB s e
theorem K309 (h:H309 Pg) (s:Shd) (e:Int):K' Pg 309 [.agg (Yh s),iz e]=some (.bool (opn s e)):=by
 refine Qb h rfl ?_;cases c1:decide (s.id=0) with
 |true=>simp only[go_sem,c1,opn]
 |false=>
 cases c2:decide (s.epoch=e) with
 |false=>simp only[go_sem,c1,c2,opn,YbB]
 |true=>cases c3:decide (s.phase=1)<;>simp only[go_sem,c1,c2,c3,opn,YbB]
theorem Yim {s:Shd} {e:Int} (h:1≤s.id):opn s e=YbB s e:=by simp only[opn,YcG h,GY,GP]
theorem Yf9 {e:Int}:opn Yl e=false:=rfl
theorem Yj9 {n:Int} (h:Yr n=true):1≤n∧n≤1099511627776:=by simpa [Yr] using h
def splC (c:Cel) (a:Shd) (k:List UInt8) (o x:Int):Cel:=⟨putC (putC c.shards {a with ents:=(YcH a.ents k).1,span:=(YaF a.span k).1,epoch:=x}) {a with id:=o,ents:=(YcH a.ents k).2,span:=(YaF a.span k).2.1,epoch:=x},c.top,c.dropped⟩
theorem Ycr {c:Cel} {n e:Int} {k:List UInt8} {o x:Int} (h:(Yy c&&(Yr n&&(Yr e&&(Yr o&&Yr x))))=false):YaD c n e k o x=(c,false):=by
 simp only[YaD,h,Gm,Gu]
def H273 (Pg:PgT):Prop:=Pg 273=some (.code F273)∧H178 Pg∧H211 Pg∧H249 Pg∧H284 Pg∧H287 Pg∧H304 Pg∧H309 Pg
theorem K273 (h:H273 Pg) (c:Cel) (n e:Int) (k:List UInt8) (o x:Int) (hc:SmC c):K' Pg 273 [.agg (Yk c),iz n,iz e,.str k,iz o,iz x]=some (eCB (YaD c n e k o x)):=by
 obtain⟨h,h178,h211,h249,h284,h287,h304,h309⟩:=h;have k249:=K249 h249 c hc;have k284:=K284d h284 1 n e o x;simp only[rg1] at k284;simp only[Yk,Ys] at k249;refine Qb h rfl ?_;clear h h249 h284;cases c1:Yy c with
 |false=>
  rw[Ycr (by rw[c1];rfl)];simp only[go_sem,k249,c1]
 |true=>
 cases c2:(Yr n&&(Yr e&&(Yr o&&Yr x))) with
 |false=>
  rw[Ycr (by rw[c1,c2];rfl)];rw[c2] at k284;simp only[go_sem,k249,k284,c1]
 |true=>
 rw[c2] at k284;have ho:=Ybv c1;have h8:c.shards.length≤8:=(Yt.1 c1).1;have c2':=c2;simp only[Gc] at c2';have hn:=Yj9 c2'.1;have hon:=Yj9 c2'.2.2.1;have ka:=K287 h287 c n ho hn;have kb:=K287 h287 c o ho hon;have k178:=fun s=>K178 h178 s k;simp only[Yk,Ys] at ka kb;simp only[Y6,Yjl] at k178;have hle:decide (x≤e)=!decide (e<x):=leN;cases qa:YY c.shards n with
 |none=>
  have m:YaD c n e k o x=(c,false):=by simp only[YaD,c1,c2,qa,G1,Gz]
  rw[m];have k178:=k178 ⟨[],[]⟩;have k309:=K309 h309 Yl e;rw[Yf9] at k309;simp only[Yl,Yh,Yf,Yc,Gk] at k309;simp only[qa,Option.getD_none,Yl,Yh,Yf,Yc,Gk] at ka;simp only[Yh,Yf,Yc] at kb;simp only[go_sem,k249,k284,ka,kb,k178,k309,c1]
 |some a=>
 have ha:=ho.2.2 a (Yo qa).1;have hia:=YcG ha.1;have k178:=k178 a.span;have k309:=K309 h309 a e;rw[Yim ha.1] at k309;have hla:decide (x≤a.closed)=!decide (a.closed<x):=leN;simp only[Yh,Yf,Yc] at k309;simp only[qa,Option.getD_some,Yh,Yf,Yc] at ka;cases qb:YY c.shards o with
 |some b=>
  have hb:=ho.2.2 b (Yo qb).1;have hib:=YcG hb.1;have m:YaD c n e k o x=(c,decide (a.epoch=x)&&(decide (a.span.hi=k)&&decide (b.epoch=x))):=by simp only[YaD,c1,c2,qa,qb,G1,Gz]
  rw[m];simp only[qb,Option.getD_some,Yh,Yf,Yc] at kb;clear h178 h211 h287 h304 h309 hc ho h8 c2 c2' hn hon qa qb ha hb m;have rest:∀b1,(decide (a.epoch=x)&&(decide (a.span.hi=k)&&decide (b.epoch=x)))=b1→True:=fun _ _=>Gy;clear rest;cases d1:YbB a e with
  |false=>
   cases d2:decide (a.epoch=x) with
   |false=>simp only[go_sem, *]
   |true=>
   cases d3:decide (a.span.hi=k) with
   |false=>simp only[go_sem, *]
   |true=>cases d4:decide (b.epoch=x)<;>simp only[go_sem, *]
  |true=>
  cases d5:decide (e<x) with
  |false=>
   cases d2:decide (a.epoch=x) with
   |false=>simp only[go_sem, *]
   |true=>
   cases d3:decide (a.span.hi=k) with
   |false=>simp only[go_sem, *]
   |true=>cases d4:decide (b.epoch=x)<;>simp only[go_sem, *]
  |true=>
  cases d6:decide (a.closed<x) with
  |false=>
   cases d2:decide (a.epoch=x) with
   |false=>simp only[go_sem, *]
   |true=>
   cases d3:decide (a.span.hi=k) with
   |false=>simp only[go_sem, *]
   |true=>cases d4:decide (b.epoch=x)<;>simp only[go_sem, *]
  |true=>
   cases d2:decide (a.epoch=x) with
   |false=>simp only[go_sem, *]
   |true=>
   cases d3:decide (a.span.hi=k) with
   |false=>simp only[go_sem, *]
   |true=>cases d4:decide (b.epoch=x)<;>simp only[go_sem, *]
 |none=>
 have m:YaD c n e k o x=if YbB a e&&(decide (e<x)&&(decide (a.closed<x)&&(!decide (c.shards.length=8)&&decide ((YaF a.span k).2.2=0)))) then (splC c a k o x,true) else (c,false):=by
  simp only[YaD,c1,c2,qa,qb,G1,Gz,splC]
 rw[m];have k211:=K211 h211 a.ents k (hc.2 a (Yo qa).1).1;have k304:=K304 h304 c {a with ents:=(YcH a.ents k).1,span:=(YaF a.span k).1,epoch:=x} ho ha;have k305:=K304 h304 (YcC c {a with ents:=(YcH a.ents k).1,span:=(YaF a.span k).1,epoch:=x}) {a with id:=o,ents:=(YcH a.ents k).2,span:=(YaF a.span k).2.1,epoch:=x} (Yho ho (by omega) ha) hon;simp only[Yf,eE2] at k211;simp only[Yk,Ys,Yh,Yf,Yc,YcC] at k304 k305;simp only[qb,Option.getD_none,Yl,Yh,Yf,Yc,Gk] at kb;simp only[splC];clear h178 h211 h287 h304 h309 hc ho h8 c2 c2' hn hon qa qb ha m;have fin:True:=Gy;cases d1:YbB a e with
 |false=>
  cases d2:decide (a.epoch=x) with
  |false=>simp only[go_sem, *]
  |true=>cases d3:decide (a.span.hi=k)<;>simp only[go_sem, *]
 |true=>
 cases d5:decide (e<x) with
 |false=>
  cases d2:decide (a.epoch=x) with
  |false=>simp only[go_sem, *]
  |true=>cases d3:decide (a.span.hi=k)<;>simp only[go_sem, *]
 |true=>
 cases d6:decide (a.closed<x) with
 |false=>
  cases d2:decide (a.epoch=x) with
  |false=>simp only[go_sem, *]
  |true=>cases d3:decide (a.span.hi=k)<;>simp only[go_sem, *]
 |true=>
 cases d7:decide (c.shards.length=8) with
 |true=>
  cases d2:decide (a.epoch=x) with
  |false=>simp only[go_sem,Ygp, *]
  |true=>cases d3:decide (a.span.hi=k)<;>simp only[go_sem,Ygp, *]
 |false=>
 cases d8:decide ((YaF a.span k).2.2=0) with
 |false=>
  cases d2:decide (a.epoch=x) with
  |false=>simp only[go_sem,Ygp, *]
  |true=>cases d3:decide (a.span.hi=k)<;>simp only[go_sem,Ygp, *]
 |true=>
  cases d2:decide (a.epoch=x) with
  |false=>simp only[go_sem,Ygp, *]
  |true=>cases d3:decide (a.span.hi=k)<;>simp only[go_sem,Ygp, *]
theorem Yfb {l:List Entr} {k:List UInt8} (h:ixR l=true):YcH l k=(Yaw l k true,Yaw l k false):=by
 have hg:ixG none l=true:=by
  simp only[ixR,Gc] at h;exact h.2
 have:=YhV (k:=k) hg;rw[YcH,Gr h,this.1,this.2]
theorem YcZ {a b:List Entr} (h:(Yav a b).2=0):ixR (Yav a b).1=true:=by
 unfold Yav at h ⊢;split at h
 ·rename_i hab;rw[Gr hab];rw[Gc] at hab;split at h
  ·simp at h
  ·rename_i hc;rw[Gn hc];split at h
   ·simp at h
   ·rename_i hl;rw[Gn hl];have ha:=YaA.1 hab.1;have hb:=YaA.1 hab.2;refine YaA.2 ⟨by simp;omega,List.pairwise_append.2 ⟨ha.2.1,hb.2.1,?_⟩,fun e he=>?_⟩
    ·rw[←YfH hab.1 hab.2] at hc;intro x hx y hy;cases q:ltS x.key y.key with
     |true=>rfl
     |false=>exact absurd (by simp only[Yes,List.any_eq_true];exact⟨x,hx,y,hy,by rw[q];rfl⟩) hc
    ·rcases GT.1 he with h|h
     ·exact ha.2.2 e h
     ·exact hb.2.2 e h
 ·simp at h
theorem Ycq {c:Cel} {n o e x:Int} (h:(Yy c&&(Yr n&&(Yr o&&(Yr e&&Yr x))))=false):YaB c n o e x=(c,false):=by
 simp only[YaB,h,Gm,Gu]
def mrg (a b:Shd) (x:Int):Shd:={a with span:=(Y7 a.span b.span).1,done:=(Y3 a.done b.done).1,epoch:=x,move:=0,mark:=later a.mark b.mark,ents:=Y0 (Yav a.ents b.ents).1 (later a.mark b.mark),seen:=max a.seen b.seen,closed:=max a.closed b.closed}
def H275 (Pg:PgT):Prop:=Pg 275=some (.code F275)∧H21 Pg∧H91 Pg∧H213 Pg∧H217 Pg∧H249 Pg∧H284 Pg∧H287 Pg∧H304 Pg∧H308 Pg∧H309 Pg∧H311 Pg
theorem K275 (h:H275 Pg) (c:Cel) (n o e x:Int) (hc:SmC c):K' Pg 275 [.agg (Yk c),iz n,iz o,iz e,iz x]=some (eCB (YaB c n o e x)):=by
 obtain⟨h,h21,h91,h213,h217,h249,h284,h287,h304,h308,h309,h311⟩:=h;have k249:=K249 h249 c hc;have k284:=K284d h284 1 n o e x;simp only[rg1] at k284;simp only[Yk,Ys] at k249;refine Qb h rfl ?_;clear h h249 h284;cases c1:Yy c with
 |false=>
  rw[Ycq (by rw[c1];rfl)];simp only[go_sem,k249,c1]
 |true=>
 cases c2:(Yr n&&(Yr o&&(Yr e&&Yr x))) with
 |false=>
  rw[Ycq (by rw[c1,c2];rfl)];rw[c2] at k284;simp only[go_sem,k249,k284,c1]
 |true=>
 rw[c2] at k284;have ho:=Ybv c1;have h8:c.shards.length≤8:=(Yt.1 c1).1;have c2':=c2;simp only[Gc] at c2';have hn:=Yj9 c2'.1;have hon:=Yj9 c2'.2.1;have ka:=K287 h287 c n ho hn;have kb:=K287 h287 c o ho hon;simp only[Yk,Ys] at ka kb;cases qa:YY c.shards n with
 |none=>
  have m:YaB c n o e x=(c,false):=by simp only[YaB,c1,c2,qa,G1,Gz]
  rw[m];have k309:=K309 h309 Yl e;rw[Yf9] at k309;simp only[Yl,Yh,Yf,Yc,Gk] at k309;simp only[qa,Option.getD_none,Yl,Yh,Yf,Yc,Gk] at ka;simp only[Yh,Yf,Yc] at kb;simp only[go_sem,k249,k284,ka,kb,k309,c1]
 |some a=>
 have ha:=ho.2.2 a (Yo qa).1;have hia:=YcG ha.1;have k309:=K309 h309 a e;rw[Yim ha.1] at k309;simp only[Yh,Yf,Yc] at k309;simp only[qa,Option.getD_some,Yh,Yf,Yc] at ka;cases qb:YY c.shards o with
 |none=>
  have m:YaB c n o e x=(c,decide (a.epoch=x)):=by simp only[YaB,c1,c2,qa,qb,G1,Gz]
  rw[m];have k309b:=K309 h309 Yl 0;rw[Yf9] at k309b;simp only[Yl,Yh,Yf,Yc,Gk] at k309b;simp only[qb,Option.getD_none,Yl,Yh,Yf,Yc,Gk] at kb;cases d2:decide (a.epoch=x) with
  |true=>simp only[go_sem,k249,k284,ka,kb,c1,hia,d2]
  |false=>cases d1:YbB a e<;>simp only[go_sem,k249,k284,ka,kb,k309,k309b,c1,hia,d1,d2]
 |some b=>
 have hb:=ho.2.2 b (Yo qb).1;have hib:=YcG hb.1;have hsa:=hc.2 a (Yo qa).1;have hsb:=hc.2 b (Yo qb).1;have k309b:=K309 h309 b b.epoch;rw[Yim hb.1] at k309b;have l1:decide (x≤a.epoch)=!decide (a.epoch<x):=leN;have l2:decide (x≤b.epoch)=!decide (b.epoch<x):=leN;have l3:decide (x≤a.closed)=!decide (a.closed<x):=leN;have k311:=K311 h311 a.span b.span;have k213:=K213 h213 a.ents b.ents hsa.1 hsb.1;have k91:=K91 h91 a.done b.done hsa.2.1 hsb.2.1;have k21:=K21 h21 a.mark b.mark;have m:YaB c n o e x=if YbB a e&&(YbB b b.epoch&&(decide (a.epoch<x)&&(decide (b.epoch<x)&&(decide (a.closed<x)&&(decide ((Y7 a.span b.span).2=0)&&(decide ((Yav a.ents b.ents).2=0)&&decide ((Y3 a.done b.done).2=0))))))) then (⟨YbF (putC c.shards (mrg a b x)) o,c.top,c.dropped⟩,true) else (c,false):=by
  simp only[YaB,c1,c2,qa,qb,G1,Gz,mrg]
 rw[m];have k304:=K304 h304 c (mrg a b x) ho ha;have k308:=K308 h308 (YcC c (mrg a b x)) o (Yho ho (by omega) ha) hon;have k217:(Yav a.ents b.ents).2=0→K' Pg 217 [Yf (Yav a.ents b.ents).1,.agg (Yd (later a.mark b.mark))]=some (Yf (Y0 (Yav a.ents b.ents).1 (later a.mark b.mark))):=fun hj=>by
  have hr:=YcZ hj;have:=K217 h217 (Yav a.ents b.ents).1 (later a.mark b.mark) (YdY hr);rwa [Gr hr] at this
 simp only[Yh,Yf,Yc] at k309b;simp only[Y6,eSE] at k311;simp only[Yf,eEE] at k213;simp only[Yc,eTE] at k91;simp only[Yd] at k21;simp only[Yf,Yd] at k217;simp only[Yk,Ys,Yh,Yf,Yc,YcC,mrg] at k304 k308;simp only[qb,Option.getD_some,Yh,Yf,Yc] at kb;clear h21 h91 h213 h217 h287 h304 h308 h309 h311 hc ho h8 c2 c2' hn hon qa qb ha hb m hsa hsb;cases d1:YbB a e with
 |false=>cases d0:decide (a.epoch=x)<;>simp only[go_sem, *]
 |true=>
 cases d2:YbB b b.epoch with
 |false=>cases d0:decide (a.epoch=x)<;>simp only[go_sem, *]
 |true=>
 cases d3:decide (a.epoch<x) with
 |false=>cases d0:decide (a.epoch=x)<;>simp only[go_sem, *]
 |true=>
 have d0:decide (a.epoch=x)=false:=Gp (by have:=Gg d3;omega);cases d4:decide (b.epoch<x) with
 |false=>simp only[go_sem, *]
 |true=>
 cases d5:decide (a.closed<x) with
 |false=>simp only[go_sem, *]
 |true=>
 cases d6:decide ((Y7 a.span b.span).2=0) with
 |false=>simp only[go_sem, *]
 |true=>
 cases d7:decide ((Yav a.ents b.ents).2=0) with
 |false=>simp only[go_sem, *]
 |true=>
 have k217:=k217 (Gg d7);cases d8:decide ((Y3 a.done b.done).2=0) with
 |false=>simp only[go_sem, *]
 |true=>simp only[go_sem,mrg,mxI, *]
theorem Ygg {r:Rq} (h:rqR r=true):r.hi.length≤16∧r.key.length≤16∧(r.kind≠6→keyR r.key=true):=by
 simp only[rqR,Gc,G2,Gi] at h;have h1:=h.2.2.2.2.2.2.2.2.2.1;have h2:=h.2.2.2.2.2.2.2.2.2.2;have kl:∀k,keyR k=true→k.length≤16:=fun k hk=>by
  simp only[keyR,Gc,Gi] at hk;exact hk.2.2
 refine⟨?_,?_,fun hne=>?_⟩
 ·rcases h1 with h1|h1
  ·rw[h1];simp
  ·exact kl _ h1
 ·by_cases h6:r.kind=6
  ·rw[Gr h6] at h2;simp only[Gc,G2,Gi] at h2;rcases h2.1 with h2|h2
   ·rw[h2];simp
   ·exact kl _ h2
  ·rw[Gn h6] at h2;exact kl _ h2
 ·rw[Gn hne] at h2;exact h2
theorem Ykk {t:List Done} {c:Int}:YaT t c=match Ym t c with|some d=>d.req|none=>0:=by
 induction t with
 |nil=>rfl
 |cons d l ih=>
  simp only[YaT,Ym];by_cases h:d.client=c
  ·simp only[h,Gz]
  ·simp only[h,Gu,ih]
theorem Yjf {r:Rq} (h:rqR r=true):wrR r=decide (r.kind<4):=by
 simp only[rqR,Gc,Gi] at h;have h1:=h.2.2.1;rw[Bool.eq_iff_iff];simp only[wrR,G2,Gi];omega
theorem YaZ {a:Stamp}:Yb a a=0:=by rw[YcD];simp
theorem Yec {a b c:Stamp} (h1:Yb a b≤0) (h2:Yb b c≤0):Yb a c≤0:=by
 have e1:¬0<Yb a b:=by omega
 have e2:¬0<Yb b c:=by omega
 have:¬0<Yb a c:=by
  rw[Ydy] at e1 e2 ⊢;omega
 omega
theorem YbT {a b:Stamp}:Yb a (later a b)≤0∧Yb b (later a b)≤0:=by
 unfold later;split
 ·rename_i h;exact⟨by omega,by rw[YaZ];omega⟩
 ·rename_i h;exact⟨by rw[YaZ];omega,YaR.1 (by omega)⟩
theorem Yb2 {a b:Stamp} (ha:Ya a=true) (hb:Ya b=true):Ya (later a b)=true:=by
 unfold later;split<;>assumption
theorem Yb8 {s:Shd} {t t':Stamp} (h:uptoE s t=true) (ht:Yb t t'≤0):uptoE s t'=true:=by
 simp only[uptoE,Gx] at h ⊢;intro e he;have:=h e he;cases q:e.chain.getLast? with
 |none=>rfl
 |some v=>
  rw[q] at this;simp only[Gi] at this ⊢;exact Yec this ht
theorem Yfs {s:Shd}:∀{l:List Shd},YY (putC l s) s.id=some s
 |[]=>by simp[putC,YY]
 |x::l=>by
  have ih:=Yfs (s:=s) (l:=l);by_cases h1:s.id<x.id
  ·rw[putC,Gr h1];simp[YY]
  ·by_cases h2:x.id=s.id
   ·rw[putC,Gn h1,Gr h2];simp[YY]
   ·rw[putC,Gn h1,Gn h2];simp only[YY,List.find?_cons,h2,GaE] at ih ⊢;exact ih
theorem Yc4 {s:Shd} {l:List Shd} (hi:YdO l):(putC l s).length=if (YY l s.id).isSome then l.length else l.length+1:=by
 have hp:=YeS (n:=s.id) l;rw[Yir hi,Yha hi];cases q:Yah s.id l with
 |true=>
  obtain⟨x,hx,-⟩:=Yfe q;have hj:=(List.getElem?_eq_some_iff.1 hx).1;simp only[Gz,hx,Option.isSome_some,Ge,List.length_cons,GG,GL];omega
 |false=>
  simp only[Gm,Gu,Option.isSome_none,Ge,List.length_cons,GG,GL];omega
theorem Yct {c:Cel} {s:Shd} {t:Stamp} {d:Int} (h:Yy c=true) (hs:shR s=true) (hu:uptoE s t=true) (ht:Ya t=true) (hle:Yb c.top t≤0) (hd:nou d=true)
  (hl:(putC c.shards s).length≤8):Yy ⟨putC c.shards s,t,d⟩=true:=by
 obtain⟨-,-,-,h4,h5⟩:=Yt.1 h
 refine Yt.2 ⟨hl,ht,hd,Yhn h4,fun x hx=>?_⟩
 rcases YdE hx with rfl|hx
 ·exact⟨by have:=(Yez hs).1;omega,hs,hu⟩
 ·have:=h5 x hx
  exact⟨this.1,this.2.1,Yb8 this.2.2 hle⟩
theorem Yfx {a b:Int} (ha:nou a=true) (hb:Yr b=true):nou (max a b)=true:=by
 simp only[nou,Yr,Gc,Gi] at ha hb ⊢;omega
theorem Yjy {s:Shd} {p:Int} (h:shR s=true) (h1:1≤p) (h2:p≤3):shR {s with phase:=p}=true:=by
 simp only[shR,shR0,Gc,Gi] at h ⊢;simp_all
theorem YgO {s:Shd} {e m:Int} (h:shR s=true) (h1:Yr e=true) (h2:Yr m=true):shR {s with phase:=1,epoch:=e,closed:=m}=true:=by
 have hm:nou m=true:=by simp only[nou,Yr,Gc,Gi] at h2 ⊢;omega
 simp only[shR,shR0,Gc,Gi] at h ⊢;simp_all
theorem install_what {c:Cel} {s:Shd} {m:Int} (hg:Yy c=true→Yr m=true→YY c.shards s.id=none) :
  ((installC c s m).2=false→(installC c s m).1=c)∧
  ((installC c s m).2=true→Yr m=true∧Yy (installC c s m).1=true∧YY (installC c s m).1.shards s.id=some {s with phase:=3}∧0≤Yb (installC c s m).1.top s.top):=by
 unfold installC
 split
 ·rename_i hc
  rw[Gc] at hc
  rw[hg hc.1 hc.2]
  simp only
  split
  ·rename_i hd
   simp only[Gc,GN,Gi,Gq] at hd
   obtain⟨hd1,hd2,hd3,hd4,hd5⟩:=hd
   have hcr:=Yt.1 hc.1
   refine⟨fun h=>(by simp at h),fun _=>⟨hc.2,?_,Yfs (s:={s with phase:=3}),?_⟩⟩
   ·have hst:Ya s.top=true:=by
     simp only[shR,shR0,Gc] at hd3;exact hd3.1.2.2.2.2.2.2.2.2.2.2.2.1
    refine Yct hc.1 (Yjy hd3 (by omega) (by omega)) (Yb8 (s:={s with phase:=3}) (t:=s.top) hd5 YbT.2) (Yb2 hcr.2.1 hst) YbT.1 hcr.2.2.1 ?_
    rw[Yc4 hcr.2.2.2.1]
    split
    ·omega
    ·have:=hcr.1;omega
   ·exact YaR.2 YbT.2
  ·exact⟨fun _=>rfl,fun h=>by simp at h⟩
 ·exact⟨fun _=>rfl,fun h=>by simp at h⟩
def Keep (c d:Cel):Prop:=Yy d=true∧Yb c.top d.top≤0
theorem YR {c:Cel} (h:Yy c=true):Keep c c:=⟨h,by rw[YaZ];omega⟩
theorem keep_put {c:Cel} {s s':Shd} {t:Stamp} {d:Int} (h:Yy c=true) (hg:YY c.shards s.id=some s) (hid:s'.id=s.id) (hs:shR s'=true) (he:s'.ents=s.ents)
  (ht:Ya t=true) (hle:Yb c.top t≤0) (hd:nou d=true):Keep c ⟨putC c.shards s',t,d⟩:=by
 have hcr:=Yt.1 h
 have hu:=(hcr.2.2.2.2 s (Yo hg).1).2.2
 refine⟨Yct h hs (by have:=Yb8 hu hle;simpa only [uptoE,he] using this) ht hle hd ?_,hle⟩
 rw[Yc4 hcr.2.2.2.1,hid,hg]
 exact hcr.1
theorem YgI {c:Cel} {n e l:Int} (h:Yy c=true):Keep c (Ybk c n e l).1:=by
 unfold Ybk;cases q:YP c n with
 |none=>exact YR h
 |some s=>
  obtain⟨-,-,hg,-,hid,-,-,hm⟩:=Yz q;have hcr:=Yt.1 h;simp only;split
  ·rename_i hc;rw[Gc] at hc;rw[←hid] at hg;have hn:nou l=true:=by
    have:=(Gc _ _▸hc.1).2;simp only[nou,Yr,Gc,Gi] at this ⊢;omega
   have hs:=(hcr.2.2.2.2 s hm).2.1;refine keep_put (s':={s with hold:=l}) h hg rfl ?_ rfl hcr.2.1 (by rw[YaZ];omega) hcr.2.2.1;simp only[shR,shR0,Gc,Gi] at hs ⊢;simp_all
  ·exact YR h
theorem YfZ {c:Cel} {t:Stamp} (h:Yy c=true):Keep c (Ycf c t):=by
 unfold Ycf;split
 ·rename_i hc;rw[Gc] at hc;have hcr:=Yt.1 h;exact⟨Yt.2 ⟨hcr.1,Yb2 hcr.2.1 hc.2,hcr.2.2.1,hcr.2.2.2.1,fun s hs=>⟨(hcr.2.2.2.2 s hs).1,(hcr.2.2.2.2 s hs).2.1,Yb8 (hcr.2.2.2.2 s hs).2.2 YbT.1⟩⟩,YbT.1⟩
 ·exact YR h
theorem YfW {c:Cel} {n d:Int} (h:Yy c=true) (hd:nou d=true):Keep c ⟨YbF c.shards n,c.top,d⟩:=by
 have hcr:=Yt.1 h;exact⟨Yt.2 ⟨GJ (List.length_filter_le _ _) hcr.1,hcr.2.1,hd,YiJ hcr.2.2.2.1,fun s hs=>hcr.2.2.2.2 s (Gab.1 hs).1⟩,by rw[YaZ];omega⟩
theorem Yfh {c:Cel} {n m:Int} (h:Yy c=true):Keep c (Yac c n m).1:=by
 have hcr:=Yt.1 h;unfold Yac;split
 ·cases q:YY c.shards n with
  |none=>exact YR h
  |some s=>
   simp only;split
   ·exact YfW h hcr.2.2.1
   ·exact YR h
 ·exact YR h
theorem Yhf {n:Int} (h:Yr n=true):nou n=true:=by
 simp only[nou,Yr,Gc,Gi] at h ⊢;omega
theorem Yf7:nou 0=true:=rfl
theorem Ykm {s:Shd} {l x:Int} (hs:shR s=true) (hl:nou l=true) (hx:nou x=true):shR {s with seen:=l,hold:=x}=true:=by
 simp only[shR,shR0,Gc,Gi] at hs ⊢;simp_all
theorem Yjx {s:Shd} (hs:shR s=true):nou s.hold=true:=by
 simp only[shR,shR0,Gc] at hs;exact hs.1.2.2.1
theorem YgH {c:Cel} {n l:Int} {t:Stamp} (h:Yy c=true):Keep c (Ybp c n l t).1:=by
 unfold Ybp;cases q:YP c n with
 |none=>exact YR h
 |some s=>
  obtain⟨-,-,hg,-,hid,-,-,hm⟩:=Yz q;have hcr:=Yt.1 h;have hs:=(hcr.2.2.2.2 s hm).2.1;rw[←hid] at hg;simp only;split
  ·rename_i hc;rw[Gc] at hc;split
   ·exact YR h
   ·refine keep_put (s':={s with seen:=l,hold:=if s.hold=l then 0 else s.hold}) h hg rfl (Ykm hs (Yhf hc.1) ?_) rfl (Yb2 hcr.2.1 hc.2) YbT.1 hcr.2.2.1;split
    ·exact Yf7
    ·exact Yjx hs
  ·exact YR h
theorem Yiu {s:Shd} {m:Int} {t:Stamp} (hs:shR s=true) (hm:nou m=true) (ht:Ya t=true):shR {s with phase:=2,move:=m,top:=t}=true:=by
 simp only[shR,shR0,Gc,Gi] at hs ⊢;simp_all
theorem YdZ {c:Cel} {n e m:Int} (h:Yy c=true):Keep c (YO c n e m).1:=by
 unfold YO;cases q:YP c n with
 |none=>exact YR h
 |some s=>
  obtain⟨-,-,hg,-,hid,-,-,hm⟩:=Yz q;have hcr:=Yt.1 h;have hs:=(hcr.2.2.2.2 s hm).2.1;rw[←hid] at hg;simp only;split
  ·rename_i hc;rw[Gc] at hc;split
   ·exact YR h
   ·split
    ·exact keep_put (s':={s with phase:=2,move:=m,top:=c.top}) h hg rfl (Yiu hs (Yhf hc.2) hcr.2.1) rfl hcr.2.1 (by rw[YaZ];omega) hcr.2.2.1
    ·exact YR h
  ·exact YR h
theorem Ykn {s:Shd} {m p:Int} (hs:shR s=true) (hm:nou m=true) (h1:1≤p) (h2:p≤3):shR {s with closed:=m,phase:=p}=true:=by
 simp only[shR,shR0,Gc,Gi] at hs ⊢;simp_all
theorem YlX {s:Shd} (hs:shR s=true):1≤s.phase∧s.phase≤3:=by
 simp only[shR,shR0,Gc,Gi] at hs;exact⟨hs.1.2.2.2.2.2.2.1,hs.1.2.2.2.2.2.2.2.1⟩
theorem Ye5 {c:Cel} {n m:Int} (h:Yy c=true):Keep c (Ya1 c n m).1:=by
 unfold Ya1;cases q:YP c n with
 |none=>exact YR h
 |some s=>
  obtain⟨-,-,hg,-,hid,-,-,hm⟩:=Yz q;have hcr:=Yt.1 h;have hs:=(hcr.2.2.2.2 s hm).2.1;have hp:=YlX hs;rw[←hid] at hg;simp only;split
  ·rename_i hc;split
   ·exact YR h
   ·exact keep_put (s':={s with closed:=m,phase:=if Yad s m then 1 else s.phase}) h hg rfl (Ykn hs (Yhf hc) (by split<;>omega) (by split<;>omega)) rfl hcr.2.1 (by rw[YaZ];omega) hcr.2.2.1
  ·exact YR h
theorem Yf0 {c:Cel} {n m e:Int} (h:Yy c=true):Keep c (Yat c n m e).1:=by
 unfold Yat;cases q:YP c n with
 |none=>exact YR h
 |some s=>
  obtain⟨-,-,hg,-,hid,-,-,hm⟩:=Yz q;have hcr:=Yt.1 h;have hs:=(hcr.2.2.2.2 s hm).2.1;rw[←hid] at hg;simp only;split
  ·rename_i hc;rw[Gc] at hc;split
   ·exact YR h
   ·split
    ·exact keep_put (s':={s with phase:=1,epoch:=e,closed:=m}) h hg rfl (YgO hs hc.2 hc.1) rfl hcr.2.1 (by rw[YaZ];omega) (Yfx hcr.2.2.1 hc.1)
    ·exact YR h
  ·exact YR h
theorem YgG {c:Cel} {n m:Int} (h:Yy c=true):Keep c (Ybn c n m).1:=by
 have hcr:=Yt.1 h;unfold Ybn;split
 ·rename_i hc;simp only[Gc] at hc;have hk:Keep c ⟨c.shards,c.top,max c.dropped m⟩:=⟨Yt.2 ⟨hcr.1,hcr.2.1,Yfx hcr.2.2.1 hc.2.2,hcr.2.2.2.1,hcr.2.2.2.2⟩,by rw[YaZ];omega⟩;cases q:YY c.shards n with
  |none=>exact hk
  |some s=>
   simp only;split
   ·exact YfW h (Yfx hcr.2.2.1 hc.2.2)
   ·exact hk
 ·exact YR h
theorem Yjk {α:Type} {l:List α} {i:Nat} (h:l.drop i≠[]):(l.drop i).getLast?=l.getLast?:=by
 have hi:i<l.length:=by
  rcases GA i l.length with h'|h'
  ·exact h'
  ·exact absurd (List.drop_eq_nil_of_le h') h
 rw[List.getLast?_drop,Gn (by omega)]
theorem Yc3 {t:Stamp} {e x:Entr} (h:prF t e=some x):x.key=e.key∧x.chain.getLast?=e.chain.getLast?:=by
 unfold prF at h;split at h
 ·cases h
 ·rename_i hn;simp only[Ga] at h;subst h;refine⟨rfl,?_⟩;simp only[Gi] at hn;simp only;unfold YV at hn ⊢;split
  ·rename_i hc;rw[Gr hc] at hn;exact Yjk hn
  ·rename_i hc;rw[Gn hc] at hn;exact absurd rfl hn
theorem Yjz {s:Shd} {t:Stamp} (hs:shR s=true) (ht:Ya t=true):shR (prS t s)=true:=by
 have hr:=Yb4 (s:=t) (Ycg hs).1;have hk:((Y0 s.ents t).all fun e=>Yas s.span e.key)=true:=by
  rw[Gx];intro x hx;obtain⟨e,he,hf⟩:=List.mem_filterMap.1 hx;rw[(Yc3 hf).1];simp only[shR,Gc,Gx] at hs;exact hs.2 e he
 have hm:Ya s.mark=true:=by
  simp only[shR,shR0,Gc] at hs;exact hs.1.2.2.2.2.2.2.2.2.2.2.1
 have hl:=Yb2 hm ht;simp only[shR,shR0,prS,Gc,Gi] at hs ⊢;simp_all
theorem Yiy {s:Shd} {t u:Stamp} (h:uptoE s u=true):uptoE (prS t s) u=true:=by
 simp only[uptoE,Gx,prS] at h ⊢;intro x hx;obtain⟨e,he,hf⟩:=List.mem_filterMap.1 hx;rw[(Yc3 hf).2];exact h e he
theorem YfY {c:Cel} {t:Stamp} (h:Yy c=true):Keep c (YaI c t):=by
 have hcr:=Yt.1 h;unfold YaI;split
 ·rename_i hc;rw[Gc] at hc;refine⟨Yt.2 ⟨by simpa using hcr.1,hcr.2.1,hcr.2.2.1,List.pairwise_map.2 hcr.2.2.2.1,fun x hx=>?_⟩,by rw[YaZ];omega⟩;obtain⟨s,hs,rfl⟩:=GaA.1 hx;have:=hcr.2.2.2.2 s hs;exact⟨this.1,Yjz this.2.1 hc.2,Yiy this.2.2⟩
 ·exact YR h
theorem Yjr {c:Cel} {s:Shd} {r:Rq} {w:Int} (h:Yy c=true) (hr:Ya r.at_=true):Keep c (Ya4 c s r w).1:=by
 have hcr:=Yt.1 h;unfold Ya4;split
 ·exact YR h
 ·split
  ·exact YR h
  ·exact⟨Yt.2 ⟨hcr.1,Yb2 hcr.2.1 hr,hcr.2.2.1,hcr.2.2.2.1,fun s hs=>⟨(hcr.2.2.2.2 s hs).1,(hcr.2.2.2.2 s hs).2.1,Yb8 (hcr.2.2.2.2 s hs).2.2 YbT.1⟩⟩,YbT.1⟩
theorem Yar {s:Shd} (h:shR s=true):YC s.span=true∧ixR s.ents=true∧Ya s.mark=true∧YA s.done=true∧∀e∈s.ents,Yas s.span e.key=true:=by
 simp only[shR,shR0,Gc,Gx] at h;exact⟨h.1.2.2.2.2.2.2.2.2.1,h.1.2.2.2.2.2.2.2.2.2.1,h.1.2.2.2.2.2.2.2.2.2.2.1,h.1.2.2.2.2.2.2.2.2.2.2.2.2,h.2⟩
theorem YkU {c d e:Cel} (h1:Keep c d) (h2:Keep d e):Keep c e:=⟨h2.1,Yec h1.2 h2.2⟩
theorem Yjg {l:List Entr} {k:List UInt8} (hr:ixR l=true) (hk:keyR k=true) {j:Nat} {e:Entr} (hj:YL k l+(if YW k l then 1 else 0)≤j) (he:l[j]?=some e):ltS k e.key=true:=by
 have hpw:=(YaA.1 hr).2.1;have hlt:∀{i:Nat} {x:Entr},i<j→l[i]?=some x→ltS x.key e.key=true:=fun {i x} hi hx=>by
  obtain⟨h1,h2⟩:=List.getElem?_eq_some_iff.1 hx;obtain⟨h3,h4⟩:=List.getElem?_eq_some_iff.1 he;have:=Gat.1 hpw i j h1 h3 hi;rwa [h2,h4] at this
 cases c:YW k l with
 |true=>
  rw[c] at hj;simp only[Gz] at hj;obtain⟨x,hx,hkx⟩:=Ydv hr hk c;rw[←hkx];exact hlt (by omega) hx
 |false=>
  rw[c] at hj;simp only[Gm,Gu,Nat.add_zero] at hj;have hn:∀{x:Entr},ltS x.key k=false→¬YD (Yq x.key) (Yq k)<0:=fun {x} h q=>by
   rw[YaG.2 q] at h;cases h
  rcases GA (YL k l) j with hl|hl
  ·have hjl:=(List.getElem?_eq_some_iff.1 he).1;obtain⟨x,hx,-⟩:=Jiq (l:=l) (i:=YL k l) (by omega);have h1:=hn (Yeh (YdX hr) (Gt _) hx);have h2:=hlt hl hx;rw[YaG] at h2 ⊢;exact Yc0 (Yf2 h1) h2
  ·obtain rfl:j=YL k l:=by omega
   have h1:=hn (Yeh (YdX hr) (Gt _) he);simp only[YW,he,Gq] at c;rw[YaG];exact Yln (by omega)
theorem Yer {l:List Entr} {k:List UInt8} {e:Entr} (he:e∈l.take (YL k l)):ltS e.key k=true:=by
 obtain⟨j,hj⟩:=List.mem_iff_getElem?.1 he;have hlt:j<YL k l:=by
  rcases GA j (YL k l) with h|h
  ·exact h
  ·rw[List.getElem?_take,Gn (by omega)] at hj;cases hj
 rw[List.getElem?_take_of_lt hlt] at hj;exact YeR hlt hj
theorem YfE {l:List Entr} {k:List UInt8} (hr:ixR l=true) (hk:keyR k=true) {e:Entr} (he:e∈l.drop (YL k l+if YW k l then 1 else 0)):ltS k e.key=true:=by
 obtain⟨j,hj⟩:=List.mem_iff_getElem?.1 he;rw[List.getElem?_drop] at hj;exact Yjg hr hk (by omega) hj
theorem Ygc {l:List Entr} {k:List UInt8} {c:List Ver} {x:Entr} (h:x∈Ycm l k c):x=⟨k,c⟩∨x∈l:=by
 rcases GT.1 h with h|h
 ·exact .inr (Gah h)
 ·rcases GI.1 h with h|h
  ·exact .inl h
  ·exact .inr (Gac h)
theorem Yiq {l:List Entr} {k:List UInt8} {c:List Ver} (hr:ixR l=true) (hk:keyR k=true) (hc:c≠[]) (hcr:Yg c=true)
  (hl:YW k l=true∨l.length≠64):ixR (Ycm l k c)=true:=by
 obtain⟨h1,h2,h3⟩:=YaA.1 hr
 refine YaA.2 ⟨?_,?_,fun e he=>?_⟩
 ·have hp:=YdD (k:=k) l
  simp only[Ycm,Ge,GG,List.length_cons,GL]
  cases q:YW k l with
  |true=>
   obtain⟨x,hx,-⟩:=YeW q
   have:=(List.getElem?_eq_some_iff.1 hx).1
   simp only[Gz]
   omega
  |false=>
   rw[q] at hl
   simp only[Gm,Gu,false_or] at hl ⊢
   omega
 ·refine List.pairwise_append.2 ⟨h2.sublist (List.take_sublist _ _),GV.2 ⟨fun y hy=>YfE hr hk hy,h2.sublist (List.drop_sublist _ _)⟩,fun x hx y hy=>?_⟩
  rcases GI.1 hy with rfl|hy
  ·exact Yer hx
  ·have a1:=Yer hx
   have a2:=YfE hr hk hy
   rw[YaG] at a1 a2 ⊢
   exact Yc0 (by omega) a2
 ·rcases Ygc he with rfl|he
  ·exact Ybj.2 ⟨hk,hc,hcr⟩
  ·exact h3 e he
theorem Yhm {l:List Entr} {k:List UInt8} {v:Ver} (h:(YaV l k v).2=0) :
  ixR l=true∧keyR k=true∧(YaV l k v).1=Ycm l k (oldC k l++[v])∧Yg (oldC k l)=true∧Yg (oldC k l++[v])=true∧ixR (YaV l k v).1=true:=by
 unfold YaV at h ⊢
 by_cases h1:(ixR l&&keyR k)=true
 ·rw[Gr h1] at h ⊢
  rw[Gc] at h1
  by_cases h2:(addC (oldC k l) v).2=0
  ·rw[Gr h2] at h ⊢
   by_cases h3:(!YW k l&&decide (l.length=64))=true
   ·rw[Gr h3] at h;simp at h
   ·rw[Gn h3]
    obtain⟨g1,g2,g3,g4⟩:=YiB h2
    rw[g1]
    refine⟨h1.1,h1.2,rfl,g2,g4,Yiq h1.1 h1.2 (by simp) g4 ?_⟩
    cases q:YW k l with
    |true=>exact .inl rfl
    |false=>
     rw[q] at h3
     exact .inr fun e=>h3 (by simp[e])
  ·rw[Gn h2] at h
   exact absurd h h2
 ·rw[Gn h1] at h;simp at h
theorem YfO {o:Ans} {s:Shd} {r:Rq} {now:Stamp} (h:(YT o s r now).2=0) (hr:ixR s.ents=true) :
  ((YT o s r now).1=s.ents)∨(∃v:Ver,v.at_=now∧(YT o s r now).1=(YaV s.ents r.key v).1∧(YaV s.ents r.key v).2=0):=by
 unfold YT at h ⊢
 split
 ·exact .inl rfl
 ·rename_i h1
  rw[Gn h1] at h
  split
  ·rename_i h2
   rw[Gr h2] at h
   exact .inr ⟨_,rfl,rfl,h⟩
  ·rename_i h2
   rw[Gn h2] at h
   split
   ·rename_i h3
    rw[Gr h3] at h
    exact .inr ⟨_,rfl,rfl,h⟩
   ·exact .inl rfl
theorem YgP {s:Shd} {l:List Entr} {t:List Done} (hs:shR s=true) (hl:ixR l=true) (hk:∀e∈l,Yas s.span e.key=true) (ht:YA t=true):shR {s with ents:=l,done:=t}=true:=by
 have hk:(l.all fun e=>Yas s.span e.key)=true:=Gx.2 hk;simp only[shR,shR0,Gc,Gi] at hs ⊢;simp_all
theorem write_what {c:Cel} {s:Shd} {r:Rq} {now:Stamp}:(YH c s r now).1=c∨
  ((YH c s r now).2=YaE (YF s r.key c.top) r now∧0<Yb now c.top∧(YT (YF s r.key c.top) s r now).2=0∧(Yay s.done ⟨r.client,r.req,YaE (YF s r.key c.top) r now⟩).2=0∧
  (YH c s r now).1=⟨putC c.shards {s with ents:=(YT (YF s r.key c.top) s r now).1,done:=(Yay s.done ⟨r.client,r.req,YaE (YF s r.key c.top) r now⟩).1},now,c.dropped⟩):=by
 unfold YH
 split
 ·exact .inl rfl
 ·split
  ·exact .inl rfl
  ·split
   ·exact .inl rfl
   ·rename_i h
    split
    ·exact .inl rfl
    ·rename_i h1
     split
     ·exact .inl rfl
     ·rename_i h2
      exact .inr ⟨rfl,by omega,Decidable.not_not.1 h1,Decidable.not_not.1 h2,rfl⟩
theorem YkE {a b:Stamp} (h:0<Yb a b):Yb b a<0:=by
 rw[Ydy] at h;rw[Ybh];omega
theorem Yif {c:Cel} {s:Shd} {r:Rq} {now:Stamp} {n:Int} (h:Yy c=true) (hg:YY c.shards n=some s) (ht:Ya now=true) (hh:Yas s.span r.key=true):Keep c (YH c s r now).1:=by
 rcases write_what (c:=c) (s:=s) (r:=r) (now:=now) with e|⟨-,h1,h2,h3,e⟩
 ·rw[e];exact YR h
 ·rw[e];have hcr:=Yt.1 h;have hm:=Yo hg;have hs:=hcr.2.2.2.2 s hm.1;have hp:=Yar hs.2.1;obtain⟨-,-,h5,h6,-⟩:=Yey h3;rw[h5];have hle:Yb c.top now≤0:=by have:=YkE h1;omega
  have hlen:∀x:Shd,x.id=s.id→(putC c.shards x).length≤8:=fun x hx=>by
   rw[Yc4 hcr.2.2.2.1,hx,hm.2,hg];exact hcr.1
  rcases YfO h2 hp.2.1 with e1|⟨v,hv,e1,e2⟩
  ·rw[e1];exact⟨Yct h (YgP hs.2.1 hp.2.1 hp.2.2.2.2 h6) (by have:=Yb8 hs.2.2 hle;simpa only [uptoE] using this) ht hle hcr.2.2.1 (hlen _ rfl),hle⟩
  ·rw[e1];obtain⟨-,-,g3,-,g5,g6⟩:=Yhm e2;refine⟨Yct h (YgP hs.2.1 g6 (fun x hx=>?_) h6) ?_ ht hle hcr.2.2.1 (hlen _ rfl),hle⟩
   ·rw[g3] at hx;rcases Ygc hx with rfl|hx
    ·exact hh
    ·exact hp.2.2.2.2 x hx
   ·have hu:=Yb8 hs.2.2 hle;simp only[uptoE,Gx] at hu ⊢;intro x hx;rw[g3] at hx;rcases Ygc hx with rfl|hx
    ·simp[hv,YaZ]
    ·exact hu x hx
theorem Yj0 {s:Shd} {r:Rq} (hq:YcY s r=true) (hk:keyR r.key=true):Yas s.span r.key=true:=by
 have:=(Yaa hk).2;simpa [YcY,this] using hq
theorem Yft {c:Cel} {n e:Int} {r:Rq} {now:Stamp} {w:Int} (h:Yy c=true):Keep c (doC c n e r now w).1:=by
 unfold doC;split
 ·rename_i hc;simp only[Gc] at hc;obtain⟨-,hn,he,hw,ht,hr⟩:=hc;cases q:YY c.shards n with
  |none=>exact YR h
  |some s=>
   simp only;split
   ·exact YR h
   ·rename_i hq;split
    ·exact YR h
    ·split
     ·rename_i hw;have hq:YcY s r=true:=by
       cases q:YcY s r with
       |true=>rfl
       |false=>rw[q] at hq;simp at hq
      have h4:=Yjf hr;rw[hw] at h4;have h4:r.kind<4:=Gg h4.symm;exact Yif h q ht (Yj0 hq ((Ygg hr).2.2 (by omega)))
     ·split
      ·exact YR h
      ·exact Yjr h (Ylr hr)
 ·exact YR h
theorem Yja {a:Shd} {l:List Entr} {sp:Span} {x o:Int} (hs:shR a=true) (hl:ixR l=true) (hp:YC sp=true) (hk:∀e∈l,Yas sp e.key=true) (hx:Yr x=true) (ho:Yr o=true) :
  shR {a with id:=o,ents:=l,span:=sp,epoch:=x}=true:=by
 have hk:(l.all fun e=>Yas sp e.key)=true:=Gx.2 hk
 simp only[shR,shR0,Gc,Gi] at hs ⊢
 simp_all
theorem Ycb {s:Span} {k:List UInt8}:Yas s k=true↔YC s=true∧keyR k=true∧YD (Yq s.lo) (Yq k)≤0∧(s.hi=[]∨YD (Yq k) (Yq s.hi)<0):=by
 simp only[Yas,leS,ltS,Gc,G2,Gi]
theorem YfI {s:Span} {k:List UInt8} (h:(YaF s k).2.2=0):YaF s k=(⟨s.lo,k⟩,⟨k,s.hi⟩,0)∧YC ⟨s.lo,k⟩=true∧YC ⟨k,s.hi⟩=true∧keyR k=true∧Yas s k=true:=by
 unfold YaF at h ⊢;by_cases h1:(YC s&&keyR k)=true
 ·rw[Gr h1] at h ⊢;rw[Gc] at h1;by_cases h2:(decide (k=s.lo)||!Yas s k)=true
  ·rw[Gr h2] at h;simp at h
  ·rw[Gn h2];have e:=Yh8 h1.1 h1.2;have h3:(decide (k=s.lo)||!Yas s k)=false:=by simpa using h2
   rw[h3] at e;simp only[GY,Gc] at e;refine⟨rfl,e.1,e.2,h1.2,?_⟩;simp only[Gap] at h3;simpa using h3.2
 ·rw[Gn h1] at h;simp at h
theorem Yko {s:Span} {l:List Entr} {k:List UInt8} (hl:∀e∈l,Yas s e.key=true) (hs:YC ⟨s.lo,k⟩=true):∀e∈Yaw l k true,Yas ⟨s.lo,k⟩ e.key=true:=fun e he=>by
 obtain⟨h1,h2⟩:=Gab.1 he;have h3:=Ycb.1 (hl e h1);have h2:ltS e.key k=true:=by simpa using h2
 exact Ycb.2 ⟨hs,h3.2.1,h3.2.2.1,.inr (YaG.1 h2)⟩
theorem YjC {s:Span} {l:List Entr} {k:List UInt8} (hl:∀e∈l,Yas s e.key=true) (hs:YC ⟨k,s.hi⟩=true):∀e∈Yaw l k false,Yas ⟨k,s.hi⟩ e.key=true:=fun e he=>by
 obtain⟨h1,h2⟩:=Gab.1 he;have h3:=Ycb.1 (hl e h1);have h2:ltS e.key k=false:=by simpa using h2
 exact Ycb.2 ⟨hs,h3.2.1,Yf2 (fun q=>by rw[YaG.2 q] at h2;cases h2),h3.2.2.2⟩
theorem YhX {s s':Shd} {t:Stamp} (h:uptoE s t=true) (hs:∀e∈s'.ents,e∈s.ents):uptoE s' t=true:=by
 simp only[uptoE,Gx] at h ⊢;exact fun e he=>h e (hs e he)
theorem split_what {c:Cel} {n e:Int} {k:List UInt8} {o x:Int}:(YaD c n e k o x).1=c∨∃a,Yy c=true∧Yr o=true∧Yr x=true∧YY c.shards n=some a∧YY c.shards o=none∧YbB a e=true∧c.shards.length≠8∧(YaF a.span k).2.2=0∧
  (YaD c n e k o x).1=⟨putC (putC c.shards {a with ents:=Yaw a.ents k true,span:=⟨a.span.lo,k⟩,epoch:=x}) {a with id:=o,ents:=Yaw a.ents k false,span:=⟨k,a.span.hi⟩,epoch:=x},c.top,c.dropped⟩:=by
 unfold YaD
 split
 ·rename_i hc
  simp only[Gc] at hc
  obtain⟨h,hn,he,ho,hx⟩:=hc
  cases q:YY c.shards n with
  |none=>exact .inl rfl
  |some a=>
   cases q2:YY c.shards o with
   |some b=>exact .inl rfl
   |none=>
    simp only
    split
    ·rename_i hd
     simp only[Gc,GN,Gi,Gq] at hd
     obtain⟨d1,d2,d3,d4,d5⟩:=hd
     refine .inr ⟨a,h,ho,hx,by first|rfl|exact q|trivial,by first|rfl|trivial,d1,d4,d5,?_⟩
     have hm:=Yo q
     have hr:=(Yar ((Yt.1 h).2.2.2.2 a hm.1).2.1).2.1
     rw[(YfI d5).1,Yfb hr]
    ·exact .inl rfl
 ·exact .inl rfl
theorem Yf1 {c:Cel} {n e:Int} {k:List UInt8} {o x:Int} (h:Yy c=true):Keep c (YaD c n e k o x).1:=by
 rcases split_what (c:=c) (n:=n) (e:=e) (k:=k) (o:=o) (x:=x) with e|⟨a,-,ho,hx,q,q2,-,h8,h0,e⟩
 ·rw[e];exact YR h
 ·rw[e];have hcr:=Yt.1 h;have hm:=Yo q;have hs:=hcr.2.2.2.2 a hm.1;have hp:=Yar hs.2.1;obtain⟨-,s1,s2,-,-⟩:=YfI h0;have hid:Yr a.id=true:=by
   have:=Yez hs.2.1;simp only[Yr,Gc,Gi];exact this
  have i1:ixR (Yaw a.ents k true)=true:=YdB hp.2.1 Gal;have i2:ixR (Yaw a.ents k false)=true:=YdB hp.2.1 Gal;have r1:=Yja (o:=a.id) hs.2.1 i1 s1 (Yko hp.2.2.2.2 s1) hx hid;have r2:=Yja (o:=o) hs.2.1 i2 s2 (YjC hp.2.2.2.2 s2) hx ho;have hle:Yb c.top c.top≤0:=by rw[YaZ];omega
  have hl1:(putC c.shards {a with ents:=Yaw a.ents k true,span:=⟨a.span.lo,k⟩,epoch:=x}).length=c.shards.length:=by
   rw[Yc4 hcr.2.2.2.1];simp only[hm.2,q,Option.isSome_some,Gz]
  have k1:Yy ⟨putC c.shards {a with ents:=Yaw a.ents k true,span:=⟨a.span.lo,k⟩,epoch:=x},c.top,c.dropped⟩=true:=
   Yct h r1 (YhX hs.2.2 fun e he=>(Gab.1 he).1) hcr.2.1 hle hcr.2.2.1 (by rw[hl1];exact hcr.1)
  have k2:=Yct (s:={a with id:=o,ents:=Yaw a.ents k false,span:=⟨k,a.span.hi⟩,epoch:=x}) (t:=c.top) (d:=c.dropped) k1 r2 (YhX hs.2.2 fun e he=>(Gab.1 he).1) hcr.2.1 hle hcr.2.2.1 (by
   rw[Yc4 (Yt.1 k1).2.2.2.1];simp only;rw[hl1];have:=hcr.1;split<;>omega)
  exact⟨k2,hle⟩
theorem Yev {a b:List Entr} (h:(Yav a b).2=0):(Yav a b).1=a++b:=by
 unfold Yav at h ⊢;split at h
 ·rename_i h1;rw[Gr h1];split at h
  ·simp at h
  ·rename_i h2;rw[Gn h2];split at h
   ·simp at h
   ·rename_i h3;rw[Gn h3]
 ·simp at h
theorem YfV {a b:Span} (h:(Y7 a b).2=0):(Y7 a b).1=⟨a.lo,b.hi⟩∧a.hi≠[]∧a.hi=b.lo:=by
 unfold Y7 at h ⊢;split at h
 ·rename_i h1;rw[Gr h1];split at h
  ·simp at h
  ·rename_i h2;rw[Gn h2];have h3:(decide (a.hi=[])||!decide (a.hi=b.lo))=false:=by simpa using h2
   simp only[Gap,GaG,Gi,Gq] at h3;exact⟨rfl,h3.1,h3.2⟩
 ·simp at h
theorem YfB {s:Span} (h:YC s=true):s.hi=[]∨YD (Yq s.lo) (Yq s.hi)<0:=(Ya8 h).imp id And.right
theorem YgE {a b:Span} (ha:YC a=true) (hb:YC b=true) (h1:a.hi≠[]) (h2:a.hi=b.lo):YC ⟨a.lo,b.hi⟩=true:=by
 rw[Ydt (Yc6 ha) ((Ya8 hb).imp id And.left),YcR];rcases YfB hb with h|h
 ·exact .inl h
 ·rcases YfB ha with h'|h'
  ·exact absurd h' h1
  ·rw[h2] at h';exact .inr (Yc0 (by omega) h)
theorem Yj4 {a b:Span} {k:List UInt8} (ha:YC a=true) (hb:YC b=true) (h1:a.hi≠[]) (h2:a.hi=b.lo) (h:Yas a k=true∨Yas b k=true):Yas ⟨a.lo,b.hi⟩ k=true:=by
 have hs:=YgE ha hb h1 h2;rcases h with h|h
 ·obtain⟨-,g1,g2,g3⟩:=Ycb.1 h;refine Ycb.2 ⟨hs,g1,g2,?_⟩;rcases YfB hb with h'|h'
  ·exact .inl h'
  ·rcases g3 with g3|g3
   ·exact absurd g3 h1
   ·rw[h2] at g3;exact .inr (Yc0 (by omega) h')
 ·obtain⟨-,g1,g2,g3⟩:=Ycb.1 h;refine Ycb.2 ⟨hs,g1,?_,g3⟩;rcases YfB ha with h'|h'
  ·exact absurd h' h1
  ·rw[h2] at h';have:=Ydg h' g2
   show YD (Yq a.lo) (Yq k)≤0
   omega
theorem merge_what {c:Cel} {n o e x:Int}:(YaB c n o e x).1=c∨∃a b,Yy c=true∧Yr x=true∧YY c.shards n=some a∧YY c.shards o=some b∧YbB a e=true∧YbB b b.epoch=true∧(Y7 a.span b.span).2=0∧(Yav a.ents b.ents).2=0∧(Y3 a.done b.done).2=0∧
  (YaB c n o e x).1=⟨YbF (putC c.shards (mrg a b x)) o,c.top,c.dropped⟩:=by
 unfold YaB
 split
 ·rename_i hc
  simp only[Gc] at hc
  obtain⟨h,hn,ho,he,hx⟩:=hc
  cases q:YY c.shards n with
  |none=>exact .inl rfl
  |some a=>
   cases q2:YY c.shards o with
   |none=>exact .inl rfl
   |some b=>
    simp only
    split
    ·rename_i hd
     simp only[Gc,Gi] at hd
     obtain⟨d1,d2,d3,d4,d5,d6,d7,d8⟩:=hd
     exact .inr ⟨a,b,h,hx,rfl,rfl,d1,d2,d6,d7,d8,rfl⟩
    ·exact .inl rfl
 ·exact .inl rfl
theorem Yk9 {a b:Shd} {x:Int} (ha:shR a=true) (hb:shR b=true) (hx:Yr x=true) (h1:(Y7 a.span b.span).2=0) (h2:(Yav a.ents b.ents).2=0) (h3:(Y3 a.done b.done).2=0):shR (mrg a b x)=true:=by
 have pa:=Yar ha;have pb:=Yar hb;obtain⟨s1,s2,s3⟩:=YfV h1;have e1:=Yev h2;have r1:=YcZ h2;obtain⟨-,-,m1,m2⟩:=YeQ h3;have hl:=Yb2 pa.2.2.1 pb.2.2.1;have hsp:=YgE pa.1 pb.1 s2 s3;have hi:=Yb4 (s:=later a.mark b.mark) r1;have hk:((Y0 (Yav a.ents b.ents).1 (later a.mark b.mark)).all fun e=>Yas (Y7 a.span b.span).1 e.key)=true:=by
  rw[Gx];intro y hy;obtain⟨z,hz,hf⟩:=List.mem_filterMap.1 hy;rw[(Yc3 hf).1,s1];rw[e1] at hz;refine Yj4 pa.1 pb.1 s2 s3 ?_;rcases GT.1 hz with hz|hz
  ·exact .inl (pa.2.2.2.2 z hz)
  ·exact .inr (pb.2.2.2.2 z hz)
 have hn:∀{p q:Int},nou p=true→nou q=true→nou (max p q)=true:=fun {p q} hp hq=>by
  simp only[nou,Gc,Gi] at hp hq ⊢;omega
 rw[s1] at hk;rw[←m1] at m2;simp only[shR,shR0,Gc,Gi] at ha hb ⊢;simp only[mrg,s1];exact⟨⟨ha.1.1,hx,ha.1.2.2.1,hn ha.1.2.2.2.1 hb.1.2.2.2.1,Yf7,hn ha.1.2.2.2.2.2.1 hb.1.2.2.2.2.2.1,ha.1.2.2.2.2.2.2.1,ha.1.2.2.2.2.2.2.2.1,hsp,hi,hl,ha.1.2.2.2.2.2.2.2.2.2.2.2.1,m2⟩,hk⟩
theorem YfX {c:Cel} {n o e x:Int} (h:Yy c=true):Keep c (YaB c n o e x).1:=by
 rcases merge_what (c:=c) (n:=n) (o:=o) (e:=e) (x:=x) with e|⟨a,b,-,hx,q,q2,-,-,h1,h2,h3,e⟩
 ·rw[e];exact YR h
 ·rw[e];have hcr:=Yt.1 h;have ma:=Yo q;have mb:=Yo q2;have ha:=hcr.2.2.2.2 a ma.1;have hb:=hcr.2.2.2.2 b mb.1;have hle:Yb c.top c.top≤0:=by rw[YaZ];omega
  have hu:uptoE (mrg a b x) c.top=true:=by
   have ua:=ha.2.2;have ub:=hb.2.2;simp only[uptoE,Gx,mrg] at ua ub ⊢;intro y hy;obtain⟨z,hz,hf⟩:=List.mem_filterMap.1 hy;rw[(Yc3 hf).2];rw[Yev h2] at hz;rcases GT.1 hz with hz|hz
   ·exact ua z hz
   ·exact ub z hz
  have k1:Yy ⟨putC c.shards (mrg a b x),c.top,c.dropped⟩=true:=
   Yct h (Yk9 ha.2.1 hb.2.1 hx h1 h2 h3) hu hcr.2.1 hle hcr.2.2.1 (by
    rw[Yc4 hcr.2.2.2.1];simp only[mrg,ma.2,q,Option.isSome_some,Gz];exact hcr.1)
  exact YkU ⟨k1,hle⟩ (YfW k1 (Yt.1 k1).2.2.1)
def Yij (id:Int) (m:Msg) (b:Bool):Msg:={zMs with kind:=34,from_:=id,n:=m.n,epoch:=m.epoch,of_:=if b then 0 else 1}
def YhJ (s:Sto) (m:Msg):Sto×List Msg:=
 if (atO s m.n).isSome then
  (if (Yae (Yw s m.n).rep m.epoch m.mem).2.2≠0 then (s,[])
  else (⟨s.id,Ybf s.owns ⟨(Yw s m.n).cell,(Yae (Yw s m.n).rep m.epoch m.mem).1,[]⟩⟩,Yai m.n (Yae (Yw s m.n).rep m.epoch m.mem).2.1++[Yij s.id m (YI (Yae (Yw s m.n).rep m.epoch m.mem).1)]))
 else (s,[])
theorem YhK {r:Rep} {v:Int} {l:List Int} (hr:r.members.length≤10000) (hl:l.length≤10000):(Yae r v l).1.members.length≤10000∧(Yae r v l).1.acks.length≤max 1 r.acks.length∧(Yae r v l).2.1.length≤10000∧Yh1 (Yae r v l).2.1:=by
 have z:Yu.members.length≤10000∧Yu.acks.length≤max 1 r.acks.length∧([]:List Word).length≤10000∧Yh1 []:=⟨by simp[Yu],by simp[Yu],by simp,fun w hw=>by cases hw⟩;unfold Yae;split
 ·split
  ·exact⟨hr,Gaj _ _,GJ Ybu hr,Ydq⟩
  ·split
   ·exact z
   ·split
    ·exact z
    ·exact⟨hl,by simp[Y5];omega,GJ Ybu hl,Ydq⟩
 ·exact z
def H438 (Pg:PgT):Prop:=Pg 438=some (.code F438)∧H427 Pg∧H54 Pg∧H41 Pg∧H473 Pg∧H429 Pg
theorem K438 (h:H438 Pg) (s:Sto) (m:Msg) (hs:Ybd s) (hm:m.mem.length≤10000):K' Pg 438 [.agg (YU s),.agg (Y9 m)]=some (eSM (YhJ s m)):=by
 obtain⟨h,h427,h54,h41,h473,h429⟩:=h;have k427:=K427 h427 s m.n (by have:=hs.1;omega);obtain⟨o1,o2,o3⟩:=Yfr (c:=m.n) hs;have k54:=K54 h54 (Yw s m.n).rep m.epoch m.mem o1.ok o1.1 hm;obtain⟨l1,l2,l3,l4⟩:=YhK (v:=m.epoch) o1.1 hm;have rok:RepOk (Yae (Yw s m.n).rep m.epoch m.mem).1:=⟨l1,by have:=o1.2;omega⟩;have k41:=K41 h41 _ rok.ok;have k429:=K429 h429 m.n _ l4 (by omega);have k473:=K473 h473 s ⟨(Yw s m.n).cell,(Yae (Yw s m.n).rep m.epoch m.mem).1,[]⟩ (by have:=hs.1;omega);have hsl:(Yai m.n (Yae (Yw s m.n).rep m.epoch m.mem).2.1).length≤10000:=by simpa [Yai] using l3
 unfold YhJ;clear l1 l2 l3 l4 rok;generalize Yae (Yw s m.n).rep m.epoch m.mem=p at *
 obtain⟨r,wl,e⟩:=p;simp only[Yg7] at k54;simp only at k41 k429 k473 hsl ⊢;generalize Yai m.n wl=sl at *
 generalize Yw s m.n=o at *
 generalize (atO s m.n).isSome=ok at *
 have hlim:sl.length+1≤lim:=by unfold lim;omega
 simp only[go_sem,Gk] at k427 k54 k41 k429 k473;refine Qb h rfl ?_;cases ok with
 |false=>
  rw[Gn (by simp)];simp only[F438,c438,go_sem,k427,Gk]
 |true=>
 rw[Gr rfl];cases c1:decide (e=0) with
 |false=>
  rw[Gr (Gb c1)];simp only[F438,c438,go_sem,k427,k54,c1,Gk]
 |true=>
  rw[Gn (by simpa using Gg c1)];cases c2:YI r with
  |true=>
   rw[c2] at k41;simp only[F438,c438,go_sem,k427,k54,c1,k41,k429,k473,hlim,Gj,GF,GC,Gk,Ge,Yij,zMs,Ycj,Ybl,YbY,Gz]
  |false=>
   rw[c2] at k41;simp only[F438,c438,go_sem,k427,k54,c1,k41,k429,k473,hlim,Gj,GF,GC,Gk,Ge,Yij,zMs,Ycj,Ybl,YbY,Gm,Gu]
def topS (s:Sto) (c:Cel):Stamp:=⟨c.top.wall,c.top.tick,s.id⟩
def doS (s:Sto) (o:Own) (c:Cel) (wall:Int) (m:Msg):Sto×List Msg:=
 if (Yck (topS s c) wall).2≠0 then (s,[doneM s.id m {Ybl with err:=(Yck (topS s c) wall).2}])
 else if (doC c m.shard m.epoch m.req (Yck (topS s c) wall).1 wall).2.err≠0∧(doC c m.shard m.epoch m.req (Yck (topS s c) wall).1 wall).2.err≠15 then (s,[doneM s.id m (doC c m.shard m.epoch m.req (Yck (topS s c) wall).1 wall).2])
 else propS s o (doC c m.shard m.epoch m.req (Yck (topS s c) wall).1 wall).1 [doneM s.id m (doC c m.shard m.epoch m.req (Yck (topS s c) wall).1 wall).2]
def H440 (Pg:PgT):Prop:=Pg 440=some (.code F440)∧H474 Pg∧H439 Pg∧H240 Pg∧H442 Pg
theorem K440 (h:H440 Pg) (s:Sto) (o:Own) (c:Cel) (wall:Int) (m:Msg) (hs:s.owns.length≤100000) (ho:RepOk o.rep) (hc:Yy c=true) :
  K' Pg 440 [.agg (YU s),.agg (YbL o),.agg (Yk c),iz wall,.agg (Y9 m)]=some (eSM (doS s o c wall m)):=by
 obtain⟨h,h474,h439,h240,h442⟩:=h
 obtain⟨z,k474⟩:=K474 h474 (topS s c) wall
 have k240:=K240 h240 c m.shard m.epoch m.req (Yck (topS s c) wall).1 wall (Yal hc)
 have k439:=fun a=>K439 h439 s m a
 have hk:Yy (doC c m.shard m.epoch m.req (Yck (topS s c) wall).1 wall).1=true:=(Yft hc).1
 have k442:=K442 h442 s o (doC c m.shard m.epoch m.req (Yck (topS s c) wall).1 wall).1 [doneM s.id m (doC c m.shard m.epoch m.req (Yck (topS s c) wall).1 wall).2] hs ho hk (by simp)
 unfold doS
 clear hk
 generalize doC c m.shard m.epoch m.req (Yck (topS s c) wall).1 wall=da at *
 generalize Yck (topS s c) wall=np at *
 obtain⟨d,a⟩:=da
 obtain⟨now,e⟩:=np
 simp only[topS] at k474
 simp only at k240 k442 ⊢
 have k439a:=k439 {Ybl with err:=e}
 have k439b:=k439 a
 clear k439
 generalize hpp:propS s o d [doneM s.id m a]=pp at *
 obtain⟨s1,l1⟩:=pp
 simp only[go_sem,Ybl,YbY,Gk,GC] at k474 k240 k439a k439b k442
 refine Qb h rfl ?_
 cases c1:decide (e=0) with
 |false=>
  rw[Gr (Gb c1)]
  simp only[F440,c440,go_sem,k474,c1,k439a,Ybl,YbY,GC,Gk]
 |true=>
  rw[Gn (by simpa using Gg c1)]
  cases c2:decide (a.err=0) with
  |true=>
   rw[Gn (by simp[Gg c2])]
   simp only[F440,c440,go_sem,k474,c1,k240,c2,k439b,k442]
  |false=>
   cases c3:decide (a.err=15) with
   |true=>
    rw[Gn (by simp[Gg c3])]
    simp only[F440,c440,go_sem,k474,c1,k240,c2,c3,k439b,k442]
   |false=>
    rw[Gr ⟨Gb c2,Gb c3⟩]
    simp only[F440,c440,go_sem,k474,c1,k240,c2,c3,k439b,GC,Gk]
def frz (x:Shd):Bool:=decide (x.phase=2)
def H477 (Pg:PgT):Prop:=Pg 477=some (.code F477)
theorem K477 (h:H477 Pg) (x:Shd):K' Pg 477 [.agg (Yh x)]=some (.bool (frz x)):=by
 refine Qb h rfl ?_;simp only[F477,c477,go_sem,frz]
def H476 (Pg:PgT):Prop:=Pg 476=some (.code F476)∧H501 Pg
theorem K476 (h:H476 Pg) (l:List Shd) (g:Nat) (cap:List V) (p:Shd→Bool) (hl:l.length<2 ^ 60) (hg:∀x∈l,K' Pg g (.agg (Yh x)::cap)=some (.bool (p x))) :
  K' Pg 476 [.slice 17 (l.map Yh),.func g cap]=some (.bool (l.any p)):=by
 obtain⟨h,h501⟩:=h
 have k:=K501 h501 l g cap p hl hg
 refine Qb h rfl ?_
 simp only[F476,c476,go_sem,k,YfU]
def YhM (s:Sto) (o:Own) (c:Cel) (m:Msg):Sto×List Msg:=
 if c.shards.any frz then (s,[]) else if cB (YaI c m.at_)=o.rep.base then (s,[]) else propS s o (YaI c m.at_) []
def H443 (Pg:PgT):Prop:=Pg 443=some (.code F443)∧H476 Pg∧H477 Pg∧H262 Pg∧H401 Pg∧H442 Pg
theorem K443 (h:H443 Pg) (s:Sto) (o:Own) (c:Cel) (m:Msg) (hs:s.owns.length≤100000) (ho:RepOk o.rep) (hc:Yy c=true) :
  K' Pg 443 [.agg (YU s),.agg (YbL o),.agg (Yk c),.agg (Y9 m)]=some (eSM (YhM s o c m)):=by
 obtain⟨h,h476,h477,h262,h401,h442⟩:=h
 have k476:=K476 h476 c.shards 477 [] frz (by have:=(Yal hc).1;omega) fun x _=>K477 h477 x
 have k262:=K262 h262 c m.at_ (Yal hc)
 have hd:Yy (YaI c m.at_)=true:=(YfY hc).1
 have k401:=K401 h401 (YaI c m.at_) (Yal hd)
 rw[Gr hd] at k401
 have k442:=K442 h442 s o (YaI c m.at_) [] hs ho hd (by simp)
 unfold YhM
 clear hd
 generalize YaI c m.at_=d at *
 generalize hpp:propS s o d []=pp at *
 obtain⟨s1,l1⟩:=pp
 generalize cB d=bs at *
 simp only[go_sem,Gk] at k476 k262 k401 k442
 refine Qb h rfl ?_
 cases c1:c.shards.any frz with
 |true=>
  rw[c1] at k476
  rw[Gr rfl]
  simp only[F443,c443,go_sem,k476,Gk]
 |false=>
  rw[c1] at k476
  rw[Gn (by simp)]
  cases c2:decide (bs=o.rep.base) with
  |true=>
   rw[Gr (Gg c2)]
   simp only[F443,c443,go_sem,k476,k262,k401,c2,Gk]
  |false=>
   rw[Gn (Gb c2)]
   simp only[F443,c443,go_sem,k476,k262,k401,c2,k442]
def pcsN:Nat→List UInt8→List (List UInt8)
 |0,t=>[t]
 |n+1,t=>if t.length≤64 then [t] else t.take 64::pcsN n (t.drop 64)
def pcs (t:List UInt8):List (List UInt8):=pcsN t.length t
theorem YiW:∀(n m:Nat) (t:List UInt8),t.length≤n→t.length≤m→pcsN n t=pcsN m t
 |0,0,_,_,_=>rfl
 |0,m+1,t,h,_=>by have:t=[]:=GH (by omega);subst this;rfl
 |n+1,0,t,_,h=>by have:t=[]:=GH (by omega);subst this;rfl
 |n+1,m+1,t,h1,h2=>by
  rw[pcsN,pcsN];split
  ·rfl
  ·rw[YiW n m (t.drop 64) (by rw[GL];omega) (by rw[GL];omega)]
theorem Yhk {t:List UInt8} (h:t.length≤64):pcs t=[t]:=by
 unfold pcs;cases t.length with
 |zero=>rfl
 |succ n=>rw[pcsN,Gr h]
theorem Yio {t:List UInt8} (h:64<t.length):pcs t=t.take 64::pcs (t.drop 64):=by
 unfold pcs;cases e:t.length with
 |zero=>omega
 |succ n=>
  rw[pcsN,Gn (by omega),YiW n (t.drop 64).length (t.drop 64) (by rw[GL];omega) (Gt _)]
theorem YiX:∀(n:Nat) {t:List UInt8},t.length≤n→(pcs t).length≤n+1:=by
 intro n
 induction n with
 |zero=>intro t h;rw[Yhk (by omega)];simp
 |succ n ih=>
  intro t h;by_cases h1:t.length≤64
  ·rw[Yhk h1];simp
  ·rw[Yio (by omega),List.length_cons];have:=ih (t:=t.drop 64) (by rw[GL];omega);omega
def pcsF (t:List UInt8) (i:Nat):List (List UInt8):=if i<t.length then pcs (t.drop i) else []
theorem YlP {t:List UInt8} {i:Nat} (h:i<t.length):pcsF t i=((t.take (if i+64<t.length then i+64 else t.length)).drop i)::pcsF t (i+64):=by
 unfold pcsF;rw[Gr h];by_cases h1:i+64<t.length
 ·rw[Gr h1,Gr h1,Yio (by rw[GL];omega),List.drop_drop,List.drop_take]
  congr 2
  omega
 ·rw[Gn h1,Gn h1,Yhk (by rw[GL];omega),GM]
theorem Ykc {t:List UInt8} {i:Nat}:(pcsF t i).length≤t.length+1:=by
 unfold pcsF;split
 ·exact GJ (YiX _ (Gt _)) (by rw[GL];omega)
 ·simp
def Yjm (l:List (List UInt8)):V:=.slice 1 (l.map fun t=>[.str t])
def H475 (Pg:PgT):Prop:=Pg 475=some (.code F475)∧H500 Pg
theorem K475 (h:H475 Pg) (x:Shd) (hs:SmS x):K' Pg 475 [.agg (Yh x)]=some (Yjm (if shR x=true then pcs (shB x) else [])):=by
 obtain⟨h,h500⟩:=h;have k500:=K500 h500 x hs;have e0:∃(t:List UInt8) (e:Int),K' Pg 500 [.agg (Yh x)]=some (.tuple [.str t,iz e])∧t.length≤2 ^ 20∧(if shR x=true then pcs (shB x) else [])=pcsF t 0:=by
  cases c1:shR x with
  |true=>
   rw[Gr c1] at k500;have hw:=(Ygh c1).2;refine⟨shB x,0,k500,by omega,?_⟩;unfold pcsF;rw[Gr rfl,Gr (G6 Nat.zero_lt_one (Yhr _ (Yfa c1))),GaH]
  |false=>
   rw[Gn (by rw[c1];simp)] at k500;exact⟨[],1,k500,by simp,by simp[pcsF]⟩
 obtain⟨t,e,k,hl,he⟩:=e0;rw[he];clear he k500;have hmax:=Ykc (t:=t) (i:=0);simp only[go_sem] at k;refine Qb h rfl ?_;simp only[F475,c475,go_sem,k];unfold l475_0;refine JiJ (fun (p:Nat×List (List UInt8)) S=>S.ρ 3=.str t∧S.ρ 5=.own 5 1 p.2.length∧S.A 5=some (1,p.2.map fun t=>[.str t],.live)∧S.ρ 6=iz p.1∧p.2++pcsF t p.1=pcsF t 0) (fun p=>t.length-p.1) (0,[]) ?_ ?_
 ·simp[go_sem]
 ·intro p S ⟨s3,s5,a5,s6,hq⟩;obtain⟨i,acc⟩:=p;simp only at s5 a5 s6 hq;cases c1:decide ((i:Int)<(t.length:Int)) with
  |false=>
   have hge:¬i<t.length:=by have:=Gb c1;omega
   rw[show pcsF t i=[] by unfold pcsF;rw[Gn hge],Gv] at hq;rw[←hq];simp only[go_sem,s3,s5,a5,s6,c1,Gj,Yjm]
  |true=>
   have hlt:=Yj c1;rw[YlP hlt] at hq;have hacc:acc.length+1≤t.length+1:=by
    have:=Gaz List.length hq;simp only[Ge,List.length_cons] at this;omega
   have hinc:IntKind.i64.wrap ((i:Int)+64)=((i+64:Nat):Int):=by rw[JiG (by omega) (by omega)];omega
   have hmm:(if ((i+64:Nat):Int)<(t.length:Int) then ((i+64:Nat):Int) else (t.length:Int))=((if i+64<t.length then i+64 else t.length:Nat):Int):=by
    by_cases h1:i+64<t.length
    ·rw[Gr h1,Gr (by omega)]
    ·rw[Gn h1,Gn (by omega)]
   have hle:i≤(if i+64<t.length then i+64 else t.length)∧(if i+64<t.length then i+64 else t.length)≤t.length:=by split<;>omega
   generalize (if i+64<t.length then i+64 else t.length)=u at *
   have hlim:acc.length+1≤lim:=by unfold lim;omega
   simp only[go_sem,s3,s5,a5,s6,c1,hinc,hmm,hle,hlim,Gj,Gm,Gu];exact⟨(i+64,acc++[(t.take u).drop i]),by simp only;omega,by simp only[Ge,List.length_cons,List.length_nil],by simp only[GF,GC,Gk],rfl,by simp only;rw[←hq];simp⟩
def YgJ (id:Int) (m:Msg) (n:Int) (t:List UInt8):Msg:={zMs with kind:=15,from_:=id,n:=m.n,shard:=m.shard,move:=m.move,of_:=m.of_,epoch:=n,text:=t}
def Yg9 (id:Int) (m:Msg) (x:Shd):List Msg:=
 if decide (x.phase=2)&&decide (x.move=m.move) then (match (pcs (shB x))[m.of_.toNat]? with|some t=>[YgJ id m (pcs (shB x)).length t]|none=>[]) else []
def Ye1 (id:Int) (c:Cel) (m:Msg):List Msg:=match YP c m.shard with
 |none=>[]
 |some x=>Yg9 id m x
theorem YkP {c:Cel} {n:Int} {x:Shd} (h:YP c n=some x):shR x=true∧Yy c=true:=by
 obtain⟨hc,-,-,-,-,-,-,hm⟩:=Yz h;exact⟨(Yt.1 hc).2.2.2.2 x hm |>.2.1,hc⟩
def H441 (Pg:PgT):Prop:=Pg 441=some (.code F441)∧H247 Pg∧H475 Pg
theorem K441 (h:H441 Pg) (s:Sto) (c:Cel) (m:Msg) (hc:Yy c=true) (hm:0≤m.of_) :
  K' Pg 441 [.agg (YU s),.agg (Yk c),.agg (Y9 m)]=some (Ybo (Ye1 s.id c m)):=by
 obtain⟨h,h247,h475⟩:=h
 have k247:=K247 h247 c m.shard (Yal hc)
 unfold Ye1
 refine Qb h rfl ?_
 cases q:YP c m.shard with
 |none=>
  rw[q] at k247
  simp only[YeF,Option.getD_none,Option.isSome_none] at k247
  simp only[go_sem,Yl,Gk] at k247
  simp only[F441,c441,go_sem,k247,Gk]
 |some x=>
  rw[q] at k247
  simp only[YeF,Option.getD_some,Option.isSome_some] at k247
  obtain⟨hx,-⟩:=YkP q
  have hm2:x∈c.shards:=(Yz q).2.2.2.2.2.2.2
  have k475:=K475 h475 x ((Yal hc).2 x hm2)
  rw[Gr hx] at k475
  simp only[Yjm] at k475
  simp only[go_sem] at k247 k475
  simp only
  unfold Yg9
  cases c1:decide (x.phase=2) with
  |false=>
   rw[Gs,Gn (by simp)]
   simp only[F441,c441,go_sem,k247,c1,Gk]
  |true=>
  cases c2:decide (x.move=m.move) with
  |false=>
   rw[GB,Gn (by simp)]
   simp only[F441,c441,go_sem,k247,c1,c2,Gk]
  |true=>
   rw[GU,Gr rfl]
   generalize pcs (shB x)=l at *
   obtain⟨k,hk⟩:∃k:Nat,m.of_=(k:Int):=⟨m.of_.toNat,by omega⟩
   have hkn:m.of_.toNat=k:=by omega
   rw[hkn]
   cases c3:decide ((l.length:Int)≤(k:Int)) with
   |true=>
    have hge:l.length≤k:=by have:=Gg c3;omega
    rw[List.getElem?_eq_none hge]
    simp only[F441,c441,go_sem,k247,c1,c2,k475,hk,c3,Gj,Gk]
   |false=>
    have hlt:k<l.length:=by have:=Gb c3;omega
    obtain⟨t,ht,-⟩:=Jiq hlt
    rw[ht]
    simp only[F441,c441,go_sem,k247,c1,c2,k475,hk,c3,ht,Gj,GC,Gk,YgJ,zMs,Ycj,Ybl,YbY]
def outT (m:Msg) (k:Int):Msg:={zMs with kind:=k,shard:=m.shard,move:=m.move}
def Ymx (x:Shd):Int:=((if shR x=true then pcs (shB x) else []).length:Nat)
def YbP (c:Cel) (m:Msg):Cel×Msg×Bool:=
 if m.kind=8 then ((Ybk c m.shard m.epoch m.lease).1,{zMs with kind:=9,shard:=m.shard,lease:=m.lease,at_:=(Ybk c m.shard m.epoch m.lease).1.top},(Ybk c m.shard m.epoch m.lease).2)
 else if m.kind=10 then ((Ybp c m.shard m.lease m.at_).1,{zMs with kind:=11,shard:=m.shard,lease:=m.lease},(Ybp c m.shard m.lease m.at_).2)
 else if m.kind=12 then ((YO c m.shard m.epoch m.move).1,{outT m 13 with of_:=Ymx ((YP (YO c m.shard m.epoch m.move).1 m.shard).getD Yl)},(YO c m.shard m.epoch m.move).2)
 else if m.kind=16 then (match Yfn m.text with
  |some x=>((installC c x m.move).1,{outT m 17 with shard:=x.id},(installC c x m.move).2)
  |none=>(c,outT m 0,false))
 else if m.kind=18 then ((Yat c m.shard m.move m.epoch).1,outT m 19,(Yat c m.shard m.move m.epoch).2)
 else if m.kind=20 then ((Yac c m.shard m.move).1,outT m 21,(Yac c m.shard m.move).2)
 else if m.kind=22 then ((Ya1 c m.shard m.move).1,{outT m 23 with epoch:=((YP (Ya1 c m.shard m.move).1 m.shard).getD Yl).epoch},(Ya1 c m.shard m.move).2)
 else if m.kind=24 then ((Ybn c m.shard m.move).1,outT m 25,(Ybn c m.shard m.move).2)
 else if m.kind=26 then ((YaD c m.shard m.epoch m.text m.of_ m.move).1,outT m 27,(YaD c m.shard m.epoch m.text m.of_ m.move).2)
 else if m.kind=28 then ((YaB c m.shard m.of_ m.epoch m.move).1,outT m 29,(YaB c m.shard m.of_ m.epoch m.move).2)
 else (c,outT m 0,false)
@[go_sem] def YmJ (x:Cel×Msg×Bool):V:=.tuple [.agg (Yk x.1),.agg (Y9 x.2.1),.bool x.2.2]
theorem Yhe {c:Cel} {s:Shd} {m:Int} (h:Yy c=true):Yy (installC c s m).1=true:=by
 cases hg:YY c.shards s.id with
 |none=>
  obtain⟨h1,h2⟩:=install_what (c:=c) (s:=s) (m:=m) fun _ _=>hg;cases e:(installC c s m).2 with
  |false=>rw[h1 e];exact h
  |true=>exact (h2 e).2.1
 |some o=>
  unfold installC;split
  ·rw[hg];exact h
  ·exact h
theorem Yiw {t:List UInt8} {x:Shd} (h:Yfn t=some x):shR x=true∧t=shB x:=by
 have:=Ygn.1 h;exact⟨this.2,this.1⟩
theorem Yk8 {x:Shd} (h:shR x=true):i64 x.id:=by
 simp only[shR,shR0,Yr,Gc,Gi] at h;have:=h.1.1;unfold i64;omega
theorem Ymg:SmS Yl:=by
 refine⟨⟨by simp[Yl],fun e he=>(by cases he)⟩,by simp[Yl],fun d hd=>(by cases hd),by simp[Yl],by simp[Yl]⟩
theorem Yib {c:Cel} {n:Int} (hc:Yy c=true):SmS ((YP c n).getD Yl):=by
 cases q:YP c n with
 |none=>exact Ymg
 |some x=>exact (Yal hc).2 x (Yz q).2.2.2.2.2.2.2
def H444 (Pg:PgT):Prop:=Pg 444=some (.code F444)∧H247 Pg∧H253 Pg∧H256 Pg∧H258 Pg∧H265 Pg∧H266 Pg∧H267 Pg∧H270 Pg∧H271 Pg∧H273 Pg∧H275 Pg∧H475 Pg∧H478 Pg
theorem K444 (h:H444 Pg) (s:Sto) (c:Cel) (m:Msg) (hc:Yy c=true) (ht:m.text.length≤10000) :
  K' Pg 444 [.agg (YU s),.agg (Yk c),.agg (Y9 m)]=some (YmJ (YbP c m)):=by
 obtain⟨h,h247,h253,h256,h258,h265,h266,h267,h270,h271,h273,h275,h475,h478⟩:=h
 have sm:=Yal hc
 refine Qb h rfl ?_
 cases e8:decide (m.kind=8) with
 |true=>
  unfold YbP
  rw[Gr (Gg e8)]
  have k1:=K256 h256 c m.shard m.epoch m.lease sm
  generalize Ybk c m.shard m.epoch m.lease=p at *
  obtain⟨d,b⟩:=p
  simp only[go_sem] at k1
  simp only[F444,c444,go_sem,e8,k1,zMs,Ycj,Ybl,YbY,Gk]
 |false=>
 cases e10:decide (m.kind=10) with
 |true=>
  unfold YbP
  rw[Gn (Gb e8),Gr (Gg e10)]
  have k1:=K258 h258 c m.shard m.lease m.at_ sm
  generalize Ybp c m.shard m.lease m.at_=p at *
  obtain⟨d,b⟩:=p
  simp only[go_sem] at k1
  simp only[F444,c444,go_sem,e8,e10,k1,zMs,Ycj,Ybl,YbY,Gk]
 |false=>
 cases e12:decide (m.kind=12) with
 |true=>
  unfold YbP
  rw[Gn (Gb e8),Gn (Gb e10),Gr (Gg e12)]
  have hd:Yy (YO c m.shard m.epoch m.move).1=true:=(YdZ hc).1
  have k1:=K265 h265 c m.shard m.epoch m.move sm
  have k2:=K247 h247 (YO c m.shard m.epoch m.move).1 m.shard (Yal hd)
  have k3:=K475 h475 ((YP (YO c m.shard m.epoch m.move).1 m.shard).getD Yl) (Yib hd)
  clear hd
  generalize YO c m.shard m.epoch m.move=p at *
  obtain⟨d,b⟩:=p
  simp only[YeF] at k2
  simp only at k2 k3 ⊢
  generalize (YP d m.shard).isSome=ok at *
  generalize (YP d m.shard).getD Yl=x at *
  unfold Ymx
  generalize (if shR x=true then pcs (shB x) else [])=pl at *
  simp only[Yjm] at k3
  simp only[go_sem] at k1 k2 k3
  simp only[F444,c444,go_sem,e8,e10,e12,k1,k2,k3,Gj,outT,zMs,Ycj,Ybl,YbY,Gk]
 |false=>
 cases e16:decide (m.kind=16) with
 |true=>
  unfold YbP
  rw[Gn (Gb e8),Gn (Gb e10),Gn (Gb e12),Gr (Gg e16)]
  have k1:=K478 h478 m.text ht
  cases q:Yfn m.text with
  |none=>
   rw[q] at k1
   simp only[YfN,zSh] at k1
   simp only[F444,c444,go_sem,e8,e10,e12,e16,k1,outT,zMs,Ycj,Ybl,YbY,Gk]
  |some x=>
   rw[q] at k1
   simp only[YfN] at k1
   obtain⟨hx,hxt⟩:=Yiw q
   have k2:=K253 h253 c x m.move sm (Yhs (Yfa hx) (by rw[←hxt];exact ht)) (Yk8 hx)
   simp only
   generalize installC c x m.move=p at *
   obtain⟨d,b⟩:=p
   simp only[go_sem] at k1 k2
   simp only[F444,c444,go_sem,e8,e10,e12,e16,k1,k2,outT,zMs,Ycj,Ybl,YbY,Gk]
 |false=>
 cases e18:decide (m.kind=18) with
 |true=>
  unfold YbP
  rw[Gn (Gb e8),Gn (Gb e10),Gn (Gb e12),Gn (Gb e16),Gr (Gg e18)]
  have k1:=K266 h266 c m.shard m.move m.epoch sm
  generalize Yat c m.shard m.move m.epoch=p at *
  obtain⟨d,b⟩:=p
  simp only[go_sem] at k1
  simp only[F444,c444,go_sem,e8,e10,e12,e16,e18,k1,outT,zMs,Ycj,Ybl,YbY,Gk]
 |false=>
 cases e20:decide (m.kind=20) with
 |true=>
  unfold YbP
  rw[Gn (Gb e8),Gn (Gb e10),Gn (Gb e12),Gn (Gb e16),Gn (Gb e18),Gr (Gg e20)]
  have k1:=K267 h267 c m.shard m.move sm
  generalize Yac c m.shard m.move=p at *
  obtain⟨d,b⟩:=p
  simp only[go_sem] at k1
  simp only[F444,c444,go_sem,e8,e10,e12,e16,e18,e20,k1,outT,zMs,Ycj,Ybl,YbY,Gk]
 |false=>
 cases e22:decide (m.kind=22) with
 |true=>
  unfold YbP
  rw[Gn (Gb e8),Gn (Gb e10),Gn (Gb e12),Gn (Gb e16),Gn (Gb e18),Gn (Gb e20),Gr (Gg e22)]
  have hd:Yy (Ya1 c m.shard m.move).1=true:=(Ye5 hc).1
  have k1:=K270 h270 c m.shard m.move sm
  have k2:=K247 h247 (Ya1 c m.shard m.move).1 m.shard (Yal hd)
  clear hd
  generalize Ya1 c m.shard m.move=p at *
  obtain⟨d,b⟩:=p
  simp only[YeF] at k2
  simp only at k2 ⊢
  generalize (YP d m.shard).isSome=ok at *
  generalize (YP d m.shard).getD Yl=x at *
  simp only[go_sem] at k1 k2
  simp only[F444,c444,go_sem,e8,e10,e12,e16,e18,e20,e22,k1,k2,outT,zMs,Ycj,Ybl,YbY,Gk]
 |false=>
 cases e24:decide (m.kind=24) with
 |true=>
  unfold YbP
  rw[Gn (Gb e8),Gn (Gb e10),Gn (Gb e12),Gn (Gb e16),Gn (Gb e18),Gn (Gb e20),Gn (Gb e22),Gr (Gg e24)]
  have k1:=K271 h271 c m.shard m.move sm
  generalize Ybn c m.shard m.move=p at *
  obtain⟨d,b⟩:=p
  simp only[go_sem] at k1
  simp only[F444,c444,go_sem,e8,e10,e12,e16,e18,e20,e22,e24,k1,outT,zMs,Ycj,Ybl,YbY,Gk]
 |false=>
 cases e26:decide (m.kind=26) with
 |true=>
  unfold YbP
  rw[Gn (Gb e8),Gn (Gb e10),Gn (Gb e12),Gn (Gb e16),Gn (Gb e18),Gn (Gb e20),Gn (Gb e22),Gn (Gb e24),Gr (Gg e26)]
  have k1:=K273 h273 c m.shard m.epoch m.text m.of_ m.move sm
  generalize YaD c m.shard m.epoch m.text m.of_ m.move=p at *
  obtain⟨d,b⟩:=p
  simp only[go_sem] at k1
  simp only[F444,c444,go_sem,e8,e10,e12,e16,e18,e20,e22,e24,e26,k1,outT,zMs,Ycj,Ybl,YbY,Gk]
 |false=>
 cases e28:decide (m.kind=28) with
 |true=>
  unfold YbP
  rw[Gn (Gb e8),Gn (Gb e10),Gn (Gb e12),Gn (Gb e16),Gn (Gb e18),Gn (Gb e20),Gn (Gb e22),Gn (Gb e24),Gn (Gb e26),Gr (Gg e28)]
  have k1:=K275 h275 c m.shard m.of_ m.epoch m.move sm
  generalize YaB c m.shard m.of_ m.epoch m.move=p at *
  obtain⟨d,b⟩:=p
  simp only[go_sem] at k1
  simp only[F444,c444,go_sem,e8,e10,e12,e16,e18,e20,e22,e24,e26,e28,k1,outT,zMs,Ycj,Ybl,YbY,Gk]
 |false=>
 unfold YbP
 rw[Gn (Gb e8),Gn (Gb e10),Gn (Gb e12),Gn (Gb e16),Gn (Gb e18),Gn (Gb e20),Gn (Gb e22),Gn (Gb e24),Gn (Gb e26),Gn (Gb e28)]
 simp only[F444,c444,go_sem,e8,e10,e12,e16,e18,e20,e22,e24,e26,e28,outT,zMs,Ycj,Ybl,YbY,Gk]
def Ygv (id:Int) (m:Msg) (t:Stamp):Msg:={zMs with kind:=31,from_:=id,n:=m.n,at_:=t}
def Yis (s:Sto) (o:Own) (c:Cel) (m:Msg):Sto×List Msg:=
 if Yb m.at_ c.top≤0 then (s,[Ygv s.id m c.top]) else propS s o (Ycf c m.at_) [Ygv s.id m m.at_]
def Yin (id:Int) (m x:Msg):Msg:={x with from_:=id,n:=m.n}
def Yku (s:Sto) (o:Own) (c:Cel) (m:Msg):Sto×List Msg:=
 if (YbP c m).2.2 then propS s o (YbP c m).1 [Yin s.id m (YbP c m).2.1] else (s,[])
def cellS (s:Sto) (o:Own) (c:Cel) (wall:Int) (m:Msg):Sto×List Msg:=
 if m.kind=1 then doS s o c wall m else if m.kind=14 then (s,Ye1 s.id c m) else if m.kind=30 then Yis s o c m else if m.kind=32 then YhM s o c m else Yku s o c m
def YeI (s:Sto) (wall:Int) (m:Msg):Sto×List Msg:=
 if ((atO s m.n).isSome&&Yp (Yw s m.n).rep) then (if YI (Yw s m.n).rep then (s,[]) else (match tkC (Yw s m.n).rep.base with
  |some c=>cellS s (Yw s m.n) c wall m
  |none=>(s,[])))
 else (s,if m.kind=1 then [doneM s.id m {Ybl with err:=10}] else [])
def YdI (s:Sto) (wall:Int) (m:Msg):Sto×List Msg:=
 if 35≤m.kind then Yau s m else if m.kind=33 then YhJ s m else YeI s wall m
theorem YjE {c:Cel} {m:Msg} (h:Yy c=true):Yy (YbP c m).1=true:=by
 unfold YbP;split
 ·exact (YgI h).1
 split
 ·exact (YgH h).1
 split
 ·exact (YdZ h).1
 split
 ·cases Yfn m.text with
  |none=>exact h
  |some x=>exact Yhe h
 split
 ·exact (Yf0 h).1
 split
 ·exact (Yfh h).1
 split
 ·exact (Ye5 h).1
 split
 ·exact (YgG h).1
 split
 ·exact (Yf1 h).1
 split
 ·exact (YfX h).1
 ·exact h
def YeX:C:=.seq (.seq (.region false r413_18) (.block 1 (.seq (.region false r413_19) (.cond (.g 94) (.seq (.region false r413_20) (.ret)) (.seq (.region false r413_21) (.cond (.g 104) (.seq (.region true r413_22) (.ret)) (.seq (.region false r413_23) (.cond (.g 111) (.seq (.seq (.region false r413_24) (.cond (.g 118) (.seq (.region true r413_25) (.ret)) (.skip))) (.seq (.region true r413_26) (.ret))) (.seq (.region false r413_27) (.cond (.g 145) (.seq (.region false r413_28) (.ret)) (.skip))))))))))) (.seq (.region false r413_29) (.seq (.seq (.region false r413_30) (.cond (.g 163) (.seq (.region false r413_31) (.ret)) (.skip))) (.seq (.region true r413_32) (.seq (.region false r413_33) (.ret)))))
theorem c413_eq:c413=.seq (.region false r413_0) (.seq (.seq (.region false r413_1) (.cond (.g 36) (.seq (.region false r413_2) (.ret)) (.skip))) (.seq (.seq (.region false r413_3) (.block 0 (.seq (.seq (.region false r413_4) (.cond (.g 40) (.skip) (.seq (.region false r413_5) (.cond (.g 40) (.skip) (.region false r413_6))))) (.cond (.g 40) (.seq (.region false r413_7) (.ret)) (.seq (.region false r413_8) (.cond (.g 49) (.seq (.region false r413_9) (.ret)) (.skip))))))) (.seq (.region false r413_10) (.seq (.seq (.region false r413_11) (.cond (.g 70) (.seq (.seq (.region false r413_12) (.cond (.g 73) (.seq (.region true r413_13) (.ret)) (.skip))) (.seq (.region false r413_14) (.ret))) (.skip))) (.seq (.seq (.region false r413_15) (.cond (.g 83) (.seq (.region false r413_16) (.ret)) (.skip))) (.seq (.region false r413_17) YeX)))))):=rfl
def H8413 (Pg:PgT):Prop:=H440 Pg∧H441 Pg∧H15 Pg∧H261 Pg∧H442 Pg∧H443 Pg∧H444 Pg
theorem T413 (h:H8413 Pg) {s:Sto} {o:Own} {c:Cel} {wall:Int} {m:Msg} {S:St} (hs:s.owns.length≤100000) (ho:RepOk o.rep) (hc:Yy c=true) (hf:0≤m.of_) (ht:m.text.length≤10000)
  (s1:S.ρ 1=iz wall) (s3:S.ρ 3=.lref 3 0) (m3:S.μ 3=some (YU s,false)) (s5:S.ρ 5=.lref 5 0) (m5:S.μ 5=some (Y9 m,false)) (s6:S.ρ 6=.lref 6 0) (m6:S.μ 6=some ([.int .i64 0,.slice 9 []],false)) (s8:S.ρ 8=.lref 8 0) (m8:S.μ 8=some (YbL o,false))
  (s10:S.ρ 10=.lref 10 0) (m10:S.μ 10=some (Yk c,false)) (m12:S.μ 12=none) (m13:S.μ 13=none) :
  Wp (K' Pg) YeX S fun ex S=>(ex=.norm∨ex=.ret)∧JaF F413 S=some (eSM (cellS s o c wall m)):=by
 obtain⟨h440,h441,h15,h261,h442,h443,h444⟩:=h
 simp only[go_sem] at m3 m5 m8 m10
 unfold cellS
 cases e1:decide (m.kind=1) with
 |true=>
  rw[Gr (Gg e1)]
  have k:=K440 h440 s o c wall m hs ho hc
  generalize doS s o c wall m=p at *
  obtain⟨s',l⟩:=p
  simp only[go_sem] at k
  simp only[YeX,F413,go_sem,s1,s3,m3,s5,m5,s6,m6,s8,m8,s10,m10,e1,k]
 |false=>
 rw[Gn (Gb e1)]
 cases e2:decide (m.kind=14) with
 |true=>
  rw[Gr (Gg e2)]
  have k:=K441 h441 s c m hc hf
  generalize Ye1 s.id c m=l at *
  simp only[go_sem] at k
  simp only[YeX,F413,go_sem,s3,m3,s5,m5,s6,m6,s10,m10,e1,e2,k]
 |false=>
 rw[Gn (Gb e2)]
 cases e3:decide (m.kind=30) with
 |true=>
  rw[Gr (Gg e3)]
  have k15:=K15 h15 m.at_ c.top
  have k261:=K261 h261 c m.at_ (Yal hc)
  have k442:=K442 h442 s o (Ycf c m.at_) [Ygv s.id m m.at_] hs ho (YfZ hc).1 (by simp)
  unfold Yis
  generalize Ycf c m.at_=d at *
  generalize hp:propS s o d [Ygv s.id m m.at_]=p at *
  obtain⟨s',l⟩:=p
  simp only[go_sem,Ygv,zMs,Ycj,Ybl,YbY,GC,Gk] at k15 k261 k442
  cases e4:decide (Yb m.at_ c.top≤0) with
  |true=>
   rw[Gr (Gg e4)]
   simp only[YeX,F413,go_sem,s3,m3,s5,m5,s6,m6,s10,m10,e1,e2,e3,e4,k15,Ygv,zMs,Ycj,Ybl,YbY,GC,Gk]
  |false=>
   rw[Gn (Gb e4)]
   simp only[YeX,F413,go_sem,s3,m3,s5,m5,s6,m6,s8,m8,s10,m10,e1,e2,e3,e4,k15,k261,k442]
 |false=>
 rw[Gn (Gb e3)]
 cases e4:decide (m.kind=32) with
 |true=>
  rw[Gr (Gg e4)]
  have k:=K443 h443 s o c m hs ho hc
  generalize YhM s o c m=p at *
  obtain⟨s',l⟩:=p
  simp only[go_sem] at k
  simp only[YeX,F413,go_sem,s3,m3,s5,m5,s6,m6,s8,m8,s10,m10,e1,e2,e3,e4,k]
 |false=>
 rw[Gn (Gb e4)]
 have k:=K444 h444 s c m hc ht
 have hk:=YjE (m:=m) hc
 unfold Yku
 generalize YbP c m=p at *
 obtain⟨d,out,ok⟩:=p
 simp only at hk ⊢
 have k442:=K442 h442 s o d [Yin s.id m out] hs ho hk (by simp)
 generalize hp:propS s o d [Yin s.id m out]=p at *
 obtain⟨s',l⟩:=p
 simp only[go_sem,Yin,GC,Gk] at k k442
 cases ok with
 |false=>simp only[YeX,F413,go_sem,s3,m3,s5,m5,s6,m6,s10,m10,m12,m13,e1,e2,e3,e4,k,Gm,Gu,Gk]
 |true=>simp only[YeX,F413,go_sem,s3,m3,s5,m5,s6,m6,s8,m8,s10,m10,m12,m13,e1,e2,e3,e4,k,k442,Gz]
def H413 (Pg:PgT):Prop:=H6413 Pg∧H438 Pg∧H427 Pg∧H40 Pg∧H439 Pg∧H41 Pg∧H428 Pg∧H8413 Pg
theorem YkY {m:Msg} (h:Yeo m=true):0≤m.of_∧0≤m.shard∧m.shard≤1099511627776:=by
 rw[Yik] at h;simp only[Ycn,YN,frQ,Gc,GN,Gap,Gq] at h;omega
theorem K413g (h:H413 Pg) (s:Sto) (wall:Int) (m:Msg) (hs:Ybd s) (k408:K' Pg 408 [.agg (YU s)]=some (.bool (Ybw s))) (ha:(Yw s m.n).rep.acks.length≤9000) (ho:(Yw s m.n).outs.length≤9000) (hm:SmM m) (ht:m.text.length≤10000)
  (kt:35≤m.kind→K' Pg 430 [.str m.text]=some (.bool (Yab m.text))) (kb:∀o∈s.owns,Yab o.rep.base=true→K' Pg 428 [.str o.rep.base]=some (YeG (tkC o.rep.base))) :
  K' Pg 413 [.agg (YU s),iz wall,.agg (Y9 m)]=some (eSM (if YaM s wall m then YdI s wall m else (s,[]))):=by
 obtain⟨hw,h438,h427,h40,h439,h41,h428,ht8⟩:=h
 unfold YdI
 by_cases hk:35≤m.kind
 ·rw[Gr hk]
  exact K413w hw s wall m hs k408 ha ho hm hk (kt hk)
 rw[Gn hk]
 obtain⟨h,h408,h341,h437⟩:=hw
 have k341:=K341 h341 m hm
 simp only[go_sem] at k408 k341
 refine Qb h rfl ?_
 have nok:∀(x:Sto×List Msg) b,YaM s wall m=b→b=false→(if YaM s wall m then x else (s,[]))=(s,[]):=fun x b e1 e2=>by rw[e1,e2];rfl
 have hF:F413.body=c413:=rfl
 rw[hF,c413_eq]
 cases d1:Ybw s with
 |false=>
  rw[d1] at k408
  rw[nok _ _ rfl (by simp only[YaM,d1,Gs])]
  simp only[F413,go_sem,k408,Gk]
 |true=>
 rw[d1] at k408
 cases d2:Yeo m with
 |false=>
  rw[d2] at k341
  rw[nok _ _ rfl (by simp only[YaM,d2,Gs,GB])]
  simp only[F413,go_sem,k408,k341,Gk]
 |true=>
 rw[d2] at k341
 cases d3:decide (wall<0) with
 |true=>
  rw[nok _ _ rfl (by simp only[YaM,d3,GQ,Gs,GB])]
  simp only[F413,go_sem,k408,k341,d3,Gk]
 |false=>
 cases d4:decide (1099511627776<wall) with
 |true=>
  rw[nok _ _ rfl (by simp only[YaM,d4,GQ,Gs,GB])]
  simp only[F413,go_sem,k408,k341,d3,d4,Gk]
 |false=>
 cases d5:decide (m.to=s.id) with
 |false=>
  rw[nok _ _ rfl (by simp only[YaM,d5,GB])]
  simp only[F413,go_sem,k408,k341,d3,d4,d5,Gk]
 |true=>
 have hok:YaM s wall m=true:=by simp only[YaM,d1,d2,d3,d4,d5];rfl
 rw[hok,Gr rfl]
 have f35:decide (m.kind=35)=false:=Gp (by omega)
 have f36:decide (m.kind=36)=false:=Gp (by omega)
 have f37:decide (m.kind=37)=false:=Gp (by omega)
 cases e1:decide (m.kind=33) with
 |true=>
  rw[Gr (Gg e1)]
  have k438:=K438 h438 s m hs hm.2.2
  generalize YhJ s m=p at *
  obtain⟨s',l⟩:=p
  simp only[go_sem] at k438
  simp only[F413,go_sem,k408,k341,d3,d4,d5,f35,f36,f37,e1,k438]
 |false=>
 rw[Gn (Gb e1)]
 have k427:=K427 h427 s m.n (by have:=hs.1;omega)
 obtain⟨o1,o2,o3⟩:=Yfr (c:=m.n) hs
 have k40:=K40 h40 (Yw s m.n).rep o1.ok
 have k41:=K41 h41 (Yw s m.n).rep o1.ok
 have k439:=K439 h439 s m {Ybl with err:=10}
 have hsl:s.owns.length≤100000:=by have:=hs.1;omega
 have hmem:(atO s m.n).isSome=true→Yw s m.n∈s.owns:=fun hi=>(Ydm hi).1
 have hrt:=Yej d1
 have hof:=(YkY d2).1
 unfold YeI
 generalize Yw s m.n=o at *
 generalize (atO s m.n).isSome=ok at *
 simp only[go_sem,Ybl,YbY,Gk] at k427 k40 k41 k439
 cases ok with
 |false=>
  rw[Gn (by simp)]
  cases e2:decide (m.kind=1) with
  |true=>
   rw[Gr (Gg e2)]
   simp only[F413,go_sem,k408,k341,d3,d4,d5,f35,f36,f37,e1,k427,e2,k439,Ybl,YbY,GC,Gk]
  |false=>
   rw[Gn (Gb e2)]
   simp only[F413,go_sem,k408,k341,d3,d4,d5,f35,f36,f37,e1,k427,e2,Gk]
 |true=>
 obtain⟨r1,r2,-⟩:=hrt o (hmem rfl)
 rw[r1] at k40
 cases dl:Yp o.rep with
 |false=>
  rw[dl] at k40
  rw[Gn (by simp)]
  simp only[GB] at k40
  cases e2:decide (m.kind=1) with
  |true=>
   rw[Gr (Gg e2)]
   simp only[F413,go_sem,k408,k341,d3,d4,d5,f35,f36,f37,e1,k427,k40,e2,k439,Ybl,YbY,GC,Gk]
  |false=>
   rw[Gn (Gb e2)]
   simp only[F413,go_sem,k408,k341,d3,d4,d5,f35,f36,f37,e1,k427,k40,e2,Gk]
 |true=>
 rw[dl] at k40
 rw[G1,Gr rfl]
 simp only[G1] at k40
 cases db:YI o.rep with
 |true=>
  rw[db] at k41
  rw[Gr rfl]
  simp only[F413,go_sem,k408,k341,d3,d4,d5,f35,f36,f37,e1,k427,k40,k41,Gk]
 |false=>
 rw[db] at k41
 rw[Gn (by simp)]
 have k428:=kb o (hmem rfl) r2
 have r2':=r2
 simp only[Yab] at r2'
 cases q:tkC o.rep.base with
 |none=>rw[q] at r2';cases r2'
 |some c=>
  rw[q] at k428
  have hc:=(YcQ.1 q).2
  have tl:=fun {S:St}=>T413 (S:=S) (s:=s) (o:=o) (c:=c) (wall:=wall) (m:=m) ht8 hsl o1 hc hof ht
  simp only[YeG] at k428
  simp only[go_sem] at k428
  simp only[F413,go_sem,k408,k341,d3,d4,d5,f35,f36,f37,e1,k427,k40,k41,k428]
  exact tl (by simp only[go_sem]) (by simp only[go_sem]) (by simp only[go_sem]) (by simp only[go_sem]) (by simp only[go_sem]) (by simp only[go_sem]) (by simp only[go_sem]) (by simp only[go_sem]) (by simp only[go_sem]) (by simp only[go_sem]) (by simp only[go_sem]) (by simp only[go_sem]) (by simp only[go_sem])
end Sg
