/- NodeTakes, at every input: proved over a checked abstract run of the translated code; no condition. A part. -/
import Derived.KernelRfl
import Derived.Test.YtdccphnkmcbjeaaGreatDoorNodeTakesA4
set_option linter.unusedSimpArgs false
set_option linter.unusedVariables false
set_option linter.constructorNameAsVariable false
set_option linter.defProp false
set_option maxRecDepth 100000
set_option maxHeartbeats 4000000
namespace Sg
open _root_.Go (IntKind BinOp UnOp)
variable {Pg:PgT}
def H316 (Pg:PgT):Prop:=Pg 316=some (.code F316)∧H15 Pg
theorem K316 (h:H316 Pg) (e:Entr) (t:Stamp) (v:Ver) (hv:e.chain.getLast?=some v) (hl:e.chain.length≤10000):K' Pg 316 [.agg (YR e),.cptr (Yd t) 0]=some (.bool (decide (0<Yc v.at_ t))):=by
 obtain⟨h,h15⟩:=h;have k15:=K15 h15 v.at_ t;have hpos:0<e.chain.length:=Gam.2 fun e0=>by rw[e0] at hv;simp at hv
 have hx:e.chain[e.chain.length-1]?=some v:=by rw[←List.getLast?_eq_getElem?];exact hv
 have hdec:IntKind.i64.wrap ((e.chain.length:Int)-1)=((e.chain.length-1:Nat):Int):=Ycm hpos (by omega);simp only[Yd] at k15;refine Qa h rfl ?_;simp only[go_sem,Yb,hdec,hx,k15]
def YcY (t:Stamp) (e:Entr):Bool:=match e.chain.getLast? with|some v=>decide (0<Yc v.at_ t)|none=>false
theorem YdC {s:Shd} {t:Stamp}:uptoE s t=!(s.ents.any (YcY t)):=by
 rw[List.not_any_eq_all_not];simp only[uptoE]
 congr 1
 funext e
 unfold YcY;cases e.chain.getLast? with
 |none=>rfl
 |some v=>by_cases h:Yc v.at_ t≤0<;>simp[h]<;>omega
def H301 (Pg:PgT):Prop:=Pg 301=some (.code F301)∧H299 Pg∧H316 Pg
theorem K301 (h:H301 Pg) (s:Shd) (t:Stamp) (hs:Sm s.ents) (hn:∀e∈s.ents,e.chain≠[]):K' Pg 301 [.agg (Yac s),.agg (Yd t)]=some (.bool (uptoE s t)):=by
 obtain⟨h,h299,h316⟩:=h;have hlen:=hs.len;have k:=K299 h299 s.ents 316 [.cptr (Yd t) 0] (YcY t) (by omega) (fun e he=>by
  cases hv:e.chain.getLast? with
  |none=>exact absurd (List.getLast?_eq_none_iff.1 hv) (hn e he)
  |some v=>rw[K316 h316 e t v hv (hs.2 e he).1];simp only[YcY,hv])
 simp only[Yl,Yd] at k;refine Qa h rfl ?_;simp only[go_sem,k,YdC]
theorem Yem {s:Shd} (h:shR s=true):ixR s.ents=true∧∀e∈s.ents,e.chain≠[]:=by
 simp only[shR,shR0,Gk] at h;exact⟨h.1.2.2.2.2.2.2.2.2.2.1,fun e he=>(YaL.1 ((YaD.1 h.1.2.2.2.2.2.2.2.2.2.1).2.2 e he)).2.1⟩
theorem Yit {s:Shd} (h:shR s=true):1≤s.id∧s.id≤1099511627776:=by
 simp only[shR,shR0,Gk,YK,Gq] at h;exact h.1.1
def YbT (l:List Shd) (i:Nat):Int:=if i=0 then 0 else (l[i-1]?.map Shd.id).getD 0
theorem Yc3 {l:List Shd} {i:Nat} {x:Shd} (h:l[i]?=some x):YbT l (i+1)=x.id:=by simp[YbT,h]
def H249 (Pg:PgT):Prop:=Pg 249=some (.code F249)∧H28 Pg∧H244 Pg∧H284 Pg∧H301 Pg
theorem le8 {n:Nat}:decide ((n:Int)≤8)=decide (n≤8):=led (b:=8)
theorem gt8 {n:Nat}:decide ((8:Int)<(n:Int))=!decide (n≤8):=gtd (a:=8)
theorem Yfr {a b:Int}:decide (a≤b)=!decide (b<a):=by by_cases h:b<a<;>simp[h]<;>omega
theorem K249 (h:H249 Pg) (c:Cel) (hc:SmC c):K' Pg 249 [.agg (Ydq c)]=some (.bool (Yam c)):=by
 obtain⟨h,h28,h244,h284,h301⟩:=h;have hlen:=hc.1;have k28:=K28 h28 c.top;have k284:=K284a h284 0 c.dropped;simp only[rg0] at k284;simp only[Yd] at k28;refine Qa h rfl ?_;simp only[go_sem];unfold l249_0;refine JiY (fun (i:Nat) S=>i≤c.shards.length∧S.ρ 1=.lref 1 0∧S.μ 1=some (Ydq c,false)∧S.ρ 3=iz (YbT c.shards i)∧S.μ 5=none∧S.ρ 7=Yho c.shards∧S.ρ 8=iz c.shards.length∧S.ρ 9=iz i∧cgo c.top (YbT c.shards i) (c.shards.drop i)=cgo c.top 0 c.shards) (fun i=>c.shards.length-i) 0 ?_ ?_
 ·simp[go_sem,YbT]
 ·intro i S ⟨hi,h1,m1,h3,m5,h7,h8,h9,ho⟩;simp only[go_sem,h8,h9];refine JiZ (fun h=>?_) (fun h=>?_)
  ·have h:=Ye h;obtain⟨x,hx,hd⟩:=JiF h;have hxs:=hc.2 x (List.mem_of_getElem? hx);have k244:=K244 h244 x hxs;have hinc:IntKind.i64.wrap ((i:Int)+1)=((i+1:Nat):Int):=Yi h (by omega);rw[hd] at ho;simp only[cgo] at ho;simp only[Yac,Yl,Yn] at k244;simp only[go_sem,h3,m5,h7,h9,hx,Yfr];cases c1:decide (YbT c.shards i<x.id) with
   |false=>
    simp only[c1,Gj] at ho;simp only[go_sem,Yam,←ho]
   |true=>
   cases c2:shR x with
   |false=>
    simp only[c1,c2,Gj,Gm] at ho;simp only[go_sem,c2,k244,Yam,←ho]
   |true=>
   have k301:=K301 h301 x c.top hxs.1 (Yem c2).2;simp only[Yac,Yl,Yn,Yd] at k301;cases c3:uptoE x c.top with
   |false=>
    simp only[c1,c2,c3,Gj,Gm] at ho;simp only[go_sem,h1,m1,c2,c3,k244,k301,Yam,←ho]
   |true=>
   simp only[c1,c2,c3,Gn] at ho;simp only[go_sem,h1,m1,h7,h8,h9,c2,c3,k244,k301];exact⟨i+1,by omega,by omega,by rw[Yc3 hx],by rw[hinc],by rw[Yc3 hx];exact ho⟩
  ·have h:=Ym hi h;subst h;rw[GF] at ho;simp only[cgo] at ho;simp only[go_sem,h1,m1,le8];cases c1:decide (c.shards.length≤8) with
   |false=>simp only[go_sem,c1,Yam]
   |true=>
   cases c2:Ya c.top with
   |false=>simp only[go_sem,h1,m1,c1,c2,k28,Yam]
   |true=>simp only[go_sem,h1,m1,c1,c2,k28,k284,Yam,←ho]
theorem Yet {c:List Ver} {v:Ver} {t:Stamp} (hr:Yg c=true) (hv:c.getLast?=some v):(c.any fun x=>before t x.at_)=decide (0<Yc v.at_ t):=by
 have hc:=(YX hr).1;have hx:c[c.length-1]?=some v:=by rw[←List.getLast?_eq_getElem?];exact hv
 have hlt:∀{a b:Stamp},before a b=decide (0<Yc b a):=fun {a b}=>by
  simp only[before];refine GM.2 ?_;have:=@Ycw a b;constructor
  ·intro h;rcases Int.lt_trichotomy (Yc b a) 0 with q|q|q
   ·have:=this.2 (by omega);omega
   ·have:=this.2 (by omega);omega
   ·exact q
  ·intro h;rcases Int.lt_trichotomy (Yc a b) 0 with q|q|q
   ·exact q
   ·have:=this.1 (by omega);omega
   ·have:=this.1 (by omega);omega
 cases q:decide (0<Yc v.at_ t) with
 |true=>exact List.any_eq_true.2 ⟨v,List.mem_of_getElem? hx,by rw[hlt];exact q⟩
 |false=>
  refine List.any_eq_false.2 fun y hy=>?_;obtain⟨i,hi⟩:=List.mem_iff_getElem?.1 hy;have hil:=(List.getElem?_eq_some_iff.1 hi).1;rw[hlt];have hq:=Gb q;by_cases e:i=c.length-1
  ·subst e;rw[hx] at hi;obtain rfl:v=y:=by simpa using hi
   simpa using hq
  ·have hlt2:=Ycg hc (show i<c.length-1 by omega) hi hx;have h1:=Yan.1 hlt2;have h2:¬0<Yc y.at_ t:=fun h3=>by
    have h3:=Ycn.1 h3;have h4:¬0<Yc v.at_ t:=hq;rw[Ycn] at h4;omega
   simpa using h2
def H300 (Pg:PgT):Prop:=Pg 300=some (.code F300)∧H6 Pg
theorem K300 (h:H300 Pg) (s:Shd) (t:Stamp) (hs:Sm s.ents) (hr:ixR s.ents=true):K' Pg 300 [.agg (Yac s),.agg (Yd t)]=some (.bool (uptoE s t)):=by
 obtain⟨h,h6⟩:=h;have hlen:=hs.len;have k6:=fun x=>K6 h6 t x;simp only[Yd] at k6;have he:∀e∈s.ents,(e.chain.any fun x=>before t x.at_)=YcY t e:=fun e he=>by
  obtain⟨-,hn,hc⟩:=YaL.1 ((YaD.1 hr).2.2 e he);cases hv:e.chain.getLast? with
  |none=>exact absurd (List.getLast?_eq_none_iff.1 hv) hn
  |some v=>rw[Yet hc hv];simp only[YcY,hv]
 refine Qa h rfl ?_;rw[YdC];simp only[go_sem];unfold l300_0;refine JiY (fun (i:Nat) S=>i≤s.ents.length∧S.ρ 2=.lref 2 0∧S.μ 2=some (Yac s,false)∧S.ρ 3=.lref 3 0∧S.μ 3=some (Yd t,false)∧S.ρ 5=iz i∧(s.ents.drop i).any (YcY t)=s.ents.any (YcY t)) (fun i=>s.ents.length-i) 0 ?_ ?_
 ·simp[go_sem]
 ·intro i S ⟨hi,h2,m2,h3,m3,h5,ho⟩;simp only[go_sem,h2,m2,h5];refine JiZ (fun h=>?_) (fun h=>?_)
  ·have h:=Ye h;obtain⟨x,hx,hd⟩:=JiF h;have hinc:IntKind.i64.wrap ((i:Int)+1)=((i+1:Nat):Int):=Yi h (by omega);have hxl:=(hs.at hx).1;rw[hd,List.any_cons,←he x (List.mem_of_getElem? hx)] at ho;simp only[go_sem];unfold l300_1;refine JiY (fun (j:Nat) S=>j≤x.chain.length∧S.ρ 2=.lref 2 0∧S.μ 2=some (Yac s,false)∧S.ρ 3=.lref 3 0∧S.μ 3=some (Yd t,false)∧S.ρ 5=iz i∧S.ρ 6=iz j∧((x.chain.drop j).any fun y=>before t y.at_)=x.chain.any fun y=>before t y.at_) (fun j=>x.chain.length-j) 0 ?_ ?_
   ·simp[go_sem,h2,m2,h3,m3,h5]
   ·intro j S ⟨hj,h2,m2,h3,m3,h5,h6',hw⟩;simp only[go_sem,h2,m2,h5,h6',hx,Yb];refine JiZ (fun h'=>?_) (fun h'=>?_)
    ·have h':=Ye h';obtain⟨y,hy,hd'⟩:=JiF h';rw[hd',List.any_cons] at hw;simp only[go_sem,h2,m2,h3,m3,h5,h6',hx,hy,Yb,k6];cases q:before t y.at_ with
     |true=>
      rw[q,Gab] at hw;rw[←hw,Gab] at ho;simp only[go_sem,←ho]
     |false=>
      rw[q,G4] at hw;simp only[go_sem,h2,m2,h3,m3,h5,h6'];exact⟨j+1,by omega,by omega,by rw[Yi h' (by omega)],hw⟩
    ·have h':=Ym hj h';subst h';rw[GF,List.any_nil] at hw;rw[←hw,G4] at ho;simp only[go_sem,h2,m2,h3,m3,h5,hinc];exact⟨i+1,by omega,by omega,rfl,ho⟩
  ·have h:=Ym hi h;subst h;rw[GF,List.any_nil] at ho;simp only[go_sem,←ho]
def H246 (Pg:PgT):Prop:=Pg 246=some (.code F246)∧H24 Pg∧H245 Pg∧H293 Pg∧H300 Pg
theorem K246 (h:H246 Pg) (c:Cel) (hc:SmC c):K' Pg 246 [.agg (Ydq c)]=some (.bool (Yam c)):=by
 obtain⟨h,h24,h245,h293,h300⟩:=h;have k24:=K24 h24 c.top;have k293:=K293 h293 c.dropped;simp only[Yd] at k24;refine Qa h rfl ?_;cases c1:decide (c.shards.length≤8) with
 |false=>simp only[go_sem,gt8,c1,Yam]
 |true=>
 cases c2:Ya c.top with
 |false=>simp only[go_sem,gt8,c1,c2,k24,Yam]
 |true=>
 cases c3:nou c.dropped with
 |false=>simp only[go_sem,gt8,c1,c2,c3,k24,k293,Yam]
 |true=>
 have hlen:=Gg c1;have e:Yam c=cgo c.top 0 c.shards:=by simp only[Yam,c1,c2,c3,Gn]
 rw[e];simp only[go_sem,gt8,c1,c2,c3,k24,k293];unfold l246_0;refine JiY (fun (i:Nat) S=>i≤c.shards.length∧S.ρ 1=.lref 1 0∧S.μ 1=some (Ydq c,false)∧S.ρ 3=iz i∧cgo c.top (YbT c.shards i) (c.shards.drop i)=cgo c.top 0 c.shards) (fun i=>c.shards.length-i) 0 ?_ ?_
 ·simp[go_sem,YbT]
 ·intro i S ⟨hi,h1,m1,h3,ho⟩;simp only[go_sem,h1,m1,h3];refine JiZ (fun h=>?_) (fun h=>?_)
  ·have h:=Ye h;obtain⟨x,hx,hd⟩:=JiF h;have hxs:=hc.2 x (List.mem_of_getElem? hx);have k245:=K245 h245 x hxs;have hinc:IntKind.i64.wrap ((i:Int)+1)=((i+1:Nat):Int):=Yi h (by omega);rw[hd] at ho;simp only[cgo] at ho;simp only[Yac,Yl,Yn] at k245;simp only[go_sem,h1,m1,h3,hx,k245];cases p2:shR x with
   |false=>
    simp only[p2,Gj,Gm] at ho;simp only[go_sem,←ho]
   |true=>
   have k300:=K300 h300 x c.top hxs.1 (Yem p2).1;simp only[Yac,Yl,Yn,Yd] at k300;cases p3:uptoE x c.top with
   |false=>
    simp only[p2,p3,Gj,Gm] at ho;simp only[go_sem,h1,m1,h3,hx,p3,k300,←ho]
   |true=>
   simp only[p2,p3,Gn] at ho;rcases GT i with hz|hz
   ·have hgt:decide ((0:Int)<(i:Int))=false:=Gp (by omega);have hl:decide (YbT c.shards i<x.id)=true:=GA (by
     have:=(Yit p2).1;simp[YbT,hz];omega)
    rw[hl,Gn] at ho;simp only[go_sem,h1,m1,h3,hx,p3,k300,hgt];exact⟨i+1,by omega,by omega,by rw[hinc],by rw[Yc3 hx];exact ho⟩
   ·have hgt:decide ((0:Int)<(i:Int))=true:=GA (by omega);have hdec:IntKind.i64.wrap ((i:Int)-1)=((i-1:Nat):Int):=Ycm hz (by omega);obtain⟨y,hy,-⟩:=JiF (l:=c.shards) (i:=i-1) (by omega);have hp:YbT c.shards i=y.id:=by simp[YbT,Nat.ne_of_gt hz,hy]
    rw[hp] at ho;simp only[go_sem,h1,m1,h3,hx,p3,k300,hgt,hdec,hy,Yfr];cases q:decide (y.id<x.id) with
    |false=>
     rw[q,Gj] at ho;simp only[go_sem,←ho]
    |true=>
     rw[q,Gn] at ho;simp only[go_sem,h1,m1,h3];exact⟨i+1,by omega,by omega,by rw[hinc],by rw[Yc3 hx];exact ho⟩
  ·have h:=Ym hi h;subst h;rw[GF] at ho;simp only[cgo] at ho;simp only[go_sem,←ho]
theorem YcD {α:Type} {W:α→List UInt8} {P:α→Prop} (hW:∀a,P a→1≤(W a).length) {l:List α} (hl:∀a∈l,P a):l.length≤(YH W l).length∧∀a∈l,(W a).length≤(YH W l).length:=by
 have h1:=YP hW hl;refine⟨by simp only[YH,Gc];omega,fun a ha=>?_⟩;have:(W a).length≤(l.flatMap W).length:=by
  clear h1 hl
  induction l with
  |nil=>simp at ha
  |cons b l ih=>
   simp only[Gaa,Gc];rcases GK.1 ha with rfl|ha
   ·omega
   ·have:=ih ha;omega
 simp only[YH,Gc];omega
theorem Ycd {t:List UInt8}:t.length≤(Yh t).length:=by simp[Yh]
theorem YgX {e:Entr} (h:Yeq e):e.key.length≤(YaB e).length∧e.chain.length≤(YaB e).length:=by
 have h1:=Ycd (t:=e.key);have h2:=(YcD Yd1 h.2.2).1;simp only[YaB,Gc];omega
theorem YeD {s:Shd} (h:ShV s) (hl:(shB s).length≤10000):SmS s:=by
 obtain⟨⟨a1,a2,a3,a4,a5,a6,a7,a8,a9,a10,a11,⟨a12,a13⟩,⟨a14,a15⟩⟩,-⟩:=h;obtain⟨e1,e2⟩:=YcD YdN a13;obtain⟨d1,d2⟩:=YcD Yde a15;have t1:=Ycd (t:=s.span.lo);have t2:=Ycd (t:=s.span.hi);simp only[shB,Gc] at hl;refine⟨⟨by omega,fun e he=>?_⟩,by omega,fun d hd=>?_,by omega,by omega⟩
 ·have:=e2 e he;have:=YgX (a13 e he);omega
 ·have:=(a15 d hd).2;rw[←this];simp[mkD]
theorem Yfg {c:Cel} (h:CV c) (hl:(cB c).length≤10000):SmC c:=by
 obtain⟨⟨a1,a2,a3,a4⟩,-⟩:=h;obtain⟨e1,e2⟩:=YcD YeC a4;simp only[cB,Gc] at hl;exact⟨by omega,fun s hs=>YeD (a4 s hs) (by have:=e2 s hs;omega)⟩
def clP (t:Stamp) (d:Int) (e:V):List V:=[e,iz t.wall,iz t.tick,iz t.node,iz d]
structure C428 (S:St) (y:Rd) (t:Stamp) (d:Int) (vs:List Shd) (j:Nat):Prop where
 r2:S.ρ 2=.lref 2 0
 r4:S.ρ 4=.lref 8 0
 r5:S.ρ 5=.lref 5 0
 m8:S.μ 8=some (eRd y,false)
 m2:S.μ 2=some ([.slice 17 [],.int .i64 0,.int .i64 0,.int .i64 0,.int .i64 0],false)
 m5:S.μ 5=some (clP t d (nilOr 23 17 j),false)
 a23:S.A 23=YY 17 (vs.map Yac) j
 vl:vs.length=j
theorem Yiv (h467:H467 Pg) {y:Rd} {m:Nat} {t:Stamp} {d:Int} (hy:y.1.length≤2 ^ 20) (hm:m≤2 ^ 20) {S:St} {Q:Ex→St→Prop} (hS:C428 S y t d [] 0) (s15:S.ρ 15=iz m) (s16:S.ρ 16=iz 0)
  (hq:∀S',C428 S' (YO (gSh false) m y).2 t d (YO (gSh false) m y).1 m→Q .norm S'):Wp (K' Pg) l428_0 S (Blk 0 Q):=by
 unfold l428_0
 refine JiY (fun (j:Nat) S'=>j≤m∧S'.ρ 15=iz m∧S'.ρ 16=iz j∧∃(vs:List Shd) (y':Rd),y'.1.length≤2 ^ 20∧
  YO (gSh false) m y=(vs++(YO (gSh false) (m-j) y').1,(YO (gSh false) (m-j) y').2)∧C428 S' y' t d vs j) (fun j=>m-j) 0 ?_ ?_
 ·simp only[JhU]
  exact⟨Gu _,s15,s16,[],y,hy,rfl,hS⟩
 ·intro j S' ⟨hj,t15,t16,vs,y',hyl,hrep,hE⟩
  obtain⟨t2,t4,t5,m8,m2,m5,a23,hvl⟩:=hE
  cases c1:decide ((j:Int)<(m:Int)) with
  |false=>
   have hjm:j=m:=by have:=Gb c1;omega
   subst hjm
   have he:=Yc6 hrep
   simp only[go_sem,t15,t16,c1]
   rw[he] at hq
   exact hq _ ⟨by simp only[go_sem,t2],by simp only[go_sem,t4],by simp only[go_sem,t5],m8,m2,m5,a23,hvl⟩
  |true=>
   have hlt:=Ye c1
   have hinc:=inc64q (i:=j) (by omega)
   have hone:=rep_one hlt hrep
   have k1:=K467 h467 y' hyl
   have l1:=Gi ((cSh (D:=false)).len y') hyl
   generalize gSh false y'=p1 at *
   obtain⟨b1,x1⟩:=p1
   simp only at hone l1
   have r1:=fun (S:St) (hm:S.μ 8=some (eRd y',false))=>Qb (p:=20300) k1 hm
   have hil:(vs.map Yac).length=j:=by simp[hvl]
   have ha:=fun S=>YV (S:=S) (s:=23) (z:=17) (r:=Yac b1) hil (by unfold lim;omega)
   have v5:=m5
   simp only[clP] at v5
   simp only[go_sem] at r1 m8 ha
   simp only[go_sem,t4,t5,t15,t16,c1,m8,v5,a23,r1,YI,ha,hinc,JhU]
   exact⟨j+1,by omega,by omega,rfl,vs++[b1],x1,l1,hone,by simp only[go_sem,t2],by simp only[go_sem,t4],by simp only[go_sem,t5],by simp only[go_sem],by simp only[go_sem,m2],by simp only[go_sem]<;>rfl,by simp only[go_sem,Gw]<;>rfl,by simp[hvl]⟩
def Yd6 (o:Option Cel):V:=match o with
 |some c=>.tuple [.agg (Ydq c),iz 0]
 |none=>.tuple [.agg [.slice 17 [],iz 0,iz 0,iz 0,iz 0],iz 3]
def H428 (Pg:PgT):Prop:=Pg 428=some (.code F428)∧H464 Pg∧H465 Pg∧H466 Pg∧H467 Pg∧H249 Pg
theorem K428g (h:H428 Pg) (t:List UInt8) (ht:t.length≤2 ^ 20) (hts:∀c,CV c→cB c=t→SmC c):K' Pg 428 [.str t]=some (Yd6 (tkC t)):=by
 obtain⟨h,h464,h465,h466,h467,h249⟩:=h;have hR:∀{a:Stamp} {n:Nat} {x1 x2:Rd},rd tkS zS (t,false)=(a,x1)→rd (tk 9) 0 x1=(n,x2)→
   gC false (t,false)=(mkC (a,n,(YO (gSh false) (rL x2).1 (rL x2).2).1),(YO (gSh false) (rL x2).1 (rL x2).2).2):=by
  intro a n x1 x2 e1 e2
  have d1:gN false=rd (tk 9) 0:=rfl
  have d3:gS false=rd tkS zS:=rfl
  simp only[gC,mapR,pairR,d1,d3,e1,e2]
  rfl
 have k1:=K464 h464 (t,false) (by simp only;omega);have l1:=(cS (D:=false)).len (t,false);change (rd tkS zS (t,false)).2.1.length≤t.length at l1;cases e1:rd tkS zS (t,false) with
 |mk a x1=>
 rw[e1] at k1 l1;simp only at k1 l1;have k2:=K465 h465 x1 (by omega);have l2:=codN.len x1;cases e2:rd (tk 9) 0 x1 with
 |mk n x2=>
 rw[e2] at k2 l2;simp only at k2 l2;have k3:=K466 h466 x2 (by omega);have l3:=YfA (x:=x2) (by omega);have hg:=hR e1 e2;generalize rL x2=pL at *
 obtain⟨m,y⟩:=pL;simp only at k3 l3 hg;generalize hD:YO (gSh false) m y=pD at *
 obtain⟨sh,u,b⟩:=pD;simp only at hg;have hsm:b=false→u=[]→SmC (mkC (a,n,sh)):=fun hb hu=>by
  subst hb;subst hu;obtain⟨g1,g2⟩:=(cC (D:=false)).get hg;exact hts _ g2 (by rw[GS] at g1;exact g1.symm)
 refine Qa h rfl ?_;have r1:=fun (S:St) (hm:S.μ 8=some (eRd (t,false),false))=>Qb (p:=20000) k1 hm;have r2:=fun (S:St) (hm:S.μ 8=some (eRd x1,false))=>Qb (p:=20100) k2 hm;have r3:=fun (S:St) (hm:S.μ 8=some (eRd x2,false))=>Qb (p:=20200) k3 hm;simp only[go_sem,eSt] at r1 r2 r3;simp only[F428,c428,go_sem,r1,r2,r3];refine Yiv h467 (y:=y) (m:=m) (t:=a) (d:=n) l3.2 l3.1 ⟨by simp only[go_sem],by simp only[go_sem],by simp only[go_sem],by simp only[go_sem],by simp only[go_sem],by simp only[go_sem]<;>rfl,rfl,rfl⟩ (by simp only[go_sem]) (by simp only[go_sem]) fun S1 hE1=>?_;rw[hD] at hE1;obtain⟨t2,t4,t5,m8,m2,m5,a23,hvl⟩:=hE1;simp only at m8 a23 hvl;have hc1:=Yq a23 (by simp[hvl]);simp only[clP] at m5;simp only[go_sem] at m8;have e0:tkC t=if (b=false∧u=[])∧Yam (mkC (a,n,sh))=true then some (mkC (a,n,sh)) else none:=by
  unfold tkC;rw[hg];simp only[Gl,and_comm]
 rw[e0];cases b with
 |true=>
  rw[Gv (by simp)];simp only[go_sem,t2,t4,m8,m2,Yd6]
 |false=>
  cases c2:decide (u=[]) with
  |false=>
   rw[Gv (by simp[Gb c2])];simp only[go_sem,t2,t4,m8,m2,c2,Yd6]
  |true=>
   have hu:=Gg c2;have k249:=K249 h249 (mkC (a,n,sh)) (hsm rfl hu);cases c3:Yam (mkC (a,n,sh)) with
   |false=>
    rw[c3] at k249;rw[Gv (by simp)];simp only[go_sem,mkC] at k249;simp only[go_sem,t2,t4,t5,m8,m2,m5,c2,hc1,k249,Yd6]
   |true=>
    rw[c3] at k249;rw[GB ⟨⟨rfl,hu⟩,rfl⟩];simp only[go_sem,mkC] at k249;simp only[go_sem,t2,t4,t5,m8,m2,m5,c2,hc1,k249,Yd6,mkC]
theorem K428 (h:H428 Pg) (t:List UInt8) (ht:t.length≤10000):K' Pg 428 [.str t]=some (Yd6 (tkC t)):=
 K428g h t (by omega) fun c hc e=>Yfg hc (by rw[e];exact ht)
theorem repD_one {α:Type} {R:Rd→α×Rd} {m j:Nat} {vs:List α} {y y':Rd} (hj:j<m) (hn:y'.2=false) (h:YE R m y=(vs++(YE R (m-j) y').1,(YE R (m-j) y').2)) :
  YE R m y=((vs++[(R y').1])++(YE R (m-(j+1)) (R y').2).1,(YE R (m-(j+1)) (R y').2).2):=by
 rw[h,show m-j=(m-(j+1))+1 by omega]
 simp[YE,hn]
theorem YcG {α:Type} {R:Rd→α×Rd} {m j:Nat} {vs:List α} {y y':Rd} (h:YE R m y=(vs++(YE R (m-j) y').1,(YE R (m-j) y').2)) (hs:m≤j∨y'.2=true):YE R m y=(vs,y'):=by
 rw[h];rcases hs with hs|hs
 ·rw[show m-j=0 by omega];simp[YE]
 ·obtain⟨s,b⟩:=y';simp only at hs;subst hs;rw[Ya9];simp
theorem YcB {S:St} {Wv:List Nat} {v:Nat} (hv:Wv.contains v=false):(S.head [] [] Wv []).μ v=S.μ v:=by
 show (if Wv.contains v then none else (S.μ v).map _)=_
 rw[hv];cases S.μ v<;>rfl
structure B436 (S:St) (y:Rd) (sh:Shd) (es:List Entr) (ds:List Done):Prop where
 r0:S.ρ 0=.lref 0 0
 r2:S.ρ 2=.lref 2 0
 r3:S.ρ 3=.lref 3 0
 m0:S.μ 0=some (eRd y,false)
 m2:S.μ 2=some (zSh,false)
 m3:S.μ 3=some (shP sh (nilOr 97 2 es.length) (nilOr 139 11 ds.length),false)
 m11:S.μ 11=none
 a97:S.A 97=YY 2 (es.map YR) es.length
 a139:S.A 139=YY 11 (ds.map YM) ds.length
theorem B436.head {S:St} {y:Rd} {sh:Shd} {es:List Entr} {ds:List Done} {Wv Wa:List Nat} (h:B436 S y sh es ds) (h0:Wv.contains 0=false) (h2:Wv.contains 2=false) (h3:Wv.contains 3=false) (h97:Wa.contains 97=false) (h139:Wa.contains 139=false) :
  B436 (S.head [] [] Wv Wa) y sh es ds:=
 ⟨JiJ h.r0 (by simp only[stay,h0];rfl),JiJ h.r2 (by simp only[stay,h2];rfl),JiJ h.r3 (by simp only[stay,h3];rfl),JiI h.m0 rfl h0,JiI h.m2 rfl h2,YbA h.m3 h3 h97 h139,JiH (.inl h.m11),(Yv h97).trans h.a97,(Yv h139).trans h.a139⟩
structure V436 (S:St) (M I m j:Nat) (key:List UInt8) (vs:List Ver):Prop where
 r4:S.ρ 4=iz M
 r5:S.ρ 5=iz I
 r6:S.ρ 6=.lref 6 0
 r7:S.ρ 7=iz m
 r8:S.ρ 8=iz j
 m6:S.μ 6=some ([.str key,nilOr 91 5 vs.length],false)
 m9:S.μ 9=none
 a91:S.A 91=YY 5 (vs.map YS) vs.length
 vl:vs.length=j
theorem YiC (h434:H434 Pg) (h472:H472 Pg) (h471:H471 Pg) {y:Rd} {M I m:Nat} {key:List UInt8} {sh:Shd} {es:List Entr} {ds:List Done} (hy:y.1.length≤2 ^ 21) {S:St} {Q:Ex→St→Prop}
  (hB:B436 S y sh es ds) (hV:V436 S M I m 0 key [])
  (hm:(YE (gV true) m y).1.length≤2 ^ 21)
  (hq:∀S' j,B436 S' (YE (gV true) m y).2 sh es ds→V436 S' M I m j key (YE (gV true) m y).1→Q .norm S'):Wp (K' Pg) l436_1 S (Blk 2 Q):=by
 unfold l436_1
 refine JiY (fun (j:Nat) S'=>j≤m∧∃(vs:List Ver) (y':Rd),y'.1.length≤2 ^ 21∧
  YE (gV true) m y=(vs++(YE (gV true) (m-j) y').1,(YE (gV true) (m-j) y').2)∧B436 S' y' sh es ds∧V436 S' M I m j key vs) (fun j=>m-j) 0 ?_ ?_
 ·exact⟨Gu _,[],y,hy,rfl,hB.head rfl rfl rfl rfl rfl,JiJ hV.r4 rfl,JiJ hV.r5 rfl,JiJ hV.r6 rfl,JiJ hV.r7 rfl,JiJ hV.r8 rfl,(YcB rfl).trans hV.m6,JiH (.inr rfl),(Yv rfl).trans hV.a91,rfl⟩
 ·intro j S' ⟨hj,vs,y',hyl,hrep,hB,hV⟩
  obtain⟨t0,t2,t3,m0,m2,m3,m11,a97,a139⟩:=hB
  obtain⟨t4,t5,t6,t7,t8,m6,m9,a91,hvl⟩:=hV
  obtain⟨u,b⟩:=y'
  simp only[go_sem] at m0
  have fin:(m≤j∨b=true)→∀(ρ':Nat→V),(∀i,i≠75→ρ' i=S'.ρ i)→Q .norm ⟨ρ',S'.μ,S'.A⟩:=fun hs ρ' hρ=>by
   have he:=YcG hrep hs;rw[he] at hq;exact hq _ j ⟨(hρ 0 (by omega)).trans t0,(hρ 2 (by omega)).trans t2,(hρ 3 (by omega)).trans t3,m0,m2,m3,m11,a97,a139⟩ ⟨(hρ 4 (by omega)).trans t4,(hρ 5 (by omega)).trans t5,(hρ 6 (by omega)).trans t6,(hρ 7 (by omega)).trans t7,(hρ 8 (by omega)).trans t8,m6,m9,a91,hvl⟩
  cases c1:decide ((j:Int)<(m:Int)) with
  |false=>
   have hjm:m≤j:=by have:=Gb c1;omega
   simp only[go_sem,t7,t8,c1]
   exact fin (.inl hjm) _ fun i hi=>Jfj (by simpa using hi)
  |true=>
   cases b with
   |true=>
    simp only[go_sem,t0,t7,t8,m0,c1]
    exact fin (.inr rfl) _ fun i hi=>Jfj (by simpa using hi)
   |false=>
    have hlt:=Ye c1
    have hone:=repD_one hlt rfl hrep
    have hjl:j+1≤2 ^ 21:=by
     have:=G5 (fun p=>p.1.length) hone;simp only[Gc,List.length_singleton] at this;omega
    have hinc:=inc64q (i:=j) (by omega)
    have k1:=K434 h434 (u,false) (by simp only at hyl ⊢;omega)
    have l1:(cu tkS zS (u,false)).2.1.length≤2 ^ 21:=Gi ((cS (D:=true)).len (u,false)) hyl
    have hR:gV true (u,false)=(⟨(cu tkS zS (u,false)).1,(cu tkF false (cu tkS zS (u,false)).2).1,(cu tkT [] (cu tkF false (cu tkS zS (u,false)).2).2).1⟩,(cu tkT [] (cu tkF false (cu tkS zS (u,false)).2).2).2):=rfl
    rw[hR] at hone
    generalize cu tkS zS (u,false)=p1 at *
    obtain⟨b1,x1⟩:=p1
    simp only at hone l1
    have k2:=K472 h472 x1 (by omega)
    have l2:(cu tkF false x1).2.1.length≤2 ^ 21:=Gi ((cF (D:=true)).len x1) l1
    generalize cu tkF false x1=p2 at *
    obtain⟨b2,x2⟩:=p2
    simp only at hone l2
    have k3:=K471 h471 x2 (by omega)
    have l3:(cu tkT [] x2).2.1.length≤2 ^ 21:=Gi ((cT (D:=true)).len x2) l2
    generalize cu tkT [] x2=p3 at *
    obtain⟨b3,x3⟩:=p3
    simp only at hone l3
    have r1:=fun (S:St) (hm:S.μ 0=some (eRd (u,false),false))=>Qb (p:=21400) k1 hm
    have r2:=fun (S:St) (hm:S.μ 0=some (eRd x1,false))=>Qb (p:=21500) k2 hm
    have r3:=fun (S:St) (hm:S.μ 0=some (eRd x2,false))=>Qb (p:=21600) k3 hm
    have ha:=fun S=>YV (S:=S) (s:=91) (z:=5) (n:=vs.length) (rows:=vs.map YS) (r:=YS ⟨b1,b2,b3⟩) (by simp) (by unfold lim;omega)
    simp only[go_sem,eSt] at r1 r2 r3 ha
    simp only[go_sem,t0,t6,t7,t8,c1,m0,m6,m9,a91,r1,r2,r3,YI,ha,hinc]
    refine⟨j+1,by omega,by omega,vs++[⟨b1,b2,b3⟩],x3,l3,hone,B436.head ⟨by simp only[go_sem,t0],by simp only[go_sem,t2],by simp only[go_sem,t3],by simp only[go_sem],by simp only[go_sem,m2],by simp only[go_sem,m3],by simp only[go_sem,m11],by simp only[go_sem,a97],by simp only[go_sem,a139]⟩ rfl rfl rfl rfl rfl,
     JiJ (by simp only[go_sem,t4]) rfl,JiJ (by simp only[go_sem,t5]) rfl,JiJ (by simp only[go_sem,t6]) rfl,JiJ (by simp only[go_sem,t7]) rfl,JiJ (by simp only[go_sem]) rfl,(YcB rfl).trans (by simp only[go_sem,Gc]<;>rfl),JiH (.inr rfl),(Yv rfl).trans (by simp only[go_sem,Gw,Gc]<;>rfl),by simp[hvl]⟩
theorem Yb9 {α:Type} {R:Rd→α×Rd} {W:α→List UInt8} {P:α→Prop} (h:Cod R W P) (hW:∀a,P a→1≤(W a).length):∀{k:Nat} {x:Rd},(YE R k x).1.length≤x.1.length+1
 |0,x=>by simp[YE]
 |k+1,(s,true)=>by rw[Ya9];simp
 |k+1,(s,false)=>by
  have e:YE R (k+1) (s,false)=((R (s,false)).1::(YE R k (R (s,false)).2).1,(YE R k (R (s,false)).2).2):=rfl;rw[e];simp only[List.length_cons];cases hq:R (s,false) with
  |mk a y=>
   obtain⟨r,b⟩:=y;cases b with
   |true=>simp only[Ya9,List.length_nil];omega
   |false=>
    obtain⟨g1,g2⟩:=h.get hq;have h1:=hW a g2;have h2:=Yb9 h hW (k:=k) (x:=(r,false));have h3:=G5 List.length g1;simp only[Gc] at h3;simp only at h2 ⊢;omega
theorem Yid (h434:H434 Pg) (h472:H472 Pg) (h471:H471 Pg) (h435:H435 Pg) {y:Rd} {m:Nat} {sh:Shd} {ds:List Done} (hy:y.1.length≤2 ^ 20) {S:St} {Q:Ex→St→Prop}
  (hB:B436 S y sh [] ds) (s4:S.ρ 4=iz m) (s5:S.ρ 5=iz 0) (n6:S.μ 6=none) (n9:S.μ 9=none) (a91:S.A 91=none)
  (hq:∀S',B436 S' (YE (gE true) m y).2 sh (YE (gE true) m y).1 ds→Q .norm S'):Wp (K' Pg) l436_0 S (Blk 0 Q):=by
 have hcnt:=Yb9 (cE (D:=true)) YdN (k:=m) (x:=y)
 unfold l436_0
 refine JiY (fun (j:Nat) S'=>j≤m∧S'.ρ 4=iz m∧S'.ρ 5=iz j∧S'.μ 6=none∧S'.μ 9=none∧S'.A 91=none∧∃(vs:List Entr) (y':Rd),vs.length=j∧y'.1.length≤2 ^ 20∧
  YE (gE true) m y=(vs++(YE (gE true) (m-j) y').1,(YE (gE true) (m-j) y').2)∧B436 S' y' sh vs ds) (fun j=>m-j) 0 ?_ ?_
 ·exact⟨Gu _,JiJ s4 rfl,JiJ s5 rfl,JiH (.inl n6),JiH (.inl n9),YdO rfl,[],y,rfl,hy,rfl,hB.head rfl rfl rfl rfl rfl⟩
 ·intro j S' ⟨hj,t4,t5,m6,m9,a91,vs,y',hvl,hyl,hrep,hB⟩
  obtain⟨t0,t2,t3,m0,m2,m3,m11,a97,a139⟩:=hB
  obtain⟨u,b⟩:=y'
  simp only[go_sem] at m0
  have fin:(m≤j∨b=true)→∀(ρ':Nat→V),(∀i,i≠58→ρ' i=S'.ρ i)→Q .norm ⟨ρ',S'.μ,S'.A⟩:=fun hs ρ' hρ=>by
   have he:=YcG hrep hs;rw[he] at hq;exact hq _ ⟨(hρ 0 (by omega)).trans t0,(hρ 2 (by omega)).trans t2,(hρ 3 (by omega)).trans t3,m0,m2,m3,m11,a97,a139⟩
  cases c1:decide ((j:Int)<(m:Int)) with
  |false=>
   have hjm:m≤j:=by have:=Gb c1;omega
   simp only[go_sem,t4,t5,c1]
   exact fin (.inl hjm) _ fun i hi=>Jfj (by simpa using hi)
  |true=>
   cases b with
   |true=>
    simp only[go_sem,t0,t4,t5,m0,c1]
    exact fin (.inr rfl) _ fun i hi=>Jfj (by simpa using hi)
   |false=>
    have hlt:=Ye c1
    have hone:=repD_one hlt rfl hrep
    have hjl:vs.length+1≤2 ^ 21:=by
     have:=G5 (fun p=>p.1.length) hone;simp only[Gc,List.length_singleton] at this;omega
    have hinc:=inc64q (i:=j) (by omega)
    have k1:=K471 h471 (u,false) (by simp only at hyl ⊢;omega)
    have l1:(cu tkT [] (u,false)).2.1.length≤2 ^ 20:=Gi ((cT (D:=true)).len (u,false)) hyl
    have hR:gE true (u,false)=(⟨(cu tkT [] (u,false)).1,(YE (gV true) (cu (tk 9) 0 (cu tkT [] (u,false)).2).1 (cu (tk 9) 0 (cu tkT [] (u,false)).2).2).1⟩,(YE (gV true) (cu (tk 9) 0 (cu tkT [] (u,false)).2).1 (cu (tk 9) 0 (cu tkT [] (u,false)).2).2).2):=rfl
    rw[hR] at hone
    generalize cu tkT [] (u,false)=p1 at *
    obtain⟨b1,x1⟩:=p1
    simp only at hone l1
    have k2:=K435 h435 x1 (by omega)
    have l2:(cu (tk 9) 0 x1).2.1.length≤2 ^ 20:=Gi (YaJ.len x1) l1
    generalize cu (tk 9) 0 x1=p2 at *
    obtain⟨n2,x2⟩:=p2
    simp only at hone l2
    have r1:=fun (S:St) (hm:S.μ 0=some (eRd (u,false),false))=>Qb (p:=21200) k1 hm
    have r2:=fun (S:St) (hm:S.μ 0=some (eRd x1,false))=>Qb (p:=21300) k2 hm
    have hc2:=Yb9 (cV (D:=true)) Yd1 (k:=n2) (x:=x2)
    have lz:=Gi (YcH (cV (D:=true)) (k:=n2) (x:=x2)) l2
    simp only[go_sem] at r1 r2
    simp only[go_sem,t0,t4,t5,c1,m0,m6,r1,r2]
    refine YiC h434 h472 h471 (y:=x2) (M:=m) (I:=j) (m:=n2) (key:=b1) (sh:=sh) (es:=vs) (ds:=ds) (by omega) ⟨by simp only[go_sem,t0],by simp only[go_sem,t2],by simp only[go_sem,t3],by simp only[go_sem],by simp only[go_sem,m2],by simp only[go_sem,m3],by simp only[go_sem,m11],by simp only[go_sem,a97],by simp only[go_sem,a139]⟩
     ⟨by simp only[go_sem,t4],by simp only[go_sem,t5],by simp only[go_sem],by simp only[go_sem],by simp only[go_sem],by simp only[go_sem]<;>rfl,by simp only[go_sem,m9],a91,rfl⟩ (by omega) fun S2 j2 hB2 hV2=>?_
    generalize hz:YE (gV true) n2 x2=z at *
    obtain⟨z1,z2⟩:=z
    simp only at hB2 hV2 hone hc2 lz
    obtain⟨u0,u2,u3,v0,v2,v3,v11,w97,w139⟩:=hB2
    obtain⟨u4,u5,u6,u7,u8,v6,v9,w91,hzl⟩:=hV2
    have hch:=Yq w91 (by simp)
    have hst:=YcU (s:=91) (z:=5) (n:=z1.length)
    have ha:=fun S=>YV (S:=S) (s:=97) (z:=2) (n:=vs.length) (rows:=vs.map YR) (r:=YR ⟨b1,z1⟩) (by simp) (by unfold lim;omega)
    simp only[go_sem,Yb] at ha
    have v3':=v3
    simp only[shP] at v3'
    simp only[go_sem,u3,u4,u5,u6,v3',v6,w97,hch,hst,YI,ha,hinc]
    refine⟨j+1,by omega,by omega,rfl,vs++[⟨b1,z1⟩],z2,by simp[hvl],lz,hone,?_⟩
    refine B436.head ?_ rfl rfl rfl rfl rfl
    exact⟨by simp only[go_sem,u0],by simp only[go_sem,u2],by simp only[go_sem,u3],by simp only[go_sem,v0],by simp only[go_sem,v2],by simp only[go_sem,Gc]<;>rfl,by simp only[go_sem,v11],by simp only[go_sem,Gw,Gc]<;>rfl,by simp only[go_sem,w139]⟩
theorem Yig {S:St} {y:Rd} {sh:Shd} {es:List Entr} {ds:List Done} (r0:S.ρ 0=.lref 0 0) (r2:S.ρ 2=.lref 2 0) (r3:S.ρ 3=.lref 3 0) (m0:S.μ 0=some (eRd y,false)) (m2:S.μ 2=some (zSh,false))
  (m3:S.μ 3=some (shP sh (nilOr 97 2 es.length) (nilOr 139 11 ds.length),false)) (a97:S.A 97=YY 2 (es.map YR) es.length) (a139:S.A 139=YY 11 (ds.map YM) ds.length):B436 (S.head [] [] [11] []) y sh es ds:=
 ⟨JiJ r0 rfl,JiJ r2 rfl,JiJ r3 rfl,JiI m0 rfl rfl,JiI m2 rfl rfl,YbA m3 rfl rfl rfl,JiH (.inr rfl),(Yv rfl).trans a97,(Yv rfl).trans a139⟩
theorem YgR (h434:H434 Pg) (h472:H472 Pg) (h471:H471 Pg) (h435:H435 Pg) {y:Rd} {m:Nat} {sh:Shd} {es:List Entr} (hy:y.1.length≤2 ^ 20) {S:St} {Q:Ex→St→Prop}
  (hB:B436 S y sh es []) (s4:S.ρ 4=iz m) (s10:S.ρ 10=iz 0)
  (hq:∀S',B436 S' (YE (gD true) m y).2 sh es (YE (gD true) m y).1→Q .norm S'):Wp (K' Pg) l436_2 S (Blk 4 Q):=by
 have hcnt:=Yb9 (cD (D:=true)) Yde (k:=m) (x:=y)
 unfold l436_2
 refine JiY (fun (j:Nat) S'=>j≤m∧S'.ρ 4=iz m∧S'.ρ 10=iz j∧∃(vs:List Done) (y':Rd),vs.length=j∧y'.1.length≤2 ^ 20∧
  YE (gD true) m y=(vs++(YE (gD true) (m-j) y').1,(YE (gD true) (m-j) y').2)∧B436 S' y' sh es vs) (fun j=>m-j) 0 ?_ ?_
 ·exact⟨Gu _,JiJ s4 rfl,JiJ s10 rfl,[],y,rfl,hy,rfl,hB.head rfl rfl rfl rfl rfl⟩
 ·intro j S' ⟨hj,t4,t10,vs,y',hvl,hyl,hrep,hB⟩
  obtain⟨t0,t2,t3,m0,m2,m3,m11,a97,a139⟩:=hB
  obtain⟨u,b⟩:=y'
  simp only[go_sem] at m0
  have fin:(m≤j∨b=true)→∀(ρ':Nat→V),(∀i,i≠110→ρ' i=S'.ρ i)→Q .norm ⟨ρ',S'.μ,S'.A⟩:=fun hs ρ' hρ=>by
   have he:=YcG hrep hs;rw[he] at hq;exact hq _ ⟨(hρ 0 (by omega)).trans t0,(hρ 2 (by omega)).trans t2,(hρ 3 (by omega)).trans t3,m0,m2,m3,m11,a97,a139⟩
  cases c1:decide ((j:Int)<(m:Int)) with
  |false=>
   have hjm:m≤j:=by have:=Gb c1;omega
   simp only[go_sem,t4,t10,c1]
   exact fin (.inl hjm) _ fun i hi=>Jfj (by simpa using hi)
  |true=>
   cases b with
   |true=>
    simp only[go_sem,t0,t4,t10,m0,c1]
    exact fin (.inr rfl) _ fun i hi=>Jfj (by simpa using hi)
   |false=>
    have hlt:=Ye c1
    have hone:=repD_one hlt rfl hrep
    have hjl:vs.length+1≤2 ^ 21:=by
     have:=G5 (fun p=>p.1.length) hone;simp only[Gc,List.length_singleton] at this;omega
    have hinc:=inc64q (i:=j) (by omega)
    have le:∀{α:Type} {R:Rd→α×Rd} {W:α→List UInt8} {P:α→Prop},Cod R W P→∀{x:Rd},x.1.length≤2 ^ 20→(R x).2.1.length≤2 ^ 20:=fun h x hx=>Gi (h.len x) hx
    generalize hy':((u,false):Rd)=y' at *
    have hyl':y'.1.length≤2 ^ 20:=hyl
    have k1:=K435 h435 y' (by omega)
    have hR:gD true y'=(mkD ((cu (tk 9) 0 y').1,(cu (tk 9) 0 (cu (tk 9) 0 y').2).1,(cu (tk 9) 0 (cu (tk 9) 0 (cu (tk 9) 0 y').2).2).1,(cu tkS zS (cu (tk 9) 0 (cu (tk 9) 0 (cu (tk 9) 0 y').2).2).2).1,
      (cu tkF false (cu tkS zS (cu (tk 9) 0 (cu (tk 9) 0 (cu (tk 9) 0 y').2).2).2).2).1,(cu tkT [] (cu tkF false (cu tkS zS (cu (tk 9) 0 (cu (tk 9) 0 (cu (tk 9) 0 y').2).2).2).2).2).1),
      (cu tkT [] (cu tkF false (cu tkS zS (cu (tk 9) 0 (cu (tk 9) 0 (cu (tk 9) 0 y').2).2).2).2).2).2):=rfl
    rw[hR] at hone
    have l1:=le YaJ hyl'
    generalize cu (tk 9) 0 y'=p1 at *
    obtain⟨b1,x1⟩:=p1
    simp only at hone l1
    have k2:=K435 h435 x1 (by omega)
    have l2:=le YaJ l1
    generalize cu (tk 9) 0 x1=p2 at *
    obtain⟨b2,x2⟩:=p2
    simp only at hone l2
    have k3:=K435 h435 x2 (by omega)
    have l3:=le YaJ l2
    generalize cu (tk 9) 0 x2=p3 at *
    obtain⟨b3,x3⟩:=p3
    simp only at hone l3
    have k4:=K434 h434 x3 (by omega)
    have l4:=le (cS (D:=true)) l3
    change (cu tkS zS x3).2.1.length≤2 ^ 20 at l4
    generalize cu tkS zS x3=p4 at *
    obtain⟨b4,x4⟩:=p4
    simp only at hone l4
    have k5:=K472 h472 x4 (by omega)
    have l5:=le (cF (D:=true)) l4
    change (cu tkF false x4).2.1.length≤2 ^ 20 at l5
    generalize cu tkF false x4=p5 at *
    obtain⟨b5,x5⟩:=p5
    simp only at hone l5
    have k6:=K471 h471 x5 (by omega)
    have l6:=le (cT (D:=true)) l5
    change (cu tkT [] x5).2.1.length≤2 ^ 20 at l6
    generalize cu tkT [] x5=p6 at *
    obtain⟨b6,x6⟩:=p6
    simp only at hone l6
    have r1:=fun (S:St) (hm:S.μ 0=some (eRd y',false))=>Qb (p:=21800) k1 hm
    have r2:=fun (S:St) (hm:S.μ 0=some (eRd x1,false))=>Qb (p:=21900) k2 hm
    have r3:=fun (S:St) (hm:S.μ 0=some (eRd x2,false))=>Qb (p:=22000) k3 hm
    have r4:=fun (S:St) (hm:S.μ 0=some (eRd x3,false))=>Qb (p:=22100) k4 hm
    have r5:=fun (S:St) (hm:S.μ 0=some (eRd x4,false))=>Qb (p:=22200) k5 hm
    have r6:=fun (S:St) (hm:S.μ 0=some (eRd x5,false))=>Qb (p:=22300) k6 hm
    have ha:=fun S=>YV (S:=S) (s:=139) (z:=11) (n:=vs.length) (rows:=vs.map YM) (r:=YM (mkD (b1,b2,b3,b4,b5,b6))) (by simp) (by unfold lim;omega)
    have v3:=m3
    simp only[shP] at v3
    subst hy'
    simp only[go_sem,eSt,mkD,G6] at r1 r2 r3 r4 r5 r6 ha
    simp only[go_sem,t0,t3,t4,t10,c1,m0,m11,v3,a139,r1,r2,r3,r4,r5,r6,YI,ha,hinc]
    refine⟨j+1,by omega,by omega,rfl,vs++[mkD (b1,b2,b3,b4,b5,b6)],x6,by simp[hvl],l6,hone,?_⟩
    exact Yig (by simp only[go_sem,t0]) (by simp only[go_sem,t2]) (by simp only[go_sem,t3]) (by simp only[go_sem]) (by simp only[go_sem,m2]) (by simp only[go_sem,Gc]<;>rfl) (by simp only[go_sem,a97]) (by simp only[go_sem,Gw,Gc]<;>rfl)
def H436 (Pg:PgT):Prop:=Pg 436=some (.codeR F436 0)∧H434 Pg∧H472 Pg∧H471 Pg∧H435 Pg
theorem K436 (h:H436 Pg) (x:Rd) (hx:x.1.length≤2 ^ 20):K' Pg 436 [.tuple (.lref 0 0::eRd x)]=some (.tuple [.agg (Yac (gSh true x).1),.tuple (eRd (gSh true x).2)]):=by
 obtain⟨h,h434,h472,h471,h435⟩:=h;have le:∀{α:Type} {R:Rd→α×Rd} {W:α→List UInt8} {P:α→Prop},Cod R W P→∀{x:Rd},x.1.length≤2 ^ 20→(R x).2.1.length≤2 ^ 20:=fun h x hx=>Gi (h.len x) hx;have hR:∀{a1 a2 a3 a4 a5 a6 a7:Nat} {b1 b2:List UInt8} {c1 c2:Stamp} {x1 x2 x3 x4 x5 x6 x7 x8 x9 x10 x11:Rd},cu (tk 9) 0 x=(a1,x1)→cu (tk 9) 0 x1=(a2,x2)→cu (tk 9) 0 x2=(a3,x3)→cu (tk 9) 0 x3=(a4,x4)→cu (tk 9) 0 x4=(a5,x5)→cu (tk 9) 0 x5=(a6,x6)→cu (tk 9) 0 x6=(a7,x7)→
   cu tkT [] x7=(b1,x8)→cu tkT [] x8=(b2,x9)→cu tkS zS x9=(c1,x10)→cu tkS zS x10=(c2,x11)→
   gSh true x=(mkS (a1,a2,a3,a4,a5,a6,a7,b1,b2,c1,c2,(lstD (gE true) x11).1,(lstD (gD true) (lstD (gE true) x11).2).1),(lstD (gD true) (lstD (gE true) x11).2).2):=by
  intro a1 a2 a3 a4 a5 a6 a7 b1 b2 c1 c2 x1 x2 x3 x4 x5 x6 x7 x8 x9 x10 x11 e1 e2 e3 e4 e5 e6 e7 e8 e9 e10 e11
  have d1:gN true=cu (tk 9) 0:=rfl
  have d2:gT true=cu tkT []:=rfl
  have d3:gS true=cu tkS zS:=rfl
  simp only[gSh,mapR,pairR,d1,d2,d3,e1,e2,e3,e4,e5,e6,e7,e8,e9,e10,e11]
  rfl
 have k1:=K435 h435 x (by omega);have l1:(cu (tk 9) 0 x).2.1.length≤2 ^ 20:=le YaJ hx;cases e1:cu (tk 9) 0 x with
 |mk a1 x1=>
 rw[e1] at k1 l1;simp only at k1 l1;have k2:=K435 h435 x1 (by omega);have l2:(cu (tk 9) 0 x1).2.1.length≤2 ^ 20:=le YaJ l1;cases e2:cu (tk 9) 0 x1 with
 |mk a2 x2=>
 rw[e2] at k2 l2;simp only at k2 l2;have k3:=K435 h435 x2 (by omega);have l3:(cu (tk 9) 0 x2).2.1.length≤2 ^ 20:=le YaJ l2;cases e3:cu (tk 9) 0 x2 with
 |mk a3 x3=>
 rw[e3] at k3 l3;simp only at k3 l3;have k4:=K435 h435 x3 (by omega);have l4:(cu (tk 9) 0 x3).2.1.length≤2 ^ 20:=le YaJ l3;cases e4:cu (tk 9) 0 x3 with
 |mk a4 x4=>
 rw[e4] at k4 l4;simp only at k4 l4;have k5:=K435 h435 x4 (by omega);have l5:(cu (tk 9) 0 x4).2.1.length≤2 ^ 20:=le YaJ l4;cases e5:cu (tk 9) 0 x4 with
 |mk a5 x5=>
 rw[e5] at k5 l5;simp only at k5 l5;have k6:=K435 h435 x5 (by omega);have l6:(cu (tk 9) 0 x5).2.1.length≤2 ^ 20:=le YaJ l5;cases e6:cu (tk 9) 0 x5 with
 |mk a6 x6=>
 rw[e6] at k6 l6;simp only at k6 l6;have k7:=K435 h435 x6 (by omega);have l7:(cu (tk 9) 0 x6).2.1.length≤2 ^ 20:=le YaJ l6;cases e7:cu (tk 9) 0 x6 with
 |mk a7 x7=>
 rw[e7] at k7 l7;simp only at k7 l7;have k8:=K471 h471 x7 (by omega);have l8:(cu tkT [] x7).2.1.length≤2 ^ 20:=le (cT (D:=true)) l7;cases e8:cu tkT [] x7 with
 |mk b1 x8=>
 rw[e8] at k8 l8;simp only at k8 l8;have k9:=K471 h471 x8 (by omega);have l9:(cu tkT [] x8).2.1.length≤2 ^ 20:=le (cT (D:=true)) l8;cases e9:cu tkT [] x8 with
 |mk b2 x9=>
 rw[e9] at k9 l9;simp only at k9 l9;have k10:=K434 h434 x9 (by omega);have l10:(cu tkS zS x9).2.1.length≤2 ^ 20:=le (cS (D:=true)) l9;cases e10:cu tkS zS x9 with
 |mk c1 x10=>
 rw[e10] at k10 l10;simp only at k10 l10;have k11:=K434 h434 x10 (by omega);have l11:(cu tkS zS x10).2.1.length≤2 ^ 20:=le (cS (D:=true)) l10;cases e11:cu tkS zS x10 with
 |mk c2 x11=>
 rw[e11] at k11 l11;simp only at k11 l11;rw[hR e1 e2 e3 e4 e5 e6 e7 e8 e9 e10 e11];unfold lstD;have kL:=K435 h435 x11 (by omega);have lL:=le YaJ l11;generalize cu (tk 9) 0 x11=pL at *
 obtain⟨m,y⟩:=pL;simp only at kL lL ⊢;have lE:=Gi (YcH (cE (D:=true)) (k:=m) (x:=y)) lL;generalize hE:YE (gE true) m y=pE at *
 obtain⟨es,y2⟩:=pE;simp only at lE ⊢;have kM:=K435 h435 y2 (by omega);have lM:=le YaJ lE;generalize cu (tk 9) 0 y2=pM at *
 obtain⟨m2,y3⟩:=pM;simp only at kM lM ⊢;generalize hD:YE (gD true) m2 y3=pD at *
 obtain⟨ds,y4⟩:=pD;simp only;refine Ybm [.cell 2 (some 17)] (ws:=[.agg _]) h rfl rfl (Yr _) (Yr _) (Yat _) fun S ⟨r0,r,hm,m0,a0⟩=>?_;have n2:=m0 2 rfl;have n3:=m0 3 rfl;have n6:=m0 6 rfl;have n9:=m0 9 rfl;have n11:=m0 11 rfl;have r1:=fun (S:St) (hm:S.μ 0=some (eRd x,false))=>Qb (p:=20000) k1 hm;have r2:=fun (S:St) (hm:S.μ 0=some (eRd x1,false))=>Qb (p:=20100) k2 hm;have r3:=fun (S:St) (hm:S.μ 0=some (eRd x2,false))=>Qb (p:=20200) k3 hm;have r4:=fun (S:St) (hm:S.μ 0=some (eRd x3,false))=>Qb (p:=20300) k4 hm;have r5:=fun (S:St) (hm:S.μ 0=some (eRd x4,false))=>Qb (p:=20400) k5 hm;have r6:=fun (S:St) (hm:S.μ 0=some (eRd x5,false))=>Qb (p:=20500) k6 hm;have r7:=fun (S:St) (hm:S.μ 0=some (eRd x6,false))=>Qb (p:=20600) k7 hm;have r8:=fun (S:St) (hm:S.μ 0=some (eRd x7,false))=>Qb (p:=20700) k8 hm;have r9:=fun (S:St) (hm:S.μ 0=some (eRd x8,false))=>Qb (p:=20800) k9 hm;have r10:=fun (S:St) (hm:S.μ 0=some (eRd x9,false))=>Qb (p:=20900) k10 hm;have r11:=fun (S:St) (hm:S.μ 0=some (eRd x10,false))=>Qb (p:=21000) k11 hm;have rA:=fun (S:St) (hm:S.μ 0=some (eRd x11,false))=>Qb (p:=21100) kL hm;have rB:=fun (S:St) (hm:S.μ 0=some (eRd y2,false))=>Qb (p:=21700) kM hm;simp only[go_sem,eSt] at hm r1 r2 r3 r4 r5 r6 r7 r8 r9 r10 r11 rA rB;simp only[F436,c436,go_sem,r0,hm,n2,n3,r1,r2,r3,r4,r5,r6,r7,r8,r9,r10,r11,rA];refine Yid h434 h472 h471 h435 (y:=y) (m:=m) (sh:=mkS (a1,a2,a3,a4,a5,a6,a7,b1,b2,c1,c2,[],[])) (ds:=[]) lL ⟨by simp only[go_sem,r0],by simp only[go_sem],by simp only[go_sem],by simp only[go_sem],by simp only[go_sem,zSh],by simp only[go_sem]<;>rfl,by simp only[go_sem,n11],a0 97,a0 139⟩ (by simp only[go_sem]) (by simp only[go_sem]) (by simp only[go_sem,n6]) (by simp only[go_sem,n9]) (a0 91) fun S1 hE1=>?_;rw[hE] at hE1;obtain⟨t0,t2,t3,u0,u2,u3,u11,w97,w139⟩:=hE1;simp only at w97 u0 u3;simp only[go_sem] at u0;simp only[go_sem,t0,u0,rB];refine YgR h434 h472 h471 h435 (y:=y3) (m:=m2) (sh:=mkS (a1,a2,a3,a4,a5,a6,a7,b1,b2,c1,c2,[],[])) (es:=es) lM ⟨by simp only[go_sem,t0],by simp only[go_sem,t2],by simp only[go_sem,t3],by simp only[go_sem],by simp only[go_sem,u2],by simp only[go_sem,u3],by simp only[go_sem,u11],by simp only[go_sem,w97],by simp only[go_sem,w139]⟩ (by simp only[go_sem]) (by simp only[go_sem]) fun S2 hD1=>?_;rw[hD] at hD1;obtain⟨q0,q2,q3,v0,v2,v3,v11,z97,z139⟩:=hD1;simp only at z139 v0 v3;have hc1:=Yq z97 (by simp);have hc2:=Yq z139 (by simp);simp only[shP,mkS] at v3;simp only[zSh] at v2;simp only[go_sem,q2,q3,v2,v3];refine⟨v0,_,rfl,?_⟩;simp only[go_sem,hc1,hc2,mkS]
structure HW (S:St) (v:Nat) (b:List UInt8) (a:Nat):Prop where
 m:S.μ v=some ([.own a 1 b.length],false)
 a:S.A a=some (1,b.map rowB,.live)
theorem HW.head {S:St} {v:Nat} {b:List UInt8} {a h1:Nat} {Wv Wa:List Nat} (hT:HW S v b a) (hv:Wv.contains v=false) (hw:Wa.contains h1=false) :
  HW (S.head [] [v,0,h1] Wv Wa) v b h1∧(∀x,Wa.contains x=true→(S.head [] [v,0,h1] Wv Wa).A x=none)∧(∀x,x≠a→x≠h1→S.A x=none→(S.head [] [v,0,h1] Wv Wa).A x=none):=by
 have e1:S.swp1 v 0 h1=S.ren a h1:=by rw[Jg5,hT.m,Jil];rfl
 have eh:S.head [] [v,0,h1] Wv Wa=(S.ren a h1).scrub [] Wv Wa:=by rw[JiG,e1];rfl
 rw[eh]
 refine⟨⟨?_,?_⟩,fun x hx=>?_,fun x h2 h3 h0=>?_⟩
 ·show (if Wv.contains v then none else ((S.μ v).map _).map _)=_
  rw[hv,hT.m]
  have:swp a h1 a=h1:=Jin
  simp only[Gx,GN,Option.map_some,G3,G6,JT,this,Jv,hw]
  cases Wa.isEmpty<;>rfl
 ·show (if Wa.contains h1 then none else S.A (swp a h1 h1))=_
  rw[hw,Jip];exact hT.a
 ·show (if Wa.contains x then none else _)=_
  rw[hx];rfl
 ·show (if Wa.contains x then none else S.A (swp a h1 x))=_
  split
  ·rfl
  ·rw[YaA h2 h3];exact h0
theorem st_pos {s:Stamp}:1≤(stB s).length:=by
 have:=putB_pos s.wall.toNat;simp only[stB,Gc];omega
theorem YW {α:Type} {W:α→List UInt8} {l:List α} {i:Nat}:((l.take i).flatMap W).length≤(l.flatMap W).length:=by
 conv=>rhs;rw[←GY i l]
 simp only[List.flatMap_append,Gc];omega
def EntW (e:Entr):Prop:=Yeq e∧e.key.length≤2 ^ 20∧(∀v∈e.chain,v.val.length≤2 ^ 20)∧e.chain.length<2 ^ 60
def DonW (d:Done):Prop:=(0≤d.client∧d.client<2 ^ 63)∧(0≤d.req∧d.req<2 ^ 63)∧(0≤d.ans.err∧d.ans.err<2 ^ 63)∧Ya d.ans.at_=true∧d.ans.val.length≤2 ^ 20
def ShdW (s:Shd):Prop:=(∀n∈[s.id,s.epoch,s.phase,s.hold,s.seen,s.move,s.closed],0≤n∧n<2 ^ 63)∧s.span.lo.length≤2 ^ 20∧s.span.hi.length≤2 ^ 20∧Ya s.mark=true∧Ya s.top=true∧
 (∀e∈s.ents,EntW e)∧s.ents.length<2 ^ 60∧(∀d∈s.done,DonW d)∧s.done.length<2 ^ 60
theorem Yfm {n:Int} (h:decide (n<2)=false):decide (1099511627776<n)=!Yu n:=by
 have h:=Gb h;unfold Yu frQ;have:decide (n<0)=false:=Gp (by omega);rw[this];simp
theorem YgZ {n:Int}:frQ 1 n=(!decide (n<1)&&Yu n):=by
 unfold Yu frQ;by_cases h:n<1
 ·simp[h]
 ·have:decide (n<0)=false:=Gp (by omega);simp[h,this]
def H329 (Pg:PgT):Prop:=Pg 329=some (.code F329)∧H24 Pg∧H114 Pg∧H147 Pg∧H349 Pg∧H350 Pg∧H351 Pg
theorem K329 (h:H329 Pg) (d:Drc) (hd:SmD d):K' Pg 329 [.agg (YT d)]=some (.bool (Yar d)):=by
 obtain⟨h,h24,h114,h147,h349,h350,h351⟩:=h;obtain⟨hl1,hl2,hj,hm⟩:=hd;have k147:=K147 h147 d.places;have k114:=K114 h114 d.leases (by omega);have k24:=fun s=>K24 h24 s;have k350:=K350 h350 d.job hj;have k349:=fun n=>K349 h349 n;have ks:∀x∈d.cells,K' Pg 351 [Yf x.mem]=some (.bool (Yb1 x.mem)):=fun x hx=>K351 h351 x.mem (by have:=hm x hx;omega);simp only[Yd,Yf,YC,YJ,eJb,Ycz] at k24 k147 k114 k350 ks;clear hl1 hj hm h24 h114 h147 h349 h350 h351;refine Qa h rfl ?_;clear h;cases c1:Yz d.places with
 |false=>simp only[go_sem,Yar,YaK, *]
 |true=>
 cases c2:YA d.leases with
 |false=>simp only[go_sem,Yar,YaK, *]
 |true=>
 cases c3:decide ((d.cells.length:Int)=3) with
 |false=>simp only[go_sem,Yar,YaK, *]
 |true=>
 cases c4:decide ((d.lows.length:Int)=3) with
 |false=>simp only[go_sem,Yar,YaK, *]
 |true=>
 cases c5:decide (d.next<2) with
 |true=>simp only[go_sem,Yar,YaK, *]
 |false=>
 have e6:=Yfm c5;have hq1:YaK d=(Yu d.next&&(Ya d.mark&&(Yai d.job&&!decide (8<(d.opened.length:Int))))):=by simp only[YaK,e6,c1,c2,c3,c4,c5,Bool.not_not,Gn,GJ]
 have hq2:Yar d=((Yu d.next&&(Ya d.mark&&(Yai d.job&&!decide (8<(d.opened.length:Int)))))&&((d.cells.all YcZ&&d.lows.all Ya)&&opQ 0 d.opened)):=by simp only[Yar,hq1]
 rw[hq2];clear e6 hq1 hq2;cases c6:Yu d.next with
 |false=>simp only[go_sem, *]
 |true=>
 cases c7:Ya d.mark with
 |false=>simp only[go_sem, *]
 |true=>
 cases c8:Yai d.job with
 |false=>simp only[go_sem, *]
 |true=>
 cases c9:decide (8<(d.opened.length:Int)) with
 |true=>simp only[go_sem, *]
 |false=>
 simp only[go_sem,c1,c2,c3,c4,c5,c6,c7,c8,c9,k147,k114,k24,k350,k349];have hc3:d.cells.length=3:=by have:=Gg c3;omega
 have hl3:d.lows.length=3:=by have:=Gg c4;omega
 clear c1 c2 c3 c4 c5 c6 c7 c8 c9 k147 k114 k350;unfold l329_0;refine JiY (fun (i:Nat) S=>i≤3∧S.ρ 1=.lref 1 0∧S.μ 1=some (YT d,false)∧S.ρ 3=iz i∧S.μ 5=none∧((d.cells.drop i).all YcZ&&(d.lows.drop i).all Ya)=(d.cells.all YcZ&&d.lows.all Ya)) (fun i=>3-i) 0 ?_ ?_
 ·simp[go_sem]
 ·intro i S ⟨hi,s1,m1,s3,m5,ho⟩;simp only[go_sem,s3];refine JiZ (fun hlt=>?_) (fun hlt=>?_)
  ·have hlt:i<3:=by have:=Gg hlt;omega
   obtain⟨x,hx,hdx⟩:=JiF (l:=d.cells) (i:=i) (by omega);obtain⟨y,hy,hdy⟩:=JiF (l:=d.lows) (i:=i) (by omega);have ks:=ks x (List.mem_of_getElem? hx);rw[hdx,hdy,List.all_cons,List.all_cons] at ho;have hinc:IntKind.i64.wrap ((i:Int)+1)=((i+1:Nat):Int):=Yi hlt (by omega);simp only[YcZ,YgZ] at ho;simp only[go_sem,s1,m1,s3,hx];cases q0:decide (x.view<1) with
   |true=>
    simp only[q0,GI,Gj] at ho;simp only[go_sem,←ho]
   |false=>
   cases q1:Yu x.view with
   |false=>
    simp only[q0,q1,GJ,Gn,Gj] at ho;simp only[go_sem,q1,s1,m1,s3,hx,k349,←ho]
   |true=>
   cases q2:Yb1 x.mem with
   |false=>
    simp only[q0,q1,q2,GJ,Gn,Gj,Gm] at ho;simp only[go_sem,q1,q2,s1,m1,s3,hx,ks,k349,←ho]
   |true=>
   cases q3:Ya y with
   |false=>
    simp only[q3,Gj,Gm] at ho;simp only[go_sem,q1,q2,q3,s1,m1,s3,hx,hy,ks,k349,k24,←ho]
   |true=>
    simp only[q0,q1,q2,q3,GJ,Gn] at ho;simp only[go_sem,q1,q2,q3,s1,m1,s3,m5,hx,hy,ks,k349,k24];exact⟨i+1,by omega,by omega,by rw[hinc],ho⟩
  ·have hlt:i=3:=by have:=Gb hlt;omega
   subst hlt;have e1:d.cells.drop 3=[]:=List.drop_eq_nil_of_le (by omega);have e2:d.lows.drop 3=[]:=List.drop_eq_nil_of_le (by omega);rw[e1,e2,List.all_nil,List.all_nil] at ho;rw[←ho];simp only[go_sem];unfold l329_1;clear ho s3 hi ks;refine JiY (fun (i:Nat) S=>i≤d.opened.length∧S.ρ 1=.lref 1 0∧S.μ 1=some (YT d,false)∧S.ρ 4=iz i∧S.μ 5=none∧(i≠0→1≤Ya1 d.opened i)∧opQ (Ya1 d.opened i) (d.opened.drop i)=opQ 0 d.opened) (fun i=>d.opened.length-i) 0 ?_ ?_
   ·simp[go_sem,Ya1,s1,m1]
   ·intro i S ⟨hi,s1,m1,s4,m5,hpos,ho⟩;simp only[go_sem,s1,m1,s4];refine JiZ (fun hlt=>?_) (fun hlt=>?_)
    ·have hlt:=Ye hlt;obtain⟨x,hx,hdx⟩:=JiF hlt;have hnext:Ya1 d.opened (i+1)=x.client:=YeY hx;have hinc:IntKind.i64.wrap ((i:Int)+1)=((i+1:Nat):Int):=Yi hlt (by omega);rw[hdx] at ho;simp only[opQ] at ho;simp only[go_sem,s1,m1,s4,m5,hx];cases q0:decide (x.client<1) with
     |true=>
      have q1:decide (x.client≤Ya1 d.opened i)=true:=GA (by
       have:=Gg q0;rcases GT i with hz|hz
       ·subst hz;simp only[Ya1,GO];omega
       ·have:=hpos (by omega);omega)
      simp only[q1,GI,Gj] at ho;simp only[go_sem,←ho]
     |false=>
     have hx1:=Gb q0;cases q2:decide (8<x.client) with
     |true=>
      simp only[YcI,q2,GI,Gj,Gm] at ho;simp only[go_sem,q2,←ho]
     |false=>
     have fin:∀(hq1:decide (x.client≤Ya1 d.opened i)=false),YcI x=(Yu x.req&&(Yu x.lease&&(Ya x.at_&&(!decide (x.err<0)&&!decide (16<x.err)))))∧(YcI x&&opQ x.client (d.opened.drop (i+1)))=opQ 0 d.opened:=fun hq1=>by
      refine⟨by simp only[YcI,q2,GJ,Gn],?_⟩;rw[←ho,hq1,GJ,Gn]
     rcases GT i with hz|hz
     ·have hgt:decide ((0:Int)<(i:Int))=false:=Gp (by omega);have hq1:decide (x.client≤Ya1 d.opened i)=false:=Gp (by subst hz;simp only[Ya1,GO];omega);obtain⟨f1,f2⟩:=fin hq1;rw[f1] at f2;clear fin f1 ho hq1;cases q3:Yu x.req with
      |false=>
       rw[q3,Gj,Gj] at f2;simp only[go_sem,q2,q3,hgt,s4,k349,←f2]
      |true=>
      cases q4:Yu x.lease with
      |false=>
       rw[q3,q4,Gn,Gj,Gj] at f2;simp only[go_sem,q2,q3,q4,hgt,s4,k349,←f2]
      |true=>
      cases q5:Ya x.at_ with
      |false=>
       rw[q3,q4,q5,Gn,Gn,Gj,Gj] at f2;simp only[go_sem,q2,q3,q4,q5,hgt,s4,k349,k24,←f2]
      |true=>
      cases q6:decide (x.err<0) with
      |true=>
       rw[q3,q4,q5,q6,Gn,Gn,Gn,GI,Gj,Gj] at f2;simp only[go_sem,q2,q3,q4,q5,q6,hgt,s4,k349,k24,←f2]
      |false=>
      cases q7:decide (16<x.err) with
      |true=>
       rw[q3,q4,q5,q6,q7,Gn,Gn,Gn,GI,Gm,Gj] at f2;simp only[go_sem,q2,q3,q4,q5,q6,q7,hgt,s4,k349,k24,←f2]
      |false=>
       rw[q3,q4,q5,q6,q7,Gn,Gn,Gn,GJ,Gn,Gn] at f2;simp only[go_sem,q2,q3,q4,q5,q6,q7,hgt,s1,m1,s4,k349,k24];exact⟨i+1,by omega,by omega,by rw[hinc],fun _=>by rw[hnext];omega,by rw[hnext];exact f2⟩
     ·have hgt:decide ((0:Int)<(i:Int))=true:=GA (by omega);have hdec:IntKind.i64.wrap ((i:Int)-1)=((i-1:Nat):Int):=Ycm hz (by omega);obtain⟨y,hy,-⟩:=JiF (l:=d.opened) (i:=i-1) (by omega);have hp:Ya1 d.opened i=y.client:=by simp[Ya1,Nat.ne_of_gt hz,hy]
      rw[hp] at ho fin;cases q1:decide (x.client≤y.client) with
      |true=>
       rw[q1,GI,Gj] at ho;simp only[go_sem,q1,q2,hgt,hdec,s1,m1,s4,hy,←ho]
      |false=>
      obtain⟨f1,f2⟩:=fin q1;rw[f1] at f2;clear fin f1 ho;cases q3:Yu x.req with
      |false=>
       rw[q3,Gj,Gj] at f2;simp only[go_sem,q1,q2,q3,hgt,hdec,s1,m1,s4,hy,k349,←f2]
      |true=>
      cases q4:Yu x.lease with
      |false=>
       rw[q3,q4,Gn,Gj,Gj] at f2;simp only[go_sem,q1,q2,q3,q4,hgt,hdec,s1,m1,s4,hy,k349,←f2]
      |true=>
      cases q5:Ya x.at_ with
      |false=>
       rw[q3,q4,q5,Gn,Gn,Gj,Gj] at f2;simp only[go_sem,q1,q2,q3,q4,q5,hgt,hdec,s1,m1,s4,hy,k349,k24,←f2]
      |true=>
      cases q6:decide (x.err<0) with
      |true=>
       rw[q3,q4,q5,q6,Gn,Gn,Gn,GI,Gj,Gj] at f2;simp only[go_sem,q1,q2,q3,q4,q5,q6,hgt,hdec,s1,m1,s4,hy,k349,k24,←f2]
      |false=>
      cases q7:decide (16<x.err) with
      |true=>
       rw[q3,q4,q5,q6,q7,Gn,Gn,Gn,GI,Gm,Gj] at f2;simp only[go_sem,q1,q2,q3,q4,q5,q6,q7,hgt,hdec,s1,m1,s4,hy,k349,k24,←f2]
      |false=>
       rw[q3,q4,q5,q6,q7,Gn,Gn,Gn,GJ,Gn,Gn] at f2;simp only[go_sem,q1,q2,q3,q4,q5,q6,q7,hgt,hdec,s1,m1,s4,hy,k349,k24];exact⟨i+1,by omega,by omega,by rw[hinc],fun _=>by rw[hnext];omega,by rw[hnext];exact f2⟩
    ·have hlt:=Ym hi hlt;subst hlt;rw[GF] at ho;simp only[opQ] at ho;simp only[go_sem,←ho]
theorem Ya3 {n:Int} (h:NV n):0≤n∧n<2 ^ 63:=by
 obtain⟨h1,h2⟩:=h;omega
def PlS (p:Place):Prop:=PlV p∧p.span.lo.length≤2 ^ 30∧p.span.hi.length≤2 ^ 30
def InS (p:Inf):Prop:=InV p∧p.mem.length≤2 ^ 20
set_option maxHeartbeats 1000000
theorem Yaj (h:H530 Pg) (x:Rb):K' Pg 530 [.tuple (.lref 0 0::eR x)]=some (.tuple [iz ((uI false).v x),.tuple (eR ((uI false).n x))]):=R530 h x
def drP (a b:V) (n:Int) (c d:V) (m:Stamp) (j:Jb) (o:V):List V:=[a,b,iz n,c,d,iz m.wall,iz m.tick,iz m.node,iz j.kind,iz j.step,iz j.id,iz j.shard,iz j.other,iz j.cell,iz j.to,iz j.epoch,.str j.key,Ycz j.parts,iz j.of_,iz j.client,iz j.req,.str j.span.lo,.str j.span.hi,Yf j.wait,iz j.at_.wall,iz j.at_.tick,iz j.at_.node,Yf j.mem,o]
structure TD (S:St) (y:Rb) (ps:List Place) (is:List Inf) (n:Int) (ls:List Lse) (ss:List Stamp) (m:Stamp) (j:Jb) (os:List ORw):Prop where
 r2:S.ρ 2=.lref 2 0
 r4:S.ρ 4=.lref 9 0
 r5:S.ρ 5=.lref 5 0
 m9:S.μ 9=some (eR y,false)
 m2:S.μ 2=some (Yd2,false)
 m5:S.μ 5=some (drP (nilOr 33 5 ps.length) (nilOr 50 3 is.length) n (nilOr 70 5 ls.length) (nilOr 82 3 ss.length) m j (nilOr 109 7 os.length),false)
 a33:S.A 33=YY 5 (ps.map ePl) ps.length
 a50:S.A 50=YY 3 (is.map Yco) is.length
 a70:S.A 70=YY 5 (ls.map Yah) ls.length
 a82:S.A 82=YY 3 (ss.map Yd) ss.length
 a109:S.A 109=YY 7 (os.map YcL) os.length
theorem Yy {S:St} {v:Nat} {Wv:List Nat} {cs:List V} {b:Bool} (hm:S.μ v=some (cs,b)) (hv:Wv.contains v=false):(S.head [] [] Wv []).μ v=some (cs,b):=by
 show (if Wv.contains v then none else (S.μ v).map _)=_
 rw[hv,hm];rfl
theorem TD.head {S:St} {y:Rb} {ps:List Place} {is:List Inf} {n:Int} {ls:List Lse} {ss:List Stamp} {m:Stamp} {j:Jb} {os:List ORw} (h:TD S y ps is n ls ss m j os):TD (S.head [] [] [6] []) y ps is n ls ss m j os:=
 ⟨JiJ h.r2 rfl,JiJ h.r4 rfl,JiJ h.r5 rfl,Yy h.m9 rfl,Yy h.m2 rfl,Yy h.m5 rfl,(Yv rfl).trans h.a33,(Yv rfl).trans h.a50,(Yv rfl).trans h.a70,(Yv rfl).trans h.a82,(Yv rfl).trans h.a109⟩
set_option maxHeartbeats 1000000
theorem Yje (h530:H530 Pg) (h539:H539 Pg) {y:Rb} {m:Nat} {n:Int} {mk:Stamp} {j:Jb} {is:List Inf} {ls:List Lse} {ss:List Stamp} {os:List ORw} (hm:m≤2 ^ 29) {S:St} {Q:Ex→St→Prop}
  (hS:TD S y [] is n ls ss mk j os) (sc:S.ρ 11=iz m) (si:S.ρ 12=iz 0) (n6:S.μ 6=none)
  (hq:∀S',TD S' (((uPl false).rep false m).n y) (((uPl false).rep false m).v y) is n ls ss mk j os→Q .norm S'):Wp (K' Pg) l517_0 S (Blk 0 Q):=by
 unfold l517_0
 refine JiY (fun (i:Nat) S=>i≤m∧S.ρ 11=iz m∧S.ρ 12=iz i∧S.μ 6=none∧∃(vs:List Place) (w:Rb),vs.length=i∧(((uPl false).rep false m).v y=vs++((uPl false).rep false (m-i)).v w∧((uPl false).rep false m).n y=((uPl false).rep false (m-i)).n w)∧TD S w vs is n ls ss mk j os) (fun i=>m-i) 0 ?_ ?_
 ·exact⟨Gu _,JiJ sc rfl,JiJ si rfl,JiH (.inl n6),[],y,rfl,⟨rfl,rfl⟩,hS.head⟩
 ·intro i S ⟨hi,sc,si,n6,vs,w,hvl,hrep,hS⟩
  have hS0:=hS
  obtain⟨t2,t4,t5,m9,m2,m5,a33,a50,a70,a82,a109⟩:=hS
  cases c1:decide ((i:Int)<(m:Int)) with
  |false=>
   have him:i=m:=by have:=Gb c1;omega
   subst him
   obtain⟨e1,e2⟩:=Yau hrep
   rw[e1,e2] at hq
   simp only[go_sem,sc,si,c1]
   exact hq _ ⟨by simp only[go_sem,t2],by simp only[go_sem,t4],by simp only[go_sem,t5],m9,m2,m5,a33,a50,a70,a82,a109⟩
  |true=>
   have hlt:=Ye c1
   have hinc:=inc64q (i:=i) (by omega)
   have hone:=rep_step hlt hrep
   have hR:(uPl false).v w=mkPl ((uT false).v w,(uT false).v ((uT false).n w),(uI false).v ((uT false).n ((uT false).n w)),(uI false).v ((uI false).n ((uT false).n ((uT false).n w))),(uI false).v ((uI false).n ((uI false).n ((uT false).n ((uT false).n w))))):=rfl
   have hN:(uPl false).n w=(uI false).n ((uI false).n ((uI false).n ((uT false).n ((uT false).n w)))):=rfl
   rw[hR,hN] at hone
   have k1:=R539 h539 w
   generalize (uT false).v w=v1 at *
   generalize (uT false).n w=z1 at *
   have k2:=R539 h539 z1
   generalize (uT false).v z1=v2 at *
   generalize (uT false).n z1=z2 at *
   have k3:=Yaj h530 z2
   generalize (uI false).v z2=v3 at *
   generalize (uI false).n z2=z3 at *
   have k4:=Yaj h530 z3
   generalize (uI false).v z3=v4 at *
   generalize (uI false).n z3=z4 at *
   have k5:=Yaj h530 z4
   generalize (uI false).v z4=v5 at *
   generalize (uI false).n z4=z5 at *
   have hil:(vs.map ePl).length=vs.length:=by simp
   have ha:=fun S=>YV (S:=S) (s:=33) (z:=5) (r:=[.str v1,.str v2,iz v3,iz v4,iz v5]) hil (by unfold lim;omega)
   have x5:=m5
   simp only[drP,go_sem] at x5
   simp only[go_sem,JiK,t4,t5,sc,si,c1,m9,x5,n6,a33,k1,k2,k3,k4,k5,YI,ha,hinc,JhU]
   have hs1:(vs++[mkPl (v1,v2,v3,v4,v5)]).length=vs.length+1:=by simp
   exact⟨i+1,by omega,by omega,rfl,vs++[mkPl (v1,v2,v3,v4,v5)],z5,by rw[hs1,hvl],hone,TD.head ⟨by simp only[go_sem,t2],by simp only[go_sem,t4],by simp only[go_sem,t5],by simp only[go_sem],by simp only[go_sem,m2],by rw[hs1];simp only[go_sem]<;>rfl,by rw[hs1,Gw];simp only[go_sem]<;>rfl,by simp only[go_sem,a50],by simp only[go_sem,a70],by simp only[go_sem,a82],by simp only[go_sem,a109]⟩⟩
theorem YiR (h530:H530 Pg) (h540:H540 Pg) (h541:H541 Pg) {y:Rb} {m:Nat} {n:Int} {mk:Stamp} {j:Jb} {ps:List Place} {ls:List Lse} {ss:List Stamp} {os:List ORw} (hm:m≤2 ^ 29) {S:St} {Q:Ex→St→Prop}
  (hS:TD S y ps [] n ls ss mk j os) (sc:S.ρ 37=iz m) (si:S.ρ 38=iz 0)
  (hq:∀S',TD S' (((uIn false).rep false m).n y) ps (((uIn false).rep false m).v y) n ls ss mk j os→Q .norm S'):Wp (K' Pg) l517_1 S (Blk 2 Q):=by
 unfold l517_1
 refine JiY (fun (i:Nat) S=>i≤m∧S.ρ 37=iz m∧S.ρ 38=iz i∧∃(vs:List Inf) (w:Rb),vs.length=i∧(((uIn false).rep false m).v y=vs++((uIn false).rep false (m-i)).v w∧((uIn false).rep false m).n y=((uIn false).rep false (m-i)).n w)∧TD S w ps vs n ls ss mk j os) (fun i=>m-i) 0 ?_ ?_
 ·simp only[JhU]
  exact⟨Gu _,sc,si,[],y,rfl,⟨rfl,rfl⟩,hS⟩
 ·intro i S ⟨hi,sc,si,vs,w,hvl,hrep,hS⟩
  have hS0:=hS
  obtain⟨t2,t4,t5,m9,m2,m5,a33,a50,a70,a82,a109⟩:=hS
  cases c1:decide ((i:Int)<(m:Int)) with
  |false=>
   have him:i=m:=by have:=Gb c1;omega
   subst him
   obtain⟨e1,e2⟩:=Yau hrep
   rw[e1,e2] at hq
   simp only[go_sem,sc,si,c1]
   exact hq _ ⟨by simp only[go_sem,t2],by simp only[go_sem,t4],by simp only[go_sem,t5],m9,m2,m5,a33,a50,a70,a82,a109⟩
  |true=>
   have hlt:=Ye c1
   have hinc:=inc64q (i:=i) (by omega)
   have hone:=rep_step hlt hrep
   have hR:(uIn false).v w=mkIn ((uI false).v w,(uIs false).v ((uI false).n w),(uF false).v ((uIs false).n ((uI false).n w))):=rfl
   have hN:(uIn false).n w=(uF false).n ((uIs false).n ((uI false).n w)):=rfl
   rw[hR,hN] at hone
   have k1:=Yaj h530 w
   generalize (uI false).v w=v1 at *
   generalize (uI false).n w=z1 at *
   have k2:=Yfc h540 z1
   generalize (uIs false).v z1=v2 at *
   generalize (uIs false).n z1=z2 at *
   have k3:=R541 h541 z2
   generalize (uF false).v z2=v3 at *
   generalize (uF false).n z2=z3 at *
   have hil:(vs.map Yco).length=vs.length:=by simp
   have ha:=fun S=>YV (S:=S) (s:=50) (z:=3) (r:=[iz v1,.slice 1 (v2.map fun a=>[iz a]),.bool v3]) hil (by unfold lim;omega)
   simp only[go_sem,eSt] at k2
   have x5:=m5
   simp only[drP,go_sem] at x5
   simp only[go_sem,JiK,t4,t5,sc,si,c1,m9,x5,a50,k1,k2,k3,YI,ha,hinc,JhU]
   have hs1:(vs++[mkIn (v1,v2,v3)]).length=vs.length+1:=by simp
   exact⟨i+1,by omega,by omega,rfl,vs++[mkIn (v1,v2,v3)],z3,by rw[hs1,hvl],hone,⟨by simp only[go_sem,t2],by simp only[go_sem,t4],by simp only[go_sem,t5],by simp only[go_sem],by simp only[go_sem,m2],by rw[hs1];simp only[go_sem]<;>rfl,by simp only[go_sem,a33],by rw[hs1,Gw];simp only[go_sem]<;>rfl,by simp only[go_sem,a70],by simp only[go_sem,a82],by simp only[go_sem,a109]⟩⟩
theorem Yi0 (h530:H530 Pg) (h542:H542 Pg) {y:Rb} {m:Nat} {n:Int} {mk:Stamp} {j:Jb} {ps:List Place} {is:List Inf} {ss:List Stamp} {os:List ORw} (hm:m≤2 ^ 29) {S:St} {Q:Ex→St→Prop}
  (hS:TD S y ps is n [] ss mk j os) (sc:S.ρ 57=iz m) (si:S.ρ 58=iz 0)
  (hq:∀S',TD S' (((uLe false).rep false m).n y) ps is n (((uLe false).rep false m).v y) ss mk j os→Q .norm S'):Wp (K' Pg) l517_2 S (Blk 4 Q):=by
 unfold l517_2
 refine JiY (fun (i:Nat) S=>i≤m∧S.ρ 57=iz m∧S.ρ 58=iz i∧∃(vs:List Lse) (w:Rb),vs.length=i∧(((uLe false).rep false m).v y=vs++((uLe false).rep false (m-i)).v w∧((uLe false).rep false m).n y=((uLe false).rep false (m-i)).n w)∧TD S w ps is n vs ss mk j os) (fun i=>m-i) 0 ?_ ?_
 ·simp only[JhU]
  exact⟨Gu _,sc,si,[],y,rfl,⟨rfl,rfl⟩,hS⟩
 ·intro i S ⟨hi,sc,si,vs,w,hvl,hrep,hS⟩
  have hS0:=hS
  obtain⟨t2,t4,t5,m9,m2,m5,a33,a50,a70,a82,a109⟩:=hS
  cases c1:decide ((i:Int)<(m:Int)) with
  |false=>
   have him:i=m:=by have:=Gb c1;omega
   subst him
   obtain⟨e1,e2⟩:=Yau hrep
   rw[e1,e2] at hq
   simp only[go_sem,sc,si,c1]
   exact hq _ ⟨by simp only[go_sem,t2],by simp only[go_sem,t4],by simp only[go_sem,t5],m9,m2,m5,a33,a50,a70,a82,a109⟩
  |true=>
   have hlt:=Ye c1
   have hinc:=inc64q (i:=i) (by omega)
   have hone:=rep_step hlt hrep
   have hR:(uLe false).v w=mkLe ((uI false).v w,(uI false).v ((uI false).n w),(uS false).v ((uI false).n ((uI false).n w))):=rfl
   have hN:(uLe false).n w=(uS false).n ((uI false).n ((uI false).n w)):=rfl
   rw[hR,hN] at hone
   have k1:=Yaj h530 w
   generalize (uI false).v w=v1 at *
   generalize (uI false).n w=z1 at *
   have k2:=Yaj h530 z1
   generalize (uI false).v z1=v2 at *
   generalize (uI false).n z1=z2 at *
   have k3:=R542 h542 z2
   generalize (uS false).v z2=v3 at *
   generalize (uS false).n z2=z3 at *
   have hil:(vs.map Yah).length=vs.length:=by simp
   have ha:=fun S=>YV (S:=S) (s:=70) (z:=5) (r:=[iz v1,iz v2,iz v3.wall,iz v3.tick,iz v3.node]) hil (by unfold lim;omega)
   simp only[go_sem,eSt] at k3
   have x5:=m5
   simp only[drP,go_sem] at x5
   simp only[go_sem,JiK,t4,t5,sc,si,c1,m9,x5,a70,k1,k2,k3,YI,ha,hinc,JhU]
   have hs1:(vs++[mkLe (v1,v2,v3)]).length=vs.length+1:=by simp
   exact⟨i+1,by omega,by omega,rfl,vs++[mkLe (v1,v2,v3)],z3,by rw[hs1,hvl],hone,⟨by simp only[go_sem,t2],by simp only[go_sem,t4],by simp only[go_sem,t5],by simp only[go_sem],by simp only[go_sem,m2],by rw[hs1];simp only[go_sem]<;>rfl,by simp only[go_sem,a33],by simp only[go_sem,a50],by rw[hs1,Gw];simp only[go_sem]<;>rfl,by simp only[go_sem,a82],by simp only[go_sem,a109]⟩⟩
theorem Yjp (h542:H542 Pg) {y:Rb} {m:Nat} {n:Int} {mk:Stamp} {j:Jb} {ps:List Place} {is:List Inf} {ls:List Lse} {os:List ORw} (hm:m≤2 ^ 29) {S:St} {Q:Ex→St→Prop}
  (hS:TD S y ps is n ls [] mk j os) (sc:S.ρ 74=iz m) (si:S.ρ 75=iz 0)
  (hq:∀S',TD S' (((uS false).rep false m).n y) ps is n ls (((uS false).rep false m).v y) mk j os→Q .norm S'):Wp (K' Pg) l517_3 S (Blk 6 Q):=by
 unfold l517_3
 refine JiY (fun (i:Nat) S=>i≤m∧S.ρ 74=iz m∧S.ρ 75=iz i∧∃(vs:List Stamp) (w:Rb),vs.length=i∧(((uS false).rep false m).v y=vs++((uS false).rep false (m-i)).v w∧((uS false).rep false m).n y=((uS false).rep false (m-i)).n w)∧TD S w ps is n ls vs mk j os) (fun i=>m-i) 0 ?_ ?_
 ·simp only[JhU]
  exact⟨Gu _,sc,si,[],y,rfl,⟨rfl,rfl⟩,hS⟩
 ·intro i S ⟨hi,sc,si,vs,w,hvl,hrep,hS⟩
  have hS0:=hS
  obtain⟨t2,t4,t5,m9,m2,m5,a33,a50,a70,a82,a109⟩:=hS
  cases c1:decide ((i:Int)<(m:Int)) with
  |false=>
   have him:i=m:=by have:=Gb c1;omega
   subst him
   obtain⟨e1,e2⟩:=Yau hrep
   rw[e1,e2] at hq
   simp only[go_sem,sc,si,c1]
   exact hq _ ⟨by simp only[go_sem,t2],by simp only[go_sem,t4],by simp only[go_sem,t5],m9,m2,m5,a33,a50,a70,a82,a109⟩
  |true=>
   have hlt:=Ye c1
   have hinc:=inc64q (i:=i) (by omega)
   have hone:=rep_step hlt hrep
   have k1:=R542 h542 w
   generalize (uS false).v w=v1 at *
   generalize (uS false).n w=z1 at *
   have hil:(vs.map Yd).length=vs.length:=by simp
   have ha:=fun S=>YV (S:=S) (s:=82) (z:=3) (r:=[iz v1.wall,iz v1.tick,iz v1.node]) hil (by unfold lim;omega)
   simp only[go_sem,eSt] at k1
   have x5:=m5
   simp only[drP,go_sem] at x5
   simp only[go_sem,JiK,t4,t5,sc,si,c1,m9,x5,a82,k1,YI,ha,hinc,JhU]
   have hs1:(vs++[v1]).length=vs.length+1:=by simp
   exact⟨i+1,by omega,by omega,rfl,vs++[v1],z1,by rw[hs1,hvl],hone,⟨by simp only[go_sem,t2],by simp only[go_sem,t4],by simp only[go_sem,t5],by simp only[go_sem],by simp only[go_sem,m2],by rw[hs1];simp only[go_sem]<;>rfl,by simp only[go_sem,a33],by simp only[go_sem,a50],by simp only[go_sem,a70],by rw[hs1,Gw];simp only[go_sem]<;>rfl,by simp only[go_sem,a109]⟩⟩
theorem Yi8 (h530:H530 Pg) (h542:H542 Pg) {y:Rb} {m:Nat} {n:Int} {mk:Stamp} {j:Jb} {ps:List Place} {is:List Inf} {ls:List Lse} {ss:List Stamp} (hm:m≤2 ^ 29) {S:St} {Q:Ex→St→Prop}
  (hS:TD S y ps is n ls ss mk j []) (sc:S.ρ 92=iz m) (si:S.ρ 93=iz 0)
  (hq:∀S',TD S' (((uOr false).rep false m).n y) ps is n ls ss mk j (((uOr false).rep false m).v y)→Q .norm S'):Wp (K' Pg) l517_4 S (Blk 8 Q):=by
 unfold l517_4
 refine JiY (fun (i:Nat) S=>i≤m∧S.ρ 92=iz m∧S.ρ 93=iz i∧∃(vs:List ORw) (w:Rb),vs.length=i∧(((uOr false).rep false m).v y=vs++((uOr false).rep false (m-i)).v w∧((uOr false).rep false m).n y=((uOr false).rep false (m-i)).n w)∧TD S w ps is n ls ss mk j vs) (fun i=>m-i) 0 ?_ ?_
 ·simp only[JhU]
  exact⟨Gu _,sc,si,[],y,rfl,⟨rfl,rfl⟩,hS⟩
 ·intro i S ⟨hi,sc,si,vs,w,hvl,hrep,hS⟩
  have hS0:=hS
  obtain⟨t2,t4,t5,m9,m2,m5,a33,a50,a70,a82,a109⟩:=hS
  cases c1:decide ((i:Int)<(m:Int)) with
  |false=>
   have him:i=m:=by have:=Gb c1;omega
   subst him
   obtain⟨e1,e2⟩:=Yau hrep
   rw[e1,e2] at hq
   simp only[go_sem,sc,si,c1]
   exact hq _ ⟨by simp only[go_sem,t2],by simp only[go_sem,t4],by simp only[go_sem,t5],m9,m2,m5,a33,a50,a70,a82,a109⟩
  |true=>
   have hlt:=Ye c1
   have hinc:=inc64q (i:=i) (by omega)
   have hone:=rep_step hlt hrep
   have hR:(uOr false).v w=YdP ((uI false).v w,(uI false).v ((uI false).n w),(uI false).v ((uI false).n ((uI false).n w)),(uS false).v ((uI false).n ((uI false).n ((uI false).n w))),(uI false).v ((uS false).n ((uI false).n ((uI false).n ((uI false).n w))))):=rfl
   have hN:(uOr false).n w=(uI false).n ((uS false).n ((uI false).n ((uI false).n ((uI false).n w)))):=rfl
   rw[hR,hN] at hone
   have k1:=Yaj h530 w
   generalize (uI false).v w=v1 at *
   generalize (uI false).n w=z1 at *
   have k2:=Yaj h530 z1
   generalize (uI false).v z1=v2 at *
   generalize (uI false).n z1=z2 at *
   have k3:=Yaj h530 z2
   generalize (uI false).v z2=v3 at *
   generalize (uI false).n z2=z3 at *
   have k4:=R542 h542 z3
   generalize (uS false).v z3=v4 at *
   generalize (uS false).n z3=z4 at *
   have k5:=Yaj h530 z4
   generalize (uI false).v z4=v5 at *
   generalize (uI false).n z4=z5 at *
   have hil:(vs.map YcL).length=vs.length:=by simp
   have ha:=fun S=>YV (S:=S) (s:=109) (z:=7) (r:=[iz v1,iz v2,iz v3,iz v4.wall,iz v4.tick,iz v4.node,iz v5]) hil (by unfold lim;omega)
   simp only[go_sem,eSt] at k4
   have x5:=m5
   simp only[drP,go_sem] at x5
   simp only[go_sem,JiK,t4,t5,sc,si,c1,m9,x5,a109,k1,k2,k3,k4,k5,YI,ha,hinc,JhU]
   have hs1:(vs++[YdP (v1,v2,v3,v4,v5)]).length=vs.length+1:=by simp
   exact⟨i+1,by omega,by omega,rfl,vs++[YdP (v1,v2,v3,v4,v5)],z5,by rw[hs1,hvl],hone,⟨by simp only[go_sem,t2],by simp only[go_sem,t4],by simp only[go_sem,t5],by simp only[go_sem],by simp only[go_sem,m2],by rw[hs1];simp only[go_sem]<;>rfl,by simp only[go_sem,a33],by simp only[go_sem,a50],by simp only[go_sem,a70],by simp only[go_sem,a82],by rw[hs1,Gw];simp only[go_sem]<;>rfl⟩⟩
def jP (a1 a2 a3 a4 a5 a6 a7 a8:Int) (k:List UInt8) (p:V):List V:=[iz a1,iz a2,iz a3,iz a4,iz a5,iz a6,iz a7,iz a8,.str k,p,iz 0,iz 0,iz 0,.str [],.str [],.slice 1 [],iz 0,iz 0,iz 0,.slice 1 []]
def Yhm:List V:=[iz 0,iz 0,iz 0,iz 0,iz 0,iz 0,iz 0,iz 0,.str [],.slice 1 [],iz 0,iz 0,iz 0,.str [],.str [],.slice 1 [],iz 0,iz 0,iz 0,.slice 1 []]
structure TJ (S:St) (y:Rb) (c:V→List V) (ps:List (List UInt8)):Prop where
 r0:S.ρ 0=.lref 0 0
 r2:S.ρ 2=.lref 2 0
 r3:S.ρ 3=.lref 3 0
 m0:S.μ 0=some (eR y,false)
 m2:S.μ 2=some (Yhm,false)
 m3:S.μ 3=some (c (nilOr 40 1 ps.length),false)
 a40:S.A 40=YY 1 (ps.map fun t=>[.str t]) ps.length
set_option maxHeartbeats 1000000
theorem Yjk (h539:H539 Pg) {y:Rb} {m:Nat} {a1 a2 a3 a4 a5 a6 a7 a8:Int} {kk:List UInt8} (hm:m≤2 ^ 29) {S:St} {Q:Ex→St→Prop}
  (hS:TJ S y (jP a1 a2 a3 a4 a5 a6 a7 a8 kk) []) (sc:S.ρ 32=iz m) (si:S.ρ 33=iz 0)
  (hq:∀S',TJ S' (((uT false).rep false m).n y) (jP a1 a2 a3 a4 a5 a6 a7 a8 kk) (((uT false).rep false m).v y)→Q .norm S'):Wp (K' Pg) l543_0 S (Blk 0 Q):=by
 unfold l543_0
 refine JiY (fun (i:Nat) S=>i≤m∧S.ρ 32=iz m∧S.ρ 33=iz i∧∃(vs:List (List UInt8)) (w:Rb),vs.length=i∧(((uT false).rep false m).v y=vs++((uT false).rep false (m-i)).v w∧((uT false).rep false m).n y=((uT false).rep false (m-i)).n w)∧TJ S w (jP a1 a2 a3 a4 a5 a6 a7 a8 kk) vs) (fun i=>m-i) 0 ?_ ?_
 ·simp only[JhU]
  exact⟨Gu _,sc,si,[],y,rfl,⟨rfl,rfl⟩,hS⟩
 ·intro i S ⟨hi,sc,si,vs,w,hvl,hrep,hS⟩
  obtain⟨t0,t2,t3,m0,m2,m3,a40⟩:=hS
  cases c1:decide ((i:Int)<(m:Int)) with
  |false=>
   have him:i=m:=by have:=Gb c1;omega
   subst him
   obtain⟨e1,e2⟩:=Yau hrep
   rw[e1,e2] at hq
   simp only[go_sem,sc,si,c1]
   exact hq _ ⟨by simp only[go_sem,t0],by simp only[go_sem,t2],by simp only[go_sem,t3],m0,m2,m3,a40⟩
  |true=>
   have hlt:=Ye c1
   have hinc:=inc64q (i:=i) (by omega)
   have hone:=rep_step hlt hrep
   have k1:=R539 h539 w
   generalize (uT false).v w=v1 at *
   generalize (uT false).n w=z1 at *
   have hil:(vs.map fun t=>[V.str t]).length=vs.length:=by simp
   have ha:=fun S=>YV (S:=S) (s:=40) (z:=1) (r:=[.str v1]) hil (by unfold lim;omega)
   have x3:=m3
   simp only[jP] at x3
   simp only[go_sem,JiK,t0,t3,sc,si,c1,m0,x3,a40,k1,YI,ha,hinc,JhU]
   have hs1:(vs++[v1]).length=vs.length+1:=by simp
   exact⟨i+1,by omega,by omega,rfl,vs++[v1],z1,by rw[hs1,hvl],hone,by simp only[go_sem,t0],by simp only[go_sem,t2],by simp only[go_sem,t3],by simp only[go_sem],by simp only[go_sem,m2],by rw[hs1];simp only[go_sem]<;>rfl,by rw[hs1,Gw];simp only[go_sem]<;>rfl⟩
def H543 (Pg:PgT):Prop:=Pg 543=some (.codeR F543 0)∧H530 Pg∧H531 Pg∧H539 Pg∧H540 Pg∧H542 Pg
theorem R543 (h:H543 Pg) (x:Rb):K' Pg 543 [.tuple (.lref 0 0::eR x)]=some (.tuple [.agg (eJb ((uJb false).v x)),.tuple (eR ((uJb false).n x))]):=by
 obtain⟨h,h530,h531,h539,h540,h542⟩:=h;simp only[uJb,Rg.map_v,Rg.map_n,Rg.pair_v,Rg.pair_n];have k1:=Yaj h530 x;generalize (uI false).v x=v1 at *
 generalize (uI false).n x=z1 at *
 have k2:=Yaj h530 z1;generalize (uI false).v z1=v2 at *
 generalize (uI false).n z1=z2 at *
 have k3:=Yaj h530 z2;generalize (uI false).v z2=v3 at *
 generalize (uI false).n z2=z3 at *
 have k4:=Yaj h530 z3;generalize (uI false).v z3=v4 at *
 generalize (uI false).n z3=z4 at *
 have k5:=Yaj h530 z4;generalize (uI false).v z4=v5 at *
 generalize (uI false).n z4=z5 at *
 have k6:=Yaj h530 z5;generalize (uI false).v z5=v6 at *
 generalize (uI false).n z5=z6 at *
 have k7:=Yaj h530 z6;generalize (uI false).v z6=v7 at *
 generalize (uI false).n z6=z7 at *
 have k8:=Yaj h530 z7;generalize (uI false).v z7=v8 at *
 generalize (uI false).n z7=z8 at *
 have k9:=R539 h539 z8;generalize (uT false).v z8=v9 at *
 generalize (uT false).n z8=z9 at *
 have hv:=Rg.lst_v (D:=false) (R:=uT false) (x:=z9);rw[hv.1,hv.2];have hm:(uL false).v z9≤2 ^ 29:=YbY;have k10:=YdD h531 z9;generalize (uL false).v z9=m at *
 generalize (uL false).n z9=y at *
 generalize hpv:((uT false).rep false m).v y=pv;generalize hpn:((uT false).rep false m).n y=z10;have k11:=Yaj h530 z10;generalize (uI false).v z10=v11 at *
 generalize (uI false).n z10=z11 at *
 have k12:=Yaj h530 z11;generalize (uI false).v z11=v12 at *
 generalize (uI false).n z11=z12 at *
 have k13:=Yaj h530 z12;generalize (uI false).v z12=v13 at *
 generalize (uI false).n z12=z13 at *
 have k14:=R539 h539 z13;generalize (uT false).v z13=v14 at *
 generalize (uT false).n z13=z14 at *
 have k15:=R539 h539 z14;generalize (uT false).v z14=v15 at *
 generalize (uT false).n z14=z15 at *
 have k16:=Yfc h540 z15;generalize (uIs false).v z15=v16 at *
 generalize (uIs false).n z15=z16 at *
 have k17:=R542 h542 z16;generalize (uS false).v z16=v17 at *
 generalize (uS false).n z16=z17 at *
 have k18:=Yfc h540 z17;generalize (uIs false).v z17=v18 at *
 generalize (uIs false).n z17=z18 at *
 simp only[go_sem,eSt] at k16 k17 k18;refine Ybm [.cell 2 (some 20)] (ws:=[.agg (eJb _)]) h rfl rfl (Ya2 _) (Ya2 _) (Ydx _) fun S ⟨r0,r,hm0,m0,a0⟩=>?_;have n2:=m0 2 rfl;have n3:=m0 3 rfl;have a40:=a0 40;simp only[F543,c543,go_sem,JiK,r0,hm0,n2,n3,k1,k2,k3,k4,k5,k6,k7,k8,k9,k10];refine Yjk h539 (y:=y) (m:=m) (a1:=v1) (a2:=v2) (a3:=v3) (a4:=v4) (a5:=v5) (a6:=v6) (a7:=v7) (a8:=v8) (kk:=v9) hm ⟨by simp only[go_sem,r0],by simp only[go_sem],by simp only[go_sem],by simp only[go_sem],by simp only[go_sem]<;>rfl,by simp only[go_sem]<;>rfl,by simp only[go_sem,a40]<;>rfl⟩ (by simp only[go_sem]) (by simp only[go_sem]) fun S1 hS1=>?_;rw[hpv,hpn] at hS1;obtain⟨t0,t2,t3,u0,u2,u3,b40⟩:=hS1;have hc:=Yq b40 (by simp);simp only[jP] at u3;simp only[Yhm] at u2;simp only[go_sem,JiK,t0,t2,t3,u0,u2,u3,k11,k12,k13,k14,k15,k16,k17,k18];exact⟨_,rfl,by simp only[go_sem,hc,Yfs]<;>rfl⟩
theorem Rg.whole_e {α:Type} {R:Rg α} {q:α→Bool} {t:List UInt8} (ht:t.length≤2 ^ 29):(if (R.f (t,false)).2=([],false)∧q (R.f (t,false)).1=true then some (R.f (t,false)).1 else none)=
  if ((R.n ⟨t,false,ht⟩).no=false∧(R.n ⟨t,false,ht⟩).s=[])∧q (R.v ⟨t,false,ht⟩)=true then some (R.v ⟨t,false,ht⟩) else none:=by
 have e1:(R.n ⟨t,false,ht⟩).no=(R.f (t,false)).2.2:=rfl
 have e2:(R.n ⟨t,false,ht⟩).s=(R.f (t,false)).2.1:=rfl
 have e3:R.v ⟨t,false,ht⟩=(R.f (t,false)).1:=rfl
 rw[e1,e2,e3]
 generalize R.f (t,false)=p
 obtain⟨a,s,b⟩:=p
 simp only[Gl,and_comm]
theorem Rg.good {α:Type} {R:Rg α} {W:α→List UInt8} {P:α→Prop} (h:Cod R.f W P) {t:List UInt8} (ht:t.length≤2 ^ 29) (h1:(R.n ⟨t,false,ht⟩).no=false) (h2:(R.n ⟨t,false,ht⟩).s=[]):t=W (R.v ⟨t,false,ht⟩)∧P (R.v ⟨t,false,ht⟩):=by
 have h3:(R.f (t,false)).2.2=false:=h1;have h4:(R.f (t,false)).2.1=[]:=h2;have:=h.get (s:=t) (r:=[]) (a:=(R.f (t,false)).1) (Prod.ext rfl (Prod.ext h4 h3));rw[GS] at this;exact this
def zJb:Jb:=⟨0,0,0,0,0,0,0,0,[],[],0,0,0,⟨[],[]⟩,[],⟨0,0,0⟩,[]⟩
def Ydf:Option Drc→V
 |some d=>.tuple [.agg (YT d),iz 0]
 |none=>.tuple [.agg Yd2,iz 3]
def H517 (Pg:PgT):Prop:=Pg 517=some (.code F517)∧H328 Pg∧H530 Pg∧H531 Pg∧H539 Pg∧H540 Pg∧H541 Pg∧H542 Pg∧H543 Pg
theorem K517 (h:H517 Pg) (t:List UInt8) (ht:t.length≤2 ^ 29) (hsm:∀d,DrV d→drB d=t→SmD d):K' Pg 517 [.str t]=some (Ydf (tkD t)):=by
 obtain⟨h,h328,h530,h531,h539,h540,h541,h542,h543⟩:=h;have e0:tkD t=if (((uDr false).n ⟨t,false,ht⟩).no=false∧((uDr false).n ⟨t,false,ht⟩).s=[])∧Yar ((uDr false).v ⟨t,false,ht⟩)=true then some ((uDr false).v ⟨t,false,ht⟩) else none:=Rg.whole_e ht
 have hd:((uDr false).n ⟨t,false,ht⟩).no=false→((uDr false).n ⟨t,false,ht⟩).s=[]→SmD ((uDr false).v ⟨t,false,ht⟩):=fun h1 h2=>by
  obtain⟨g1,g2⟩:=Rg.good (cDr (D:=false)) ht h1 h2;exact hsm _ g2 g1.symm
 rw[e0];clear e0;have eR0:K' Pg 517 [.str t]=K' Pg 517 [.str (Rb.s ⟨t,false,ht⟩)]:=rfl;have hx0:eR ⟨t,false,ht⟩=[.str t,.bool false]:=rfl;generalize hx:(⟨t,false,ht⟩:Rb)=x at *
 simp only[uDr,Rg.map_v,Rg.map_n,Rg.pair_v,Rg.pair_n] at hd ⊢;have hv1:=Rg.lst_v (D:=false) (R:=uPl false) (x:=x);simp only[hv1.1,hv1.2] at hd ⊢;have hm1:(uL false).v x≤2 ^ 29:=YbY;have k1:=YdD h531 x;generalize (uL false).v x=m1 at *
 generalize (uL false).n x=y1 at *
 generalize hp1:((uPl false).rep false m1).v y1=p1 at *
 generalize hq1:((uPl false).rep false m1).n y1=z1 at *
 have hv2:=Rg.lst_v (D:=false) (R:=uIn false) (x:=z1);simp only[hv2.1,hv2.2] at hd ⊢;have hm2:(uL false).v z1≤2 ^ 29:=YbY;have k2:=YdD h531 z1;generalize (uL false).v z1=m2 at *
 generalize (uL false).n z1=y2 at *
 generalize hp2:((uIn false).rep false m2).v y2=p2 at *
 generalize hq2:((uIn false).rep false m2).n y2=z2 at *
 have kn:=Yaj h530 z2;generalize (uI false).v z2=vn at *
 generalize (uI false).n z2=zn at *
 have hv3:=Rg.lst_v (D:=false) (R:=uLe false) (x:=zn);simp only[hv3.1,hv3.2] at hd ⊢;have hm3:(uL false).v zn≤2 ^ 29:=YbY;have k3:=YdD h531 zn;generalize (uL false).v zn=m3 at *
 generalize (uL false).n zn=y3 at *
 generalize hp3:((uLe false).rep false m3).v y3=p3 at *
 generalize hq3:((uLe false).rep false m3).n y3=z3 at *
 have hv4:=Rg.lst_v (D:=false) (R:=uS false) (x:=z3);simp only[hv4.1,hv4.2] at hd ⊢;have hm4:(uL false).v z3≤2 ^ 29:=YbY;have k4:=YdD h531 z3;generalize (uL false).v z3=m4 at *
 generalize (uL false).n z3=y4 at *
 generalize hp4:((uS false).rep false m4).v y4=p4 at *
 generalize hq4:((uS false).rep false m4).n y4=z4 at *
 have ks:=R542 h542 z4;generalize (uS false).v z4=vs at *
 generalize (uS false).n z4=zs at *
 have kj:=R543 h543 zs;generalize (uJb false).v zs=vj at *
 generalize (uJb false).n zs=zj at *
 have hv5:=Rg.lst_v (D:=false) (R:=uOr false) (x:=zj);simp only[hv5.1,hv5.2] at hd ⊢;have hm5:(uL false).v zj≤2 ^ 29:=YbY;have k5:=YdD h531 zj;generalize (uL false).v zj=m5 at *
 generalize (uL false).n zj=y5 at *
 generalize hp5:((uOr false).rep false m5).v y5=p5 at *
 generalize hq5:((uOr false).rep false m5).n y5=z5 at *
 rw[eR0];have hxs:x.s=t:=by rw[←hx]
 simp only[go_sem,eSt] at ks kj;rw[hxs];refine Qa h rfl ?_;rw[hx0] at k1;simp only[F517,c517,go_sem,JiK,k1];refine Yje h530 h539 (y:=y1) (m:=m1) (n:=0) (mk:=⟨0,0,0⟩) (j:=zJb) (is:=[]) (ls:=[]) (ss:=[]) (os:=[]) hm1 ⟨by simp only[go_sem],by simp only[go_sem],by simp only[go_sem],by simp only[go_sem],by simp only[go_sem]<;>rfl,by simp only[go_sem]<;>rfl,rfl,rfl,rfl,rfl,rfl⟩ (by simp only[go_sem]) (by simp only[go_sem]) (by simp only[go_sem]) fun S1 hS=>?_;rw[hp1,hq1] at hS;obtain⟨t2,t4,t5,u9,u2,u5,b33,b50,b70,b82,b109⟩:=hS;have w5:=u5;simp only[drP,go_sem] at w5;simp only[go_sem,JiK,t4,u9,k2];refine YiR h530 h540 h541 (y:=y2) (m:=m2) (n:=0) (mk:=⟨0,0,0⟩) (j:=zJb) (ps:=p1) (ls:=[]) (ss:=[]) (os:=[]) hm2 ⟨by simp only[go_sem,t2],by simp only[go_sem,t4],by simp only[go_sem,t5],by simp only[go_sem],by simp only[go_sem,u2],by simp only[go_sem,w5]<;>rfl,by simp only[go_sem,b33],by simp only[go_sem,b50],by simp only[go_sem,b70],by simp only[go_sem,b82],by simp only[go_sem,b109]⟩ (by simp only[go_sem]) (by simp only[go_sem]) fun S2 hS=>?_;rw[hp2,hq2] at hS;obtain⟨t2,t4,t5,u9,u2,u5,b33,b50,b70,b82,b109⟩:=hS;have w5:=u5;simp only[drP,go_sem] at w5;simp only[go_sem,JiK,t4,t5,u9,w5,kn,k3];refine Yi0 h530 h542 (y:=y3) (m:=m3) (n:=vn) (mk:=⟨0,0,0⟩) (j:=zJb) (ps:=p1) (is:=p2) (ss:=[]) (os:=[]) hm3 ⟨by simp only[go_sem,t2],by simp only[go_sem,t4],by simp only[go_sem,t5],by simp only[go_sem],by simp only[go_sem,u2],by simp only[go_sem,w5]<;>rfl,by simp only[go_sem,b33],by simp only[go_sem,b50],by simp only[go_sem,b70],by simp only[go_sem,b82],by simp only[go_sem,b109]⟩ (by simp only[go_sem]) (by simp only[go_sem]) fun S3 hS=>?_;rw[hp3,hq3] at hS;obtain⟨t2,t4,t5,u9,u2,u5,b33,b50,b70,b82,b109⟩:=hS;have w5:=u5;simp only[drP,go_sem] at w5;simp only[go_sem,JiK,t4,u9,k4];refine Yjp h542 (y:=y4) (m:=m4) (n:=vn) (mk:=⟨0,0,0⟩) (j:=zJb) (ps:=p1) (is:=p2) (ls:=p3) (os:=[]) hm4 ⟨by simp only[go_sem,t2],by simp only[go_sem,t4],by simp only[go_sem,t5],by simp only[go_sem],by simp only[go_sem,u2],by simp only[go_sem,w5]<;>rfl,by simp only[go_sem,b33],by simp only[go_sem,b50],by simp only[go_sem,b70],by simp only[go_sem,b82],by simp only[go_sem,b109]⟩ (by simp only[go_sem]) (by simp only[go_sem]) fun S4 hS=>?_;rw[hp4,hq4] at hS;obtain⟨t2,t4,t5,u9,u2,u5,b33,b50,b70,b82,b109⟩:=hS;have w5:=u5;simp only[drP,go_sem] at w5;simp only[go_sem,JiK,t4,t5,u9,w5,ks,kj,k5];refine Yi8 h530 h542 (y:=y5) (m:=m5) (n:=vn) (mk:=vs) (j:=vj) (ps:=p1) (is:=p2) (ls:=p3) (ss:=p4) hm5 ⟨by simp only[go_sem,t2],by simp only[go_sem,t4],by simp only[go_sem,t5],by simp only[go_sem],by simp only[go_sem,u2],by simp only[go_sem,w5]<;>rfl,by simp only[go_sem,b33],by simp only[go_sem,b50],by simp only[go_sem,b70],by simp only[go_sem,b82],by simp only[go_sem,b109]⟩ (by simp only[go_sem]) (by simp only[go_sem]) fun S5 hS=>?_;rw[hp5,hq5] at hS;obtain⟨t2,t4,t5,u9,u2,u5,b33,b50,b70,b82,b109⟩:=hS;have w5:=u5;simp only[drP,go_sem] at w5;have c33:=Yq b33 (by simp);have c50:=Yq b50 (by simp);have c70:=Yq b70 (by simp);have c82:=Yq b82 (by simp);have c109:=Yq b109 (by simp);obtain⟨zs,zb,zh⟩:=z5;simp only[eR] at u9;simp only[Yd2] at u2;cases zb with
 |true=>
  rw[Gv (by simp)];simp only[go_sem,t2,t4,u9,u2,Ydf]
 |false=>
  cases c2:decide (zs=[]) with
  |false=>
   rw[Gv (by simp[Gb c2])];simp only[go_sem,t2,t4,u9,u2,c2,Ydf]
  |true=>
   have hu:=Gg c2;have k328:=K328 h328 _ (hd rfl hu);cases c3:Yar (Yc0 (p1,p2,vn,p3,p4,vs,vj,p5)) with
   |false=>
    rw[c3] at k328;rw[Gv (by simp)];simp only[go_sem,Yc0] at k328;simp only[go_sem,t2,t4,t5,u9,u2,w5,c2,c33,c50,c70,c82,c109,k328,Ydf]
   |true=>
    rw[c3] at k328;rw[GB ⟨⟨rfl,hu⟩,rfl⟩];simp only[go_sem,Yc0] at k328;simp only[go_sem,t2,t4,t5,u9,u2,w5,c2,c33,c50,c70,c82,c109,k328,Ydf,Yc0]
theorem Ycs {n:Nat} (h:n<128):(putB n).length≤1:=(YbE 0 n).2 (by simpa using h)
theorem Yiq {n:Nat} (h:n<2 ^ 21):(putB n).length≤3:=(YbE 2 n).2 (by simpa using h)
theorem Yip {n:Nat} (h:n<2 ^ 14):(putB n).length≤2:=(YbE 1 n).2 (by simpa using h)
theorem Ybt {n:Nat} (h:n<2 ^ 42):(putB n).length≤6:=(YbE 5 n).2 (by simpa using h)
theorem YaC {α:Type} {W:α→List UInt8} {k:Nat}:∀{l:List α},(∀a∈l,(W a).length≤k)→(l.flatMap W).length≤k*l.length
 |[],_=>by simp
 |a::l,h=>by
  have h1:=h a (Gac ..);have h2:=YaC (l:=l) fun b hb=>h b (Gad _ hb);simp only[Gaa,Gc,List.length_cons,Nat.mul_succ];omega
theorem Ybu {s:Stamp} (h:Ya s=true):(stB s).length≤11:=by
 simp only[Ya,Ycf,Gk,Gq] at h;have h1:=Ybt (n:=s.wall.toNat) (by omega);have h2:=Yiq (n:=s.tick.toNat) (by omega);have h3:=Yip (n:=s.node.toNat) (by omega);simp only[stB,Gc];omega
theorem Yce {t:List UInt8} (h:t.length≤16):(Yh t).length≤17:=by
 have:=Ycs (n:=t.length) (by omega);simp only[Yh,Gc];omega
theorem Ydh {x:Bool}:(YL x).length=1:=by simp[YL]
theorem Yhl {v:Ver} (h:Yt v=true):(YaW v).length≤29:=by
 simp only[Yt,Gk,Gq] at h;have h1:=Ybu h.1.1;have h2:=Yce h.1.2;have h3:=Ydh (x:=v.gone);simp only[YaW,Gc];omega
theorem YgY {e:Entr} (h:Ybj e=true):(YaB e).length≤1874:=by
 simp only[Ybj,Yg,Gk,Gq] at h;obtain⟨h1,h2,h3,h4⟩:=h;have k1:=Yce (YD h1).1;have k2:=Ycs (n:=e.chain.length) (by omega);have k3:=YaC (W:=YaW) (l:=e.chain) (k:=29) fun v hv=>Yhl (Ycv h3 v hv);simp only[YaB,YH,Gc];omega
theorem Ye3 {d:Done} (h:rowR d=true):(0≤d.client∧d.client≤1099511627776)∧(0≤d.req∧d.req≤1099511627776)∧(0≤d.ans.err∧d.ans.err<128)∧Ya d.ans.at_=true∧d.ans.val.length≤16:=by
 simp only[rowR,YK,Ybk,Gk,Gq,GE] at h;obtain⟨⟨h1,h2⟩,⟨h3,h4⟩,c1,c2,c3,c4,c5,c6,c7⟩:=h;exact⟨⟨by omega,by omega⟩,⟨by omega,by omega⟩,⟨by omega,by omega⟩,c3,c4⟩
theorem Yfk {d:Done} (h:rowR d=true):(Y0 d).length≤42:=by
 obtain⟨h1,h2,h3,h4,h5⟩:=Ye3 h;have k1:=Ybt (n:=d.client.toNat) (by omega);have k2:=Ybt (n:=d.req.toNat) (by omega);have k3:=Ycs (n:=d.ans.err.toNat) (by omega);have k4:=Ybu h4;have k5:=Yce h5;have k6:=Ydh (x:=d.ans.found);simp only[Y0,Gc];omega
theorem Ydl {n:Int} (h:nou n=true):0≤n∧n≤1099511627776:=by simpa [nou] using h
theorem Yen {s:Shd} (hr:shR s=true):ShdW s∧(shB s).length≤121000:=by
 simp only[shR,shR0,YK,Ys,ixR,YF,Gk,G8,Gq,Gz] at hr;obtain⟨⟨⟨a1,a2⟩,⟨b1,b2⟩,c1,d1,e1,f1,g1,g2,⟨i1,i2⟩,⟨j1,j2⟩,k1,k2,l1,l2⟩,-⟩:=hr;have c1:=Ydl c1;have d1:=Ydl d1;have e1:=Ydl e1;have f1:=Ydl f1;have lo:s.span.lo.length≤16:=by
  rcases i1 with i1|i1
  ·rw[i1];simp
  ·exact (YD i1).1
 have hi:s.span.hi.length≤16:=by
  rcases i2 with i2|i2
  ·rw[i2];simp
  ·exact (YD i2.1).1
 have q1:=Ybt (n:=s.id.toNat) (by omega);have q2:=Ybt (n:=s.epoch.toNat) (by omega);have q3:=Ycs (n:=s.phase.toNat) (by omega);have q4:=Ybt (n:=s.hold.toNat) (by omega);have q5:=Ybt (n:=s.seen.toNat) (by omega);have q6:=Ybt (n:=s.move.toNat) (by omega);have q7:=Ybt (n:=s.closed.toNat) (by omega);have q8:=Yce lo;have q9:=Yce hi;have q10:=Ybu k1;have q11:=Ybu k2;have q12:=Ycs (n:=s.ents.length) (by omega);have q13:=Ycs (n:=s.done.length) (by omega);have q14:=YaC (W:=YaB) (l:=s.ents) (k:=1874) fun e he=>YgY (Ych j2 e he);have q15:=YaC (W:=Y0) (l:=s.done) (k:=42) fun d hd=>Yfk (YbF l1 d hd);refine⟨⟨?_,by omega,by omega,k1,k2,fun e he=>?_,by omega,fun d hd=>?_,by omega⟩,?_⟩
 ·intro n hn;simp only[GK,List.not_mem_nil,or_false] at hn;rcases hn with rfl|rfl|rfl|rfl|rfl|rfl|rfl<;>omega
 ·have h0:=Ych j2 e he;have h1:=h0;simp only[Ybj,Yg,Gk,Gq] at h1;refine⟨Yfl h0,by have:=(YD h1.1).1;omega,fun v hv=>?_,by omega⟩;have:=Ycv h1.2.2.1 v hv;simp only[Yt,Gk,Gq] at this;omega
 ·obtain⟨h1,h2,h3,h4,h5⟩:=Ye3 (YbF l1 d hd);exact⟨by omega,by omega,by omega,h4,by omega⟩
 ·simp only[shB,YH,Gc];omega
theorem YeK {top:Stamp}:∀{l:List Shd} {p:Int},cgo top p l=true→∀s∈l,shR s=true
 |[],_,_,s,hs=>by cases hs
 |x::l,p,h,s,hs=>by
  simp only[cgo,Gk] at h;rcases GK.1 hs with rfl|hs
  ·exact h.2.1
  ·exact YeK h.2.2.2 s hs
theorem YeJ {c:Cel} (h:Yam c=true):c.shards.length≤8∧Ya c.top=true∧(0≤c.dropped∧c.dropped≤1099511627776)∧∀s∈c.shards,shR s=true:=by
 simp only[Yam,Gk,Gq] at h;exact⟨h.1,h.2.1,Ydl h.2.2.1,YeK h.2.2.2⟩
theorem YdH {c:Cel} (h:Yam c=true):(cB c).length≤968030:=by
 obtain⟨h1,h2,h3,h4⟩:=YeJ h;have k1:=Ybu h2;have k2:=Ybt (n:=c.dropped.toNat) (by omega);have k3:=Ycs (n:=c.shards.length) (by omega);have k4:=YaC (W:=shB) (l:=c.shards) (k:=121000) fun s hs=>(Yen (h4 s hs)).2;simp only[cB,YH,Gc];omega
theorem K487i (h:H487 Pg) (n:Int) (h0:0≤n) (h1:n<2 ^ 63):K' Pg 487 [iz n]=some (.tuple [.str (putB n.toNat),iz 0]):=by
 have:=K487 h n.toNat (by omega);rw[show ((n.toNat:Nat):Int)=n by omega] at this;exact this
def H460 (Pg:PgT):Prop:=Pg 460=some (.code F460)∧H487 Pg
theorem K460g {f:Nat} (h:Pg f=some (.code F460)) (h487:H487 Pg) (n:Int) (h0:0≤n) (h1:n<2 ^ 63):K' Pg f [iz n]=some (.str (putB n.toNat)):=by
 have k:=K487i h487 n h0 h1;refine Qa h rfl ?_;simp only[F460,c460,go_sem,k]
theorem K460 (h:H460 Pg) (n:Int) (h0:0≤n) (h1:n<2 ^ 63):K' Pg 460 [iz n]=some (.str (putB n.toNat)):=K460g h.1 h.2 n h0 h1
def H503 (Pg:PgT):Prop:=Pg 503=some (.code F503)∧H487 Pg
theorem K503 (h:H503 Pg) (t:List UInt8) (ht:t.length<2 ^ 61):K' Pg 503 [.str t]=some (.str (Yh t)):=by
 obtain⟨h,h487⟩:=h;have k:=K487 h487 t.length (by omega);have hl:(putB t.length).length+t.length≤4611686018427387904:=by have:=YN.2 (show t.length<2 ^ 63 by omega);omega
 refine Qa h rfl ?_;simp only[F503,c503,go_sem,k,hl,Yh]
def H488 (Pg:PgT):Prop:=Pg 488=some (.code F488)∧H503 Pg
theorem K488g {f:Nat} (h:Pg f=some (.code F488)) (h503:H503 Pg) (t:List UInt8) (ht:t.length<2 ^ 61):K' Pg f [.str t]=some (.str (Yh t)):=by
 have k:=K503 h503 t ht;refine Qa h rfl ?_;simp only[F488,c488,go_sem,k]
theorem K488 (h:H488 Pg) (t:List UInt8) (ht:t.length<2 ^ 61):K' Pg 488 [.str t]=some (.str (Yh t)):=K488g h.1 h.2 t ht
def H504 (Pg:PgT):Prop:=Pg 504=some (.code F504)
theorem K504 (h:H504 Pg) (b:Bool):K' Pg 504 [.bool b]=some (.str (YL b)):=by
 refine Qa h rfl ?_;cases b<;>simp only[F504,c504,go_sem,YL]<;>rfl
def H489 (Pg:PgT):Prop:=Pg 489=some (.code F489)∧H504 Pg
theorem K489 (h:H489 Pg) (b:Bool):K' Pg 489 [.bool b]=some (.str (YL b)):=by
 obtain⟨h,h504⟩:=h;have k:=K504 h504 b;refine Qa h rfl ?_;simp only[F489,c489,go_sem,k]
def H459 (Pg:PgT):Prop:=Pg 459=some (.code F459)∧H486 Pg
theorem K459g {f:Nat} (h:Pg f=some (.code F459)) (h486:H486 Pg) (s:Stamp) (hs:Ya s=true):K' Pg f [.agg (Yd s)]=some (.str (stB s)):=by
 have k:=K486 h486 s hs;simp only[go_sem] at k;refine Qa h rfl ?_;simp only[F459,c459,go_sem,k]
theorem K459 (h:H459 Pg) (s:Stamp) (hs:Ya s=true):K' Pg 459 [.agg (Yd s)]=some (.str (stB s)):=K459g h.1 h.2 s hs
def H533 (Pg:PgT):Prop:=Pg 533=some (.code F460)∧H487 Pg
def H535 (Pg:PgT):Prop:=Pg 535=some (.code F488)∧H503 Pg
def H544 (Pg:PgT):Prop:=Pg 544=some (.code F459)∧H486 Pg
theorem K533 (h:H533 Pg) (n:Int) (hn:NV n):K' Pg 533 [iz n]=some (.str (nB n)):=K460g h.1 h.2 n (Ya3 hn).1 (Ya3 hn).2
theorem K533n (h:H533 Pg) (n:Nat) (hn:n<2 ^ 63):K' Pg 533 [iz n]=some (.str (putB n)):=K533 h n ⟨by omega,by omega⟩
theorem K535 (h:H535 Pg) (t:List UInt8) (ht:t.length≤2 ^ 30):K' Pg 535 [.str t]=some (.str (Yh t)):=K488g h.1 h.2 t (by omega)
theorem K544 (h:H544 Pg) (s:Stamp) (hs:Ya s=true):K' Pg 544 [.agg [iz s.wall,iz s.tick,iz s.node]]=some (.str (stB s)):=K459g h.1 h.2 s hs
theorem Y1 {α:Type} {W:α→List UInt8} {l:List α} {i:Nat} {x:α} (h:l[i]?=some x):(l.take (i+1)).flatMap W=(l.take i).flatMap W++W x:=by
 rw[Gap,h];simp
def H534 (Pg:PgT):Prop:=Pg 534=some (.code F534)∧H533 Pg
theorem K534 (h:H534 Pg) (l:List Int) (hl:∀n∈l,NV n) (hb:l.length≤2 ^ 40):K' Pg 534 [.slice 1 (l.map fun a=>[iz a])]=some (.str (YH nB l)):=by
 obtain⟨h,h533⟩:=h;have k:=K533n h533 l.length (by omega);have hlen:∀i,(putB l.length++(l.take i).flatMap nB).length≤2 ^ 50:=fun i=>by
  have h1:=YN.2 (show l.length<2 ^ 63 by omega);have h2:=YaC (W:=nB) (l:=l.take i) (k:=9) fun n hn=>YN.2 (hl n (List.mem_of_mem_take hn)).1;simp only[Gc,GR] at h2 ⊢;omega
 refine Qa h rfl ?_;simp only[F534,c534,go_sem,k,Gf];unfold l534_0;refine JiY (fun (i:Nat) S=>i≤l.length∧S.ρ 0=.slice 1 (l.map fun a=>[iz a])∧S.ρ 3=.str (putB l.length++(l.take i).flatMap nB)∧S.ρ 4=iz i) (fun i=>l.length-i) 0 ?_ ?_
 ·simp[go_sem,JD]
 ·intro i S ⟨hi,s0,s3,s4⟩;cases c1:decide ((i:Int)<(l.length:Int)) with
  |false=>
   have hil:i=l.length:=by have:=Gb c1;omega
   rw[hil,Gy] at s3;simp only[go_sem,s0,s3,s4,c1,Gf,YH]
  |true=>
   have hlt:=Ye c1;obtain⟨e,hx,-⟩:=JiF hlt;have hinc:=inc64q (i:=i) (by omega)
   have q:=K533 h533 e (hl e (List.mem_of_getElem? hx));have hb1:=hlen (i+1);have hf:putB l.length++(l.take (i+1)).flatMap nB=putB l.length++(l.take i).flatMap nB++nB e:=by rw[Y1 hx,Gr]
   rw[hf,Gc] at hb1;have hc:(putB l.length).length+((l.take i).flatMap nB).length+(nB e).length≤4611686018427387904:=by simp only[Gc] at hb1;omega
   simp only[go_sem,s0,s3,s4,c1,hx,q,hinc,hc,JhU,Gf];refine⟨i+1,by omega,by omega,?_⟩
   and_intros
   all_goals first|rfl|rw[hf]
set_option maxHeartbeats 1000000
theorem Yh9 (h533:H533 Pg) (h535:H535 Pg) {d:Drc} {g:List UInt8} (he:∀e∈d.places,PlS e) (hb:g.length+(d.places.flatMap plB).length≤2 ^ 50) {S:St} {Q:Ex→St→Prop}
  (s1:S.ρ 1=.lref 1 0) (m1:S.μ 1=some (YT d,false)) (s3:S.ρ 3=.str g) (n9:S.μ 9=none) (n12:S.μ 12=none) (n5:S.μ 5=none) (si:S.ρ 4=iz 0)
  (hq:∀S',S'.ρ 1=.lref 1 0→S'.μ 1=some (YT d,false)→S'.ρ 3=.str (g++d.places.flatMap plB)→S'.μ 9=none→S'.μ 12=none→Q .norm S'):Wp (K' Pg) l518_0 S (Blk 0 Q):=by
 have hll:d.places.length≤(d.places.flatMap plB).length:=YP (P:=fun _=>True) (fun e _=>by first|exact YQ|exact st_pos|(simp only[plB,nB,Gc];have:=fun n=>putB_pos n;first|(have:=this e.view.toNat;omega)|(have:=this e.id.toNat;omega)|(have:=this e.client.toNat;omega)|(have:=this e.shard.toNat;omega))) (fun _ _=>Gs)
 unfold l518_0
 refine JiY (fun (i:Nat) S=>i≤d.places.length∧S.ρ 1=.lref 1 0∧S.μ 1=some (YT d,false)∧S.ρ 3=.str (g++(d.places.take i).flatMap plB)∧S.μ 9=none∧S.μ 12=none∧S.μ 5=none∧S.ρ 4=iz i) (fun i=>d.places.length-i) 0 ?_ ?_
 ·exact⟨Gu _,JiJ s1 rfl,Yy m1 rfl,JiJ (by rw[s3];simp) rfl,JiH (.inl n9),JiH (.inl n12),JiH (.inr rfl),JiJ si rfl⟩
 ·intro i S ⟨hi,s1,m1,s3,n9,n12,n5,si⟩
  have v1:=m1
  simp only[go_sem] at v1
  cases c1:decide ((i:Int)<(d.places.length:Int)) with
  |false=>
   have hil:i=d.places.length:=by have:=Gb c1;omega
   rw[hil,Gy] at s3
   simp only[go_sem,s1,v1,si,c1,Gf]
   exact hq _ (by simp only[go_sem,s1]) m1 (by simp only[go_sem,s3]) n9 n12
  |true=>
   have hlt:=Ye c1
   obtain⟨e,hx,-⟩:=JiF hlt
   have hinc:=inc64q (i:=i) (by omega)
   have hv:=he e (List.mem_of_getElem? hx)
   have q1:=K535 h535 e.span.lo hv.2.1
   have q2:=K535 h535 e.span.hi hv.2.2
   have q3:=K533 h533 e.shard hv.1.1.2.2.1
   have q4:=K533 h533 e.cell hv.1.1.2.2.2.1
   have q5:=K533 h533 e.epoch hv.1.1.2.2.2.2
   have hbl:=YW (W:=plB) (l:=d.places) (i:=i+1)
   rw[Y1 hx,Gc] at hbl
   have hf:g++(d.places.take (i+1)).flatMap plB=g++(d.places.take i).flatMap plB++plB e:=by rw[Y1 hx,Gr]
   have hgl:(g++(d.places.take i).flatMap plB).length=g.length+((d.places.take i).flatMap plB).length:=Gc
   generalize g++(d.places.take i).flatMap plB=g1 at *
   simp only[plB,Gc] at hbl
   simp only[plB] at hf
   simp only[go_sem,s1,v1,s3,si,c1,hx,q1,q2,q3,q4,q5,hinc,n5,Gf]
   repeat (rw[GB (by omega)];simp only[go_sem,q1,q2,q3,q4,q5,hinc,hx,si,s1,v1,s3,Gf])
   try simp only[JhU]
   refine⟨i+1,by omega,by omega,?_⟩
   and_intros
   all_goals first|rfl|(rw[hf];simp only[Gr];done)|(rw[hf];done)|exact hf▸rfl|(simp only[n9,n12,Option.map_none];done)
theorem Yh1 (h533:H533 Pg) (h534:H534 Pg) (h504:H504 Pg) {d:Drc} {g:List UInt8} (he:∀e∈d.cells,InS e) (hb:g.length+(d.cells.flatMap inB).length≤2 ^ 50) {S:St} {Q:Ex→St→Prop}
  (s1:S.ρ 1=.lref 1 0) (m1:S.μ 1=some (YT d,false)) (s3:S.ρ 3=.str g) (n9:S.μ 9=none) (n12:S.μ 12=none) (si:S.ρ 6=iz 0)
  (hq:∀S',S'.ρ 1=.lref 1 0→S'.μ 1=some (YT d,false)→S'.ρ 3=.str (g++d.cells.flatMap inB)→S'.μ 9=none→S'.μ 12=none→Q .norm S'):Wp (K' Pg) l518_1 S (Blk 2 Q):=by
 have hll:d.cells.length≤(d.cells.flatMap inB).length:=YP (P:=fun _=>True) (fun e _=>by first|exact YQ|exact st_pos|(simp only[inB,nB,Gc];have:=fun n=>putB_pos n;first|(have:=this e.view.toNat;omega)|(have:=this e.id.toNat;omega)|(have:=this e.client.toNat;omega)|(have:=this e.shard.toNat;omega))) (fun _ _=>Gs)
 unfold l518_1
 refine JiY (fun (i:Nat) S=>i≤d.cells.length∧S.ρ 1=.lref 1 0∧S.μ 1=some (YT d,false)∧S.ρ 3=.str (g++(d.cells.take i).flatMap inB)∧S.μ 9=none∧S.μ 12=none∧S.ρ 6=iz i) (fun i=>d.cells.length-i) 0 ?_ ?_
 ·simp only[JhU]
  exact⟨Gu _,s1,m1,by rw[s3];simp,n9,n12,si⟩
 ·intro i S ⟨hi,s1,m1,s3,n9,n12,si⟩
  have v1:=m1
  simp only[go_sem] at v1
  cases c1:decide ((i:Int)<(d.cells.length:Int)) with
  |false=>
   have hil:i=d.cells.length:=by have:=Gb c1;omega
   rw[hil,Gy] at s3
   simp only[go_sem,s1,v1,si,c1,Gf]
   exact hq _ (by simp only[go_sem,s1]) m1 (by simp only[go_sem,s3]) n9 n12
  |true=>
   have hlt:=Ye c1
   obtain⟨e,hx,-⟩:=JiF hlt
   have hinc:=inc64q (i:=i) (by omega)
   have hv:=he e (List.mem_of_getElem? hx)
   have q1:=K533 h533 e.view hv.1.1.1
   have q2:=K534 h534 e.mem hv.1.1.2.1.2 (by have:=hv.2;omega)
   have q3:=K504 h504 e.whole
   have hbl:=YW (W:=inB) (l:=d.cells) (i:=i+1)
   rw[Y1 hx,Gc] at hbl
   have hf:g++(d.cells.take (i+1)).flatMap inB=g++(d.cells.take i).flatMap inB++inB e:=by rw[Y1 hx,Gr]
   have hgl:(g++(d.cells.take i).flatMap inB).length=g.length+((d.cells.take i).flatMap inB).length:=Gc
   generalize g++(d.cells.take i).flatMap inB=g1 at *
   simp only[inB,Gc] at hbl
   simp only[inB] at hf
   simp only[go_sem,s1,v1,s3,si,c1,hx,q1,q2,q3,hinc,Gf]
   repeat (rw[GB (by omega)];simp only[go_sem,q1,q2,q3,hinc,hx,si,s1,v1,s3,Gf])
   try simp only[JhU]
   refine⟨i+1,by omega,by omega,?_⟩
   and_intros
   all_goals first|rfl|(rw[hf];simp only[Gr];done)|(rw[hf];done)|exact hf▸rfl|(simp only[n9,n12,Option.map_none];done)
theorem Yh3 (h533:H533 Pg) (h544:H544 Pg) {d:Drc} {g:List UInt8} (he:∀e∈d.leases,LeV e) (hb:g.length+(d.leases.flatMap leB).length≤2 ^ 50) {S:St} {Q:Ex→St→Prop}
  (s1:S.ρ 1=.lref 1 0) (m1:S.μ 1=some (YT d,false)) (s3:S.ρ 3=.str g) (n9:S.μ 9=none) (n12:S.μ 12=none) (si:S.ρ 7=iz 0)
  (hq:∀S',S'.ρ 1=.lref 1 0→S'.μ 1=some (YT d,false)→S'.ρ 3=.str (g++d.leases.flatMap leB)→S'.μ 9=none→S'.μ 12=none→Q .norm S'):Wp (K' Pg) l518_2 S (Blk 4 Q):=by
 have hll:d.leases.length≤(d.leases.flatMap leB).length:=YP (P:=fun _=>True) (fun e _=>by first|exact YQ|exact st_pos|(simp only[leB,nB,Gc];have:=fun n=>putB_pos n;first|(have:=this e.view.toNat;omega)|(have:=this e.id.toNat;omega)|(have:=this e.client.toNat;omega)|(have:=this e.shard.toNat;omega))) (fun _ _=>Gs)
 unfold l518_2
 refine JiY (fun (i:Nat) S=>i≤d.leases.length∧S.ρ 1=.lref 1 0∧S.μ 1=some (YT d,false)∧S.ρ 3=.str (g++(d.leases.take i).flatMap leB)∧S.μ 9=none∧S.μ 12=none∧S.ρ 7=iz i) (fun i=>d.leases.length-i) 0 ?_ ?_
 ·simp only[JhU]
  exact⟨Gu _,s1,m1,by rw[s3];simp,n9,n12,si⟩
 ·intro i S ⟨hi,s1,m1,s3,n9,n12,si⟩
  have v1:=m1
  simp only[go_sem] at v1
  cases c1:decide ((i:Int)<(d.leases.length:Int)) with
  |false=>
   have hil:i=d.leases.length:=by have:=Gb c1;omega
   rw[hil,Gy] at s3
   simp only[go_sem,s1,v1,si,c1,Gf]
   exact hq _ (by simp only[go_sem,s1]) m1 (by simp only[go_sem,s3]) n9 n12
  |true=>
   have hlt:=Ye c1
   obtain⟨e,hx,-⟩:=JiF hlt
   have hinc:=inc64q (i:=i) (by omega)
   have hv:=he e (List.mem_of_getElem? hx)
   have q1:=K533 h533 e.id hv.1.1
   have q2:=K533 h533 e.lft hv.1.2.1
   have q3:=K544 h544 e.at_ hv.1.2.2
   have hbl:=YW (W:=leB) (l:=d.leases) (i:=i+1)
   rw[Y1 hx,Gc] at hbl
   have hf:g++(d.leases.take (i+1)).flatMap leB=g++(d.leases.take i).flatMap leB++leB e:=by rw[Y1 hx,Gr]
   have hgl:(g++(d.leases.take i).flatMap leB).length=g.length+((d.leases.take i).flatMap leB).length:=Gc
   generalize g++(d.leases.take i).flatMap leB=g1 at *
   simp only[leB,Gc] at hbl
   simp only[leB] at hf
   simp only[go_sem,s1,v1,s3,si,c1,hx,q1,q2,q3,hinc,Gf]
   repeat (rw[GB (by omega)];simp only[go_sem,q1,q2,q3,hinc,hx,si,s1,v1,s3,Gf])
   try simp only[JhU]
   refine⟨i+1,by omega,by omega,?_⟩
   and_intros
   all_goals first|rfl|(rw[hf];simp only[Gr];done)|(rw[hf];done)|exact hf▸rfl|(simp only[n9,n12,Option.map_none];done)
theorem Yh4 (h544:H544 Pg) {d:Drc} {g:List UInt8} (he:∀e∈d.lows,(fun s=>Ya s=true) e) (hb:g.length+(d.lows.flatMap stB).length≤2 ^ 50) {S:St} {Q:Ex→St→Prop}
  (s1:S.ρ 1=.lref 1 0) (m1:S.μ 1=some (YT d,false)) (s3:S.ρ 3=.str g) (n9:S.μ 9=none) (n12:S.μ 12=none) (si:S.ρ 8=iz 0)
  (hq:∀S',S'.ρ 1=.lref 1 0→S'.μ 1=some (YT d,false)→S'.ρ 3=.str (g++d.lows.flatMap stB)→S'.μ 9=none→S'.μ 12=none→Q .norm S'):Wp (K' Pg) l518_3 S (Blk 6 Q):=by
 have hll:d.lows.length≤(d.lows.flatMap stB).length:=YP (P:=fun _=>True) (fun e _=>by first|exact YQ|exact st_pos|(simp only[nB,nB,List.length_append];have:=fun n=>putB_pos n;first|(have:=this e.view.toNat;omega)|(have:=this e.id.toNat;omega)|(have:=this e.client.toNat;omega)|(have:=this e.shard.toNat;omega))) (fun _ _=>Gs)
 unfold l518_3
 refine JiY (fun (i:Nat) S=>i≤d.lows.length∧S.ρ 1=.lref 1 0∧S.μ 1=some (YT d,false)∧S.ρ 3=.str (g++(d.lows.take i).flatMap stB)∧S.μ 9=none∧S.μ 12=none∧S.ρ 8=iz i) (fun i=>d.lows.length-i) 0 ?_ ?_
 ·simp only[JhU]
  exact⟨Gu _,s1,m1,by rw[s3];simp,n9,n12,si⟩
 ·intro i S ⟨hi,s1,m1,s3,n9,n12,si⟩
  have v1:=m1
  simp only[go_sem] at v1
  cases c1:decide ((i:Int)<(d.lows.length:Int)) with
  |false=>
   have hil:i=d.lows.length:=by have:=Gb c1;omega
   rw[hil,Gy] at s3
   simp only[go_sem,s1,v1,si,c1,Gf]
   exact hq _ (by simp only[go_sem,s1]) m1 (by simp only[go_sem,s3]) n9 n12
  |true=>
   have hlt:=Ye c1
   obtain⟨e,hx,-⟩:=JiF hlt
   have hinc:=inc64q (i:=i) (by omega)
   have hv:=he e (List.mem_of_getElem? hx)
   have q1:=K544 h544 e hv
   have hbl:=YW (W:=stB) (l:=d.lows) (i:=i+1)
   rw[Y1 hx,Gc] at hbl
   have hf:g++(d.lows.take (i+1)).flatMap stB=g++(d.lows.take i).flatMap stB++stB e:=by rw[Y1 hx,Gr]
   have hgl:(g++(d.lows.take i).flatMap stB).length=g.length+((d.lows.take i).flatMap stB).length:=Gc
   generalize g++(d.lows.take i).flatMap stB=g1 at *
   simp only[go_sem,s1,v1,s3,si,c1,hx,q1,hinc,Gf]
   repeat (rw[GB (by omega)];simp only[go_sem,q1,hinc,hx,si,s1,v1,s3,Gf])
   try simp only[JhU]
   refine⟨i+1,by omega,by omega,?_⟩
   and_intros
   all_goals first|rfl|(rw[hf];simp only[List.append_assoc];done)|(rw[hf];done)|exact hf▸rfl|(simp only[n9,n12,Option.map_none];done)
theorem Yib (h535:H535 Pg) {d:Drc} {g:List UInt8} (he:∀e∈d.job.parts,(fun t=>t.length≤2 ^ 30) e) (hb:g.length+(d.job.parts.flatMap Yh).length≤2 ^ 50) {S:St} {Q:Ex→St→Prop}
  (s1:S.ρ 1=.lref 1 0) (m1:S.μ 1=some (YT d,false)) (s3:S.ρ 3=.str g) (s9:S.ρ 9=.lref 9 0) (m9:S.μ 9=some (eJb d.job,false)) (n12:S.μ 12=none) (si:S.ρ 10=iz 0)
  (hq:∀S',S'.ρ 1=.lref 1 0→S'.μ 1=some (YT d,false)→S'.ρ 3=.str (g++d.job.parts.flatMap Yh)→S'.ρ 9=.lref 9 0→S'.μ 9=some (eJb d.job,false)→S'.μ 12=none→Q .norm S'):Wp (K' Pg) l518_4 S (Blk 8 Q):=by
 have hll:d.job.parts.length≤(d.job.parts.flatMap Yh).length:=YP (P:=fun _=>True) (fun e _=>by first|exact YQ|exact st_pos|(simp only[nB,nB,List.length_append];have:=fun n=>putB_pos n;first|(have:=this e.view.toNat;omega)|(have:=this e.id.toNat;omega)|(have:=this e.client.toNat;omega)|(have:=this e.shard.toNat;omega))) (fun _ _=>Gs)
 unfold l518_4
 refine JiY (fun (i:Nat) S=>i≤d.job.parts.length∧S.ρ 1=.lref 1 0∧S.μ 1=some (YT d,false)∧S.ρ 3=.str (g++(d.job.parts.take i).flatMap Yh)∧S.ρ 9=.lref 9 0∧S.μ 9=some (eJb d.job,false)∧S.μ 12=none∧S.ρ 10=iz i) (fun i=>d.job.parts.length-i) 0 ?_ ?_
 ·simp only[JhU]
  exact⟨Gu _,s1,m1,by rw[s3];simp,s9,m9,n12,si⟩
 ·intro i S ⟨hi,s1,m1,s3,s9,m9,n12,si⟩
  have v1:=m1
  simp only[go_sem] at v1
  have v9:=m9
  simp only[go_sem,Ycz] at v9
  cases c1:decide ((i:Int)<(d.job.parts.length:Int)) with
  |false=>
   have hil:i=d.job.parts.length:=by have:=Gb c1;omega
   rw[hil,Gy] at s3
   simp only[go_sem,s1,v1,s9,v9,eS1,si,c1,Gf]
   exact hq _ (by simp only[go_sem,s1]) m1 (by simp only[go_sem,s3]) (by simp only[go_sem,s9]) m9 n12
  |true=>
   have hlt:=Ye c1
   obtain⟨e,hx,-⟩:=JiF hlt
   have hinc:=inc64q (i:=i) (by omega)
   have hv:=he e (List.mem_of_getElem? hx)
   have q1:=K535 h535 e hv
   have hbl:=YW (W:=Yh) (l:=d.job.parts) (i:=i+1)
   rw[Y1 hx,Gc] at hbl
   have hf:g++(d.job.parts.take (i+1)).flatMap Yh=g++(d.job.parts.take i).flatMap Yh++Yh e:=by rw[Y1 hx,Gr]
   have hgl:(g++(d.job.parts.take i).flatMap Yh).length=g.length+((d.job.parts.take i).flatMap Yh).length:=Gc
   generalize g++(d.job.parts.take i).flatMap Yh=g1 at *
   simp only[go_sem,s1,v1,s3,s9,v9,eS1,si,c1,hx,q1,hinc,Gf]
   repeat (rw[GB (by omega)];simp only[go_sem,q1,hinc,hx,si,s1,v1,s3,s9,v9,eS1,Gf])
   try simp only[JhU]
   refine⟨i+1,by omega,by omega,?_⟩
   and_intros
   all_goals first|rfl|(rw[hf];simp only[List.append_assoc];done)|(rw[hf];done)|exact hf▸rfl|(simp only[n12,Option.map_none];done)
theorem Yh6 (h533:H533 Pg) (h544:H544 Pg) {d:Drc} {g:List UInt8} (he:∀e∈d.opened,OrV e) (hb:g.length+(d.opened.flatMap orB).length≤2 ^ 50) {S:St} {Q:Ex→St→Prop}
  (s1:S.ρ 1=.lref 1 0) (m1:S.μ 1=some (YT d,false)) (s3:S.ρ 3=.str g) (n12:S.μ 12=none) (si:S.ρ 11=iz 0)
  (hq:∀S',S'.ρ 1=.lref 1 0→S'.μ 1=some (YT d,false)→S'.ρ 3=.str (g++d.opened.flatMap orB)→ Q .norm S'):Wp (K' Pg) l518_5 S (Blk 10 Q):=by
 have hll:d.opened.length≤(d.opened.flatMap orB).length:=YP (P:=fun _=>True) (fun e _=>by first|exact YQ|exact st_pos|(simp only[orB,nB,Gc];have:=fun n=>putB_pos n;first|(have:=this e.view.toNat;omega)|(have:=this e.id.toNat;omega)|(have:=this e.client.toNat;omega)|(have:=this e.shard.toNat;omega))) (fun _ _=>Gs)
 unfold l518_5
 refine JiY (fun (i:Nat) S=>i≤d.opened.length∧S.ρ 1=.lref 1 0∧S.μ 1=some (YT d,false)∧S.ρ 3=.str (g++(d.opened.take i).flatMap orB)∧S.μ 12=none∧S.ρ 11=iz i) (fun i=>d.opened.length-i) 0 ?_ ?_
 ·exact⟨Gu _,JiJ s1 rfl,Yy m1 rfl,JiJ (by rw[s3];simp) rfl,JiH (.inr rfl),JiJ si rfl⟩
 ·intro i S ⟨hi,s1,m1,s3,n12,si⟩
  have v1:=m1
  simp only[go_sem] at v1
  cases c1:decide ((i:Int)<(d.opened.length:Int)) with
  |false=>
   have hil:i=d.opened.length:=by have:=Gb c1;omega
   rw[hil,Gy] at s3
   simp only[go_sem,s1,v1,si,c1,Gf]
   exact hq _ (by simp only[go_sem,s1]) m1 (by simp only[go_sem,s3])
  |true=>
   have hlt:=Ye c1
   obtain⟨e,hx,-⟩:=JiF hlt
   have hinc:=inc64q (i:=i) (by omega)
   have hv:=he e (List.mem_of_getElem? hx)
   have q1:=K533 h533 e.client hv.1.1
   have q2:=K533 h533 e.req hv.1.2.1
   have q3:=K533 h533 e.lease hv.1.2.2.1
   have q4:=K544 h544 e.at_ hv.1.2.2.2.1
   have q5:=K533 h533 e.err hv.1.2.2.2.2
   have hbl:=YW (W:=orB) (l:=d.opened) (i:=i+1)
   rw[Y1 hx,Gc] at hbl
   have hf:g++(d.opened.take (i+1)).flatMap orB=g++(d.opened.take i).flatMap orB++orB e:=by rw[Y1 hx,Gr]
   have hgl:(g++(d.opened.take i).flatMap orB).length=g.length+((d.opened.take i).flatMap orB).length:=Gc
   generalize g++(d.opened.take i).flatMap orB=g1 at *
   simp only[orB,Gc] at hbl
   simp only[orB] at hf
   simp only[go_sem,s1,v1,s3,si,c1,hx,q1,q2,q3,q4,q5,hinc,n12,Gf]
   repeat (rw[GB (by omega)];simp only[go_sem,q1,q2,q3,q4,q5,hinc,hx,si,s1,v1,s3,Gf])
   try simp only[JhU]
   refine⟨i+1,by omega,by omega,?_⟩
   and_intros
   all_goals first|rfl|(rw[hf];simp only[Gr];done)|(rw[hf];done)|exact hf▸rfl
def H518 (Pg:PgT):Prop:=Pg 518=some (.code F518)∧H533 Pg∧H534 Pg∧H535 Pg∧H544 Pg∧H504 Pg
theorem K518 (h:H518 Pg) (d:Drc) (c1:Yar d=true) (hl:DrL d) (hb:(drB d).length≤2 ^ 40):K' Pg 518 [.agg (YT d)]=some (.str (drB d)):=by
 obtain⟨h,h533,h534,h535,h544,h504⟩:=h;obtain⟨⟨⟨p1,p2⟩,⟨i1,i2⟩,nn,⟨l1,l2⟩,⟨s1,s2⟩,mk,jb,⟨r1,r2⟩⟩,-⟩:=Yd5 c1 hl;have hpl:∀p∈d.places,PlS p:=fun p hp=>⟨p2 p hp,by have:=(hl.pl p hp).1;omega,by have:=(hl.pl p hp).2;omega⟩;have hin:∀p∈d.cells,InS p:=fun p hp=>⟨i2 p hp,hl.cell p hp⟩;obtain⟨⟨v1,v2,v3,v4,v5,v6,v7,v8,v9,v10,v11,v12,v13,v14,v15,v16,v17,v18⟩,-⟩:=jb;have hpt:∀t∈d.job.parts,t.length≤2 ^ 30:=fun t ht=>by have:=hl.parts.2 t ht;omega
 have hdB:drB d=putB d.places.length++d.places.flatMap plB++putB d.cells.length++d.cells.flatMap inB++nB d.next++putB d.leases.length++d.leases.flatMap leB++putB d.lows.length++d.lows.flatMap stB++stB d.mark++nB d.job.kind++nB d.job.step++nB d.job.id++nB d.job.shard++nB d.job.other++nB d.job.cell++nB d.job.to++nB d.job.epoch++Yh d.job.key++putB d.job.parts.length++d.job.parts.flatMap Yh++nB d.job.of_++nB d.job.client++nB d.job.req++Yh d.job.span.lo++Yh d.job.span.hi++YH nB d.job.wait++stB d.job.at_++YH nB d.job.mem++putB d.opened.length++d.opened.flatMap orB:=by simp only[drB,YH,jbB,Gr]
 rw[hdB] at hb ⊢;simp only[Gc] at hb;have q0:=K533n h533 d.places.length p1;have q1:=K533n h533 d.cells.length i1;have q2:=K533 h533 d.next nn;have q3:=K533n h533 d.leases.length l1;have q4:=K533n h533 d.lows.length s1;have q5:=K544 h544 d.mark mk;have qj0:=K533 h533 d.job.kind v1;have qj1:=K533 h533 d.job.step v2;have qj2:=K533 h533 d.job.id v3;have qj3:=K533 h533 d.job.shard v4;have qj4:=K533 h533 d.job.other v5;have qj5:=K533 h533 d.job.cell v6;have qj6:=K533 h533 d.job.to v7;have qj7:=K533 h533 d.job.epoch v8;have qk:=K535 h535 d.job.key (by have:=hl.key;omega);have qp:=K533n h533 d.job.parts.length v10.1;have qo:=K533 h533 d.job.of_ v11;have qc:=K533 h533 d.job.client v12;have qr:=K533 h533 d.job.req v13;have ql:=K535 h535 d.job.span.lo (by have:=hl.span.1;omega);have qh:=K535 h535 d.job.span.hi (by have:=hl.span.2;omega);have qw:=K534 h534 d.job.wait v16.2 (by have:=hl.wait;omega);have qa:=K544 h544 d.job.at_ v17;have qm:=K534 h534 d.job.mem v18.2 (by have:=hl.mem;omega);have qe:=K533n h533 d.opened.length r1;generalize putB d.places.length=b0 at *
 generalize hP:d.places.flatMap plB=b1 at *
 generalize putB d.cells.length=b2 at *
 generalize hI:d.cells.flatMap inB=b3 at *
 generalize nB d.next=b4 at *
 generalize putB d.leases.length=b5 at *
 generalize hL:d.leases.flatMap leB=b6 at *
 generalize putB d.lows.length=b7 at *
 generalize hO:d.lows.flatMap stB=b8 at *
 generalize stB d.mark=b9 at *
 generalize nB d.job.kind=b10 at *
 generalize nB d.job.step=b11 at *
 generalize nB d.job.id=b12 at *
 generalize nB d.job.shard=b13 at *
 generalize nB d.job.other=b14 at *
 generalize nB d.job.cell=b15 at *
 generalize nB d.job.to=b16 at *
 generalize nB d.job.epoch=b17 at *
 generalize Yh d.job.key=b18 at *
 generalize putB d.job.parts.length=b19 at *
 generalize hT:d.job.parts.flatMap Yh=b20 at *
 generalize nB d.job.of_=b21 at *
 generalize nB d.job.client=b22 at *
 generalize nB d.job.req=b23 at *
 generalize Yh d.job.span.lo=b24 at *
 generalize Yh d.job.span.hi=b25 at *
 generalize YH nB d.job.wait=b26 at *
 generalize stB d.job.at_=b27 at *
 generalize YH nB d.job.mem=b28 at *
 generalize putB d.opened.length=b29 at *
 generalize hE:d.opened.flatMap orB=b30 at *
 have u30:=hb;have u29:=Nat.le_of_add_right_le u30;have u28:=Nat.le_of_add_right_le u29;have u27:=Nat.le_of_add_right_le u28;have u26:=Nat.le_of_add_right_le u27;have u25:=Nat.le_of_add_right_le u26;have u24:=Nat.le_of_add_right_le u25;have u23:=Nat.le_of_add_right_le u24;have u22:=Nat.le_of_add_right_le u23;have u21:=Nat.le_of_add_right_le u22;have u20:=Nat.le_of_add_right_le u21;have u19:=Nat.le_of_add_right_le u20;have u18:=Nat.le_of_add_right_le u19;have u17:=Nat.le_of_add_right_le u18;have u16:=Nat.le_of_add_right_le u17;have u15:=Nat.le_of_add_right_le u16;have u14:=Nat.le_of_add_right_le u15;have u13:=Nat.le_of_add_right_le u14;have u12:=Nat.le_of_add_right_le u13;have u11:=Nat.le_of_add_right_le u12;have u10:=Nat.le_of_add_right_le u11;have u9:=Nat.le_of_add_right_le u10;have u8:=Nat.le_of_add_right_le u9;have u7:=Nat.le_of_add_right_le u8;have u6:=Nat.le_of_add_right_le u7;have u5:=Nat.le_of_add_right_le u6;have u4:=Nat.le_of_add_right_le u5;have u3:=Nat.le_of_add_right_le u4;have u2:=Nat.le_of_add_right_le u3;have u1:=Nat.le_of_add_right_le u2;have u0:=Nat.le_of_add_right_le u1;have w1:=Gi u1 (show 2 ^ 40≤4611686018427387904 by decide);have w2:=Gi u2 (show 2 ^ 40≤4611686018427387904 by decide);have w3:=Gi u3 (show 2 ^ 40≤4611686018427387904 by decide);have w4:=Gi u4 (show 2 ^ 40≤4611686018427387904 by decide);have w5:=Gi u5 (show 2 ^ 40≤4611686018427387904 by decide);have w6:=Gi u6 (show 2 ^ 40≤4611686018427387904 by decide);have w7:=Gi u7 (show 2 ^ 40≤4611686018427387904 by decide);have w8:=Gi u8 (show 2 ^ 40≤4611686018427387904 by decide);have w9:=Gi u9 (show 2 ^ 40≤4611686018427387904 by decide);have w10:=Gi u10 (show 2 ^ 40≤4611686018427387904 by decide);have w11:=Gi u11 (show 2 ^ 40≤4611686018427387904 by decide);have w12:=Gi u12 (show 2 ^ 40≤4611686018427387904 by decide);have w13:=Gi u13 (show 2 ^ 40≤4611686018427387904 by decide);have w14:=Gi u14 (show 2 ^ 40≤4611686018427387904 by decide);have w15:=Gi u15 (show 2 ^ 40≤4611686018427387904 by decide);have w16:=Gi u16 (show 2 ^ 40≤4611686018427387904 by decide);have w17:=Gi u17 (show 2 ^ 40≤4611686018427387904 by decide);have w18:=Gi u18 (show 2 ^ 40≤4611686018427387904 by decide);have w19:=Gi u19 (show 2 ^ 40≤4611686018427387904 by decide);have w20:=Gi u20 (show 2 ^ 40≤4611686018427387904 by decide);have w21:=Gi u21 (show 2 ^ 40≤4611686018427387904 by decide);have w22:=Gi u22 (show 2 ^ 40≤4611686018427387904 by decide);have w23:=Gi u23 (show 2 ^ 40≤4611686018427387904 by decide);have w24:=Gi u24 (show 2 ^ 40≤4611686018427387904 by decide);have w25:=Gi u25 (show 2 ^ 40≤4611686018427387904 by decide);have w26:=Gi u26 (show 2 ^ 40≤4611686018427387904 by decide);have w27:=Gi u27 (show 2 ^ 40≤4611686018427387904 by decide);have w28:=Gi u28 (show 2 ^ 40≤4611686018427387904 by decide);have w29:=Gi u29 (show 2 ^ 40≤4611686018427387904 by decide);have w30:=Gi u30 (show 2 ^ 40≤4611686018427387904 by decide);refine Qa h rfl ?_;simp only[F518,c518,go_sem,q0,Gf];refine Yh9 h533 h535 (d:=d) (g:=b0) hpl (by simp only[hP,Gc];exact Gi u1 (by decide)) (by simp only[go_sem]) (by simp only[go_sem]) (by simp only[go_sem]) (by simp only[go_sem]) (by simp only[go_sem]) (by simp only[go_sem]) (by simp only[go_sem]) fun S1 t1 y1 t3 n9 n12=>?_;rw[hP] at t3;have x1:=y1;simp only[go_sem] at x1;simp only[go_sem,t1,x1,t3,q1,w1,w2,w3,w4,w5,w6,w7,w8,w9,w10,w11,w12,w13,w14,w15,w16,w17,w18,w19,w20,w21,w22,w23,w24,w25,w26,w27,w28,w29,w30,Gf];refine Yh1 h533 h534 h504 (d:=d) (g:=b0++b1++b2) hin (by simp only[hI,Gc];exact Gi u3 (by decide)) (by simp only[go_sem,t1]) (by simp only[go_sem,y1]) (by simp only[go_sem]) (by simp only[go_sem,n9]) (by simp only[go_sem,n12]) (by simp only[go_sem]) fun S1 t1 y1 t3 n9 n12=>?_;rw[hI] at t3;have x1:=y1;simp only[go_sem] at x1;simp only[go_sem,t1,x1,t3,q2,q3,w1,w2,w3,w4,w5,w6,w7,w8,w9,w10,w11,w12,w13,w14,w15,w16,w17,w18,w19,w20,w21,w22,w23,w24,w25,w26,w27,w28,w29,w30,Gf];refine Yh3 h533 h544 (d:=d) (g:=b0++b1++b2++b3++b4++b5) l2 (by simp only[hL,Gc];exact Gi u6 (by decide)) (by simp only[go_sem,t1]) (by simp only[go_sem,y1]) (by simp only[go_sem]) (by simp only[go_sem,n9]) (by simp only[go_sem,n12]) (by simp only[go_sem]) fun S1 t1 y1 t3 n9 n12=>?_;rw[hL] at t3;have x1:=y1;simp only[go_sem] at x1;simp only[go_sem,t1,x1,t3,q4,w1,w2,w3,w4,w5,w6,w7,w8,w9,w10,w11,w12,w13,w14,w15,w16,w17,w18,w19,w20,w21,w22,w23,w24,w25,w26,w27,w28,w29,w30,Gf];refine Yh4 h544 (d:=d) (g:=b0++b1++b2++b3++b4++b5++b6++b7) s2 (by simp only[hO,Gc];exact Gi u8 (by decide)) (by simp only[go_sem,t1]) (by simp only[go_sem,y1]) (by simp only[go_sem]) (by simp only[go_sem,n9]) (by simp only[go_sem,n12]) (by simp only[go_sem]) fun S1 t1 y1 t3 n9 n12=>?_;rw[hO] at t3;have x1:=y1;simp only[go_sem] at x1;simp only[go_sem,t1,x1,t3,n9,q5,qj0,qj1,qj2,qj3,qj4,qj5,qj6,qj7,qk,qp,w1,w2,w3,w4,w5,w6,w7,w8,w9,w10,w11,w12,w13,w14,w15,w16,w17,w18,w19,w20,w21,w22,w23,w24,w25,w26,w27,w28,w29,w30,Gf];refine Yib h535 (d:=d) (g:=b0++b1++b2++b3++b4++b5++b6++b7++b8++b9++b10++b11++b12++b13++b14++b15++b16++b17++b18++b19) hpt (by simp only[hT,Gc];exact Gi u20 (by decide)) (by simp only[go_sem,t1]) (by simp only[go_sem,y1]) (by simp only[go_sem]) (by simp only[go_sem]) (by simp only[go_sem]) (by simp only[go_sem,n12]) (by simp only[go_sem]) fun S1 t1 y1 t3 t9 y9 n12=>?_;rw[hT] at t3;have x1:=y1;simp only[go_sem] at x1;have x9:=y9;simp only[go_sem] at x9;simp only[go_sem,t1,x1,t3,t9,x9,qo,qc,qr,ql,qh,qw,qa,qm,qe,w1,w2,w3,w4,w5,w6,w7,w8,w9,w10,w11,w12,w13,w14,w15,w16,w17,w18,w19,w20,w21,w22,w23,w24,w25,w26,w27,w28,w29,w30,Gf];refine Yh6 h533 h544 (d:=d) (g:=b0++b1++b2++b3++b4++b5++b6++b7++b8++b9++b10++b11++b12++b13++b14++b15++b16++b17++b18++b19++b20++b21++b22++b23++b24++b25++b26++b27++b28++b29) r2 (by simp only[hE,Gc];exact Gi u30 (by decide)) (by simp only[go_sem,t1]) (by simp only[go_sem,y1]) (by simp only[go_sem]) (by simp only[go_sem,n12]) (by simp only[go_sem]) fun S1 t1 y1 t3=>?_;rw[hE] at t3;simp only[go_sem,t3]
def H353 (Pg:PgT):Prop:=Pg 353=some (.code F353)
theorem K353 (h:H353 Pg) (l:List Int) (hl:l.length<2 ^ 60):K' Pg 353 [Yf l,Yf l]=some (.bool true):=by
 refine Qa h rfl ?_;simp only[go_sem];unfold l353_0;refine JiY (fun (i:Nat) S=>i≤l.length∧S.ρ 0=Yf l∧S.ρ 1=Yf l∧S.ρ 5=iz i) (fun i=>l.length-i) 0 ?_ ?_
 ·simp[go_sem]
 ·intro i S ⟨hi,h0,h1,h5⟩;simp only[go_sem,h0,h5];refine JiZ (fun h=>?_) (fun h=>?_)
  ·have h:=Ye h;obtain⟨x,hx,hd⟩:=JiF h;simp only[go_sem,h0,h1,h5,hx];exact⟨i+1,by omega,by omega,by rw[Yi h hl]⟩
  ·simp only[go_sem]
def H354 (Pg:PgT):Prop:=Pg 354=some (.code F354)∧H353 Pg
theorem K354 (h:H354 Pg) (j:Jb) (h1:j.parts.length<2 ^ 60) (h2:j.wait.length<2 ^ 60) (h3:j.mem.length<2 ^ 60):K' Pg 354 [.agg (eJb j),.agg (eJb j)]=some (.bool true):=by
 obtain⟨h,h353⟩:=h;have kw:=K353 h353 j.wait h2;have km:=K353 h353 j.mem h3;simp only[Yf] at kw km;refine Qa h rfl ?_;simp only[go_sem];unfold l354_0;refine JiY (fun (i:Nat) S=>i≤j.parts.length∧S.ρ 2=.lref 2 0∧S.μ 2=some (eJb j,false)∧S.ρ 3=.lref 3 0∧S.μ 3=some (eJb j,false)∧S.ρ 5=iz i) (fun i=>j.parts.length-i) 0 ?_ ?_
 ·simp[go_sem]
 ·intro i S ⟨hi,s2,m2,s3,m3,s5⟩;simp only[go_sem,s2,m2,s5];refine JiZ (fun h=>?_) (fun h=>?_)
  ·have h:=Ye h;obtain⟨x,hx,hd⟩:=JiF h;simp only[go_sem,eS1,s2,m2,s3,m3,s5,hx];exact⟨i+1,by omega,by omega,by rw[Yi h h1]⟩
  ·simp only[go_sem,s2,m2,s3,m3,kw,km]
def H332 (Pg:PgT):Prop:=Pg 332=some (.code F332)∧H116 Pg∧H153 Pg∧H353 Pg∧H354 Pg
def SmE (d:Drc):Prop:=d.places.length≤10000∧d.cells.length≤10000∧d.lows.length≤10000∧SmD d
theorem K332 (h:H332 Pg) (d:Drc) (hd:SmE d):K' Pg 332 [.agg (YT d),.agg (YT d)]=some (.bool true):=by
 obtain⟨h,h116,h153,h353,h354⟩:=h;obtain⟨hp,hc,hl,hle,hop,⟨hw,hm,hpa⟩,hcm⟩:=hd;have k153:=K153 h153 d.places (by omega);have k116:=K116 h116 d.leases (by omega);have k354:=K354 h354 d.job (by omega) (by omega) (by omega);have k353:∀x∈d.cells,K' Pg 353 [Yf x.mem,Yf x.mem]=some (.bool true):=fun x hx=>K353 h353 x.mem (by have:=hcm x hx;omega);simp only[YC,YJ,eJb,Ycz,Yf] at k153 k116 k354 k353;clear h116 h153 h353 h354;refine Qa h rfl ?_;simp only[go_sem];unfold l332_0;refine JiY (fun (i:Nat) S=>i≤d.cells.length∧S.ρ 2=.lref 2 0∧S.μ 2=some (YT d,false)∧S.ρ 3=.lref 3 0∧S.μ 3=some (YT d,false)∧S.ρ 5=iz i) (fun i=>d.cells.length-i) 0 ?_ ?_
 ·simp[go_sem]
 ·intro i S ⟨hi,s2,m2,s3,m3,s5⟩;simp only[go_sem,s2,m2,s5];refine JiZ (fun h=>?_) (fun h=>?_)
  ·have h:=Ye h;obtain⟨x,hx,hd⟩:=JiF h;have k:=k353 x (List.mem_of_getElem? hx);have eb:(x.whole == x.whole)=true:=beq_self_eq_true _;simp only[go_sem,s2,m2,s3,m3,s5,hx,k,eb];exact⟨i+1,by omega,by omega,by rw[Yi h (by omega)]⟩
  ·simp only[go_sem];unfold l332_1;clear hi h s5;refine JiY (fun (i:Nat) S=>i≤d.lows.length∧S.ρ 2=.lref 2 0∧S.μ 2=some (YT d,false)∧S.ρ 3=.lref 3 0∧S.μ 3=some (YT d,false)∧S.ρ 6=iz i) (fun i=>d.lows.length-i) 0 ?_ ?_
   ·simp[go_sem,s2,m2,s3,m3]
   ·intro i S ⟨hi,s2,m2,s3,m3,s6⟩;simp only[go_sem,s2,m2,s6];refine JiZ (fun h=>?_) (fun h=>?_)
    ·have h:=Ye h;obtain⟨x,hx,hd⟩:=JiF h;simp only[go_sem,s2,m2,s3,m3,s6,hx];exact⟨i+1,by omega,by omega,by rw[Yi h (by omega)]⟩
    ·simp only[go_sem];unfold l332_2;clear hi h s6;refine JiY (fun (i:Nat) S=>i≤d.opened.length∧S.ρ 2=.lref 2 0∧S.μ 2=some (YT d,false)∧S.ρ 3=.lref 3 0∧S.μ 3=some (YT d,false)∧S.ρ 7=iz i) (fun i=>d.opened.length-i) 0 ?_ ?_
     ·simp[go_sem,s2,m2,s3,m3]
     ·intro i S ⟨hi,s2,m2,s3,m3,s7⟩;simp only[go_sem,s2,m2,s7];refine JiZ (fun h=>?_) (fun h=>?_)
      ·have h:=Ye h;obtain⟨x,hx,hd⟩:=JiF h;simp only[go_sem,s2,m2,s3,m3,s7,hx];exact⟨i+1,by omega,by omega,by rw[Yi h (by omega)]⟩
      ·simp only[go_sem,s2,m2,s3,m3,k153,k116,k354]
theorem YcO {α:Type} {W:α→List UInt8} {l:List α} {j:Nat}:((l.take j).flatMap W).length≤(l.flatMap W).length:=by
 conv=>rhs;rw[←GY j l]
 simp only[List.flatMap_append,Gc];omega
theorem YcN {α:Type} {W:α→List UInt8} {l:List α} {j:Nat} {x:α} (h:l[j]?=some x):(l.take (j+1)).flatMap W=(l.take j).flatMap W++W x:=by
 rw[Gap,h];simp
theorem YiD (h459:H459 Pg) (h489:H489 Pg) (h488:H488 Pg) {sh:Shd} {key g:List UInt8} {chain:List Ver} {I:Nat} (hc:∀v∈chain,Ya v.at_=true∧v.val.length≤2 ^ 20) (hn:chain.length≤2 ^ 20) (hg:g.length+(chain.flatMap YaW).length≤2 ^ 40)
  {S:St} {Q:Ex→St→Prop} (s1:S.ρ 1=.lref 1 0) (s3:S.ρ 3=.str g) (s4:S.ρ 4=iz I) (s5:S.ρ 5=.lref 5 0) (s6:S.ρ 6=iz 0) (n1:S.μ 1=some (Yac sh,false)) (n5:S.μ 5=some ([.str key,Yb chain],false)) (n8:S.μ 8=none)
  (hq:∀S',S'.ρ 1=.lref 1 0→S'.ρ 3=.str (g++chain.flatMap YaW)→S'.ρ 4=iz I→S'.μ 1=some (Yac sh,false)→S'.μ 8=none→Q .norm S'):Wp (K' Pg) l461_1 S (Blk 2 Q):=by
 unfold l461_1
 refine JiY (fun (j:Nat) S'=>j≤chain.length∧S'.ρ 1=.lref 1 0∧S'.ρ 3=.str (g++(chain.take j).flatMap YaW)∧S'.ρ 4=iz I∧S'.ρ 5=.lref 5 0∧S'.ρ 6=iz j∧S'.μ 1=some (Yac sh,false)∧S'.μ 5=some ([.str key,Yb chain],false)∧S'.μ 8=none) (fun j=>chain.length-j) 0 ?_ ?_
 ·simp only[JhU]
  exact⟨Gu _,s1,by rw[s3];simp,s4,s5,s6,n1,n5,n8⟩
 ·intro j S' ⟨hj,t1,t3,t4,t5,t6,m1,m5,m8⟩
  simp only[Yb] at m5
  cases c1:decide ((j:Int)<(chain.length:Int)) with
  |false=>
   have hjm:j=chain.length:=by have:=Gb c1;omega
   subst hjm
   rw[Gy] at t3
   simp only[go_sem,t5,t6,m5,c1,Gf]
   exact hq _ (by simp only[go_sem,t1]) (by simp only[go_sem,t3]) (by simp only[go_sem,t4]) m1 m8
  |true=>
   have hlt:=Ye c1
   obtain⟨v,hv,-⟩:=JiF hlt
   obtain⟨v1,v2⟩:=hc v (List.mem_of_getElem? hv)
   have hinc:=inc64q (i:=j) (by omega)
   have k1:=K459 h459 v.at_ v1
   have k2:=K489 h489 v.gone
   have k3:=K488 h488 v.val (by omega)
   have hsn:=YcN (W:=YaW) hv
   have hle:=YcO (W:=YaW) (l:=chain) (j:=j+1)
   rw[hsn,Gc] at hle
   simp only[YaW,Gc] at hle
   generalize hG:g++(chain.take j).flatMap YaW=G at *
   have hGl:G.length=g.length+((chain.take j).flatMap YaW).length:=by rw[←hG,Gc]
   have b1:G.length+(stB v.at_).length≤4611686018427387904:=by omega
   have b2:G.length+(stB v.at_).length+(YL v.gone).length≤4611686018427387904:=by omega
   have b3:G.length+(stB v.at_).length+(YL v.gone).length+(Yh v.val).length≤4611686018427387904:=by omega
   simp only[go_sem] at k1
   simp only[go_sem,t1,t3,t4,t5,t6,m5,c1,hv,k1,k2,k3,hinc,b1,b2,b3,Gf,Gc,JhU]
   refine⟨j+1,by omega,by omega,by rw[hsn,←Gr,hG];simp[YaW],rfl,m1,rfl,m8⟩
theorem Yie (h459:H459 Pg) (h489:H489 Pg) (h488:H488 Pg) (h460:H460 Pg) {sh:Shd} {g:List UInt8} (hc:∀e∈sh.ents,e.key.length≤2 ^ 20∧e.chain.length≤2 ^ 20∧∀v∈e.chain,Ya v.at_=true∧v.val.length≤2 ^ 20) (hn:sh.ents.length≤2 ^ 20) (hg:g.length+(sh.ents.flatMap YaB).length≤2 ^ 40)
  {S:St} {Q:Ex→St→Prop} (s1:S.ρ 1=.lref 1 0) (s3:S.ρ 3=.str g) (s4:S.ρ 4=iz 0) (n1:S.μ 1=some (Yac sh,false)) (n5:S.μ 5=none) (n8:S.μ 8=none)
  (hq:∀S',S'.ρ 1=.lref 1 0→S'.ρ 3=.str (g++sh.ents.flatMap YaB)→S'.μ 1=some (Yac sh,false)→S'.μ 8=none→Q .norm S'):Wp (K' Pg) l461_0 S (Blk 0 Q):=by
 unfold l461_0
 refine JiY (fun (j:Nat) S'=>j≤sh.ents.length∧S'.ρ 1=.lref 1 0∧S'.ρ 3=.str (g++(sh.ents.take j).flatMap YaB)∧S'.ρ 4=iz j∧S'.μ 1=some (Yac sh,false)∧S'.μ 5=none∧S'.μ 8=none) (fun j=>sh.ents.length-j) 0 ?_ ?_
 ·exact⟨Gu _,JiJ s1 rfl,JiJ (by rw[s3];simp) rfl,JiJ s4 rfl,(YcB rfl).trans n1,JiH (.inr rfl),JiH (.inl n8)⟩
 ·intro j S' ⟨hj,t1,t3,t4,m1,m5,m8⟩
  have m1':=m1
  simp only[go_sem] at m1'
  cases c1:decide ((j:Int)<(sh.ents.length:Int)) with
  |false=>
   have hjm:j=sh.ents.length:=by have:=Gb c1;omega
   rw[hjm,Gy] at t3
   simp only[go_sem,t1,t4,m1',c1,Gf]
   exact hq _ (by simp only[go_sem,t1]) (by simp only[go_sem,t3]) m1 m8
  |true=>
   have hlt:=Ye c1
   obtain⟨e,he,-⟩:=JiF hlt
   obtain⟨v1,v2,v3⟩:=hc e (List.mem_of_getElem? he)
   have hinc:=inc64q (i:=j) (by omega)
   have k1:=K488 h488 e.key (by omega)
   have k2:=K460 h460 e.chain.length (by omega) (by omega)
   have hto:((e.chain.length:Int)).toNat=e.chain.length:=by omega
   rw[hto] at k2
   have hsn:=YcN (W:=YaB) he
   have hle:=YcO (W:=YaB) (l:=sh.ents) (j:=j+1)
   rw[hsn,Gc] at hle
   simp only[YaB,YH,Gc] at hle
   generalize hG:g++(sh.ents.take j).flatMap YaB=G at *
   have hGl:G.length=g.length+((sh.ents.take j).flatMap YaB).length:=by rw[←hG,Gc]
   have b1:G.length+(Yh e.key).length≤4611686018427387904:=by omega
   have b2:G.length+(Yh e.key).length+(putB e.chain.length).length≤4611686018427387904:=by omega
   simp only[go_sem,Yb,t1,t3,t4,m1',m5,c1,he,k1,k2,b1,b2,Gf,Gc]
   refine YiD h459 h489 h488 (sh:=sh) (key:=e.key) (g:=G++Yh e.key++putB e.chain.length) (chain:=e.chain) (I:=j) v3 v2 (by simp only[Gc];omega) (by simp only[go_sem,t1]) (by simp only[go_sem]) (by simp only[go_sem,t4]) (by simp only[go_sem]) (by simp only[go_sem]) (by simp only[go_sem,m1']) (by simp only[go_sem,Yb]) (by simp only[go_sem,m8]) fun S2 u1 u3 u4 w1 w8=>?_
   have w1':=w1
   have hfin:g++(sh.ents.take (j+1)).flatMap YaB=G++Yh e.key++putB e.chain.length++e.chain.flatMap YaW:=by rw[hsn,←Gr,hG];simp[YaB,YH]
   simp only[go_sem,u4,hinc,u1,u3,w1',w8,Option.map_some,Option.map_none]
   exact⟨j+1,by omega,by omega,by rw[hfin],rfl⟩
theorem YgS (h459:H459 Pg) (h489:H489 Pg) (h488:H488 Pg) (h460:H460 Pg) {sh:Shd} {g:List UInt8} (hc:∀d∈sh.done,rowR d=true) (hn:sh.done.length≤2 ^ 20) (hg:g.length+(sh.done.flatMap Y0).length≤2 ^ 40)
  {S:St} {Q:Ex→St→Prop} (s1:S.ρ 1=.lref 1 0) (s3:S.ρ 3=.str g) (s7:S.ρ 7=iz 0) (n1:S.μ 1=some (Yac sh,false)) (n8:S.μ 8=none)
  (hq:∀S',S'.ρ 3=.str (g++sh.done.flatMap Y0)→Q .norm S'):Wp (K' Pg) l461_2 S (Blk 4 Q):=by
 unfold l461_2
 refine JiY (fun (j:Nat) S'=>j≤sh.done.length∧S'.ρ 1=.lref 1 0∧S'.ρ 3=.str (g++(sh.done.take j).flatMap Y0)∧S'.ρ 7=iz j∧S'.μ 1=some (Yac sh,false)∧S'.μ 8=none) (fun j=>sh.done.length-j) 0 ?_ ?_
 ·exact⟨Gu _,JiJ s1 rfl,JiJ (by rw[s3];simp) rfl,JiJ s7 rfl,(YcB rfl).trans n1,JiH (.inr rfl)⟩
 ·intro j S' ⟨hj,t1,t3,t7,m1,m8⟩
  have m1':=m1
  simp only[go_sem] at m1'
  cases c1:decide ((j:Int)<(sh.done.length:Int)) with
  |false=>
   have hjm:j=sh.done.length:=by have:=Gb c1;omega
   rw[hjm,Gy] at t3
   simp only[go_sem,t1,t7,m1',c1,Gf]
   exact hq _ (by simp only[go_sem,t3])
  |true=>
   have hlt:=Ye c1
   obtain⟨d,he,-⟩:=JiF hlt
   have hr:=hc d (List.mem_of_getElem? he)
   simp only[rowR,YK,Ybk,Gk,Gq,GE] at hr
   obtain⟨⟨a1,a2⟩,⟨a3,a4⟩,a5,a6,a7,a8,-⟩:=hr
   have hinc:=inc64q (i:=j) (by omega)
   have k1:=K460 h460 d.client (by omega) (by omega)
   have k2:=K460 h460 d.req (by omega) (by omega)
   have k3:=K460 h460 d.ans.err a5 (by omega)
   have k4:=K459 h459 d.ans.at_ a7
   have k5:=K489 h489 d.ans.found
   have k6:=K488 h488 d.ans.val (by omega)
   have hsn:=YcN (W:=Y0) he
   have hle:=YcO (W:=Y0) (l:=sh.done) (j:=j+1)
   rw[hsn,Gc] at hle
   simp only[Y0,Gc] at hle
   generalize hG:g++(sh.done.take j).flatMap Y0=G at *
   have hGl:G.length=g.length+((sh.done.take j).flatMap Y0).length:=by rw[←hG,Gc]
   have b1:G.length+(putB d.client.toNat).length≤4611686018427387904:=by omega
   have b2:G.length+(putB d.client.toNat).length+(putB d.req.toNat).length≤4611686018427387904:=by omega
   have b3:G.length+(putB d.client.toNat).length+(putB d.req.toNat).length+(putB d.ans.err.toNat).length≤4611686018427387904:=by omega
   have b4:G.length+(putB d.client.toNat).length+(putB d.req.toNat).length+(putB d.ans.err.toNat).length+(stB d.ans.at_).length≤4611686018427387904:=by omega
   have b5:G.length+(putB d.client.toNat).length+(putB d.req.toNat).length+(putB d.ans.err.toNat).length+(stB d.ans.at_).length+(YL d.ans.found).length≤4611686018427387904:=by omega
   have b6:G.length+(putB d.client.toNat).length+(putB d.req.toNat).length+(putB d.ans.err.toNat).length+(stB d.ans.at_).length+(YL d.ans.found).length+(Yh d.ans.val).length≤4611686018427387904:=by omega
   have hfin:g++(sh.done.take (j+1)).flatMap Y0=G++putB d.client.toNat++putB d.req.toNat++putB d.ans.err.toNat++stB d.ans.at_++YL d.ans.found++Yh d.ans.val:=by rw[hsn,←Gr,hG];simp[Y0]
   simp only[go_sem] at k4
   simp only[go_sem,t1,t3,t7,m1',m8,c1,he,k1,k2,k3,k4,k5,k6,b1,b2,b3,b4,b5,b6,hinc,Gf,Gc,Option.map_some]
   exact⟨j+1,by omega,by omega,by rw[hfin],rfl⟩
def H461 (Pg:PgT):Prop:=Pg 461=some (.code F461)∧H459 Pg∧H489 Pg∧H488 Pg∧H460 Pg
theorem K461 (h:H461 Pg) (s:Shd) (hr:shR s=true) (hb:(shB s).length≤2 ^ 40):K' Pg 461 [.agg (Yac s)]=some (.str (shB s)):=by
 obtain⟨h,h459,h489,h488,h460⟩:=h;have hv:=YdW hr;simp only[shR,shR0,YK,nou,Ys,ixR,YF,Gk,G8,Gq,Gz] at hr;obtain⟨⟨⟨a1,a2⟩,⟨b1,b2⟩,⟨c1,c2⟩,⟨d1,d2⟩,⟨e1,e2⟩,⟨f1,f2⟩,g1,g2,⟨i1,i2⟩,⟨j1,j2⟩,k1,k2,l1,l2⟩,-⟩:=hr;have lo:s.span.lo.length≤16:=by
  rcases i1 with i1|i1
  ·rw[i1];simp
  ·exact (YD i1).1
 have hi:s.span.hi.length≤16:=by
  rcases i2 with i2|i2
  ·rw[i2];simp
  ·exact (YD i2.1).1
 have hents:∀e∈s.ents,e.key.length≤2 ^ 20∧e.chain.length≤2 ^ 20∧∀v∈e.chain,Ya v.at_=true∧v.val.length≤2 ^ 20:=fun e he=>by
  have:=Ych j2 e he;simp only[Ybj,Yg,Gk,Gq] at this;obtain⟨h1,h2,h3,h4⟩:=this;refine⟨by have:=(YD h1).1;omega,by omega,fun v hv=>?_⟩;have:=Ycv h3 v hv;simp only[Yt,Gk,Gq] at this;exact⟨this.1.1,by omega⟩
 have q1:=K460 h460 s.id (by omega) (by omega);have q2:=K460 h460 s.epoch (by omega) (by omega);have q3:=K460 h460 s.phase (by omega) (by omega);have q4:=K460 h460 s.hold (by omega) (by omega);have q5:=K460 h460 s.seen (by omega) (by omega);have q6:=K460 h460 s.move (by omega) (by omega);have q7:=K460 h460 s.closed (by omega) (by omega);have q8:=K488 h488 s.span.lo (by omega);have q9:=K488 h488 s.span.hi (by omega);have q10:=K459 h459 s.mark k1;have q11:=K459 h459 s.top k2;have q12:=K460 h460 s.ents.length (by omega) (by omega);have q13:=K460 h460 s.done.length (by omega) (by omega);rw[show ((s.ents.length:Int)).toNat=s.ents.length by omega] at q12;rw[show ((s.done.length:Int)).toNat=s.done.length by omega] at q13;simp only[go_sem] at q10 q11;have hb':=hb;simp only[shB,YH,Gc] at hb';have w1:(putB s.id.toNat).length+(putB s.epoch.toNat).length≤4611686018427387904:=by omega
 have w2:(putB s.id.toNat).length+(putB s.epoch.toNat).length+(putB s.phase.toNat).length≤4611686018427387904:=by omega
 have w3:(putB s.id.toNat).length+(putB s.epoch.toNat).length+(putB s.phase.toNat).length+(putB s.hold.toNat).length≤4611686018427387904:=by omega
 have w4:(putB s.id.toNat).length+(putB s.epoch.toNat).length+(putB s.phase.toNat).length+(putB s.hold.toNat).length+(putB s.seen.toNat).length≤4611686018427387904:=by omega
 have w5:(putB s.id.toNat).length+(putB s.epoch.toNat).length+(putB s.phase.toNat).length+(putB s.hold.toNat).length+(putB s.seen.toNat).length+(putB s.move.toNat).length≤4611686018427387904:=by omega
 have w6:(putB s.id.toNat).length+(putB s.epoch.toNat).length+(putB s.phase.toNat).length+(putB s.hold.toNat).length+(putB s.seen.toNat).length+(putB s.move.toNat).length+(putB s.closed.toNat).length≤4611686018427387904:=by omega
 have w7:(putB s.id.toNat).length+(putB s.epoch.toNat).length+(putB s.phase.toNat).length+(putB s.hold.toNat).length+(putB s.seen.toNat).length+(putB s.move.toNat).length+(putB s.closed.toNat).length+(Yh s.span.lo).length≤4611686018427387904:=by omega
 have w8:(putB s.id.toNat).length+(putB s.epoch.toNat).length+(putB s.phase.toNat).length+(putB s.hold.toNat).length+(putB s.seen.toNat).length+(putB s.move.toNat).length+(putB s.closed.toNat).length+(Yh s.span.lo).length+(Yh s.span.hi).length≤4611686018427387904:=by omega
 have w9:(putB s.id.toNat).length+(putB s.epoch.toNat).length+(putB s.phase.toNat).length+(putB s.hold.toNat).length+(putB s.seen.toNat).length+(putB s.move.toNat).length+(putB s.closed.toNat).length+(Yh s.span.lo).length+(Yh s.span.hi).length+(stB s.mark).length≤4611686018427387904:=by omega
 have w10:(putB s.id.toNat).length+(putB s.epoch.toNat).length+(putB s.phase.toNat).length+(putB s.hold.toNat).length+(putB s.seen.toNat).length+(putB s.move.toNat).length+(putB s.closed.toNat).length+(Yh s.span.lo).length+(Yh s.span.hi).length+(stB s.mark).length+(stB s.top).length≤4611686018427387904:=by omega
 have w11:(putB s.id.toNat).length+(putB s.epoch.toNat).length+(putB s.phase.toNat).length+(putB s.hold.toNat).length+(putB s.seen.toNat).length+(putB s.move.toNat).length+(putB s.closed.toNat).length+(Yh s.span.lo).length+(Yh s.span.hi).length+(stB s.mark).length+(stB s.top).length+(putB s.ents.length).length≤4611686018427387904:=by omega
 refine Qa h rfl ?_;simp only[F461,c461,go_sem,q1,q2,q3,q4,q5,q6,q7,q8,q9,q10,q11,q12,w1,w2,w3,w4,w5,w6,w7,w8,w9,w10,w11,Gf,Gc];refine Yie h459 h489 h488 h460 (sh:=s) (g:=putB s.id.toNat++putB s.epoch.toNat++putB s.phase.toNat++putB s.hold.toNat++putB s.seen.toNat++putB s.move.toNat++putB s.closed.toNat++Yh s.span.lo++Yh s.span.hi++stB s.mark++stB s.top++putB s.ents.length) hents (by omega) (by simp only[Gc];omega) (by simp only[go_sem]) (by simp only[go_sem]) (by simp only[go_sem]) (by simp only[go_sem]<;>rfl) (by simp only[go_sem]) (by simp only[go_sem]) fun S1 u1 u3 v1 v8=>?_;have v1':=v1;simp only[go_sem] at v1';generalize hg:putB s.id.toNat++putB s.epoch.toNat++putB s.phase.toNat++putB s.hold.toNat++putB s.seen.toNat++putB s.move.toNat++putB s.closed.toNat++Yh s.span.lo++Yh s.span.hi++stB s.mark++stB s.top++putB s.ents.length++s.ents.flatMap YaB=g at u3;have hgl:g.length+(putB s.done.length).length≤4611686018427387904:=by rw[←hg];simp only[Gc];omega
 have hgl2:(g++putB s.done.length).length+(s.done.flatMap Y0).length≤2 ^ 40:=by rw[←hg];simp only[Gc];omega
 simp only[go_sem,u1,u3,v1',q13,hgl,Gf];refine YgS h459 h489 h488 h460 (sh:=s) (g:=g++putB s.done.length) (fun d hd=>YbF l1 d hd) (by omega) hgl2 (by simp only[go_sem,u1]) (by simp only[go_sem]) (by simp only[go_sem]) (by simp only[go_sem,v1']) (by simp only[go_sem,v8]) fun S2 z3=>?_;have hall:g++putB s.done.length++s.done.flatMap Y0=shB s:=by rw[←hg];simp[shB,YH]
 simp only[go_sem,z3,hall]
def H424 (Pg:PgT):Prop:=Pg 424=some (.code F424)∧H459 Pg∧H460 Pg∧H461 Pg
theorem K424 (h:H424 Pg) (c:Cel) (hr:Yam c=true):K' Pg 424 [.agg (Ydq c)]=some (.str (cB c)):=by
 obtain⟨h,h459,h460,h461⟩:=h;obtain⟨r1,r2,r3,r4⟩:=YeJ hr;have hl:=YdH hr;simp only[cB,YH,Gc] at hl;have q1:=K459 h459 c.top r2;have q2:=K460 h460 c.dropped (by omega) (by omega);have q3:=K460 h460 c.shards.length (by omega) (by omega);rw[show ((c.shards.length:Int)).toNat=c.shards.length by omega] at q3;simp only[go_sem] at q1;have w1:(stB c.top).length+(putB c.dropped.toNat).length≤4611686018427387904:=by omega
 have w2:(stB c.top).length+(putB c.dropped.toNat).length+(putB c.shards.length).length≤4611686018427387904:=by omega
 refine Qa h rfl ?_;simp only[F424,c424,go_sem,q1,q2,q3,w1,w2,Gf,Gc];have hg:cB c=stB c.top++putB c.dropped.toNat++putB c.shards.length++c.shards.flatMap shB:=by simp[cB,YH]
 have hgl:(stB c.top++putB c.dropped.toNat++putB c.shards.length).length+(c.shards.flatMap shB).length≤968030:=by simp only[Gc];omega
 rw[hg];generalize stB c.top++putB c.dropped.toNat++putB c.shards.length=g at *
 unfold l424_0;refine JiY (fun (j:Nat) S'=>j≤c.shards.length∧S'.ρ 1=.lref 1 0∧S'.ρ 3=.str (g++(c.shards.take j).flatMap shB)∧S'.ρ 4=iz j∧S'.μ 1=some (Ydq c,false)) (fun j=>c.shards.length-j) 0 ?_ ?_
 ·simp[go_sem]
 ·intro j S' ⟨hj,t1,t3,t4,m1⟩;have m1':=m1;simp only[go_sem] at m1';cases c1:decide ((j:Int)<(c.shards.length:Int)) with
  |false=>
   have hjm:j=c.shards.length:=by have:=Gb c1;omega
   rw[hjm,Gy] at t3;simp only[go_sem,t1,t3,t4,m1',c1,Gf]
  |true=>
   have hlt:=Ye c1;obtain⟨e,he,-⟩:=JiF hlt;have hs:=r4 e (List.mem_of_getElem? he);have hinc:=inc64q (i:=j) (by omega)
   have k1:=K461 h461 e hs (by have:=(Yen hs).2;omega);simp only[go_sem] at k1;have htk:c.shards.take (j+1)=c.shards.take j++[e]:=by rw[Gap,he];rfl
   have hle:=YW (W:=shB) (l:=c.shards) (i:=j+1);have hfull:g++(c.shards.take (j+1)).flatMap shB=g++(c.shards.take j).flatMap shB++shB e:=by rw[htk];simp
   rw[htk,List.flatMap_append,Gc] at hle;simp only[Gaa,List.flatMap_nil,GS] at hle;generalize hG:g++(c.shards.take j).flatMap shB=G at *
   have hGl:G.length=g.length+((c.shards.take j).flatMap shB).length:=by rw[←hG,Gc]
   have b1:G.length+(shB e).length≤4611686018427387904:=by omega
   simp only[go_sem,t1,t3,t4,m1',c1,he,k1,b1,hinc,Gf,JhU];exact⟨j+1,by omega,by omega,by rw[hfull],rfl⟩
structure C411 (S:St) (y:Rd) (t:Stamp) (d:Int) (vs:List Shd):Prop where
 r2:S.ρ 2=.lref 2 0
 r4:S.ρ 4=.lref 10 0
 r5:S.ρ 5=.lref 5 0
 m10:S.μ 10=some (eRd y,false)
 m2:S.μ 2=some ([.slice 17 [],.int .i64 0,.int .i64 0,.int .i64 0,.int .i64 0],false)
 m5:S.μ 5=some (clP t d (nilOr 36 17 vs.length),false)
 a36:S.A 36=YY 17 (vs.map Yac) vs.length
theorem C411.head {S:St} {y:Rd} {t:Stamp} {d:Int} {vs:List Shd} (h:C411 S y t d vs):C411 (S.head [] [] [] []) y t d vs:=by rw[JhU];exact h
theorem Yiu {tt:List UInt8} (h436:H436 Pg) {y:Rd} {m:Nat} {t:Stamp} {d:Int} (hy:y.1.length≤2 ^ 20) {S:St} {Q:Ex→St→Prop} (hS:C411 S y t d []) (s6:S.ρ 6=iz m) (s7:S.ρ 7=iz 0) (s0:S.ρ 0=.str tt)
  (hq:∀S',C411 S' (YE (gSh true) m y).2 t d (YE (gSh true) m y).1→S'.ρ 0=.str tt→Q .norm S'):Wp (K' Pg) l411_0 S (Blk 0 Q):=by
 have hcnt:=Yb9 (cSh (D:=true)) YeC (k:=m) (x:=y)
 unfold l411_0
 refine JiY (fun (j:Nat) S'=>j≤m∧S'.ρ 0=.str tt∧S'.ρ 6=iz m∧S'.ρ 7=iz j∧∃(vs:List Shd) (y':Rd),vs.length=j∧y'.1.length≤2 ^ 20∧
  YE (gSh true) m y=(vs++(YE (gSh true) (m-j) y').1,(YE (gSh true) (m-j) y').2)∧C411 S' y' t d vs) (fun j=>m-j) 0 ?_ ?_
 ·simp only[JhU]
  exact⟨Gu _,s0,s6,s7,[],y,rfl,hy,rfl,hS⟩
 ·intro j S' ⟨hj,t0,t6,t7,vs,y',hvl,hyl,hrep,hE⟩
  obtain⟨t2,t4,t5,m10,m2,m5,a36⟩:=hE
  obtain⟨u,b⟩:=y'
  simp only[go_sem] at m10
  have fin:(m≤j∨b=true)→∀(ρ':Nat→V),(∀i,i≠28→ρ' i=S'.ρ i)→Q .norm ⟨ρ',S'.μ,S'.A⟩:=fun hs ρ' hρ=>by
   have he:=YcG hrep hs;rw[he] at hq;exact hq _ ⟨(hρ 2 (by omega)).trans t2,(hρ 4 (by omega)).trans t4,(hρ 5 (by omega)).trans t5,m10,m2,m5,a36⟩ ((hρ 0 (by omega)).trans t0)
  cases c1:decide ((j:Int)<(m:Int)) with
  |false=>
   have hjm:m≤j:=by have:=Gb c1;omega
   simp only[go_sem,t6,t7,c1]
   exact fin (.inl hjm) _ fun i hi=>Jfj (by simpa using hi)
  |true=>
   cases b with
   |true=>
    simp only[go_sem,t4,t6,t7,m10,c1]
    exact fin (.inr rfl) _ fun i hi=>Jfj (by simpa using hi)
   |false=>
    have hlt:=Ye c1
    have hone:=repD_one hlt rfl hrep
    have hjl:vs.length+1≤2 ^ 21:=by
     have:=G5 (fun p=>p.1.length) hone;simp only[Gc,List.length_singleton] at this;omega
    have hinc:=inc64q (i:=j) (by omega)
    have k1:=K436 h436 (u,false) hyl
    have l1:=Gi ((cSh (D:=true)).len (u,false)) hyl
    generalize gSh true (u,false)=p1 at *
    obtain⟨b1,x1⟩:=p1
    simp only at hone l1
    have r1:=fun (S:St) (hm:S.μ 10=some (eRd (u,false),false))=>Qb (p:=20300) k1 hm
    have ha:=fun S=>YV (S:=S) (s:=36) (z:=17) (r:=Yac b1) (n:=vs.length) (rows:=vs.map Yac) (by simp) (by unfold lim;omega)
    have v5:=m5
    simp only[clP] at v5
    simp only[go_sem] at r1 ha
    simp only[go_sem,t4,t5,t6,t7,c1,m10,v5,a36,r1,YI,ha,hinc,JhU]
    exact⟨j+1,by omega,by omega,t0,rfl,vs++[b1],x1,by simp[hvl],l1,hone,by simp only[go_sem,t2],by simp only[go_sem,t4],by simp only[go_sem,t5],by simp only[go_sem],by simp only[go_sem,m2],by simp only[go_sem,Gc]<;>rfl,by simp only[go_sem,Gw,Gc]<;>rfl⟩
def Ycq (o:Option Cel):V:=match o with
 |some c=>.tuple [.agg (Ydq c),.bool true]
 |none=>.tuple [.agg [.slice 17 [],iz 0,iz 0,iz 0,iz 0],.bool false]
def H411 (Pg:PgT):Prop:=Pg 411=some (.code F411)∧H434 Pg∧H435 Pg∧H436 Pg∧H246 Pg∧H424 Pg
theorem K411g (h:H411 Pg) (t:List UInt8) (ht:t.length≤2 ^ 20) (hts:(gC true (t,false)).2.2=false→SmC (gC true (t,false)).1):K' Pg 411 [.str t]=some (Ycq (tkC t)):=by
 obtain⟨h,h434,h435,h436,h246,h424⟩:=h;have hR:∀{a:Stamp} {n m:Nat} {x1 x2 x3:Rd},cu tkS zS (t,false)=(a,x1)→cu (tk 9) 0 x1=(n,x2)→cu (tk 9) 0 x2=(m,x3)→
   gC true (t,false)=(mkC (a,n,(YE (gSh true) m x3).1),(YE (gSh true) m x3).2):=by
  intro a n m x1 x2 x3 e1 e2 e3
  have d1:gN true=cu (tk 9) 0:=rfl
  have d3:gS true=cu tkS zS:=rfl
  have d4:gL true (gSh true)=lstD (gSh true):=rfl
  simp only[gC,mapR,pairR,d1,d3,d4,e1,e2,e3,lstD]
 have k1:=K434 h434 (t,false) (by simp only;omega);have l1:=(cS (D:=true)).len (t,false);change (cu tkS zS (t,false)).2.1.length≤t.length at l1;cases e1:cu tkS zS (t,false) with
 |mk a x1=>
 rw[e1] at k1 l1;simp only at k1 l1;have k2:=K435 h435 x1 (by omega);have l2:=YaJ.len x1;cases e2:cu (tk 9) 0 x1 with
 |mk n x2=>
 rw[e2] at k2 l2;simp only at k2 l2;have k3:=K435 h435 x2 (by omega);have l3:=YaJ.len x2;cases e3:cu (tk 9) 0 x2 with
 |mk m y=>
 rw[e3] at k3 l3;simp only at k3 l3;have hg:=hR e1 e2 e3;have e0:=tkC_doc (t:=t);rw[←e0];rw[hg] at hts ⊢;clear e0;generalize hD:YE (gSh true) m y=pD at *
 obtain⟨sh,u,b⟩:=pD;simp only at hg hts ⊢;refine Qa h rfl ?_;have r1:=fun (S:St) (hm:S.μ 10=some (eRd (t,false),false))=>Qb (p:=20000) k1 hm;have r2:=fun (S:St) (hm:S.μ 10=some (eRd x1,false))=>Qb (p:=20100) k2 hm;have r3:=fun (S:St) (hm:S.μ 10=some (eRd x2,false))=>Qb (p:=20200) k3 hm;simp only[go_sem,eSt] at r1 r2 r3;simp only[F411,c411,go_sem,r1,r2,r3];refine Yiu (tt:=t) h436 (y:=y) (m:=m) (t:=a) (d:=n) (by omega) ⟨by simp only[go_sem],by simp only[go_sem],by simp only[go_sem],by simp only[go_sem],by simp only[go_sem],by simp only[go_sem]<;>rfl,rfl⟩ (by simp only[go_sem]) (by simp only[go_sem]) (by simp only[go_sem]) fun S1 hE1 t0=>?_;rw[hD] at hE1;obtain⟨t2,t4,t5,m10,m2,m5,a36⟩:=hE1;simp only at m10 a36 m5;have hc1:=Yq a36 (by simp);simp only[clP] at m5;simp only[go_sem] at m10;cases b with
 |true=>
  rw[Gv (by simp)];simp only[go_sem,t2,t4,m10,m2,Ycq]
 |false=>
  have k246:=K246 h246 (mkC (a,n,sh)) (hts rfl);cases c3:Yam (mkC (a,n,sh)) with
  |false=>
   rw[c3] at k246;rw[Gv (by simp)];simp only[go_sem,mkC] at k246;simp only[go_sem,t2,t4,t5,m10,m2,m5,hc1,k246,Ycq]
  |true=>
   rw[c3] at k246;have k424:=K424 h424 (mkC (a,n,sh)) c3;simp only[go_sem,mkC] at k246 k424;cases c4:decide (cB ⟨sh,a,(n:Int)⟩=t) with
   |false=>
    rw[Gv (by simpa [mkC] using Gb c4)];simp only[go_sem,t0,t2,t4,t5,m10,m2,m5,hc1,k246,k424,c4,Ycq]
   |true=>
    rw[GB ⟨rfl,rfl,by simpa [mkC] using Gg c4⟩];simp only[go_sem,t0,t2,t4,t5,m10,m2,m5,hc1,k246,k424,c4,Ycq,mkC]
theorem K411 (h:H411 Pg) (t:List UInt8) (ht:t.length≤10000):K' Pg 411 [.str t]=some (Ycq (tkC t)):=K411g h t (by omega) fun hb=>by
 cases hg:gC true (t,false) with
 |mk c y=>
 obtain⟨u,b⟩:=y;rw[hg] at hb;simp only at hb;subst hb;obtain⟨g1,g2⟩:=(cC (D:=true)).get hg;have:=G5 List.length g1;rw[Gc] at this;exact Yfg (c:=c) g2 (by omega)
def H425 (Pg:PgT):Prop:=Pg 425=some (.code F425)∧H411 Pg
theorem K425 (h:H425 Pg) (t:List UInt8) (ht:t.length≤10000):K' Pg 425 [.str t]=some (Ycq (tkC t)):=by
 obtain⟨h,h411⟩:=h;have k:=K411 h411 t ht;refine Qa h rfl ?_;cases e:tkC t with
 |none=>
  rw[e] at k;simp only[Ycq] at k ⊢;simp only[F425,c425,go_sem,k]
 |some c=>
  rw[e] at k;simp only[Ycq] at k ⊢;simp only[go_sem] at k;simp only[F425,c425,go_sem,k]
structure Msg where
 kind:Int
 from_:Int
 to:Int
 shard:Int
 epoch:Int
 move:Int
 lease:Int
 n:Int
 of_:Int
 at_:Stamp
 text:List UInt8
 req:Rq
 ans:Ans
 places:List Place
 mem:List Int
@[go_sem] def Yaa (m:Msg):List V:=[iz m.kind,iz m.from_,iz m.to,iz m.shard,iz m.epoch,iz m.move,iz m.lease,iz m.n,iz m.of_,iz m.at_.wall,iz m.at_.tick,iz m.at_.node,.str m.text,iz m.req.client,iz m.req.req,iz m.req.kind,.str m.req.key,.str m.req.value,.bool m.req.had,.str m.req.old,iz m.req.at_.wall,iz m.req.at_.tick,iz m.req.at_.node,.str m.req.hi,iz m.req.limit,iz m.ans.err,iz m.ans.at_.wall,iz m.ans.at_.tick,iz m.ans.at_.node,.bool m.ans.found,.str m.ans.val,YU m.ans.items,.str m.ans.next,.bool m.ans.more,YC m.places,Yf m.mem]
@[go_sem] def Ycy (l:List Msg):V:=.slice 36 (l.map Yaa)
def SmM (m:Msg):Prop:=m.ans.items.length≤10000∧m.places.length≤10000∧m.mem.length≤10000
def H372 (Pg:PgT):Prop:=Pg 372=some (.code F372)∧H101 Pg∧H153 Pg
theorem K372 (h:H372 Pg) (m:Msg) (hm:SmM m):K' Pg 372 [.agg (Yaa m),.agg (Yaa m)]=some (.bool true):=by
 obtain⟨h,h101,h153⟩:=h;have k101:=K101 h101 m.ans (by have:=hm.1;omega);have k153:=K153 h153 m.places (by have:=hm.2.1;omega);have hl:m.mem.length<2 ^ 60:=by have:=hm.2.2;omega
 simp only[YcK,YU,YC] at k101 k153;clear hm h101 h153;refine Qa h rfl ?_;simp only[go_sem];unfold l372_0;refine JiY (fun (i:Nat) S=>i≤m.mem.length∧S.ρ 2=.lref 2 0∧S.μ 2=some (Yaa m,false)∧S.ρ 3=.lref 3 0∧S.μ 3=some (Yaa m,false)∧S.ρ 5=iz i) (fun i=>m.mem.length-i) 0 ?_ ?_
 ·simp[go_sem]
 ·intro i S ⟨hi,s2,m2,s3,m3,s5⟩;simp only[go_sem,s2,m2,s5];refine JiZ (fun h=>?_) (fun h=>?_)
  ·have h:=Ye h;obtain⟨x,hx,hd⟩:=JiF h;simp only[go_sem,s2,m2,s3,m3,s5,hx];exact⟨i+1,by omega,by omega,by rw[Yi h hl]⟩
  ·simp only[go_sem,s2,m2,s3,m3,k101,k153,beq_self_eq_true]
def H360 (Pg:PgT):Prop:=Pg 360=some (.code F360)∧H372 Pg
theorem K360 (h:H360 Pg) (l:List Msg) (hl:l.length≤10000) (hm:∀m∈l,SmM m):K' Pg 360 [Ycy l,Ycy l]=some (.bool true):=by
 obtain⟨h,h372⟩:=h;have k372:∀m∈l,K' Pg 372 [.agg (Yaa m),.agg (Yaa m)]=some (.bool true):=fun m h=>K372 h372 m (hm m h);simp only[Yaa,YU,YC,Yf] at k372;refine Qa h rfl ?_;simp only[go_sem];unfold l360_0;refine JiY (fun (i:Nat) S=>i≤l.length∧S.ρ 0=Ycy l∧S.ρ 1=Ycy l∧S.ρ 5=iz i) (fun i=>l.length-i) 0 ?_ ?_
 ·simp[go_sem]
 ·intro i S ⟨hi,s0,s1,s5⟩;simp only[go_sem,s0,s5];refine JiZ (fun h=>?_) (fun h=>?_)
  ·have h:=Ye h;obtain⟨x,hx,hd⟩:=JiF h;have k:=k372 x (List.mem_of_getElem? hx);simp only[go_sem,s0,s1,s5,hx,k];exact⟨i+1,by omega,by omega,by rw[Yi h (by omega)]⟩
  ·simp only[go_sem]
def YbM (m:Msg):Bool:=(!decide (m.kind<1)&&(!decide (37<m.kind)&&(!decide (m.ans.err<0)&&(!decide (16<m.ans.err)&&(!decide (8<(m.ans.items.length:Int))&&(!decide (8<(m.places.length:Int))&&!decide (8<(m.mem.length:Int))))))))&&(([m.kind,m.from_,m.to,m.shard,m.epoch,m.move,m.lease,m.n,m.of_,m.req.client,m.req.req,m.req.kind,m.req.limit]++(m.places.flatMap fun p=>[p.shard,p.cell,p.epoch])++m.mem).all Yu&&(Ya m.at_&&(Ya m.req.at_&&Ya m.ans.at_)))
def Ydm (m:Msg):List Int:=[m.kind,m.from_,m.to,m.shard,m.epoch,m.move,m.lease,m.n,m.of_,m.req.client,m.req.req,m.req.kind,m.req.limit]
def YbU (l:List Place):List Int:=l.flatMap fun p=>[p.shard,p.cell,p.epoch]
def Yb7 (m:Msg):List Int:=Ydm m++YbU m.places++m.mem
theorem Yg6 {l:List Place} {i:Nat} {x:Place} (h:l[i]?=some x):YbU (l.take (i+1))=YbU (l.take i)++[x.shard,x.cell,x.epoch]:=by
 rw[YB h];simp[YbU]
theorem YcS (l:List Place):(YbU l).length=3*l.length:=by
 induction l with
 |nil=>rfl
 |cons x l ih=>
  have:YbU (x::l)=[x.shard,x.cell,x.epoch]++YbU l:=by simp[YbU]
  rw[this,Gc,ih];simp;omega
def H366 (Pg:PgT):Prop:=Pg 366=some (.code F366)
theorem K366 (h:H366 Pg) (m:Msg) (hp:m.places.length≤4194304) (hm:m.mem.length≤4194304):K' Pg 366 [.agg (Yaa m)]=some (Yf (Yb7 m)):=by
 refine Qa h rfl ?_;simp only[go_sem];unfold l366_0;refine JiY (fun (i:Nat) S=>i≤m.places.length∧S.ρ 1=.lref 1 0∧S.μ 1=some (Yaa m,false)∧S.ρ 3=.own 36 1 (13+3*i)∧S.A 36=some (1,(Ydm m++YbU (m.places.take i)).map (fun a=>[iz a]),.live)∧S.μ 5=none∧S.ρ 38=YC m.places∧S.ρ 39=iz m.places.length∧S.ρ 40=iz i) (fun i=>m.places.length-i) 0 ?_ ?_
 ·simp[go_sem,Ydm,YbU]
 ·intro i S ⟨hi,s1,m1,s3,a36,m5,s38,s39,s40⟩;simp only[go_sem,s39,s40];refine JiZ (fun hlt=>?_) (fun hlt=>?_)
  ·have hlt:=Ye hlt;obtain⟨x,hx,-⟩:=JiF hlt;have hl:(Ydm m).length+(YbU (m.places.take i)).length=13+3*i:=by
    rw[YcS,GR];have:(Ydm m).length=13:=rfl;omega
   have hlim:13+3*i+3≤lim:=by simp only[lim];omega
   simp only[go_sem,s1,m1,s3,a36,m5,s38,s39,s40,hx,hl,hlim,Gf];exact⟨i+1,by omega,by omega,by congr 1,by rw[Yg6 hx];simp,by rw[Yi hlt (by omega)]⟩
  ·have hlt:=Ym hi hlt;subst hlt;rw[Gy] at a36;have hl:(Ydm m).length+(YbU m.places).length=13+3*m.places.length:=by rw[YcS];rfl
   have hlim:13+3*m.places.length+m.mem.length≤lim:=by simp only[lim];omega
   simp only[go_sem,s1,m1,s3,a36,hl,hlim,Gf,Yb7,Gw]
def H367 (Pg:PgT):Prop:=Pg 367=some (.code F367)
theorem K367 (h:H367 Pg) (n:Int):K' Pg 367 [iz n]=some (.bool (decide (n<0)||decide (1099511627776<n))):=by
 refine Qa h rfl ?_;cases c:decide (n<0)<;>simp only[go_sem,c]
def H341 (Pg:PgT):Prop:=Pg 341=some (.code F341)∧H28 Pg∧H67 Pg∧H366 Pg∧H367 Pg
theorem K341w (h:H341 Pg) (m:Msg) (hm:m.places.length≤4194304∧m.mem.length≤4194304):K' Pg 341 [.agg (Yaa m)]=some (.bool (YbM m)):=by
 obtain⟨h,h28,h67,h366,h367⟩:=h;obtain⟨hp,hmm⟩:=hm;have k366:=K366 h366 m hp hmm;have k67:=K67 h67 (Yb7 m) 367 [] (fun n=>decide (n<0)||decide (1099511627776<n)) (by
  unfold Yb7;rw[Gc,Gc,YcS];have:(Ydm m).length=13:=rfl;omega) rfl (fun x _=>K367 h367 x)
 have e:(Yb7 m).any (fun n=>decide (n<0)||decide (1099511627776<n))=!(Yb7 m).all Yu:=by
  have:=YdG (m:=0) (l:=Yb7 m);have ef:(fun n=>Yu n)=frQ 0:=rfl
  show _=!(Yb7 m).all (frQ 0)
  rw[←this,Bool.not_not]
 rw[e] at k67;have k28a:=K28 h28 m.at_;have k28b:=K28 h28 m.req.at_;have k28c:=K28 h28 m.ans.at_;have hq:YbM m=((!decide (m.kind<1)&&(!decide (37<m.kind)&&(!decide (m.ans.err<0)&&(!decide (16<m.ans.err)&&(!decide (8<(m.ans.items.length:Int))&&(!decide (8<(m.places.length:Int))&&!decide (8<(m.mem.length:Int))))))))&&((Yb7 m).all Yu&&(Ya m.at_&&(Ya m.req.at_&&Ya m.ans.at_)))):=rfl;rw[hq];generalize (Yb7 m).all Yu=nq at k67 ⊢;generalize Yb7 m=nl at k366 k67;simp only[Yf,Yd,Yaa,YU,YC] at k366 k67 k28a k28b k28c;clear hp hmm e hq h28 h67 h366 h367;refine Qa h rfl ?_;clear h;cases c1:decide (m.kind<1) with
 |true=>simp only[go_sem,c1]
 |false=>
 cases c2:decide (37<m.kind) with
 |true=>simp only[go_sem,c1,c2]
 |false=>
 cases c3:decide (m.ans.err<0) with
 |true=>simp only[go_sem,c1,c2,c3]
 |false=>
 cases c4:decide (16<m.ans.err) with
 |true=>simp only[go_sem,c1,c2,c3,c4]
 |false=>
 cases c5:decide (8<(m.ans.items.length:Int)) with
 |true=>simp only[go_sem,c1,c2,c3,c4,c5]
 |false=>
 cases c6:decide (8<(m.places.length:Int)) with
 |true=>simp only[go_sem,c1,c2,c3,c4,c5,c6]
 |false=>
 cases c7:decide (8<(m.mem.length:Int)) with
 |true=>simp only[go_sem,c1,c2,c3,c4,c5,c6,c7]
 |false=>
 cases nq with
 |false=>simp only[go_sem,c1,c2,c3,c4,c5,c6,c7,k366,k67]
 |true=>
 cases c8:Ya m.at_ with
 |false=>simp only[go_sem,c1,c2,c3,c4,c5,c6,c7,k366,k67,k28a,c8]
 |true=>
 cases c9:Ya m.req.at_ with
 |false=>simp only[go_sem,c1,c2,c3,c4,c5,c6,c7,k366,k67,k28a,k28b,c8,c9]
 |true=>simp only[go_sem,c1,c2,c3,c4,c5,c6,c7,k366,k67,k28a,k28b,k28c,c8,c9]
theorem K341 (h:H341 Pg) (m:Msg) (hm:SmM m):K' Pg 341 [.agg (Yaa m)]=some (.bool (YbM m)):=K341w h m ⟨by have:=hm.2.1;omega,by have:=hm.2.2;omega⟩
structure Own where
 cell:Int
 rep:Rep
 outs:List Msg
structure Sto where
 id:Int
 owns:List Own
@[go_sem] def Ya6 (o:Own):List V:=[iz o.cell,iz o.rep.id,iz o.rep.view,Yf o.rep.members,iz o.rep.n,.str o.rep.base,.str o.rep.text,Yf o.rep.acks,Ycy o.outs]
@[go_sem] def Yhn (l:List Own):V:=.slice 9 (l.map Ya6)
@[go_sem] def Y7 (s:Sto):List V:=[iz s.id,Yhn s.owns]
theorem K398g {f:Nat} (h:Pg f=some (.code F398)) (s:Sto) (ho:s.owns.length≤1048576):K' Pg f [.agg (Y7 s)]=some (.agg (Y7 s)):=by
 refine Qa h rfl ?_;simp only[F398,c398,go_sem,Gf];unfold l398_0;refine JiY (fun (i:Nat) S=>i≤s.owns.length∧S.ρ 2=.lref 2 0∧S.ρ 3=.lref 3 0∧S.ρ 10=.slice 9 (s.owns.map Ya6)∧S.ρ 11=iz s.owns.length∧S.ρ 12=iz i∧S.μ 2=some ([iz 0,.slice 9 []],false)∧S.μ 3=some ([iz s.id,nilOr 26 9 i],false)∧S.μ 5=none∧S.A 26=YY 9 ((s.owns.take i).map Ya6) i) (fun i=>s.owns.length-i) 0 ?_ ?_
 ·refine⟨Gu _,JiJ (by simp only[go_sem]) rfl,JiJ (by simp only[go_sem]) rfl,JiJ (by simp only[go_sem]) rfl,JiJ (by simp only[go_sem]) rfl,JiJ (by simp only[go_sem]) rfl,JiI (by simp only[go_sem]) rfl rfl,?_,JiH (.inr rfl),(Yv rfl).trans rfl⟩;rw[YcB rfl];simp only[go_sem];rfl
 ·intro i S ⟨hi,s2,s3,s10,s11,s12,m2,m3,m5,a26⟩;cases c1:decide ((i:Int)<(s.owns.length:Int)) with
  |false=>
   have hil:i=s.owns.length:=by have:=Gb c1;omega
   rw[hil,Gy] at a26;rw[hil] at m3;have hc:=Yq a26 (by simp);simp only[go_sem,s2,s3,s11,s12,m2,m3,c1,hc]
  |true=>
   have hlt:=Ye c1;obtain⟨o,hn,-⟩:=JiF hlt;have hinc:=inc64q (i:=i) (by omega)
   have ha:=fun S=>YV (S:=S) (s:=26) (z:=9) (r:=Ya6 o) (n:=i) (rows:=(s.owns.take i).map Ya6) (by simp;omega) (by unfold lim;omega);have htk:s.owns.take (i+1)=s.owns.take i++[o]:=YB hn;simp only[go_sem] at ha;simp only[go_sem,s2,s3,s10,s11,s12,m2,m3,m5,a26,c1,hn,YI,ha,hinc];exact⟨i+1,by omega,by omega,rfl,rfl,by rw[htk,Gw];rfl⟩
def RepOk (r:Rep):Prop:=r.members.length≤10000∧r.acks.length≤10000
theorem RepOk.ok {r:Rep} (h:RepOk r):r.Ok:=⟨by have:=h.1;omega,by have:=h.2;omega⟩
def YiI (o:Own):Prop:=RepOk o.rep∧o.outs.length≤10000∧∀m∈o.outs,SmM m
def YbS (s:Sto):Prop:=s.owns.length≤10000∧∀o∈s.owns,YiI o
def H399 (Pg:PgT):Prop:=Pg 399=some (.code F399)∧H45 Pg∧H360 Pg
theorem K399 (h:H399 Pg) (s:Sto) (hs:YbS s):K' Pg 399 [.agg (Y7 s),.agg (Y7 s)]=some (.bool true):=by
 obtain⟨h,h45,h360⟩:=h;obtain⟨hl,ho⟩:=hs;refine Qa h rfl ?_;simp only[F399,c399,go_sem,Gf];unfold l399_0;refine JiY (fun (i:Nat) S=>i≤s.owns.length∧S.ρ 2=.lref 2 0∧S.ρ 3=.lref 3 0∧S.μ 2=some (Y7 s,false)∧S.μ 3=some (Y7 s,false)∧S.ρ 5=iz i) (fun i=>s.owns.length-i) 0 ?_ ?_
 ·simp[go_sem]
 ·intro i S ⟨hi,s2,s3,m2,m3,s5⟩;have m2':=m2;have m3':=m3;simp only[go_sem] at m2' m3';cases c1:decide ((i:Int)<(s.owns.length:Int)) with
  |false=>simp only[go_sem,s2,m2',s5,c1,Gf]
  |true=>
   have hlt:=Ye c1;obtain⟨o,hn,-⟩:=JiF hlt;have hinc:=inc64q (i:=i) (by omega)
   obtain⟨o1,o2,o3⟩:=ho o (List.mem_of_getElem? hn);have k45:=K45 h45 o.rep o1.ok;have k360:=K360 h360 o.outs o2 o3;simp only[Yx,Yf,Ycy] at k45 k360;simp only[go_sem,s2,s3,m2',m3',s5,c1,hn,k45,k360,hinc,Gf];exact⟨i+1,by omega,by omega,rfl⟩
theorem Ya4 {α:Type} {p:α→Bool} {l:List α} {i:Nat} {x:α} (h:l[i]?=some x) (hp:p x=false):l.all p=false:=by
 rw[List.all_eq_false];exact⟨x,List.mem_of_getElem? h,by simp[hp]⟩
theorem Ybw {α:Type} {p:α→Bool} {l:List α} {i:Nat} {x:α} (h:l[i]?=some x) (hp:p x=true) (ht:(l.take i).all p=true):(l.take (i+1)).all p=true:=by
 rw[YB h,List.all_append,ht];simp[hp]
def YaH {α:Type} (p:α→Bool):List α→Nat→Int
 |[],_=>-1
 |a::l,i=>if p a then i else YaH p l (i+1)
theorem Yec {α:Type} {p:α→Bool}:∀{l:List α} {i:Nat},decide (0≤YaH p l i)=l.any p
 |[],i=>by simp[YaH]
 |a::l,i=>by
  simp only[YaH];split
  ·rename_i h;simp[h]
  ·rename_i h;rw[Yec];simp[h]
def H468 (Pg:PgT):Prop:=Pg 468=some (.code F468)
theorem K468 (h:H468 Pg) (l:List Msg) (g:Nat) (cap:List V) (p:Msg→Bool) (hl:l.length<2 ^ 60) (hg:∀x∈l,K' Pg g (.agg (Yaa x)::cap)=some (.bool (p x))) :
  K' Pg 468 [.slice 36 (l.map Yaa),.func g cap]=some (iz (YaH p l 0)):=by
 refine Qa h rfl ?_
 simp only[F468,c468,go_sem,Gf]
 unfold l468_0
 refine JiY (fun (i:Nat) S=>i≤l.length∧S.ρ 0=.slice 36 (l.map Yaa)∧S.ρ 1=.func g cap∧S.ρ 7=iz l.length∧S.ρ 8=iz i∧YaH p (l.drop i) i=YaH p l 0) (fun i=>l.length-i) 0 ?_ ?_
 ·simp[go_sem]
 ·intro i S ⟨hi,h0,h1,h7,h8,ho⟩
  simp only[go_sem,h7,h8]
  refine JiZ (fun h=>?_) (fun h=>?_)
  ·have h:=Ye h
   obtain⟨x,hx,hd⟩:=JiF h
   rw[hd] at ho
   have hgx:=hg x (List.mem_of_getElem? hx)
   simp only[go_sem] at hgx
   simp only[go_sem,h0,h1,h8,hx,hgx]
   refine JiZ (fun hc=>?_) (fun hc=>?_)
   ·simp only[YaH,hc,GO] at ho
    simp only[go_sem,←ho]
   ·simp only[YaH,hc,Gx,GN] at ho
    simp only[go_sem,h0,h1,h7,h8]
    exact⟨i+1,by omega,by omega,by rw[Yi h hl],ho⟩
  ·have h:=Ym hi h
   subst h
   simp only[GF,YaH] at ho
   simp only[go_sem,←ho]
def Yd3 (r:Rep):Bool:=Yj r&&!YaF r
def H426 (Pg:PgT):Prop:=Pg 426=some (.code F426)∧H38 Pg∧H42 Pg
theorem K426 (h:H426 Pg) (r:Rep) (hr:RepOk r):K' Pg 426 [.agg (Yx r)]=some (.bool (Yd3 r)):=by
 obtain⟨h,h38,h42⟩:=h;have k38:=K38 h38 r;have k42:=K42 h42 r hr.ok;simp only[Yx,Yf] at k38 k42;refine Qa h rfl ?_;cases c1:Yj r<;>rw[c1] at k38<;>simp only[F426,c426,go_sem,k38,k42,Yd3,c1]
theorem Yct {r:Rep}:YZ r=(rightB r&&Yd3 r):=rfl
def YaG (t:List UInt8):Bool:=(tkC t).isSome
def H430 (Pg:PgT):Prop:=Pg 430=some (.code F430)∧H428 Pg
theorem K430 (h:H430 Pg) (t:List UInt8) (ht:t.length≤10000):K' Pg 430 [.str t]=some (.bool (YaG t)):=by
 obtain⟨h,h428⟩:=h;have k:=K428 h428 t ht;refine Qa h rfl ?_;unfold YaG;cases e:tkC t with
 |none=>
  rw[e] at k;simp only[Yd6] at k;simp only[F430,c430,go_sem,k,Option.isSome_none]
 |some c=>
  rw[e] at k;simp only[Yd6] at k;simp only[go_sem] at k;simp only[F430,c430,go_sem,k,Option.isSome_some]
def Ycu (c:Int):Bool:=decide (1≤c)&&decide (c≤3)
def H368 (Pg:PgT):Prop:=Pg 368=some (.code F368)
theorem K368 (h:H368 Pg) (c:Int):K' Pg 368 [iz c]=some (.bool (Ycu c)):=by
 refine Qa h rfl ?_;cases c1:decide (1≤c)<;>simp only[F368,c368,go_sem,c1,Ycu]
def outQ (id:Int) (m:Msg):Bool:=YbM m&&decide (m.from_=id)
def H431 (Pg:PgT):Prop:=Pg 431=some (.code F431)∧H341 Pg
theorem K431 (h:H431 Pg) (m:Msg) (s:Sto) (hm:SmM m):K' Pg 431 [.agg (Yaa m),.cptr (Y7 s) 0]=some (.bool (!outQ s.id m)):=by
 obtain⟨h,h341⟩:=h;have k:=K341 h341 m hm;simp only[Yaa,YU,YC,Yf] at k;refine Qa h rfl ?_;cases c1:YbM m<;>rw[c1] at k<;>simp only[F431,c431,go_sem,k,outQ,c1]
def H432 (Pg:PgT):Prop:=Pg 432=some (.code F432)∧H468 Pg
theorem K432 (h:H432 Pg) (l:List Msg) (g:Nat) (cap:List V) (p:Msg→Bool) (hl:l.length<2 ^ 60) (hg:∀x∈l,K' Pg g (.agg (Yaa x)::cap)=some (.bool (p x))) :
  K' Pg 432 [Ycy l,.func g cap]=some (.bool (l.any p)):=by
 obtain⟨h,h468⟩:=h
 have k:=K468 h468 l g cap p hl hg
 simp only[Ycy]
 refine Qa h rfl ?_
 simp only[F432,c432,go_sem,k,Yec]
def ownQ1 (id last:Int) (o:Own):Bool:=!decide (o.cell≤last)&&(Ycu o.cell&&(decide (o.rep.id=id)&&(rightB o.rep&&(YaG o.rep.base&&YaG o.rep.text))))
def YbD (id:Int) (o:Own):Bool:=(decide ((o.outs.length:Int)≤0)||YZ o.rep)&&o.outs.all (outQ id)
def YaN (id last:Int) (o:Own):Bool:=ownQ1 id last o&&YbD id o
def Ya7 (id:Int):Int→List Own→Bool
 |_,[]=>true
 |last,o::l=>YaN id last o&&Ya7 id o.cell l
def idQ (id:Int):Bool:=decide (1≤id)&&decide (id≤3)
def Yba (s:Sto):Bool:=Ya7 s.id 0 s.owns&&idQ s.id
theorem YgN {id:Int} {l:List Msg}:(l.any fun m=>!outQ id m)=!l.all (outQ id):=by
 induction l with
 |nil=>rfl
 |cons a l ih=>simp only[List.any_cons,List.all_cons,ih,Bool.not_and]
def TxOk (s:Sto):Prop:=∀o∈s.owns,o.rep.base.length≤10000∧o.rep.text.length≤10000
def H408 (Pg:PgT):Prop:=Pg 408=some (.code F408)∧H368 Pg∧H39 Pg∧H430 Pg∧H41 Pg∧H431 Pg∧H432 Pg
theorem K408g (h:H408 Pg) (s:Sto) (hs:YbS s) (hk:∀o∈s.owns,K' Pg 430 [.str o.rep.base]=some (.bool (YaG o.rep.base))∧K' Pg 430 [.str o.rep.text]=some (.bool (YaG o.rep.text))):K' Pg 408 [.agg (Y7 s)]=some (.bool (Yba s)):=by
 obtain⟨h,h368,h39,h430,h41,h431,h432⟩:=h;obtain⟨hl,ho⟩:=hs;refine Qa h rfl ?_;simp only[F408,c408,go_sem,Gf];unfold l408_0;refine JiY (fun (p:Nat×Int×Bool) S=>p.1≤s.owns.length∧S.ρ 1=.lref 1 0∧S.μ 1=some (Y7 s,p.2.2)∧S.ρ 3=iz p.2.1∧S.ρ 7=.slice 9 (s.owns.map Ya6)∧S.ρ 8=iz s.owns.length∧S.ρ 9=iz p.1∧S.μ 5=none∧Ya7 s.id p.2.1 (s.owns.drop p.1)=Ya7 s.id 0 s.owns) (fun p=>s.owns.length-p.1) (0,0,false) ?_ ?_
 ·refine⟨Gu _,?_⟩;simp[go_sem]
 ·intro p S ⟨hi,s1,m1,s3,s7,s8,s9,m5,hq⟩;obtain⟨i,last,fz⟩:=p;simp only at hi m1 s3 s9 hq;simp only[go_sem] at m1;cases c1:decide ((i:Int)<(s.owns.length:Int)) with
  |false=>
   have hil:i=s.owns.length:=by have:=Gb c1;omega
   subst hil;simp only[GF,Ya7] at hq;have hr:Yba s=idQ s.id:=by simp only[Yba,←hq,Gn]
   rw[hr];cases c2:decide (1≤s.id)<;>simp only[go_sem,s1,m1,s8,s9,c1,c2,idQ]
  |true=>
   have hlt:=Ye c1;obtain⟨o,hn,hd⟩:=JiF hlt;have hinc:=inc64q (i:=i) (by omega)
   obtain⟨o1,o2,o3⟩:=ho o (List.mem_of_getElem? hn);obtain⟨kb,kt⟩:=hk o (List.mem_of_getElem? hn);rw[hd,Ya7] at hq;have k368:=K368 h368 o.cell;have k39:=K39 h39 o.rep o1.ok;have k41:=K41 h41 o.rep o1.ok;have k432:=K432 h432 o.outs 431 [.cptr (Y7 s) 0] (fun m=>!outQ s.id m) (by omega) fun m hm=>K431 h431 m s (o3 m hm);rw[YgN] at k432;simp only[Yx,Yf,Ycy,Y7,Yhn] at k39 k41 k432;have bad:YaN s.id last o=false→Yba s=false:=fun hb=>by
    rw[hb,Gj] at hq;simp only[Yba,←hq,Gj]
   cases d1:decide (o.cell≤last) with
   |true=>
    have:=bad (by simp only[YaN,ownQ1,d1,GI,Gj]);simp only[go_sem,s3,s7,s8,s9,m5,c1,hn,this,d1]
   |false=>
   cases d2:Ycu o.cell with
   |false=>
    have:=bad (by simp only[YaN,ownQ1,d2,Gj,Gm]);rw[d2] at k368;simp only[go_sem,s3,s7,s8,s9,m5,c1,hn,this,d1,k368]
   |true=>
   rw[d2] at k368;cases d3:decide (o.rep.id=s.id) with
   |false=>
    have:=bad (by simp only[YaN,ownQ1,d3,Gj,Gm]);simp only[go_sem,s1,m1,s3,s7,s8,s9,m5,c1,hn,this,d1,k368,d3]
   |true=>
   cases d4:rightB o.rep with
   |false=>
    have:=bad (by simp only[YaN,ownQ1,d4,Gj,Gm]);rw[d4] at k39;simp only[go_sem,s1,m1,s3,s7,s8,s9,m5,c1,hn,this,d1,k368,d3,k39]
   |true=>
   rw[d4] at k39;cases d5:YaG o.rep.base with
   |false=>
    have:=bad (by simp only[YaN,ownQ1,d5,Gj,Gm]);rw[d5] at kb;simp only[go_sem,s1,m1,s3,s7,s8,s9,m5,c1,hn,this,d1,k368,d3,k39,kb]
   |true=>
   rw[d5] at kb;cases d6:YaG o.rep.text with
   |false=>
    have:=bad (by simp only[YaN,ownQ1,d6,Gj,Gm]);rw[d6] at kt;simp only[go_sem,s1,m1,s3,s7,s8,s9,m5,c1,hn,this,d1,k368,d3,k39,kb,kt]
   |true=>
   rw[d6] at kt;have h1:ownQ1 s.id last o=true:=by simp only[ownQ1,d1,d2,d3,d4,d5,d6,GJ,GW]
   have go:YbD s.id o=true→Ya7 s.id o.cell (s.owns.drop (i+1))=Ya7 s.id 0 s.owns:=fun h2=>by
    rw[←hq];simp only[YaN,h1,h2,Gn]
   have e1:decide (0<(o.outs.length:Int))=!decide ((o.outs.length:Int)≤0):=by
    by_cases hz:(o.outs.length:Int)≤0
    ·rw[GA hz,Gp (by omega)];rfl
    ·rw[Gp hz,GA (by omega)];rfl
   cases d7:decide ((o.outs.length:Int)≤0) with
   |true=>
    rw[d7] at e1;cases d8:o.outs.all (outQ s.id) with
    |false=>
     have:=bad (by simp only[YaN,YbD,d8,Gm]);rw[d8] at k432;simp only[go_sem,s1,m1,s3,s7,s8,s9,m5,c1,hn,this,d1,k368,d3,k39,kb,kt,e1,k432,Gf]
    |true=>
     have hgo:=go (by simp only[YbD,d7,d8,Gab,GW]);rw[d8] at k432;simp only[go_sem,s1,m1,s3,s7,s8,s9,m5,c1,hn,d1,k368,d3,k39,kb,kt,e1,k432,hinc,Gf];exact⟨(i+1,o.cell,_),by simp only;omega,by simp only;omega,rfl,rfl,rfl,hgo⟩
   |false=>
    rw[d7] at e1;cases d9:YZ o.rep with
    |false=>
     have:=bad (by simp only[YaN,YbD,d7,d9,G4,Gj,Gm]);rw[d9] at k41;simp only[go_sem,s1,m1,s3,s7,s8,s9,m5,c1,hn,this,d1,k368,d3,k39,kb,kt,e1,k41,Gf]
    |true=>
    rw[d9] at k41;cases d8:o.outs.all (outQ s.id) with
    |false=>
     have:=bad (by simp only[YaN,YbD,d8,Gm]);rw[d8] at k432;simp only[go_sem,s1,m1,s3,s7,s8,s9,m5,c1,hn,this,d1,k368,d3,k39,kb,kt,e1,k41,k432,Gf]
    |true=>
     have hgo:=go (by simp only[YbD,d8,d9,Bool.or_true,GW]);rw[d8] at k432;simp only[go_sem,s1,m1,s3,s7,s8,s9,m5,c1,hn,d1,k368,d3,k39,kb,kt,e1,k41,k432,hinc,Gf];exact⟨(i+1,o.cell,_),by simp only;omega,by simp only;omega,rfl,rfl,rfl,hgo⟩
theorem K408 (h:H408 Pg) (s:Sto) (hs:YbS s) (ht:TxOk s):K' Pg 408 [.agg (Y7 s)]=some (.bool (Yba s)):=
 K408g h s hs fun o ho=>⟨K430 h.2.2.2.1 _ (ht o ho).1,K430 h.2.2.2.1 _ (ht o ho).2⟩
theorem faL {a:Nat} {b:Fn} {l:List (Nat×Fn)} (h1:Pg a=some b) (h2:∀x∈l,Pg x.1=some x.2):∀x∈(a,b)::l,Pg x.1=some x.2:=List.forall_mem_cons.2 ⟨h1,h2⟩
end Sg
