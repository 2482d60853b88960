/- NodeTakes, at every input: proved over a checked abstract run of the translated code; no condition. A part. -/
import Derived.Test.YtdccphnkmcbjeaaGreatDoorNodeTakesA7
set_option linter.unusedSimpArgs false
set_option linter.unusedVariables false
set_option linter.constructorNameAsVariable false
set_option linter.defProp false
set_option maxRecDepth 10000
set_option maxHeartbeats 4000000
namespace Sg
open _root_.Go (IntKind BinOp UnOp)
variable {Pg:PgT}
def H515 (Pg:PgT):Prop:=Pg 515=some (.code F324)
theorem K435g {f:Nat} (h:Pg f=some (.codeR F435 0)) (hk:H470 Pg) (x:Rd) (hx:x.1.length<2 ^ 62):K' Pg f [.tuple (.lref 0 0::eRd x)]=some (.tuple [iz (cu (tk 9) 0 x).1,.tuple (eRd (cu (tk 9) 0 x).2)]):=by
 obtain⟨e,he,k⟩:=K470 hk x.1 hx;have hd:decide (e=0)=false:=Gp he;obtain⟨s,b⟩:=x;refine Y6 [.t 2] (ws:=[iz _]) h rfl rfl (Yr _) (Yr _) (Yat _) fun S ⟨r0,r,hm,m0,a0⟩=>?_;simp only[go_sem] at hm k;cases hq:(tk 9) s with
 |none=>
  rw[hq] at k;simp only[eTk] at k;cases b <;>
  ·simp only[F435,c435,go_sem,r0,hm,k,hd,cu,hq];exact⟨_,rfl,fun _=>rfl⟩
 |some q=>
  obtain⟨n,u⟩:=q;rw[hq] at k;simp only[eTk] at k;cases b <;>
  ·simp only[F435,c435,go_sem,r0,hm,k,cu,hq];exact⟨_,rfl,fun _=>rfl⟩
def H545 (Pg:PgT):Prop:=Pg 545=some (.codeR F435 0)∧H470 Pg
theorem Ydp (h:H545 Pg) (x:Rb):K' Pg 545 [.tuple (.lref 0 0::eR x)]=some (.tuple [iz ((uN true).v x),.tuple (eR ((uN true).n x))]):=
 (uN true).k (e:=fun a:Nat=>iz (a:Int)) (K435g h.1 h.2) x
theorem K471g {f:Nat} (h:Pg f=some (.codeR F471 0)) (hk:H494 Pg) (x:Rd) (hx:x.1.length<2 ^ 62):K' Pg f [.tuple (.lref 0 0::eRd x)]=some (.tuple [.str (cu tkT [] x).1,.tuple (eRd (cu tkT [] x).2)]):=by
 obtain⟨e,he,k⟩:=K494 hk x.1 hx;have hd:decide (e=0)=false:=Gp he;obtain⟨s,b⟩:=x;refine Y6 [.t 2] (ws:=[.str _]) h rfl rfl (Yr _) (Yr _) (Yat _) fun S ⟨r0,r,hm,m0,a0⟩=>?_;simp only[go_sem] at hm k;cases hq:tkT s with
 |none=>
  rw[hq] at k;simp only[Ycl] at k;cases b <;>
  ·simp only[F471,c471,go_sem,r0,hm,k,hd,cu,hq];exact⟨_,rfl,fun _=>rfl⟩
 |some q=>
  obtain⟨n,u⟩:=q;rw[hq] at k;simp only[Ycl] at k;cases b <;>
  ·simp only[F471,c471,go_sem,r0,hm,k,cu,hq];exact⟨_,rfl,fun _=>rfl⟩
def H547 (Pg:PgT):Prop:=Pg 547=some (.codeR F471 0)∧H494 Pg
theorem YdE (h:H547 Pg) (x:Rb):K' Pg 547 [.tuple (.lref 0 0::eR x)]=some (.tuple [.str ((uT true).v x),.tuple (eR ((uT true).n x))]):=
 (uT true).k (e:=fun a:List UInt8=>.str a) (K471g h.1 h.2) x
theorem K472g {f:Nat} (h:Pg f=some (.codeR F472 0)) (hk:H495 Pg) (x:Rd) (hx:x.1.length<2 ^ 62):K' Pg f [.tuple (.lref 0 0::eRd x)]=some (.tuple [.bool (cu tkF false x).1,.tuple (eRd (cu tkF false x).2)]):=by
 obtain⟨e,he,k⟩:=K495 hk x.1;have hd:decide (e=0)=false:=Gp he;obtain⟨s,b⟩:=x;refine Y6 [.t 2] (ws:=[.bool _]) h rfl rfl (Yr _) (Yr _) (Yat _) fun S ⟨r0,r,hm,m0,a0⟩=>?_;simp only[go_sem] at hm k;cases hq:tkF s with
 |none=>
  rw[hq] at k;simp only[Yck] at k;cases b <;>
  ·simp only[F472,c472,go_sem,r0,hm,k,hd,cu,hq];exact⟨_,rfl,fun _=>rfl⟩
 |some q=>
  obtain⟨n,u⟩:=q;rw[hq] at k;simp only[Yck] at k;cases b <;>
  ·simp only[F472,c472,go_sem,r0,hm,k,cu,hq];exact⟨_,rfl,fun _=>rfl⟩
def H549 (Pg:PgT):Prop:=Pg 549=some (.codeR F472 0)∧H495 Pg
theorem Yjz (h:H549 Pg) (x:Rb):K' Pg 549 [.tuple (.lref 0 0::eR x)]=some (.tuple [.bool ((uF true).v x),.tuple (eR ((uF true).n x))]):=
 (uF true).k (e:=fun a:Bool=>.bool a) (K472g h.1 h.2) x
theorem K434g {f:Nat} (h:Pg f=some (.codeR F434 0)) (hk:H469 Pg) (x:Rd) (hx:x.1.length<2 ^ 62):K' Pg f [.tuple (.lref 0 0::eRd x)]=some (.tuple [eSt (cu tkS zS x).1,.tuple (eRd (cu tkS zS x).2)]):=by
 obtain⟨e,he,k⟩:=K469 hk x.1 hx;have hd:decide (e=0)=false:=Gp he;obtain⟨s,b⟩:=x;refine Y6 [.cell 2 (some 3)] (ws:=[eSt _]) h rfl rfl (Yr _) (Yr _) (Yat _) fun S ⟨r0,r,hm,m0,a0⟩=>?_;have m2:=m0 2 rfl;have m3:=m0 3 rfl;simp only[go_sem] at hm k;cases hq:tkS s with
 |none=>
  rw[hq] at k;simp only[YbJ] at k;cases b <;>
  ·simp only[F434,c434,go_sem,r0,hm,k,hd,cu,hq,m2,m3,eSt,zS];exact⟨_,rfl,fun _=>rfl⟩
 |some q=>
  obtain⟨n,u⟩:=q;rw[hq] at k;simp only[YbJ,Yd] at k;cases b <;>
  ·simp only[F434,c434,go_sem,r0,hm,k,cu,hq,m2,m3,eSt];exact⟨_,rfl,fun _=>rfl⟩
def H550 (Pg:PgT):Prop:=Pg 550=some (.codeR F434 0)∧H469 Pg
theorem Yfe (h:H550 Pg) (x:Rb):K' Pg 550 [.tuple (.lref 0 0::eR x)]=some (.tuple [eSt ((uS true).v x),.tuple (eR ((uS true).n x))]):=
 (uS true).k (e:=fun a:Stamp=>eSt a) (K434g h.1 h.2) x
variable {α β:Type}
theorem Rb.ext' {x y:Rb} (h1:x.s=y.s) (h2:x.no=y.no):x=y:=by
 obtain⟨s,b,h⟩:=x;obtain⟨t,c,g⟩:=y;simp only at h1 h2;subst h1 h2
 rfl
theorem Ye0 {R:Rd→α×Rd} {k:Nat} {x:Rd} (h:x.2=false):YE R (k+1) x=((R x).1::(YE R k (R x).2).1,(YE R k (R x).2).2):=by
 simp only[YE,h]
 rfl
theorem Ye1 {R:Rd→α×Rd} {k:Nat} {x:Rd} (h:x.2=true):YE R k x=([],x):=by
 obtain⟨s,b⟩:=x;simp only at h;subst h;exact Ya9
theorem YeB {R:Rg α} {k:Nat} {x:Rb}:(R.rep true k).v x=(YE R.f k x.d).1:=rfl
theorem YfC {R:Rg α} {k:Nat} {x:Rb}:((R.rep true k).n x).d=(YE R.f k x.d).2:=rfl
theorem Rb.d_inj {x y:Rb} (h:x.d=y.d):x=y:=Rb.ext' (G5 (fun p=>p.1) h) (G5 (fun p=>p.2) h)
theorem rep_stepD {R:Rg α} {m j:Nat} {x y:Rb} {vs:List α} (hj:j<m) (hn:y.no=false) (h:(R.rep true m).v x=vs++(R.rep true (m-j)).v y∧(R.rep true m).n x=(R.rep true (m-j)).n y) :
  (R.rep true m).v x=(vs++[R.v y])++(R.rep true (m-(j+1))).v (R.n y)∧(R.rep true m).n x=(R.rep true (m-(j+1))).n (R.n y):=by
 have e:YE R.f (m-j) y.d=(R.v y::(R.rep true (m-(j+1))).v (R.n y),((R.rep true (m-(j+1))).n (R.n y)).d):=by
  rw[show m-j=(m-(j+1))+1 by omega];exact Ye0 hn
 refine⟨?_,?_⟩
 ·rw[h.1,YeB,e,Gr]
  rfl
 ·rw[h.2]
  exact Rb.d_inj (by rw[YfC,e])
theorem Yw {R:Rg α} {m j:Nat} {x y:Rb} {vs:List α} (hs:m≤j∨y.no=true) (h:(R.rep true m).v x=vs++(R.rep true (m-j)).v y∧(R.rep true m).n x=(R.rep true (m-j)).n y) :
  (R.rep true m).v x=vs∧(R.rep true m).n x=y:=by
 have e:YE R.f (m-j) y.d=([],y.d):=by
  rcases hs with hs|hs
  ·rw[show m-j=0 by omega];rfl
  ·exact Ye1 hs
 refine⟨?_,?_⟩
 ·rw[h.1,YeB,e,GS]
 ·rw[h.2]
  exact Rb.d_inj (by rw[YfC,e])
theorem repD_few {R:Rd→α×Rd} {W:α→List UInt8} {P:α→Prop} (h:Cod R W P) (hW:∀a,P a→1≤(W a).length):∀(k:Nat) (x:Rd),(YE R k x).1.length≤x.1.length+1
 |0,x=>Gu _
 |k+1,(s,true)=>by rw[Ya9];exact Gu _
 |k+1,(s,false)=>by
  rw[Ye0 rfl];cases hb:(R (s,false)).2.2 with
  |true=>rw[Ye1 hb];simp
  |false=>
   have hg:=h.get (s:=s) (r:=(R (s,false)).2.1) (a:=(R (s,false)).1) (Prod.ext rfl (Prod.ext rfl hb));have hl:=G5 List.length hg.1;have:=hW _ hg.2;have ih:=repD_few h hW k (R (s,false)).2;simp only[Gc,List.length_cons] at hl ⊢;omega
theorem rep_few {R:Rg α} {W:α→List UInt8} {P:α→Prop} (hc:Cod R.f W P) (hW:∀a,P a→1≤(W a).length) {m j:Nat} {x y:Rb} {vs:List α} (h:(R.rep true m).v x=vs++(R.rep true (m-j)).v y):vs.length≤2 ^ 29+1:=by
 have h1:=repD_few hc hW m x.d;have h2:=G5 List.length h;have h3:=x.h;rw[YeB,Gc] at h2;change _≤x.s.length+1 at h1;omega
def H546 (Pg:PgT):Prop:=Pg 546=some (.codeR F546 0)∧H545 Pg
theorem Yfd (h:H546 Pg) (x:Rb):K' Pg 546 [.tuple (.lref 0 0::eR x)]=some (.tuple [Yf ((uIs true).v x),.tuple (eR ((uIs true).n x))]):=by
 obtain⟨h,h545⟩:=h;have k1:=Ydp h545;have k2:=k1 x;have hv:=Rg.lst_v (D:=true) (R:=uI true) (x:=x)
 show _=some (V.tuple [Yf (((uI true).lst true).v x),V.tuple (eR (((uI true).lst true).n x))])
 rw[hv.1,hv.2];change K' Pg 545 _=some (.tuple [iz ((uL true).v x),.tuple (eR ((uL true).n x))]) at k2;generalize (uL true).n x=y at *
 generalize (uL true).v x=m at *
 refine Ybm [.t 2] (ws:=[Yf _]) h rfl rfl (Ya2 _) (Ya2 _) (Ydx _) fun S ⟨r0,r,hm,m0,a0⟩=>?_;have a3:=a0 3;simp only[F546,c546,go_sem,JiK,r0,hm,k2,a3];unfold l546_0;refine JiY (fun (j:Nat) S=>j≤m∧S.ρ 0=.lref 0 0∧S.ρ 4=iz m∧S.ρ 5=iz j∧∃(vs:List Int) (z:Rb),vs.length=j∧(((uI true).rep true m).v y=vs++((uI true).rep true (m-j)).v z∧((uI true).rep true m).n y=((uI true).rep true (m-j)).n z)∧S.μ 0=some (eR z,false)∧S.ρ 3=.own 3 1 j∧S.A 3=some (1,vs.map fun a=>[iz a],.live)) (fun j=>m-j) 0 ?_ ?_
 ·simp only[JhU];exact⟨Gu _,by simp only[go_sem,r0],by simp only[go_sem],by simp only[go_sem],[],y,rfl,⟨rfl,rfl⟩,by simp only[go_sem],by simp only[go_sem],by simp only[go_sem,G6]⟩
 ·intro j S ⟨hj,s0,s4,s5,vs,z,hvl,hrep,hm,s3,a3⟩;cases c1:decide ((j:Int)<(m:Int)) with
  |false=>
   have hjm:m≤j:=by have:=Gb c1;omega
   obtain⟨e1,e2⟩:=Yw (.inl hjm) hrep;simp only[go_sem,s0,s3,s4,s5,hm,a3,c1,e1,e2,hvl,Gf];exact⟨_,rfl,by simp only[go_sem,a3,hvl,Gf]⟩
  |true=>
   cases c2:z.no with
   |true=>
    obtain⟨e1,e2⟩:=Yw (.inr c2) hrep;simp only[go_sem,s0,s3,s4,s5,hm,a3,c1,c2,e1,e2,hvl,Gf];exact⟨_,rfl,by simp only[go_sem,a3,hvl,Gf]⟩
   |false=>
    have hlt:=Ye c1;have hone:=rep_stepD hlt c2 hrep;have hf:=rep_few (cI (D:=true)) Yfu hone.1;rw[Gc,List.length_singleton] at hf;have hinc:=inc64q (i:=j) (by omega)
    have k:=k1 z;have hlim:j+1≤lim:=by unfold lim;omega
    simp only[go_sem,JiK,s0,s3,s4,s5,hm,a3,c1,c2,k,hinc,hvl,hlim,JhU,Gf];exact⟨j+1,by omega,by omega,rfl,vs++[(((uN true).v z:Nat):Int)],(uN true).n z,by simp[hvl],hone,rfl,rfl,by rw[Gw];rfl⟩
theorem Yak (h:H545 Pg) (x:Rb):K' Pg 545 [.tuple (.lref 0 0::eR x)]=some (.tuple [iz ((uI true).v x),.tuple (eR ((uI true).n x))]):=Ydp h x
theorem Yhe (s:Stamp) (_:Ya s=true):1≤(stB s).length:=by
 have:=putB_pos s.wall.toNat;simp only[stB,Gc];omega
structure TE (S:St) (y:Rb) (ps:List Place) (is:List Inf) (n:Int) (ls:List Lse) (ss:List Stamp) (m:Stamp) (j:Jb) (os:List ORw):Prop where
 r2:S.ρ 2=.lref 2 0
 r4:S.ρ 4=.lref 18 0
 r5:S.ρ 5=.lref 5 0
 m9:S.μ 18=some (eR y,false)
 m2:S.μ 2=some (Yd2,false)
 m5:S.μ 5=some (drP (nilOr 54 5 ps.length) (nilOr 83 3 is.length) n (nilOr 115 5 ls.length) (nilOr 136 3 ss.length) m j (nilOr 177 7 os.length),false)
 a33:S.A 54=YY 5 (ps.map ePl) ps.length
 a50:S.A 83=YY 3 (is.map Yco) is.length
 a70:S.A 115=YY 5 (ls.map Yah) ls.length
 a82:S.A 136=YY 3 (ss.map Yd) ss.length
 a109:S.A 177=YY 7 (os.map YcL) os.length
theorem TE.head {S:St} {y:Rb} {ps:List Place} {is:List Inf} {n:Int} {ls:List Lse} {ss:List Stamp} {m:Stamp} {j:Jb} {os:List ORw} {v:Nat} (h:TE S y ps is n ls ss m j os) (h2:[v].contains 2=false) (h5:[v].contains 5=false) (h18:[v].contains 18=false):TE (S.head [] [] [v] []) y ps is n ls ss m j os:=
 ⟨JiJ h.r2 (by simp only[stay,h2];rfl),JiJ h.r4 (by simp only[stay,h18];rfl),JiJ h.r5 (by simp only[stay,h5];rfl),Yy h.m9 h18,Yy h.m2 h2,Yy h.m5 h5,(Yv rfl).trans h.a33,(Yv rfl).trans h.a50,(Yv rfl).trans h.a70,(Yv rfl).trans h.a82,(Yv rfl).trans h.a109⟩
structure NN (t:List UInt8) (S:St):Prop where
 n0:S.ρ 0=.str t
 n8:S.μ 8=none
 n10:S.μ 10=none
 n12:S.μ 12=none
 n15:S.μ 15=none
set_option maxHeartbeats 1000000
theorem Yjf (h545:H545 Pg) (h547:H547 Pg) {y:Rb} {m:Nat} {n:Int} {mk:Stamp} {j:Jb} {is:List Inf} {ls:List Lse} {ss:List Stamp} {os:List ORw} {S:St} {Q:Ex→St→Prop}
  (hS:TE S y [] is n ls ss mk j os) (sc:S.ρ 6=iz m) (si:S.ρ 7=iz 0) {t:List UInt8} (nn:NN t S)
  (hq:∀S',TE S' (((uPl true).rep true m).n y) (((uPl true).rep true m).v y) is n ls ss mk j os→NN t S'→Q .norm S'):Wp (K' Pg) l521_0 S (Blk 0 Q):=by
 unfold l521_0
 refine JiY (fun (i:Nat) S=>i≤m∧S.ρ 6=iz m∧S.ρ 7=iz i∧NN t S∧∃(vs:List Place) (w:Rb),vs.length=i∧(((uPl true).rep true m).v y=vs++((uPl true).rep true (m-i)).v w∧((uPl true).rep true m).n y=((uPl true).rep true (m-i)).n w)∧TE S w vs is n ls ss mk j os) (fun i=>m-i) 0 ?_ ?_
 ·exact⟨Gu _,JiJ sc rfl,JiJ si rfl,⟨JiJ nn.n0 rfl,JiH (.inl nn.n8),JiH (.inl nn.n10),JiH (.inl nn.n12),JiH (.inl nn.n15)⟩,[],y,rfl,⟨rfl,rfl⟩,hS.head rfl rfl rfl⟩
 ·intro i S ⟨hi,sc,si,nn,vs,w,hvl,hrep,hS⟩
  have hS0:=hS
  obtain⟨t2,t4,t5,m9,m2,m5,a33,a50,a70,a82,a109⟩:=hS
  obtain⟨n0,n8,n10,n12,n15⟩:=nn
  cases c1:decide ((i:Int)<(m:Int)) with
  |false=>
   have him:m≤i:=by have:=Gb c1;omega
   obtain⟨e1,e2⟩:=Yw (.inl him) hrep
   rw[e1,e2] at hq
   simp only[go_sem,t4,sc,si,c1,m9]
   exact hq _ ⟨by simp only[go_sem,t2],by simp only[go_sem,t4],by simp only[go_sem,t5],by simp only[go_sem,m9],by simp only[go_sem,m2],m5,a33,a50,a70,a82,a109⟩ ⟨by simp only[go_sem,n0],n8,n10,n12,n15⟩
  |true=>
   cases c2:w.no with
   |true=>
   obtain⟨e1,e2⟩:=Yw (.inr c2) hrep
   rw[e1,e2] at hq
   simp only[go_sem,t4,sc,si,c1,c2,m9]
   exact hq _ ⟨by simp only[go_sem,t2],by simp only[go_sem,t4],by simp only[go_sem,t5],by simp only[go_sem,m9],by simp only[go_sem,m2],m5,a33,a50,a70,a82,a109⟩ ⟨by simp only[go_sem,n0],n8,n10,n12,n15⟩
   |false=>
   have hlt:=Ye c1
   have hone:=rep_stepD hlt c2 hrep
   have hf:=rep_few (cPl (D:=true)) Ydn hone.1
   rw[Gc,List.length_singleton] at hf
   have hinc:=inc64q (i:=i) (by omega)
   have hR:(uPl true).v w=mkPl ((uT true).v w,(uT true).v ((uT true).n w),(uI true).v ((uT true).n ((uT true).n w)),(uI true).v ((uI true).n ((uT true).n ((uT true).n w))),(uI true).v ((uI true).n ((uI true).n ((uT true).n ((uT true).n w))))):=rfl
   have hN:(uPl true).n w=(uI true).n ((uI true).n ((uI true).n ((uT true).n ((uT true).n w)))):=rfl
   rw[hR,hN] at hone
   have k1:=YdE h547 w
   generalize (uT true).v w=v1 at *
   generalize (uT true).n w=z1 at *
   have k2:=YdE h547 z1
   generalize (uT true).v z1=v2 at *
   generalize (uT true).n z1=z2 at *
   have k3:=Yak h545 z2
   generalize (uI true).v z2=v3 at *
   generalize (uI true).n z2=z3 at *
   have k4:=Yak h545 z3
   generalize (uI true).v z3=v4 at *
   generalize (uI true).n z3=z4 at *
   have k5:=Yak h545 z4
   generalize (uI true).v z4=v5 at *
   generalize (uI true).n z4=z5 at *
   have hil:(vs.map ePl).length=vs.length:=by simp
   have ha:=fun S=>YV (S:=S) (s:=54) (z:=5) (r:=[.str v1,.str v2,iz v3,iz v4,iz v5]) hil (by unfold lim;omega)
   have x5:=m5
   simp only[drP,go_sem] at x5
   simp only[go_sem,JiK,t4,t5,sc,si,c1,c2,m9,x5,n8,a33,k1,k2,k3,k4,k5,YI,ha,hinc,JhU]
   have hs1:(vs++[mkPl (v1,v2,v3,v4,v5)]).length=vs.length+1:=by simp
   exact⟨i+1,by omega,by omega,rfl,⟨JiJ (by simp only[go_sem,n0]) rfl,JiH (.inr rfl),JiH (.inl (by simp only[go_sem,n10])),JiH (.inl (by simp only[go_sem,n12])),JiH (.inl (by simp only[go_sem,n15]))⟩,vs++[mkPl (v1,v2,v3,v4,v5)],z5,by rw[hs1,hvl],hone,TE.head ⟨by simp only[go_sem,t2],by simp only[go_sem,t4],by simp only[go_sem,t5],by simp only[go_sem],by simp only[go_sem,m2],by rw[hs1];simp only[go_sem]<;>rfl,by rw[hs1,Gw];simp only[go_sem]<;>rfl,by simp only[go_sem,a50],by simp only[go_sem,a70],by simp only[go_sem,a82],by simp only[go_sem,a109]⟩ rfl rfl rfl⟩
theorem YiS (h545:H545 Pg) (h546:H546 Pg) (h549:H549 Pg) {y:Rb} {m:Nat} {n:Int} {mk:Stamp} {j:Jb} {ps:List Place} {ls:List Lse} {ss:List Stamp} {os:List ORw} {S:St} {Q:Ex→St→Prop}
  (hS:TE S y ps [] n ls ss mk j os) (sc:S.ρ 6=iz m) (si:S.ρ 9=iz 0) {t:List UInt8} (nn:NN t S)
  (hq:∀S',TE S' (((uIn true).rep true m).n y) ps (((uIn true).rep true m).v y) n ls ss mk j os→NN t S'→Q .norm S'):Wp (K' Pg) l521_1 S (Blk 2 Q):=by
 unfold l521_1
 refine JiY (fun (i:Nat) S=>i≤m∧S.ρ 6=iz m∧S.ρ 9=iz i∧NN t S∧∃(vs:List Inf) (w:Rb),vs.length=i∧(((uIn true).rep true m).v y=vs++((uIn true).rep true (m-i)).v w∧((uIn true).rep true m).n y=((uIn true).rep true (m-i)).n w)∧TE S w ps vs n ls ss mk j os) (fun i=>m-i) 0 ?_ ?_
 ·exact⟨Gu _,JiJ sc rfl,JiJ si rfl,⟨JiJ nn.n0 rfl,JiH (.inl nn.n8),JiH (.inl nn.n10),JiH (.inl nn.n12),JiH (.inl nn.n15)⟩,[],y,rfl,⟨rfl,rfl⟩,hS.head rfl rfl rfl⟩
 ·intro i S ⟨hi,sc,si,nn,vs,w,hvl,hrep,hS⟩
  have hS0:=hS
  obtain⟨t2,t4,t5,m9,m2,m5,a33,a50,a70,a82,a109⟩:=hS
  obtain⟨n0,n8,n10,n12,n15⟩:=nn
  cases c1:decide ((i:Int)<(m:Int)) with
  |false=>
   have him:m≤i:=by have:=Gb c1;omega
   obtain⟨e1,e2⟩:=Yw (.inl him) hrep
   rw[e1,e2] at hq
   simp only[go_sem,t4,sc,si,c1,m9]
   exact hq _ ⟨by simp only[go_sem,t2],by simp only[go_sem,t4],by simp only[go_sem,t5],by simp only[go_sem,m9],by simp only[go_sem,m2],m5,a33,a50,a70,a82,a109⟩ ⟨by simp only[go_sem,n0],n8,n10,n12,n15⟩
  |true=>
   cases c2:w.no with
   |true=>
   obtain⟨e1,e2⟩:=Yw (.inr c2) hrep
   rw[e1,e2] at hq
   simp only[go_sem,t4,sc,si,c1,c2,m9]
   exact hq _ ⟨by simp only[go_sem,t2],by simp only[go_sem,t4],by simp only[go_sem,t5],by simp only[go_sem,m9],by simp only[go_sem,m2],m5,a33,a50,a70,a82,a109⟩ ⟨by simp only[go_sem,n0],n8,n10,n12,n15⟩
   |false=>
   have hlt:=Ye c1
   have hone:=rep_stepD hlt c2 hrep
   have hf:=rep_few (cIn (D:=true)) Yew hone.1
   rw[Gc,List.length_singleton] at hf
   have hinc:=inc64q (i:=i) (by omega)
   have hR:(uIn true).v w=mkIn ((uI true).v w,(uIs true).v ((uI true).n w),(uF true).v ((uIs true).n ((uI true).n w))):=rfl
   have hN:(uIn true).n w=(uF true).n ((uIs true).n ((uI true).n w)):=rfl
   rw[hR,hN] at hone
   have k1:=Yak h545 w
   generalize (uI true).v w=v1 at *
   generalize (uI true).n w=z1 at *
   have k2:=Yfd h546 z1
   generalize (uIs true).v z1=v2 at *
   generalize (uIs true).n z1=z2 at *
   have k3:=Yjz h549 z2
   generalize (uF true).v z2=v3 at *
   generalize (uF true).n z2=z3 at *
   have hil:(vs.map Yco).length=vs.length:=by simp
   have ha:=fun S=>YV (S:=S) (s:=83) (z:=3) (r:=[iz v1,.slice 1 (v2.map fun a=>[iz a]),.bool v3]) hil (by unfold lim;omega)
   simp only[go_sem,eSt] at k2
   have x5:=m5
   simp only[drP,go_sem] at x5
   simp only[go_sem,JiK,t4,t5,sc,si,c1,c2,m9,x5,n10,a50,k1,k2,k3,YI,ha,hinc,JhU]
   have hs1:(vs++[mkIn (v1,v2,v3)]).length=vs.length+1:=by simp
   exact⟨i+1,by omega,by omega,rfl,⟨JiJ (by simp only[go_sem,n0]) rfl,JiH (.inl (by simp only[go_sem,n8])),JiH (.inr rfl),JiH (.inl (by simp only[go_sem,n12])),JiH (.inl (by simp only[go_sem,n15]))⟩,vs++[mkIn (v1,v2,v3)],z3,by rw[hs1,hvl],hone,TE.head ⟨by simp only[go_sem,t2],by simp only[go_sem,t4],by simp only[go_sem,t5],by simp only[go_sem],by simp only[go_sem,m2],by rw[hs1];simp only[go_sem]<;>rfl,by simp only[go_sem,a33],by rw[hs1,Gw];simp only[go_sem]<;>rfl,by simp only[go_sem,a70],by simp only[go_sem,a82],by simp only[go_sem,a109]⟩ rfl rfl rfl⟩
theorem Yi1 (h545:H545 Pg) (h550:H550 Pg) {y:Rb} {m:Nat} {n:Int} {mk:Stamp} {j:Jb} {ps:List Place} {is:List Inf} {ss:List Stamp} {os:List ORw} {S:St} {Q:Ex→St→Prop}
  (hS:TE S y ps is n [] ss mk j os) (sc:S.ρ 6=iz m) (si:S.ρ 11=iz 0) {t:List UInt8} (nn:NN t S)
  (hq:∀S',TE S' (((uLe true).rep true m).n y) ps is n (((uLe true).rep true m).v y) ss mk j os→NN t S'→Q .norm S'):Wp (K' Pg) l521_2 S (Blk 4 Q):=by
 unfold l521_2
 refine JiY (fun (i:Nat) S=>i≤m∧S.ρ 6=iz m∧S.ρ 11=iz i∧NN t S∧∃(vs:List Lse) (w:Rb),vs.length=i∧(((uLe true).rep true m).v y=vs++((uLe true).rep true (m-i)).v w∧((uLe true).rep true m).n y=((uLe true).rep true (m-i)).n w)∧TE S w ps is n vs ss mk j os) (fun i=>m-i) 0 ?_ ?_
 ·exact⟨Gu _,JiJ sc rfl,JiJ si rfl,⟨JiJ nn.n0 rfl,JiH (.inl nn.n8),JiH (.inl nn.n10),JiH (.inl nn.n12),JiH (.inl nn.n15)⟩,[],y,rfl,⟨rfl,rfl⟩,hS.head rfl rfl rfl⟩
 ·intro i S ⟨hi,sc,si,nn,vs,w,hvl,hrep,hS⟩
  have hS0:=hS
  obtain⟨t2,t4,t5,m9,m2,m5,a33,a50,a70,a82,a109⟩:=hS
  obtain⟨n0,n8,n10,n12,n15⟩:=nn
  cases c1:decide ((i:Int)<(m:Int)) with
  |false=>
   have him:m≤i:=by have:=Gb c1;omega
   obtain⟨e1,e2⟩:=Yw (.inl him) hrep
   rw[e1,e2] at hq
   simp only[go_sem,t4,sc,si,c1,m9]
   exact hq _ ⟨by simp only[go_sem,t2],by simp only[go_sem,t4],by simp only[go_sem,t5],by simp only[go_sem,m9],by simp only[go_sem,m2],m5,a33,a50,a70,a82,a109⟩ ⟨by simp only[go_sem,n0],n8,n10,n12,n15⟩
  |true=>
   cases c2:w.no with
   |true=>
   obtain⟨e1,e2⟩:=Yw (.inr c2) hrep
   rw[e1,e2] at hq
   simp only[go_sem,t4,sc,si,c1,c2,m9]
   exact hq _ ⟨by simp only[go_sem,t2],by simp only[go_sem,t4],by simp only[go_sem,t5],by simp only[go_sem,m9],by simp only[go_sem,m2],m5,a33,a50,a70,a82,a109⟩ ⟨by simp only[go_sem,n0],n8,n10,n12,n15⟩
   |false=>
   have hlt:=Ye c1
   have hone:=rep_stepD hlt c2 hrep
   have hf:=rep_few (cLe (D:=true)) Yey hone.1
   rw[Gc,List.length_singleton] at hf
   have hinc:=inc64q (i:=i) (by omega)
   have hR:(uLe true).v w=mkLe ((uI true).v w,(uI true).v ((uI true).n w),(uS true).v ((uI true).n ((uI true).n w))):=rfl
   have hN:(uLe true).n w=(uS true).n ((uI true).n ((uI true).n w)):=rfl
   rw[hR,hN] at hone
   have k1:=Yak h545 w
   generalize (uI true).v w=v1 at *
   generalize (uI true).n w=z1 at *
   have k2:=Yak h545 z1
   generalize (uI true).v z1=v2 at *
   generalize (uI true).n z1=z2 at *
   have k3:=Yfe h550 z2
   generalize (uS true).v z2=v3 at *
   generalize (uS true).n z2=z3 at *
   have hil:(vs.map Yah).length=vs.length:=by simp
   have ha:=fun S=>YV (S:=S) (s:=115) (z:=5) (r:=[iz v1,iz v2,iz v3.wall,iz v3.tick,iz v3.node]) hil (by unfold lim;omega)
   simp only[go_sem,eSt] at k3
   have x5:=m5
   simp only[drP,go_sem] at x5
   simp only[go_sem,JiK,t4,t5,sc,si,c1,c2,m9,x5,n12,a70,k1,k2,k3,YI,ha,hinc,JhU]
   have hs1:(vs++[mkLe (v1,v2,v3)]).length=vs.length+1:=by simp
   exact⟨i+1,by omega,by omega,rfl,⟨JiJ (by simp only[go_sem,n0]) rfl,JiH (.inl (by simp only[go_sem,n8])),JiH (.inl (by simp only[go_sem,n10])),JiH (.inr rfl),JiH (.inl (by simp only[go_sem,n15]))⟩,vs++[mkLe (v1,v2,v3)],z3,by rw[hs1,hvl],hone,TE.head ⟨by simp only[go_sem,t2],by simp only[go_sem,t4],by simp only[go_sem,t5],by simp only[go_sem],by simp only[go_sem,m2],by rw[hs1];simp only[go_sem]<;>rfl,by simp only[go_sem,a33],by simp only[go_sem,a50],by rw[hs1,Gw];simp only[go_sem]<;>rfl,by simp only[go_sem,a82],by simp only[go_sem,a109]⟩ rfl rfl rfl⟩
theorem Yjq (h550:H550 Pg) {y:Rb} {m:Nat} {n:Int} {mk:Stamp} {j:Jb} {ps:List Place} {is:List Inf} {ls:List Lse} {os:List ORw} {S:St} {Q:Ex→St→Prop}
  (hS:TE S y ps is n ls [] mk j os) (sc:S.ρ 6=iz m) (si:S.ρ 13=iz 0) {t:List UInt8} (nn:NN t S)
  (hq:∀S',TE S' (((uS true).rep true m).n y) ps is n ls (((uS true).rep true m).v y) mk j os→NN t S'→Q .norm S'):Wp (K' Pg) l521_3 S (Blk 6 Q):=by
 unfold l521_3
 refine JiY (fun (i:Nat) S=>i≤m∧S.ρ 6=iz m∧S.ρ 13=iz i∧NN t S∧∃(vs:List Stamp) (w:Rb),vs.length=i∧(((uS true).rep true m).v y=vs++((uS true).rep true (m-i)).v w∧((uS true).rep true m).n y=((uS true).rep true (m-i)).n w)∧TE S w ps is n ls vs mk j os) (fun i=>m-i) 0 ?_ ?_
 ·simp only[JhU]
  exact⟨Gu _,sc,si,nn,[],y,rfl,⟨rfl,rfl⟩,hS⟩
 ·intro i S ⟨hi,sc,si,nn,vs,w,hvl,hrep,hS⟩
  have hS0:=hS
  obtain⟨t2,t4,t5,m9,m2,m5,a33,a50,a70,a82,a109⟩:=hS
  obtain⟨n0,n8,n10,n12,n15⟩:=nn
  cases c1:decide ((i:Int)<(m:Int)) with
  |false=>
   have him:m≤i:=by have:=Gb c1;omega
   obtain⟨e1,e2⟩:=Yw (.inl him) hrep
   rw[e1,e2] at hq
   simp only[go_sem,t4,sc,si,c1,m9]
   exact hq _ ⟨by simp only[go_sem,t2],by simp only[go_sem,t4],by simp only[go_sem,t5],by simp only[go_sem,m9],by simp only[go_sem,m2],m5,a33,a50,a70,a82,a109⟩ ⟨by simp only[go_sem,n0],n8,n10,n12,n15⟩
  |true=>
   cases c2:w.no with
   |true=>
   obtain⟨e1,e2⟩:=Yw (.inr c2) hrep
   rw[e1,e2] at hq
   simp only[go_sem,t4,sc,si,c1,c2,m9]
   exact hq _ ⟨by simp only[go_sem,t2],by simp only[go_sem,t4],by simp only[go_sem,t5],by simp only[go_sem,m9],by simp only[go_sem,m2],m5,a33,a50,a70,a82,a109⟩ ⟨by simp only[go_sem,n0],n8,n10,n12,n15⟩
   |false=>
   have hlt:=Ye c1
   have hone:=rep_stepD hlt c2 hrep
   have hf:=rep_few (cS (D:=true)) Yhe hone.1
   rw[Gc,List.length_singleton] at hf
   have hinc:=inc64q (i:=i) (by omega)
   have k1:=Yfe h550 w
   generalize (uS true).v w=v1 at *
   generalize (uS true).n w=z1 at *
   have hil:(vs.map Yd).length=vs.length:=by simp
   have ha:=fun S=>YV (S:=S) (s:=136) (z:=3) (r:=[iz v1.wall,iz v1.tick,iz v1.node]) hil (by unfold lim;omega)
   simp only[go_sem,eSt] at k1
   have x5:=m5
   simp only[drP,go_sem] at x5
   simp only[go_sem,JiK,t4,t5,sc,si,c1,c2,m9,x5,a82,k1,YI,ha,hinc,JhU]
   have hs1:(vs++[v1]).length=vs.length+1:=by simp
   exact⟨i+1,by omega,by omega,rfl,⟨by simp only[go_sem,n0],by simp only[go_sem,n8],by simp only[go_sem,n10],by simp only[go_sem,n12],by simp only[go_sem,n15]⟩,vs++[v1],z1,by rw[hs1,hvl],hone,⟨by simp only[go_sem,t2],by simp only[go_sem,t4],by simp only[go_sem,t5],by simp only[go_sem],by simp only[go_sem,m2],by rw[hs1];simp only[go_sem]<;>rfl,by simp only[go_sem,a33],by simp only[go_sem,a50],by simp only[go_sem,a70],by rw[hs1,Gw];simp only[go_sem]<;>rfl,by simp only[go_sem,a109]⟩⟩
theorem Yi9 (h545:H545 Pg) (h550:H550 Pg) {y:Rb} {m:Nat} {n:Int} {mk:Stamp} {j:Jb} {ps:List Place} {is:List Inf} {ls:List Lse} {ss:List Stamp} {S:St} {Q:Ex→St→Prop}
  (hS:TE S y ps is n ls ss mk j []) (sc:S.ρ 6=iz m) (si:S.ρ 14=iz 0) {t:List UInt8} (nn:NN t S)
  (hq:∀S',TE S' (((uOr true).rep true m).n y) ps is n ls ss mk j (((uOr true).rep true m).v y)→NN t S'→Q .norm S'):Wp (K' Pg) l521_4 S (Blk 8 Q):=by
 unfold l521_4
 refine JiY (fun (i:Nat) S=>i≤m∧S.ρ 6=iz m∧S.ρ 14=iz i∧NN t S∧∃(vs:List ORw) (w:Rb),vs.length=i∧(((uOr true).rep true m).v y=vs++((uOr true).rep true (m-i)).v w∧((uOr true).rep true m).n y=((uOr true).rep true (m-i)).n w)∧TE S w ps is n ls ss mk j vs) (fun i=>m-i) 0 ?_ ?_
 ·exact⟨Gu _,JiJ sc rfl,JiJ si rfl,⟨JiJ nn.n0 rfl,JiH (.inl nn.n8),JiH (.inl nn.n10),JiH (.inl nn.n12),JiH (.inl nn.n15)⟩,[],y,rfl,⟨rfl,rfl⟩,hS.head rfl rfl rfl⟩
 ·intro i S ⟨hi,sc,si,nn,vs,w,hvl,hrep,hS⟩
  have hS0:=hS
  obtain⟨t2,t4,t5,m9,m2,m5,a33,a50,a70,a82,a109⟩:=hS
  obtain⟨n0,n8,n10,n12,n15⟩:=nn
  cases c1:decide ((i:Int)<(m:Int)) with
  |false=>
   have him:m≤i:=by have:=Gb c1;omega
   obtain⟨e1,e2⟩:=Yw (.inl him) hrep
   rw[e1,e2] at hq
   simp only[go_sem,t4,sc,si,c1,m9]
   exact hq _ ⟨by simp only[go_sem,t2],by simp only[go_sem,t4],by simp only[go_sem,t5],by simp only[go_sem,m9],by simp only[go_sem,m2],m5,a33,a50,a70,a82,a109⟩ ⟨by simp only[go_sem,n0],n8,n10,n12,n15⟩
  |true=>
   cases c2:w.no with
   |true=>
   obtain⟨e1,e2⟩:=Yw (.inr c2) hrep
   rw[e1,e2] at hq
   simp only[go_sem,t4,sc,si,c1,c2,m9]
   exact hq _ ⟨by simp only[go_sem,t2],by simp only[go_sem,t4],by simp only[go_sem,t5],by simp only[go_sem,m9],by simp only[go_sem,m2],m5,a33,a50,a70,a82,a109⟩ ⟨by simp only[go_sem,n0],n8,n10,n12,n15⟩
   |false=>
   have hlt:=Ye c1
   have hone:=rep_stepD hlt c2 hrep
   have hf:=rep_few (cOr (D:=true)) Yez hone.1
   rw[Gc,List.length_singleton] at hf
   have hinc:=inc64q (i:=i) (by omega)
   have hR:(uOr true).v w=YdP ((uI true).v w,(uI true).v ((uI true).n w),(uI true).v ((uI true).n ((uI true).n w)),(uS true).v ((uI true).n ((uI true).n ((uI true).n w))),(uI true).v ((uS true).n ((uI true).n ((uI true).n ((uI true).n w))))):=rfl
   have hN:(uOr true).n w=(uI true).n ((uS true).n ((uI true).n ((uI true).n ((uI true).n w)))):=rfl
   rw[hR,hN] at hone
   have k1:=Yak h545 w
   generalize (uI true).v w=v1 at *
   generalize (uI true).n w=z1 at *
   have k2:=Yak h545 z1
   generalize (uI true).v z1=v2 at *
   generalize (uI true).n z1=z2 at *
   have k3:=Yak h545 z2
   generalize (uI true).v z2=v3 at *
   generalize (uI true).n z2=z3 at *
   have k4:=Yfe h550 z3
   generalize (uS true).v z3=v4 at *
   generalize (uS true).n z3=z4 at *
   have k5:=Yak h545 z4
   generalize (uI true).v z4=v5 at *
   generalize (uI true).n z4=z5 at *
   have hil:(vs.map YcL).length=vs.length:=by simp
   have ha:=fun S=>YV (S:=S) (s:=177) (z:=7) (r:=[iz v1,iz v2,iz v3,iz v4.wall,iz v4.tick,iz v4.node,iz v5]) hil (by unfold lim;omega)
   simp only[go_sem,eSt] at k4
   have x5:=m5
   simp only[drP,go_sem] at x5
   simp only[go_sem,JiK,t4,t5,sc,si,c1,c2,m9,x5,n15,a109,k1,k2,k3,k4,k5,YI,ha,hinc,JhU]
   have hs1:(vs++[YdP (v1,v2,v3,v4,v5)]).length=vs.length+1:=by simp
   exact⟨i+1,by omega,by omega,rfl,⟨JiJ (by simp only[go_sem,n0]) rfl,JiH (.inl (by simp only[go_sem,n8])),JiH (.inl (by simp only[go_sem,n10])),JiH (.inl (by simp only[go_sem,n12])),JiH (.inr rfl)⟩,vs++[YdP (v1,v2,v3,v4,v5)],z5,by rw[hs1,hvl],hone,TE.head ⟨by simp only[go_sem,t2],by simp only[go_sem,t4],by simp only[go_sem,t5],by simp only[go_sem],by simp only[go_sem,m2],by rw[hs1];simp only[go_sem]<;>rfl,by simp only[go_sem,a33],by simp only[go_sem,a50],by simp only[go_sem,a70],by simp only[go_sem,a82],by rw[hs1,Gw];simp only[go_sem]<;>rfl⟩ rfl rfl rfl⟩
structure TJD (S:St) (y:Rb) (c:V→List V) (ps:List (List UInt8)):Prop where
 r0:S.ρ 0=.lref 0 0
 r2:S.ρ 2=.lref 2 0
 r3:S.ρ 3=.lref 3 0
 m0:S.μ 0=some (eR y,false)
 m2:S.μ 2=some (Yhm,false)
 m3:S.μ 3=some (c (nilOr 52 1 ps.length),false)
 a40:S.A 52=YY 1 (ps.map fun t=>[.str t]) ps.length
set_option maxHeartbeats 1000000
theorem YiB (t:List UInt8) (_:t.length<2 ^ 63):1≤(Yh t).length:=YQ
theorem Yjl (h547:H547 Pg) {y:Rb} {m:Nat} {a1 a2 a3 a4 a5 a6 a7 a8:Int} {kk:List UInt8} {S:St} {Q:Ex→St→Prop}
  (hS:TJD S y (jP a1 a2 a3 a4 a5 a6 a7 a8 kk) []) (sc:S.ρ 4=iz m) (si:S.ρ 5=iz 0)
  (hq:∀S',TJD S' (((uT true).rep true m).n y) (jP a1 a2 a3 a4 a5 a6 a7 a8 kk) (((uT true).rep true m).v y)→Q .norm S'):Wp (K' Pg) l551_0 S (Blk 0 Q):=by
 unfold l551_0
 refine JiY (fun (i:Nat) S=>i≤m∧S.ρ 4=iz m∧S.ρ 5=iz i∧∃(vs:List (List UInt8)) (w:Rb),vs.length=i∧(((uT true).rep true m).v y=vs++((uT true).rep true (m-i)).v w∧((uT true).rep true m).n y=((uT true).rep true (m-i)).n w)∧TJD S w (jP a1 a2 a3 a4 a5 a6 a7 a8 kk) vs) (fun i=>m-i) 0 ?_ ?_
 ·simp only[JhU]
  exact⟨Gu _,sc,si,[],y,rfl,⟨rfl,rfl⟩,hS⟩
 ·intro i S ⟨hi,sc,si,vs,w,hvl,hrep,hS⟩
  obtain⟨t0,t2,t3,m0,m2,m3,a40⟩:=hS
  cases c1:decide ((i:Int)<(m:Int)) with
  |false=>
   have him:m≤i:=by have:=Gb c1;omega
   obtain⟨e1,e2⟩:=Yw (.inl him) hrep
   rw[e1,e2] at hq
   simp only[go_sem,t0,sc,si,c1,m0]
   exact hq _ ⟨by simp only[go_sem,t0],by simp only[go_sem,t2],by simp only[go_sem,t3],by simp only[go_sem,m0],m2,m3,a40⟩
  |true=>
   cases c2:w.no with
   |true=>
    obtain⟨e1,e2⟩:=Yw (.inr c2) hrep
    rw[e1,e2] at hq
    simp only[go_sem,t0,sc,si,c1,c2,m0]
    exact hq _ ⟨by simp only[go_sem,t0],by simp only[go_sem,t2],by simp only[go_sem,t3],by simp only[go_sem,m0],m2,m3,a40⟩
   |false=>
    have hlt:=Ye c1
    have hone:=rep_stepD hlt c2 hrep
    have hf:=rep_few (cT (D:=true)) YiB hone.1
    rw[Gc,List.length_singleton] at hf
    have hinc:=inc64q (i:=i) (by omega)
    have k1:=YdE h547 w
    generalize (uT true).v w=v1 at *
    generalize (uT true).n w=z1 at *
    have hil:(vs.map fun t=>[V.str t]).length=vs.length:=by simp
    have ha:=fun S=>YV (S:=S) (s:=52) (z:=1) (r:=[.str v1]) hil (by unfold lim;omega)
    have x3:=m3
    simp only[jP] at x3
    simp only[go_sem,JiK,t0,t3,sc,si,c1,c2,m0,x3,a40,k1,YI,ha,hinc,JhU]
    have hs1:(vs++[v1]).length=vs.length+1:=by simp
    exact⟨i+1,by omega,by omega,rfl,vs++[v1],z1,by rw[hs1,hvl],hone,by simp only[go_sem,t0],by simp only[go_sem,t2],by simp only[go_sem,t3],by simp only[go_sem],by simp only[go_sem,m2],by rw[hs1];simp only[go_sem]<;>rfl,by rw[hs1,Gw];simp only[go_sem]<;>rfl⟩
def H551 (Pg:PgT):Prop:=Pg 551=some (.codeR F551 0)∧H545 Pg∧H547 Pg∧H546 Pg∧H550 Pg
theorem R551 (h:H551 Pg) (x:Rb):K' Pg 551 [.tuple (.lref 0 0::eR x)]=some (.tuple [.agg (eJb ((uJb true).v x)),.tuple (eR ((uJb true).n x))]):=by
 obtain⟨h,h545,h547,h546,h550⟩:=h;simp only[uJb,Rg.map_v,Rg.map_n,Rg.pair_v,Rg.pair_n];have k1:=Yak h545 x;generalize (uI true).v x=v1 at *
 generalize (uI true).n x=z1 at *
 have k2:=Yak h545 z1;generalize (uI true).v z1=v2 at *
 generalize (uI true).n z1=z2 at *
 have k3:=Yak h545 z2;generalize (uI true).v z2=v3 at *
 generalize (uI true).n z2=z3 at *
 have k4:=Yak h545 z3;generalize (uI true).v z3=v4 at *
 generalize (uI true).n z3=z4 at *
 have k5:=Yak h545 z4;generalize (uI true).v z4=v5 at *
 generalize (uI true).n z4=z5 at *
 have k6:=Yak h545 z5;generalize (uI true).v z5=v6 at *
 generalize (uI true).n z5=z6 at *
 have k7:=Yak h545 z6;generalize (uI true).v z6=v7 at *
 generalize (uI true).n z6=z7 at *
 have k8:=Yak h545 z7;generalize (uI true).v z7=v8 at *
 generalize (uI true).n z7=z8 at *
 have k9:=YdE h547 z8;generalize (uT true).v z8=v9 at *
 generalize (uT true).n z8=z9 at *
 have hv:=Rg.lst_v (D:=true) (R:=uT true) (x:=z9);rw[hv.1,hv.2];have k10:=Ydp h545 z9;change K' Pg 545 _=some (.tuple [iz ((uL true).v z9),.tuple (eR ((uL true).n z9))]) at k10;generalize (uL true).v z9=m at *
 generalize (uL true).n z9=y at *
 generalize hpv:((uT true).rep true m).v y=pv;generalize hpn:((uT true).rep true m).n y=z10;have k11:=Yak h545 z10;generalize (uI true).v z10=v11 at *
 generalize (uI true).n z10=z11 at *
 have k12:=Yak h545 z11;generalize (uI true).v z11=v12 at *
 generalize (uI true).n z11=z12 at *
 have k13:=Yak h545 z12;generalize (uI true).v z12=v13 at *
 generalize (uI true).n z12=z13 at *
 have k14:=YdE h547 z13;generalize (uT true).v z13=v14 at *
 generalize (uT true).n z13=z14 at *
 have k15:=YdE h547 z14;generalize (uT true).v z14=v15 at *
 generalize (uT true).n z14=z15 at *
 have k16:=Yfd h546 z15;generalize (uIs true).v z15=v16 at *
 generalize (uIs true).n z15=z16 at *
 have k17:=Yfe h550 z16;generalize (uS true).v z16=v17 at *
 generalize (uS true).n z16=z17 at *
 have k18:=Yfd h546 z17;generalize (uIs true).v z17=v18 at *
 generalize (uIs true).n z17=z18 at *
 simp only[go_sem,eSt] at k16 k17 k18;refine Ybm [.cell 2 (some 20)] (ws:=[.agg (eJb _)]) h rfl rfl (Ya2 _) (Ya2 _) (Ydx _) fun S ⟨r0,r,hm0,m0,a0⟩=>?_;have n2:=m0 2 rfl;have n3:=m0 3 rfl;have a40:=a0 52;simp only[F551,c551,go_sem,JiK,r0,hm0,n2,n3,k1,k2,k3,k4,k5,k6,k7,k8,k9,k10];refine Yjl h547 (y:=y) (m:=m) (a1:=v1) (a2:=v2) (a3:=v3) (a4:=v4) (a5:=v5) (a6:=v6) (a7:=v7) (a8:=v8) (kk:=v9) ⟨by simp only[go_sem,r0],by simp only[go_sem],by simp only[go_sem],by simp only[go_sem],by simp only[go_sem]<;>rfl,by simp only[go_sem]<;>rfl,by simp only[go_sem,a40]<;>rfl⟩ (by simp only[go_sem]) (by simp only[go_sem]) fun S1 hS1=>?_;rw[hpv,hpn] at hS1;obtain⟨t0,t2,t3,u0,u2,u3,b40⟩:=hS1;have hc:=Yq b40 (by simp);simp only[jP] at u3;simp only[Yhm] at u2;simp only[go_sem,JiK,t0,t2,t3,u0,u2,u3,k11,k12,k13,k14,k15,k16,k17,k18];exact⟨_,rfl,by simp only[go_sem,hc,Yfs]<;>rfl⟩
theorem Yo {a b:List UInt8} {N:Nat} (h:(a++b).length≤N):a.length≤N∧b.length≤N:=by
 rw[Gc] at h;omega
theorem YaT {t:List UInt8} {N:Nat} (h:(Yh t).length≤N):t.length≤N:=Gi Ycd h
theorem YaY {α:Type} {W:α→List UInt8} {N:Nat} (hW:∀a,1≤(W a).length) {l:List α} (h:(YH W l).length≤N):l.length≤N∧∀a∈l,(W a).length≤N:=by
 have hl:∀a∈l,(fun _:α=>True) a:=fun _ _=>Gs;have g:=YcD (fun a _=>hW a) hl;exact⟨Gi g.1 h,fun a ha=>Gi (g.2 a ha) h⟩
theorem Ybr (n:Int):1≤(nB n).length:=putB_pos _
theorem YeF (t:List UInt8):1≤(Yh t).length:=YQ
theorem YdR (x:Place):1≤(plB x).length:=by
 have:=YeF x.span.lo;simp only[plB,Gc];omega
theorem YeQ (x:Inf):1≤(inB x).length:=by
 have:=Ybr x.view;simp only[inB,Gc];omega
theorem Yg3 (x:Lse):1≤(leB x).length:=by
 have:=Ybr x.id;simp only[leB,Gc];omega
theorem Yg8 (x:ORw):1≤(orB x).length:=by
 have:=Ybr x.client;simp only[orB,Gc];omega
theorem Yii {x:Jb} {N:Nat} (h:(jbB x).length≤N):x.key.length≤N∧(x.parts.length≤N∧∀t∈x.parts,t.length≤N)∧(x.span.lo.length≤N∧x.span.hi.length≤N)∧x.wait.length≤N∧x.mem.length≤N:=by
 unfold jbB at h;obtain⟨-,h⟩:=Yo h;obtain⟨-,h⟩:=Yo h;obtain⟨-,h⟩:=Yo h;obtain⟨-,h⟩:=Yo h;obtain⟨-,h⟩:=Yo h;obtain⟨-,h⟩:=Yo h;obtain⟨-,h⟩:=Yo h;obtain⟨-,h⟩:=Yo h;obtain⟨h9,h⟩:=Yo h;obtain⟨h10,h⟩:=Yo h;obtain⟨-,h⟩:=Yo h;obtain⟨-,h⟩:=Yo h;obtain⟨-,h⟩:=Yo h;obtain⟨h14,h⟩:=Yo h;obtain⟨h15,h⟩:=Yo h;obtain⟨h16,h⟩:=Yo h;obtain⟨-,h18⟩:=Yo h;obtain⟨p1,p2⟩:=YaY YeF h10;exact⟨YaT h9,⟨p1,fun t ht=>YaT (p2 t ht)⟩,⟨YaT h14,YaT h15⟩,(YaY Ybr h16).1,(YaY Ybr h18).1⟩
theorem YdM {d:Drc} (h:(drB d).length≤10000):SmD d∧DrL d:=by
 unfold drB at h;obtain⟨h1,h⟩:=Yo h;obtain⟨h2,h⟩:=Yo h;obtain⟨-,h⟩:=Yo h;obtain⟨h4,h⟩:=Yo h;obtain⟨-,h⟩:=Yo h;obtain⟨-,h⟩:=Yo h;obtain⟨h7,h8⟩:=Yo h;obtain⟨-,p4⟩:=YaY YdR h1;obtain⟨-,i4⟩:=YaY YeQ h2;obtain⟨l3,-⟩:=YaY Yg3 h4;obtain⟨o3,-⟩:=YaY Yg8 h8;obtain⟨j1,⟨j2,j3⟩,⟨j4,j5⟩,j6,j7⟩:=Yii h7;have hc:∀c∈d.cells,c.mem.length≤10000:=fun c hc=>by
  have g:=i4 c hc;unfold inB at g;obtain⟨-,g⟩:=Yo g;obtain⟨g,-⟩:=Yo g;exact (YaY Ybr g).1
 refine⟨⟨l3,o3,?_,hc⟩,⟨fun p hp=>?_,by omega,⟨by omega,fun t ht=>by have:=j3 t ht;omega⟩,⟨by omega,by omega⟩,by omega,by omega,fun c hm=>by have:=hc c hm;omega⟩⟩
 ·unfold SmJ;omega
 ·have g:=p4 p hp;unfold plB at g;obtain⟨g1,g⟩:=Yo g;obtain⟨g2,-⟩:=Yo g;have:=YaT g1;have:=YaT g2;omega
theorem Yhg {t:List UInt8} (h:t.length≤10000):(if ((uDr true).f (t,false)).2.2=false∧Yar ((uDr true).f (t,false)).1=true∧drB ((uDr true).f (t,false)).1=t then some ((uDr true).f (t,false)).1 else none)=tkD t:=
 Cod.doc (cDr (D:=false)) (cDr (D:=true)) fun a hq hw=>Yd5 hq (YdM (by rw[hw];exact h)).2
theorem Rg.doc_e {α:Type} {R:Rg α} {q:α→Bool} {W:α→List UInt8} {t:List UInt8} (ht:t.length≤2 ^ 29):(if (R.f (t,false)).2.2=false∧q (R.f (t,false)).1=true∧W (R.f (t,false)).1=t then some (R.f (t,false)).1 else none)=
  if (R.n ⟨t,false,ht⟩).no=false∧q (R.v ⟨t,false,ht⟩)=true∧W (R.v ⟨t,false,ht⟩)=t then some (R.v ⟨t,false,ht⟩) else none:=rfl
theorem Rg.few {α:Type} {R:Rg α} {W:α→List UInt8} {P:α→Prop} (h:Cod R.f W P) {t:List UInt8} (ht:t.length≤2 ^ 29) (h1:(R.n ⟨t,false,ht⟩).no=false):(W (R.v ⟨t,false,ht⟩)).length≤t.length:=by
 have h3:(R.f (t,false)).2.2=false:=h1;have:=G5 List.length (h.get (s:=t) (r:=(R.f (t,false)).2.1) (a:=(R.f (t,false)).1) (Prod.ext rfl (Prod.ext rfl h3))).1;rw[Gc] at this
 show (W (R.f (t,false)).1).length≤_
 omega
def Ydy:Option Drc→V
 |some d=>.tuple [.agg (YT d),.bool true]
 |none=>.tuple [.agg Yd2,.bool false]
def H521 (Pg:PgT):Prop:=Pg 521=some (.code F521)∧H329 Pg∧H518 Pg∧H545 Pg∧H546 Pg∧H547 Pg∧H549 Pg∧H550 Pg∧H551 Pg
theorem K521 (h:H521 Pg) (t:List UInt8) (ht:t.length≤10000):K' Pg 521 [.str t]=some (Ydy (tkD t)):=by
 obtain⟨h,h329,h518,h545,h546,h547,h549,h550,h551⟩:=h;have ht2:t.length≤2 ^ 29:=by omega
 have e0:tkD t=if ((uDr true).n ⟨t,false,ht2⟩).no=false∧Yar ((uDr true).v ⟨t,false,ht2⟩)=true∧drB ((uDr true).v ⟨t,false,ht2⟩)=t then some ((uDr true).v ⟨t,false,ht2⟩) else none:=(Yhg ht).symm.trans (Rg.doc_e (R:=uDr true) (q:=Yar) (W:=drB) ht2)
 have hd:((uDr true).n ⟨t,false,ht2⟩).no=false→SmD ((uDr true).v ⟨t,false,ht2⟩)∧DrL ((uDr true).v ⟨t,false,ht2⟩)∧(drB ((uDr true).v ⟨t,false,ht2⟩)).length≤2 ^ 40:=fun h1=>
  have g:=Rg.few (cDr (D:=true)) ht2 h1
  have g2:=YdM (Gi g ht)
  ⟨g2.1,g2.2,Gi g (Gi ht (by decide))⟩
 rw[e0];clear e0;have eR0:K' Pg 521 [.str t]=K' Pg 521 [.str (Rb.s ⟨t,false,ht2⟩)]:=rfl;have hx0:eR ⟨t,false,ht2⟩=[.str t,.bool false]:=rfl;generalize hx:(⟨t,false,ht2⟩:Rb)=x at *
 simp only[uDr,Rg.map_v,Rg.map_n,Rg.pair_v,Rg.pair_n] at hd ⊢;have hv1:=Rg.lst_v (D:=true) (R:=uPl true) (x:=x);simp only[hv1.1,hv1.2] at hd ⊢;have k1:=Ydp h545 x;change K' Pg 545 _=some (.tuple [iz ((uL true).v x),.tuple (eR ((uL true).n x))]) at k1;generalize (uL true).v x=m1 at *
 generalize (uL true).n x=y1 at *
 generalize hp1:((uPl true).rep true m1).v y1=p1 at *
 generalize hq1:((uPl true).rep true m1).n y1=z1 at *
 have hv2:=Rg.lst_v (D:=true) (R:=uIn true) (x:=z1);simp only[hv2.1,hv2.2] at hd ⊢;have k2:=Ydp h545 z1;change K' Pg 545 _=some (.tuple [iz ((uL true).v z1),.tuple (eR ((uL true).n z1))]) at k2;generalize (uL true).v z1=m2 at *
 generalize (uL true).n z1=y2 at *
 generalize hp2:((uIn true).rep true m2).v y2=p2 at *
 generalize hq2:((uIn true).rep true m2).n y2=z2 at *
 have kn:=Yak h545 z2;generalize (uI true).v z2=vn at *
 generalize (uI true).n z2=zn at *
 have hv3:=Rg.lst_v (D:=true) (R:=uLe true) (x:=zn);simp only[hv3.1,hv3.2] at hd ⊢;have k3:=Ydp h545 zn;change K' Pg 545 _=some (.tuple [iz ((uL true).v zn),.tuple (eR ((uL true).n zn))]) at k3;generalize (uL true).v zn=m3 at *
 generalize (uL true).n zn=y3 at *
 generalize hp3:((uLe true).rep true m3).v y3=p3 at *
 generalize hq3:((uLe true).rep true m3).n y3=z3 at *
 have hv4:=Rg.lst_v (D:=true) (R:=uS true) (x:=z3);simp only[hv4.1,hv4.2] at hd ⊢;have k4:=Ydp h545 z3;change K' Pg 545 _=some (.tuple [iz ((uL true).v z3),.tuple (eR ((uL true).n z3))]) at k4;generalize (uL true).v z3=m4 at *
 generalize (uL true).n z3=y4 at *
 generalize hp4:((uS true).rep true m4).v y4=p4 at *
 generalize hq4:((uS true).rep true m4).n y4=z4 at *
 have ks:=Yfe h550 z4;generalize (uS true).v z4=vs at *
 generalize (uS true).n z4=zs at *
 have kj:=R551 h551 zs;generalize (uJb true).v zs=vj at *
 generalize (uJb true).n zs=zj at *
 have hv5:=Rg.lst_v (D:=true) (R:=uOr true) (x:=zj);simp only[hv5.1,hv5.2] at hd ⊢;have k5:=Ydp h545 zj;change K' Pg 545 _=some (.tuple [iz ((uL true).v zj),.tuple (eR ((uL true).n zj))]) at k5;generalize (uL true).v zj=m5 at *
 generalize (uL true).n zj=y5 at *
 generalize hp5:((uOr true).rep true m5).v y5=p5 at *
 generalize hq5:((uOr true).rep true m5).n y5=z5 at *
 rw[eR0];have hxs:x.s=t:=by rw[←hx]
 simp only[go_sem,eSt] at ks kj;rw[hxs];refine Qa h rfl ?_;rw[hx0] at k1;simp only[F521,c521,go_sem,JiK,k1];refine Yjf h545 h547 (t:=t) (y:=y1) (m:=m1) (n:=0) (mk:=⟨0,0,0⟩) (j:=zJb) (is:=[]) (ls:=[]) (ss:=[]) (os:=[]) ⟨by simp only[go_sem],by simp only[go_sem],by simp only[go_sem],by simp only[go_sem],by simp only[go_sem]<;>rfl,by simp only[go_sem]<;>rfl,rfl,rfl,rfl,rfl,rfl⟩ (by simp only[go_sem]) (by simp only[go_sem]) ⟨by first|rfl|(simp only[go_sem];rfl),by simp only[go_sem],by simp only[go_sem],by simp only[go_sem],by simp only[go_sem]⟩ fun S1 hS nn=>?_;rw[hp1,hq1] at hS;obtain⟨t2,t4,t5,u9,u2,u5,b33,b50,b70,b82,b109⟩:=hS;obtain⟨n0,n8,n10,n12,n15⟩:=nn;have w5:=u5;simp only[drP,go_sem] at w5;simp only[go_sem,JiK,t4,u9,k2];refine YiS h545 h546 h549 (t:=t) (y:=y2) (m:=m2) (n:=0) (mk:=⟨0,0,0⟩) (j:=zJb) (ps:=p1) (ls:=[]) (ss:=[]) (os:=[]) ⟨by simp only[go_sem,t2],by simp only[go_sem,t4],by simp only[go_sem,t5],by simp only[go_sem],by simp only[go_sem,u2],by simp only[go_sem,w5]<;>rfl,by simp only[go_sem,b33],by simp only[go_sem,b50],by simp only[go_sem,b70],by simp only[go_sem,b82],by simp only[go_sem,b109]⟩ (by simp only[go_sem]) (by simp only[go_sem]) ⟨by simp only[go_sem,n0],by simp only[go_sem,n8],by simp only[go_sem,n10],by simp only[go_sem,n12],by simp only[go_sem,n15]⟩ fun S2 hS nn=>?_;rw[hp2,hq2] at hS;obtain⟨t2,t4,t5,u9,u2,u5,b33,b50,b70,b82,b109⟩:=hS;obtain⟨n0,n8,n10,n12,n15⟩:=nn;have w5:=u5;simp only[drP,go_sem] at w5;simp only[go_sem,JiK,t4,t5,u9,w5,kn,k3];refine Yi1 h545 h550 (t:=t) (y:=y3) (m:=m3) (n:=vn) (mk:=⟨0,0,0⟩) (j:=zJb) (ps:=p1) (is:=p2) (ss:=[]) (os:=[]) ⟨by simp only[go_sem,t2],by simp only[go_sem,t4],by simp only[go_sem,t5],by simp only[go_sem],by simp only[go_sem,u2],by simp only[go_sem,w5]<;>rfl,by simp only[go_sem,b33],by simp only[go_sem,b50],by simp only[go_sem,b70],by simp only[go_sem,b82],by simp only[go_sem,b109]⟩ (by simp only[go_sem]) (by simp only[go_sem]) ⟨by simp only[go_sem,n0],by simp only[go_sem,n8],by simp only[go_sem,n10],by simp only[go_sem,n12],by simp only[go_sem,n15]⟩ fun S3 hS nn=>?_;rw[hp3,hq3] at hS;obtain⟨t2,t4,t5,u9,u2,u5,b33,b50,b70,b82,b109⟩:=hS;obtain⟨n0,n8,n10,n12,n15⟩:=nn;have w5:=u5;simp only[drP,go_sem] at w5;simp only[go_sem,JiK,t4,u9,k4];refine Yjq h550 (t:=t) (y:=y4) (m:=m4) (n:=vn) (mk:=⟨0,0,0⟩) (j:=zJb) (ps:=p1) (is:=p2) (ls:=p3) (os:=[]) ⟨by simp only[go_sem,t2],by simp only[go_sem,t4],by simp only[go_sem,t5],by simp only[go_sem],by simp only[go_sem,u2],by simp only[go_sem,w5]<;>rfl,by simp only[go_sem,b33],by simp only[go_sem,b50],by simp only[go_sem,b70],by simp only[go_sem,b82],by simp only[go_sem,b109]⟩ (by simp only[go_sem]) (by simp only[go_sem]) ⟨by simp only[go_sem,n0],by simp only[go_sem,n8],by simp only[go_sem,n10],by simp only[go_sem,n12],by simp only[go_sem,n15]⟩ fun S4 hS nn=>?_;rw[hp4,hq4] at hS;obtain⟨t2,t4,t5,u9,u2,u5,b33,b50,b70,b82,b109⟩:=hS;obtain⟨n0,n8,n10,n12,n15⟩:=nn;have w5:=u5;simp only[drP,go_sem] at w5;simp only[go_sem,JiK,t4,t5,u9,w5,ks,kj,k5];refine Yi9 h545 h550 (t:=t) (y:=y5) (m:=m5) (n:=vn) (mk:=vs) (j:=vj) (ps:=p1) (is:=p2) (ls:=p3) (ss:=p4) ⟨by simp only[go_sem,t2],by simp only[go_sem,t4],by simp only[go_sem,t5],by simp only[go_sem],by simp only[go_sem,u2],by simp only[go_sem,w5]<;>rfl,by simp only[go_sem,b33],by simp only[go_sem,b50],by simp only[go_sem,b70],by simp only[go_sem,b82],by simp only[go_sem,b109]⟩ (by simp only[go_sem]) (by simp only[go_sem]) ⟨by simp only[go_sem,n0],by simp only[go_sem,n8],by simp only[go_sem,n10],by simp only[go_sem,n12],by simp only[go_sem,n15]⟩ fun S5 hS nn=>?_;rw[hp5,hq5] at hS;obtain⟨t2,t4,t5,u9,u2,u5,b33,b50,b70,b82,b109⟩:=hS;obtain⟨n0,n8,n10,n12,n15⟩:=nn;have w5:=u5;simp only[drP,go_sem] at w5;have c33:=Yq b33 (by simp);have c50:=Yq b50 (by simp);have c70:=Yq b70 (by simp);have c82:=Yq b82 (by simp);have c109:=Yq b109 (by simp);obtain⟨zs,zb,zh⟩:=z5;simp only[eR] at u9;simp only[Yd2] at u2;cases zb with
 |true=>
  rw[Gv (by simp)];simp only[go_sem,t2,t4,u9,u2,Ydy]
 |false=>
  obtain⟨d1,d2,d3⟩:=hd rfl;have k329:=K329 h329 _ d1;have k518:=fun c3=>K518 h518 _ c3 d2 d3;cases c3:Yar (Yc0 (p1,p2,vn,p3,p4,vs,vj,p5)) with
  |false=>
   rw[c3] at k329;rw[Gv (by simp)];simp only[go_sem,Yc0] at k329;simp only[go_sem,t2,t4,t5,u9,u2,w5,c33,c50,c70,c82,c109,k329,Ydy]
  |true=>
   rw[c3] at k329;have k518:=k518 c3;generalize hB:drB (Yc0 (p1,p2,vn,p3,p4,vs,vj,p5))=b at *
   simp only[go_sem,Yc0] at k329 k518;cases c4:decide (b=t) with
   |false=>
    have c5:b≠t:=Gb c4;rw[Gv (by simp[c5])];simp only[go_sem,t2,t4,t5,u9,u2,w5,c33,c50,c70,c82,c109,k329,k518,c4,n0,Ydy]
   |true=>
    have c5:b=t:=Gg c4;rw[GB ⟨rfl,rfl,c5⟩];simp only[go_sem,t2,t4,t5,u9,u2,w5,c33,c50,c70,c82,c109,k329,k518,c4,n0,Ydy,Yc0]
def uIt (D:Bool):Rg (List UInt8×List UInt8):=.pair (uT D) (uT D)
def itB (x:List UInt8×List UInt8):List UInt8:=Yh x.1++Yh x.2
def ItV (x:List UInt8×List UInt8):Prop:=TV x.1∧TV x.2
theorem cIt {D:Bool}:Cod (uIt D).f itB ItV:=cT.pair cT
theorem YjA {D:Bool}:Cod ((uIt D).lst D).f (YH itB) (LV ItV):=cL cIt fun x _=>by
 have:=YQ (t:=x.1);simp only[itB,Gc];omega
abbrev MsT:=Int×Int×Int×Int×Int×Int×Int×Int×Int×Stamp×List UInt8×Int×Int×Int×List UInt8×List UInt8×Bool×List UInt8×Stamp×List UInt8×Int×Int×Stamp×Bool×List UInt8×List (List UInt8×List UInt8)×List UInt8×Bool×List Place×List Int
def Ycr (p:MsT):Msg:=
 ⟨p.1,p.2.1,p.2.2.1,p.2.2.2.1,p.2.2.2.2.1,p.2.2.2.2.2.1,p.2.2.2.2.2.2.1,p.2.2.2.2.2.2.2.1,p.2.2.2.2.2.2.2.2.1,p.2.2.2.2.2.2.2.2.2.1,p.2.2.2.2.2.2.2.2.2.2.1,⟨p.2.2.2.2.2.2.2.2.2.2.2.1,p.2.2.2.2.2.2.2.2.2.2.2.2.1,p.2.2.2.2.2.2.2.2.2.2.2.2.2.1,p.2.2.2.2.2.2.2.2.2.2.2.2.2.2.1,p.2.2.2.2.2.2.2.2.2.2.2.2.2.2.2.1,p.2.2.2.2.2.2.2.2.2.2.2.2.2.2.2.2.1,p.2.2.2.2.2.2.2.2.2.2.2.2.2.2.2.2.2.1,p.2.2.2.2.2.2.2.2.2.2.2.2.2.2.2.2.2.2.1,p.2.2.2.2.2.2.2.2.2.2.2.2.2.2.2.2.2.2.2.1,p.2.2.2.2.2.2.2.2.2.2.2.2.2.2.2.2.2.2.2.2.1⟩,⟨p.2.2.2.2.2.2.2.2.2.2.2.2.2.2.2.2.2.2.2.2.2.1,p.2.2.2.2.2.2.2.2.2.2.2.2.2.2.2.2.2.2.2.2.2.2.1,p.2.2.2.2.2.2.2.2.2.2.2.2.2.2.2.2.2.2.2.2.2.2.2.1,p.2.2.2.2.2.2.2.2.2.2.2.2.2.2.2.2.2.2.2.2.2.2.2.2.1,p.2.2.2.2.2.2.2.2.2.2.2.2.2.2.2.2.2.2.2.2.2.2.2.2.2.1,p.2.2.2.2.2.2.2.2.2.2.2.2.2.2.2.2.2.2.2.2.2.2.2.2.2.2.1,p.2.2.2.2.2.2.2.2.2.2.2.2.2.2.2.2.2.2.2.2.2.2.2.2.2.2.2.1⟩,p.2.2.2.2.2.2.2.2.2.2.2.2.2.2.2.2.2.2.2.2.2.2.2.2.2.2.2.2.1,p.2.2.2.2.2.2.2.2.2.2.2.2.2.2.2.2.2.2.2.2.2.2.2.2.2.2.2.2.2⟩
def Yjv (x:Msg):MsT:=(x.kind,x.from_,x.to,x.shard,x.epoch,x.move,x.lease,x.n,x.of_,x.at_,x.text,x.req.client,x.req.req,x.req.kind,x.req.key,x.req.value,x.req.had,x.req.old,x.req.at_,x.req.hi,x.req.limit,x.ans.err,x.ans.at_,x.ans.found,x.ans.val,x.ans.items,x.ans.next,x.ans.more,x.places,x.mem)
def uMs (D:Bool):Rg Msg:=.map Ycr (.pair (uI D) (.pair (uI D) (.pair (uI D) (.pair (uI D) (.pair (uI D) (.pair (uI D) (.pair (uI D) (.pair (uI D) (.pair (uI D) (.pair (uS D) (.pair (uT D) (.pair (uI D) (.pair (uI D) (.pair (uI D) (.pair (uT D) (.pair (uT D) (.pair (uF D) (.pair (uT D) (.pair (uS D) (.pair (uT D) (.pair (uI D) (.pair (uI D) (.pair (uS D) (.pair (uF D) (.pair (uT D) (.pair ((uIt D).lst D) (.pair (uT D) (.pair (uF D) (.pair ((uPl D).lst D) (uIs D))))))))))))))))))))))))))))))
def msB (x:Msg):List UInt8:=nB x.kind++(nB x.from_++(nB x.to++(nB x.shard++(nB x.epoch++(nB x.move++(nB x.lease++(nB x.n++(nB x.of_++(stB x.at_++(Yh x.text++(nB x.req.client++(nB x.req.req++(nB x.req.kind++(Yh x.req.key++(Yh x.req.value++(YL x.req.had++(Yh x.req.old++(stB x.req.at_++(Yh x.req.hi++(nB x.req.limit++(nB x.ans.err++(stB x.ans.at_++(YL x.ans.found++(Yh x.ans.val++(YH itB x.ans.items++(Yh x.ans.next++(YL x.ans.more++(YH plB x.places++(YH nB x.mem)))))))))))))))))))))))))))))
def MsV (x:Msg):Prop:=(NV x.kind∧NV x.from_∧NV x.to∧NV x.shard∧NV x.epoch∧NV x.move∧NV x.lease∧NV x.n∧NV x.of_∧Ya x.at_=true∧TV x.text∧NV x.req.client∧NV x.req.req∧NV x.req.kind∧TV x.req.key∧TV x.req.value∧True∧TV x.req.old∧Ya x.req.at_=true∧TV x.req.hi∧NV x.req.limit∧NV x.ans.err∧Ya x.ans.at_=true∧True∧TV x.ans.val∧LV ItV x.ans.items∧TV x.ans.next∧True∧LV PlV x.places∧LV NV x.mem)∧Ycr (Yjv x)=x
theorem cMs {D:Bool}:Cod (uMs D).f msB MsV:=
 ((cI.pair (cI.pair (cI.pair (cI.pair (cI.pair (cI.pair (cI.pair (cI.pair (cI.pair (cS.pair (cT.pair (cI.pair (cI.pair (cI.pair (cT.pair (cT.pair (cF.pair (cT.pair (cS.pair (cT.pair (cI.pair (cI.pair (cS.pair (cF.pair (cT.pair (YjA.pair (cT.pair (cF.pair ((cL cPl Ydn).pair cIs)))))))))))))))))))))))))))))).map (g:=Ycr) (k:=Yjv) (fun a=>rfl)
def tkM (t:List UInt8):Option Msg:=if ((uMs false).f (t,false)).2=([],false)∧YbM ((uMs false).f (t,false)).1=true then some ((uMs false).f (t,false)).1 else none
structure MsL (m:Msg):Prop where
 text:m.text.length≤2 ^ 24
 key:m.req.key.length≤2 ^ 24
 value:m.req.value.length≤2 ^ 24
 old:m.req.old.length≤2 ^ 24
 hi:m.req.hi.length≤2 ^ 24
 val:m.ans.val.length≤2 ^ 24
 next:m.ans.next.length≤2 ^ 24
 items:∀p∈m.ans.items,p.1.length≤2 ^ 24∧p.2.length≤2 ^ 24
 places:∀p∈m.places,p.span.lo.length≤2 ^ 24∧p.span.hi.length≤2 ^ 24
theorem tv {t:List UInt8} (h:t.length≤2 ^ 24):TV t:=by show _<_;omega
theorem Yft {m:Msg} (h:YbM m=true) (hl:MsL m):MsV m:=by
 simp only[YbM,List.all_append,List.all_cons,List.all_nil,List.all_flatMap,Gk,GE,GH,Gz,and_true] at h;obtain⟨⟨a1,a2,a3,a4,a5,a6,a7⟩,⟨⟨⟨b1,b2,b3,b4,b5,b6,b7,b8,b9,b10,b11,b12,b13⟩,c1⟩,c2⟩,d1,d2,d3⟩:=h;have z:(0:Int)≤0:=Int.le_refl 0;have f:∀{n},Yu n=true→NV n:=fun h=>YbV z h;refine⟨⟨f b1,f b2,f b3,f b4,f b5,f b6,f b7,f b8,f b9,d1,tv hl.text,f b10,f b11,f b12,tv hl.key,tv hl.value,Gs,tv hl.old,d2,tv hl.hi,f b13,nv (by omega) (by omega),d3,Gs,tv hl.val,⟨by omega,fun p hp=>⟨tv (hl.items p hp).1,tv (hl.items p hp).2⟩⟩,tv hl.next,Gs,⟨by omega,fun p hp=>?_⟩,⟨by omega,fun n hn=>f (c2 n hn)⟩⟩,rfl⟩;have:=c1 p hp;exact⟨⟨tv (hl.places p hp).1,tv (hl.places p hp).2,f this.1,f this.2.1,f this.2.2⟩,rfl⟩
theorem YbZ (h:H465 Pg) (x:Rb):K' Pg 465 [.tuple (.lref 0 0::eR x)]=some (.tuple [iz ((uI false).v x),.tuple (eR ((uI false).n x))]):=(uN false).k (e:=fun a:Nat=>iz (a:Int)) (K465 h) x
theorem Yda (h:H492 Pg) (x:Rb):K' Pg 492 [.tuple (.lref 0 0::eR x)]=some (.tuple [.str ((uT false).v x),.tuple (eR ((uT false).n x))]):=(uT false).k (e:=fun a:List UInt8=>.str a) (K492 h) x
theorem YhW (h:H493 Pg) (x:Rb):K' Pg 493 [.tuple (.lref 0 0::eR x)]=some (.tuple [.bool ((uF false).v x),.tuple (eR ((uF false).n x))]):=(uF false).k (e:=fun a:Bool=>.bool a) (K493 h) x
theorem YhT (h:H464 Pg) (x:Rb):K' Pg 464 [.tuple (.lref 0 0::eR x)]=some (.tuple [eSt ((uS false).v x),.tuple (eR ((uS false).n x))]):=(uS false).k (e:=fun a:Stamp=>eSt a) (K464 h) x
theorem YhU (h:H466 Pg) (x:Rb):K' Pg 466 [.tuple (.lref 0 0::eR x)]=some (.tuple [iz ((uL false).v x),.tuple (eR ((uL false).n x))]):=(uL false).k (e:=fun a:Nat=>iz (a:Int)) (K466 h) x
def YbR:List V:=[iz 0,iz 0,iz 0,iz 0,iz 0,iz 0,iz 0,iz 0,iz 0,iz 0,iz 0,iz 0,.str [],iz 0,iz 0,iz 0,.str [],.str [],.bool false,.str [],iz 0,iz 0,iz 0,.str [],iz 0,iz 0,iz 0,iz 0,iz 0,.bool false,.str [],.slice 2 [],.str [],.bool false,.slice 5 [],.slice 1 []]
def msP (m:Msg) (a b:V):List V:=[iz m.kind,iz m.from_,iz m.to,iz m.shard,iz m.epoch,iz m.move,iz m.lease,iz m.n,iz m.of_,iz m.at_.wall,iz m.at_.tick,iz m.at_.node,.str m.text,iz 0,iz 0,iz 0,.str [],.str [],.bool false,.str [],iz 0,iz 0,iz 0,.str [],iz 0,iz 0,iz 0,iz 0,iz 0,.bool false,.str [],.slice 2 [],.str [],.bool false,a,b]
def rqP (r:Rq):List V:=[iz r.client,iz r.req,iz r.kind,.str r.key,.str r.value,.bool r.had,.str r.old,iz r.at_.wall,iz r.at_.tick,iz r.at_.node,.str r.hi,iz r.limit]
def anP (a:Ans) (i:V):List V:=[iz a.err,iz a.at_.wall,iz a.at_.tick,iz a.at_.node,.bool a.found,.str a.val,i,.str a.next,.bool a.more]
structure TM (S:St) (y:Rb) (m:Msg) (it:List (List UInt8×List UInt8)) (pl:List Place) (me:List Int):Prop where
 r2:S.ρ 2=.lref 2 0
 r4:S.ρ 4=.lref 11 0
 r5:S.ρ 5=.lref 5 0
 r6:S.ρ 6=.lref 6 0
 r7:S.ρ 7=.lref 7 0
 m11:S.μ 11=some (eR y,false)
 m2:S.μ 2=some (YbR,false)
 m5:S.μ 5=some (msP m (nilOr 131 5 pl.length) (nilOr 143 1 me.length),false)
 m6:S.μ 6=some (rqP m.req,false)
 m7:S.μ 7=some (anP m.ans (nilOr 99 2 it.length),false)
 n8:S.μ 8=none
 ait:S.A 99=YY 2 (it.map Ydw) it.length
 apl:S.A 131=YY 5 (pl.map ePl) pl.length
 ame:S.A 143=YY 1 (me.map (fun a:Int=>[iz a])) me.length
structure TMb (S:St) (y:Rb) (m:Msg) (it:List (List UInt8×List UInt8)) (pl:List Place) (me:List Int):Prop where
 r2:S.ρ 2=.lref 2 0
 r4:S.ρ 4=.lref 11 0
 r5:S.ρ 5=.lref 5 0
 r6:S.ρ 6=.lref 6 0
 r7:S.ρ 7=.lref 7 0
 m11:S.μ 11=some (eR y,false)
 m2:S.μ 2=some (YbR,false)
 m5:S.μ 5=some (msP m (nilOr 131 5 pl.length) (nilOr 143 1 me.length),false)
 m6:S.μ 6=some (rqP m.req,false)
 m7:S.μ 7=some (anP m.ans (nilOr 99 2 it.length),false)
 ait:S.A 99=YY 2 (it.map Ydw) it.length
 apl:S.A 131=YY 5 (pl.map ePl) pl.length
 ame:S.A 143=YY 1 (me.map (fun a:Int=>[iz a])) me.length
theorem TMb.head {S:St} {y:Rb} {m:Msg} {it:List (List UInt8×List UInt8)} {pl:List Place} {me:List Int} (h:TMb S y m it pl me):TM (S.head [] [] [8] []) y m it pl me:=
 ⟨JiJ h.r2 rfl,JiJ h.r4 rfl,JiJ h.r5 rfl,JiJ h.r6 rfl,JiJ h.r7 rfl,Yy h.m11 rfl,Yy h.m2 rfl,Yy h.m5 rfl,Yy h.m6 rfl,Yy h.m7 rfl,JiH (.inr rfl),(Yv rfl).trans h.ait,(Yv rfl).trans h.apl,(Yv rfl).trans h.ame⟩
theorem TM.head {S:St} {y:Rb} {m:Msg} {it:List (List UInt8×List UInt8)} {pl:List Place} {me:List Int} (h:TM S y m it pl me):TM (S.head [] [] [8] []) y m it pl me:=
 TMb.head ⟨h.r2,h.r4,h.r5,h.r6,h.r7,h.m11,h.m2,h.m5,h.m6,h.m7,h.ait,h.apl,h.ame⟩
set_option maxHeartbeats 1000000
theorem YiU (h492:H492 Pg) {y:Rb} {c:Nat} {m:Msg} {pl:List Place} {me:List Int} (hc:c≤2 ^ 29) {S:St} {Q:Ex→St→Prop}
  (hS:TM S y m [] pl me) (sc:S.ρ 88=iz c) (si:S.ρ 89=iz 0)
  (hq:∀S',TM S' (((uIt false).rep false c).n y) m (((uIt false).rep false c).v y) pl me→Q .norm S'):Wp (K' Pg) l566_0 S (Blk 0 Q):=by
 unfold l566_0
 refine JiY (fun (i:Nat) S=>i≤c∧S.ρ 88=iz c∧S.ρ 89=iz i∧∃(vs:List (List UInt8×List UInt8)) (w:Rb),vs.length=i∧(((uIt false).rep false c).v y=vs++((uIt false).rep false (c-i)).v w∧((uIt false).rep false c).n y=((uIt false).rep false (c-i)).n w)∧TM S w m vs pl me) (fun i=>c-i) 0 ?_ ?_
 ·simp only[JhU]
  exact⟨Gu _,sc,si,[],y,rfl,⟨rfl,rfl⟩,hS⟩
 ·intro i S ⟨hi,sc,si,vs,w,hvl,hrep,hS⟩
  obtain⟨t2,t4,t5,t6,t7,m11,m2,m5,m6,m7,n8,ait,apl,ame⟩:=hS
  cases c1:decide ((i:Int)<(c:Int)) with
  |false=>
   have him:i=c:=by have:=Gb c1;omega
   subst him
   obtain⟨e1,e2⟩:=Yau hrep
   rw[e1,e2] at hq
   simp only[go_sem,sc,si,c1]
   exact hq _ ⟨by simp only[go_sem,t2],by simp only[go_sem,t4],by simp only[go_sem,t5],by simp only[go_sem,t6],by simp only[go_sem,t7],m11,m2,m5,m6,m7,n8,ait,apl,ame⟩
  |true=>
   have hlt:=Ye c1
   have hinc:=inc64q (i:=i) (by omega)
   have hone:=rep_step hlt hrep
   have hR:(uIt false).v w=((uT false).v w,(uT false).v ((uT false).n w)):=rfl
   have hN:(uIt false).n w=(uT false).n ((uT false).n w):=rfl
   rw[hR,hN] at hone
   have k1:=Yda h492 w
   generalize (uT false).v w=v1 at *
   generalize (uT false).n w=z1 at *
   have k2:=Yda h492 z1
   generalize (uT false).v z1=v2 at *
   generalize (uT false).n z1=z2 at *
   have hil:(vs.map Ydw).length=vs.length:=by simp
   have ha:=fun S=>YV (S:=S) (s:=99) (z:=2) (r:=[.str v1,.str v2]) hil (by unfold lim;omega)
   have x5:=m5
   have x7:=m7
   simp only[msP,go_sem] at x5
   simp only[anP,go_sem] at x7
   simp only[go_sem,JiK,t4,t5,t7,sc,si,c1,m11,x5,x7,n8,ait,k1,k2,YI,ha,hinc,JhU]
   have hs1:(vs++[(v1,v2)]).length=vs.length+1:=by simp
   exact⟨i+1,by omega,by omega,rfl,vs++[(v1,v2)],z2,by rw[hs1,hvl],hone,⟨by simp only[go_sem,t2],by simp only[go_sem,t4],by simp only[go_sem,t5],by simp only[go_sem,t6],by simp only[go_sem,t7],by simp only[go_sem],by simp only[go_sem,m2],by first|(rw[hs1];simp only[go_sem]<;>rfl)|simp only[go_sem,m5],by simp only[go_sem,m6],by first|(rw[hs1];simp only[go_sem]<;>rfl)|simp only[go_sem,m7],by simp only[go_sem,n8],by rw[hs1,Gw];simp only[go_sem]<;>rfl,by simp only[go_sem,apl],by simp only[go_sem,ame]⟩⟩
theorem Yjh (h465:H465 Pg) (h492:H492 Pg) {y:Rb} {c:Nat} {m:Msg} {it:List (List UInt8×List UInt8)} {me:List Int} (hc:c≤2 ^ 29) {S:St} {Q:Ex→St→Prop}
  (hS:TM S y m it [] me) (sc:S.ρ 109=iz c) (si:S.ρ 110=iz 0)
  (hq:∀S',TM S' (((uPl false).rep false c).n y) m it (((uPl false).rep false c).v y) me→Q .norm S'):Wp (K' Pg) l566_1 S (Blk 2 Q):=by
 unfold l566_1
 refine JiY (fun (i:Nat) S=>i≤c∧S.ρ 109=iz c∧S.ρ 110=iz i∧∃(vs:List Place) (w:Rb),vs.length=i∧(((uPl false).rep false c).v y=vs++((uPl false).rep false (c-i)).v w∧((uPl false).rep false c).n y=((uPl false).rep false (c-i)).n w)∧TM S w m it vs me) (fun i=>c-i) 0 ?_ ?_
 ·exact⟨Gu _,JiJ sc rfl,JiJ si rfl,[],y,rfl,⟨rfl,rfl⟩,hS.head⟩
 ·intro i S ⟨hi,sc,si,vs,w,hvl,hrep,hS⟩
  obtain⟨t2,t4,t5,t6,t7,m11,m2,m5,m6,m7,n8,ait,apl,ame⟩:=hS
  cases c1:decide ((i:Int)<(c:Int)) with
  |false=>
   have him:i=c:=by have:=Gb c1;omega
   subst him
   obtain⟨e1,e2⟩:=Yau hrep
   rw[e1,e2] at hq
   simp only[go_sem,sc,si,c1]
   exact hq _ ⟨by simp only[go_sem,t2],by simp only[go_sem,t4],by simp only[go_sem,t5],by simp only[go_sem,t6],by simp only[go_sem,t7],m11,m2,m5,m6,m7,n8,ait,apl,ame⟩
  |true=>
   have hlt:=Ye c1
   have hinc:=inc64q (i:=i) (by omega)
   have hone:=rep_step hlt hrep
   have hR:(uPl false).v w=mkPl ((uT false).v w,(uT false).v ((uT false).n w),(uI false).v ((uT false).n ((uT false).n w)),(uI false).v ((uI false).n ((uT false).n ((uT false).n w))),(uI false).v ((uI false).n ((uI false).n ((uT false).n ((uT false).n w))))):=rfl
   have hN:(uPl false).n w=(uI false).n ((uI false).n ((uI false).n ((uT false).n ((uT false).n w)))):=rfl
   rw[hR,hN] at hone
   have k1:=Yda h492 w
   generalize (uT false).v w=v1 at *
   generalize (uT false).n w=z1 at *
   have k2:=Yda h492 z1
   generalize (uT false).v z1=v2 at *
   generalize (uT false).n z1=z2 at *
   have k3:=YbZ h465 z2
   generalize (uI false).v z2=v3 at *
   generalize (uI false).n z2=z3 at *
   have k4:=YbZ h465 z3
   generalize (uI false).v z3=v4 at *
   generalize (uI false).n z3=z4 at *
   have k5:=YbZ h465 z4
   generalize (uI false).v z4=v5 at *
   generalize (uI false).n z4=z5 at *
   have hil:(vs.map ePl).length=vs.length:=by simp
   have ha:=fun S=>YV (S:=S) (s:=131) (z:=5) (r:=[.str v1,.str v2,iz v3,iz v4,iz v5]) hil (by unfold lim;omega)
   have x5:=m5
   have x7:=m7
   simp only[msP,go_sem] at x5
   simp only[anP,go_sem] at x7
   simp only[go_sem,JiK,t4,t5,t7,sc,si,c1,m11,x5,x7,n8,apl,k1,k2,k3,k4,k5,YI,ha,hinc,JhU]
   have hs1:(vs++[mkPl (v1,v2,v3,v4,v5)]).length=vs.length+1:=by simp
   exact⟨i+1,by omega,by omega,rfl,vs++[mkPl (v1,v2,v3,v4,v5)],z5,by rw[hs1,hvl],hone,TMb.head ⟨by simp only[go_sem,t2],by simp only[go_sem,t4],by simp only[go_sem,t5],by simp only[go_sem,t6],by simp only[go_sem,t7],by simp only[go_sem],by simp only[go_sem,m2],by first|(rw[hs1];simp only[go_sem]<;>rfl)|simp only[go_sem,m5],by simp only[go_sem,m6],by first|(rw[hs1];simp only[go_sem]<;>rfl)|simp only[go_sem,m7],by simp only[go_sem,ait],by rw[hs1,Gw];simp only[go_sem]<;>rfl,by simp only[go_sem,ame]⟩⟩
theorem Yi3 (h465:H465 Pg) {y:Rb} {c:Nat} {m:Msg} {it:List (List UInt8×List UInt8)} {pl:List Place} (hc:c≤2 ^ 29) {S:St} {Q:Ex→St→Prop}
  (hS:TM S y m it pl []) (sc:S.ρ 135=iz c) (si:S.ρ 136=iz 0)
  (hq:∀S',TM S' (((uI false).rep false c).n y) m it pl (((uI false).rep false c).v y)→Q .norm S'):Wp (K' Pg) l566_2 S (Blk 4 Q):=by
 unfold l566_2
 refine JiY (fun (i:Nat) S=>i≤c∧S.ρ 135=iz c∧S.ρ 136=iz i∧∃(vs:List Int) (w:Rb),vs.length=i∧(((uI false).rep false c).v y=vs++((uI false).rep false (c-i)).v w∧((uI false).rep false c).n y=((uI false).rep false (c-i)).n w)∧TM S w m it pl vs) (fun i=>c-i) 0 ?_ ?_
 ·simp only[JhU]
  exact⟨Gu _,sc,si,[],y,rfl,⟨rfl,rfl⟩,hS⟩
 ·intro i S ⟨hi,sc,si,vs,w,hvl,hrep,hS⟩
  obtain⟨t2,t4,t5,t6,t7,m11,m2,m5,m6,m7,n8,ait,apl,ame⟩:=hS
  cases c1:decide ((i:Int)<(c:Int)) with
  |false=>
   have him:i=c:=by have:=Gb c1;omega
   subst him
   obtain⟨e1,e2⟩:=Yau hrep
   rw[e1,e2] at hq
   simp only[go_sem,sc,si,c1]
   exact hq _ ⟨by simp only[go_sem,t2],by simp only[go_sem,t4],by simp only[go_sem,t5],by simp only[go_sem,t6],by simp only[go_sem,t7],m11,m2,m5,m6,m7,n8,ait,apl,ame⟩
  |true=>
   have hlt:=Ye c1
   have hinc:=inc64q (i:=i) (by omega)
   have hone:=rep_step hlt hrep
   have k1:=YbZ h465 w
   generalize (uI false).v w=v1 at *
   generalize (uI false).n w=z1 at *
   have hil:(vs.map (fun a:Int=>[iz a])).length=vs.length:=by simp
   have ha:=fun S=>YV (S:=S) (s:=143) (z:=1) (r:=[iz v1]) hil (by unfold lim;omega)
   have x5:=m5
   have x7:=m7
   simp only[msP,go_sem] at x5
   simp only[anP,go_sem] at x7
   simp only[go_sem,JiK,t4,t5,t7,sc,si,c1,m11,x5,x7,n8,ame,k1,YI,ha,hinc,JhU]
   have hs1:(vs++[v1]).length=vs.length+1:=by simp
   exact⟨i+1,by omega,by omega,rfl,vs++[v1],z1,by rw[hs1,hvl],hone,⟨by simp only[go_sem,t2],by simp only[go_sem,t4],by simp only[go_sem,t5],by simp only[go_sem,t6],by simp only[go_sem,t7],by simp only[go_sem],by simp only[go_sem,m2],by first|(rw[hs1];simp only[go_sem]<;>rfl)|simp only[go_sem,m5],by simp only[go_sem,m6],by first|(rw[hs1];simp only[go_sem]<;>rfl)|simp only[go_sem,m7],by simp only[go_sem,n8],by simp only[go_sem,ait],by simp only[go_sem,apl],by rw[hs1,Gw];simp only[go_sem]<;>rfl⟩⟩
end Sg
namespace Sg
variable {α β : Type}
def depR (R1:Rd→α×Rd) (R2:α→Rd→β×Rd) (x:Rd):(α×β)×Rd:=(((R1 x).1,(R2 (R1 x).1 (R1 x).2).1),(R2 (R1 x).1 (R1 x).2).2)
theorem Cod.dep {R1:Rd→α×Rd} {R2:α→Rd→β×Rd} {W1:α→List UInt8} {W2:β→List UInt8} {P1:α→Prop} {P2:α→β→Prop} (h1:Cod R1 W1 P1) (h2:∀a,Cod (R2 a) W2 (P2 a)) :
  Cod (depR R1 R2) (fun p=>W1 p.1++W2 p.2) (fun p=>P1 p.1∧P2 p.1 p.2):=by
 refine⟨fun {s r a} h=>?_,fun {r a} h=>?_,fun {s}=>?_,fun x=>?_⟩
 ·obtain⟨a,b⟩:=a
  simp only[depR,Gl] at h
  obtain⟨⟨e1,e2⟩,e3⟩:=h
  cases hq:R1 (s,false) with
  |mk a' y=>
   obtain⟨s',b'⟩:=y
   rw[hq] at e1 e2 e3
   cases b' with
   |true=>
    have:=(h2 a').bad (s:=s')
    rw[e3] at this;cases this
   |false=>
    obtain⟨g1,g2⟩:=h1.get hq
    obtain⟨g3,g4⟩:=(h2 a').get (s:=s') (r:=r) (a:=b) (Prod.ext e2 e3)
    subst e1
    rw[g1,g3]
    exact⟨by simp,g2,g4⟩
 ·obtain⟨a,b⟩:=a
  simp only[depR,Gr]
  rw[h1.put h.1,(h2 a).put h.2]
 ·simp only[depR]
  have:=h1.bad (s:=s)
  generalize R1 (s,true)=q at *
  obtain⟨a,t,b⟩:=q
  simp only at this
  subst this
  exact (h2 a).bad
 ·exact Gi ((h2 _).len _) (h1.len x)
def zRq:Rq:=⟨0,0,0,[],[],false,[],⟨0,0,0⟩,[],0⟩
def zAn:Ans:=⟨0,⟨0,0,0⟩,false,[],[],[],false⟩
def zMs:Msg:=⟨0,0,0,0,0,0,0,0,0,⟨0,0,0⟩,[],zRq,zAn,[],[]⟩
theorem Ye5 {t:List UInt8} {m:Msg}:tkM t=some m↔t=msB m∧MsV m∧YbM m=true:=(cMs (D:=false)).whole
def uOu (D:Bool):Rg Msg:=⟨fun x=>((tkM (gT D x).1).getD zMs,((gT D x).2.1,(gT D x).2.2||(tkM (gT D x).1).isNone)),fun x=>cT.len x⟩
def ouB (m:Msg):List UInt8:=Yh (msB m)
def OuV (m:Msg):Prop:=TV (msB m)∧MsV m∧YbM m=true
theorem cOu {D:Bool}:Cod (uOu D).f ouB OuV:=by
 refine⟨fun {s r a} h=>?_,fun {r a} h=>?_,fun {s}=>?_,(uOu D).le⟩
 ·simp only[uOu,Gl,Gao] at h;obtain⟨h1,h2,h3,h4⟩:=h;cases hq:tkM (gT D (s,false)).1 with
  |none=>rw[hq] at h4;cases h4
  |some m=>
   rw[hq] at h1;obtain rfl:m=a:=h1;obtain⟨g1,g2⟩:=(cT (D:=D)).get (s:=s) (r:=r) (a:=(gT D (s,false)).1) (Prod.ext rfl (Prod.ext h2 h3));obtain⟨e1,e2,e3⟩:=Ye5.1 hq;rw[e1] at g1 g2;exact⟨g1,g2,e2,e3⟩
 ·have:=(cT (D:=D)).put (r:=r) h.1;have hm:=Ye5.2 ⟨rfl,h.2.1,h.2.2⟩;simp only[uOu,ouB,this,hm];rfl
 ·simp only[uOu,(cT (D:=D)).bad (s:=s),Gab]
theorem Yfx (m:Msg) (_:OuV m):1≤(ouB m).length:=YQ
abbrev OwT:=Int×Int×List Int×Int×List UInt8×List UInt8×List Int×List Msg
def Yee (id:Int) (p:OwT):Own:=⟨p.1,⟨id,p.2.1,p.2.2.1,p.2.2.2.1,p.2.2.2.2.1,p.2.2.2.2.2.1,p.2.2.2.2.2.2.1⟩,p.2.2.2.2.2.2.2⟩
def Yjx (x:Own):OwT:=(x.cell,x.rep.view,x.rep.members,x.rep.n,x.rep.base,x.rep.text,x.rep.acks,x.outs)
def uOw (D:Bool) (id:Int):Rg Own:=.map (Yee id) (.pair (uI D) (.pair (uI D) (.pair (uIs D) (.pair (uI D) (.pair (uT D) (.pair (uT D) (.pair (uIs D) ((uOu D).lst D))))))))
def owB (x:Own):List UInt8:=nB x.cell++(nB x.rep.view++(YH nB x.rep.members++(nB x.rep.n++(Yh x.rep.base++(Yh x.rep.text++(YH nB x.rep.acks++YH ouB x.outs))))))
def OwV (id:Int) (x:Own):Prop:=(NV x.cell∧NV x.rep.view∧LV NV x.rep.members∧NV x.rep.n∧TV x.rep.base∧TV x.rep.text∧LV NV x.rep.acks∧LV OuV x.outs)∧Yee id (Yjx x)=x
theorem cOw {D:Bool} {id:Int}:Cod (uOw D id).f owB (OwV id):=(cI.pair (cI.pair (cIs.pair (cI.pair (cT.pair (cT.pair (cIs.pair (cL cOu Yfx)))))))).map (g:=Yee id) (k:=Yjx) (fun a=>rfl)
theorem Yfy {id:Int} (x:Own) (_:OwV id x):1≤(owB x).length:=by
 have:=putB_pos x.cell.toNat;simp only[owB,nB,Gc];omega
def Yd0 (D:Bool):Rd→Sto×Rd:=mapR (fun p:Int×List Own=>(⟨p.1,p.2⟩:Sto)) (depR (uI D).f fun id=>((uOw D id).lst D).f)
def Yc1 (s:Sto):List UInt8:=nB s.id++YH owB s.owns
def YgJ (s:Sto):Prop:=NV s.id∧LV (OwV s.id) s.owns
theorem Ye8 {D:Bool}:Cod (Yd0 D) Yc1 YgJ:=by
 have h:=((cI (D:=D)).dep fun id=>cL (D:=D) (cOw (D:=D) (id:=id)) Yfy).map (g:=fun p:Int×List Own=>(⟨p.1,p.2⟩:Sto)) (k:=fun s=>(s.id,s.owns)) (fun a=>rfl);exact⟨fun hr=>⟨(h.get hr).1,(h.get hr).2.1⟩,fun hp=>h.put ⟨hp,rfl⟩,h.bad,h.len⟩
end Sg
namespace Sg
open _root_.Go (IntKind BinOp UnOp)
variable {Pg:PgT}
theorem Yg1 (x:List UInt8×List UInt8):1≤(itB x).length:=by
 have:=YeF x.1;simp only[itB,Gc];omega
theorem YdQ {x:Msg} {N:Nat} (h:(msB x).length≤N) (hN:N≤2 ^ 24):(x.ans.items.length≤N∧x.places.length≤N∧x.mem.length≤N)∧MsL x:=by
 unfold msB at h;obtain⟨-,h⟩:=Yo h;obtain⟨-,h⟩:=Yo h;obtain⟨-,h⟩:=Yo h;obtain⟨-,h⟩:=Yo h;obtain⟨-,h⟩:=Yo h;obtain⟨-,h⟩:=Yo h;obtain⟨-,h⟩:=Yo h;obtain⟨-,h⟩:=Yo h;obtain⟨-,h⟩:=Yo h;obtain⟨-,h⟩:=Yo h;obtain⟨hte,h⟩:=Yo h;obtain⟨-,h⟩:=Yo h;obtain⟨-,h⟩:=Yo h;obtain⟨-,h⟩:=Yo h;obtain⟨hk,h⟩:=Yo h;obtain⟨hv,h⟩:=Yo h;obtain⟨-,h⟩:=Yo h;obtain⟨hol,h⟩:=Yo h;obtain⟨-,h⟩:=Yo h;obtain⟨hh,h⟩:=Yo h;obtain⟨-,h⟩:=Yo h;obtain⟨-,h⟩:=Yo h;obtain⟨-,h⟩:=Yo h;obtain⟨-,h⟩:=Yo h;obtain⟨hva,h⟩:=Yo h;obtain⟨hit,h⟩:=Yo h;obtain⟨hnx,h⟩:=Yo h;obtain⟨-,h⟩:=Yo h;obtain⟨hpl,h⟩:=Yo h;obtain⟨i1,i2⟩:=YaY Yg1 hit;obtain⟨p1,p2⟩:=YaY YdR hpl;refine⟨⟨i1,p1,(YaY Ybr h).1⟩,Gi (YaT hte) hN,Gi (YaT hk) hN,Gi (YaT hv) hN,Gi (YaT hol) hN,Gi (YaT hh) hN,Gi (YaT hva) hN,Gi (YaT hnx) hN,fun p hp=>?_,fun p hp=>?_⟩
 ·have g:=i2 p hp;unfold itB at g;obtain⟨g1,g2⟩:=Yo g;exact⟨Gi (YaT g1) hN,Gi (YaT g2) hN⟩
 ·have g:=p2 p hp;unfold plB at g;obtain⟨g1,g⟩:=Yo g;obtain⟨g2,-⟩:=Yo g;exact⟨Gi (YaT g1) hN,Gi (YaT g2) hN⟩
theorem YeT {x:Msg} (h:(msB x).length≤10000):SmM x∧MsL x:=YdQ h (by decide)
def Yd7:Option Msg→V
 |some m=>.tuple [.agg (Yaa m),iz 0]
 |none=>.tuple [.agg YbR,iz 3]
def YgC (D:Bool):=(uI D).lst D
def Ygz (D:Bool):=((uPl D).lst D).pair (YgC D)
theorem YgB {D:Bool} {x:Rb}:(Ygz D).v x=(((uPl D).lst D).v x,(YgC D).v (((uPl D).lst D).n x)):=rfl
theorem YgA {D:Bool} {x:Rb}:(Ygz D).n x=(YgC D).n (((uPl D).lst D).n x):=rfl
def Ygw (D:Bool):=(uF D).pair (Ygz D)
theorem Ygy {D:Bool} {x:Rb}:(Ygw D).v x=((uF D).v x,(Ygz D).v ((uF D).n x)):=rfl
theorem Ygx {D:Bool} {x:Rb}:(Ygw D).n x=(Ygz D).n ((uF D).n x):=rfl
def Ygt (D:Bool):=(uT D).pair (Ygw D)
theorem Ygv {D:Bool} {x:Rb}:(Ygt D).v x=((uT D).v x,(Ygw D).v ((uT D).n x)):=rfl
theorem Ygu {D:Bool} {x:Rb}:(Ygt D).n x=(Ygw D).n ((uT D).n x):=rfl
def Ygq (D:Bool):=((uIt D).lst D).pair (Ygt D)
theorem Ygs {D:Bool} {x:Rb}:(Ygq D).v x=(((uIt D).lst D).v x,(Ygt D).v (((uIt D).lst D).n x)):=rfl
theorem Ygr {D:Bool} {x:Rb}:(Ygq D).n x=(Ygt D).n (((uIt D).lst D).n x):=rfl
def Ygn (D:Bool):=(uT D).pair (Ygq D)
theorem Ygp {D:Bool} {x:Rb}:(Ygn D).v x=((uT D).v x,(Ygq D).v ((uT D).n x)):=rfl
theorem Ygo {D:Bool} {x:Rb}:(Ygn D).n x=(Ygq D).n ((uT D).n x):=rfl
def Ygk (D:Bool):=(uF D).pair (Ygn D)
theorem Ygm {D:Bool} {x:Rb}:(Ygk D).v x=((uF D).v x,(Ygn D).v ((uF D).n x)):=rfl
theorem Ygl {D:Bool} {x:Rb}:(Ygk D).n x=(Ygn D).n ((uF D).n x):=rfl
def Ygh (D:Bool):=(uS D).pair (Ygk D)
theorem Ygj {D:Bool} {x:Rb}:(Ygh D).v x=((uS D).v x,(Ygk D).v ((uS D).n x)):=rfl
theorem Ygi {D:Bool} {x:Rb}:(Ygh D).n x=(Ygk D).n ((uS D).n x):=rfl
def Yge (D:Bool):=(uI D).pair (Ygh D)
theorem Ygg {D:Bool} {x:Rb}:(Yge D).v x=((uI D).v x,(Ygh D).v ((uI D).n x)):=rfl
theorem Ygf {D:Bool} {x:Rb}:(Yge D).n x=(Ygh D).n ((uI D).n x):=rfl
def Ygb (D:Bool):=(uI D).pair (Yge D)
theorem Ygd {D:Bool} {x:Rb}:(Ygb D).v x=((uI D).v x,(Yge D).v ((uI D).n x)):=rfl
theorem Ygc {D:Bool} {x:Rb}:(Ygb D).n x=(Yge D).n ((uI D).n x):=rfl
def Yf8 (D:Bool):=(uT D).pair (Ygb D)
theorem Yga {D:Bool} {x:Rb}:(Yf8 D).v x=((uT D).v x,(Ygb D).v ((uT D).n x)):=rfl
theorem Yf9 {D:Bool} {x:Rb}:(Yf8 D).n x=(Ygb D).n ((uT D).n x):=rfl
def Yf5 (D:Bool):=(uS D).pair (Yf8 D)
theorem Yf7 {D:Bool} {x:Rb}:(Yf5 D).v x=((uS D).v x,(Yf8 D).v ((uS D).n x)):=rfl
theorem Yf6 {D:Bool} {x:Rb}:(Yf5 D).n x=(Yf8 D).n ((uS D).n x):=rfl
def Yf2 (D:Bool):=(uT D).pair (Yf5 D)
theorem Yf4 {D:Bool} {x:Rb}:(Yf2 D).v x=((uT D).v x,(Yf5 D).v ((uT D).n x)):=rfl
theorem Yf3 {D:Bool} {x:Rb}:(Yf2 D).n x=(Yf5 D).n ((uT D).n x):=rfl
def YfZ (D:Bool):=(uF D).pair (Yf2 D)
theorem Yf1 {D:Bool} {x:Rb}:(YfZ D).v x=((uF D).v x,(Yf2 D).v ((uF D).n x)):=rfl
theorem Yf0 {D:Bool} {x:Rb}:(YfZ D).n x=(Yf2 D).n ((uF D).n x):=rfl
def YfW (D:Bool):=(uT D).pair (YfZ D)
theorem YfY {D:Bool} {x:Rb}:(YfW D).v x=((uT D).v x,(YfZ D).v ((uT D).n x)):=rfl
theorem YfX {D:Bool} {x:Rb}:(YfW D).n x=(YfZ D).n ((uT D).n x):=rfl
def YfT (D:Bool):=(uT D).pair (YfW D)
theorem YfV {D:Bool} {x:Rb}:(YfT D).v x=((uT D).v x,(YfW D).v ((uT D).n x)):=rfl
theorem YfU {D:Bool} {x:Rb}:(YfT D).n x=(YfW D).n ((uT D).n x):=rfl
def YfQ (D:Bool):=(uI D).pair (YfT D)
theorem YfS {D:Bool} {x:Rb}:(YfQ D).v x=((uI D).v x,(YfT D).v ((uI D).n x)):=rfl
theorem YfR {D:Bool} {x:Rb}:(YfQ D).n x=(YfT D).n ((uI D).n x):=rfl
def YfN (D:Bool):=(uI D).pair (YfQ D)
theorem YfP {D:Bool} {x:Rb}:(YfN D).v x=((uI D).v x,(YfQ D).v ((uI D).n x)):=rfl
theorem YfO {D:Bool} {x:Rb}:(YfN D).n x=(YfQ D).n ((uI D).n x):=rfl
def YfK (D:Bool):=(uI D).pair (YfN D)
theorem YfM {D:Bool} {x:Rb}:(YfK D).v x=((uI D).v x,(YfN D).v ((uI D).n x)):=rfl
theorem YfL {D:Bool} {x:Rb}:(YfK D).n x=(YfN D).n ((uI D).n x):=rfl
def YfH (D:Bool):=(uT D).pair (YfK D)
theorem YfJ {D:Bool} {x:Rb}:(YfH D).v x=((uT D).v x,(YfK D).v ((uT D).n x)):=rfl
theorem YfI {D:Bool} {x:Rb}:(YfH D).n x=(YfK D).n ((uT D).n x):=rfl
def uM9 (D:Bool):=(uS D).pair (YfH D)
theorem YhM {D:Bool} {x:Rb}:(uM9 D).v x=((uS D).v x,(YfH D).v ((uS D).n x)):=rfl
theorem YhL {D:Bool} {x:Rb}:(uM9 D).n x=(YfH D).n ((uS D).n x):=rfl
def uM8 (D:Bool):=(uI D).pair (uM9 D)
theorem YhK {D:Bool} {x:Rb}:(uM8 D).v x=((uI D).v x,(uM9 D).v ((uI D).n x)):=rfl
theorem YhJ {D:Bool} {x:Rb}:(uM8 D).n x=(uM9 D).n ((uI D).n x):=rfl
def uM7 (D:Bool):=(uI D).pair (uM8 D)
theorem YhI {D:Bool} {x:Rb}:(uM7 D).v x=((uI D).v x,(uM8 D).v ((uI D).n x)):=rfl
theorem YhH {D:Bool} {x:Rb}:(uM7 D).n x=(uM8 D).n ((uI D).n x):=rfl
def uM6 (D:Bool):=(uI D).pair (uM7 D)
theorem YhG {D:Bool} {x:Rb}:(uM6 D).v x=((uI D).v x,(uM7 D).v ((uI D).n x)):=rfl
theorem YhF {D:Bool} {x:Rb}:(uM6 D).n x=(uM7 D).n ((uI D).n x):=rfl
def uM5 (D:Bool):=(uI D).pair (uM6 D)
theorem YhE {D:Bool} {x:Rb}:(uM5 D).v x=((uI D).v x,(uM6 D).v ((uI D).n x)):=rfl
theorem YhD {D:Bool} {x:Rb}:(uM5 D).n x=(uM6 D).n ((uI D).n x):=rfl
def uM4 (D:Bool):=(uI D).pair (uM5 D)
theorem YhC {D:Bool} {x:Rb}:(uM4 D).v x=((uI D).v x,(uM5 D).v ((uI D).n x)):=rfl
theorem YhB {D:Bool} {x:Rb}:(uM4 D).n x=(uM5 D).n ((uI D).n x):=rfl
def uM3 (D:Bool):=(uI D).pair (uM4 D)
theorem YhA {D:Bool} {x:Rb}:(uM3 D).v x=((uI D).v x,(uM4 D).v ((uI D).n x)):=rfl
theorem Yhz {D:Bool} {x:Rb}:(uM3 D).n x=(uM4 D).n ((uI D).n x):=rfl
def uM2 (D:Bool):=(uI D).pair (uM3 D)
theorem Yhy {D:Bool} {x:Rb}:(uM2 D).v x=((uI D).v x,(uM3 D).v ((uI D).n x)):=rfl
theorem Yhx {D:Bool} {x:Rb}:(uM2 D).n x=(uM3 D).n ((uI D).n x):=rfl
def uM1 (D:Bool):=(uI D).pair (uM2 D)
theorem Yhw {D:Bool} {x:Rb}:(uM1 D).v x=((uI D).v x,(uM2 D).v ((uI D).n x)):=rfl
theorem Yhv {D:Bool} {x:Rb}:(uM1 D).n x=(uM2 D).n ((uI D).n x):=rfl
def uM0 (D:Bool):=(uI D).pair (uM1 D)
theorem Yhu {D:Bool} {x:Rb}:(uM0 D).v x=((uI D).v x,(uM1 D).v ((uI D).n x)):=rfl
theorem Yht {D:Bool} {x:Rb}:(uM0 D).n x=(uM1 D).n ((uI D).n x):=rfl
theorem YgE {D:Bool} {x:Rb}:(YgC D).v x=((uI D).lst D).v x:=rfl
theorem YgD {D:Bool} {x:Rb}:(YgC D).n x=((uI D).lst D).n x:=rfl
theorem YhO {D:Bool} {x:Rb}:(uMs D).v x=Ycr ((uM0 D).v x):=rfl
theorem YhN {D:Bool} {x:Rb}:(uMs D).n x=(uM0 D).n x:=rfl
def H566 (Pg:PgT):Prop:=Pg 566=some (.code F566)∧H341 Pg∧H464 Pg∧H465 Pg∧H466 Pg∧H492 Pg∧H493 Pg
theorem Rg.whole_o {α:Type} {R:Rg α} {q:α→Bool} {t:List UInt8} (ht:t.length≤2 ^ 29) {o:Option α} (ho:(if (R.f (t,false)).2=([],false)∧q (R.f (t,false)).1=true then some (R.f (t,false)).1 else none)=o) :
  ((R.n ⟨t,false,ht⟩).no=false∧(R.n ⟨t,false,ht⟩).s=[]∧q (R.v ⟨t,false,ht⟩)=true∧o=some (R.v ⟨t,false,ht⟩))∨(((R.n ⟨t,false,ht⟩).no=false→(R.n ⟨t,false,ht⟩).s=[]→q (R.v ⟨t,false,ht⟩)=false)∧o=none):=by
 subst ho
 split
 ·rename_i h
  exact .inl ⟨G5 Prod.snd h.1,G5 Prod.fst h.1,h.2,rfl⟩
 ·rename_i h
  refine .inr ⟨fun h1 h2=>?_,rfl⟩
  cases hq:q (R.v ⟨t,false,ht⟩) with
  |false=>rfl
  |true=>exact absurd ⟨Prod.ext h2 h1,hq⟩ h
theorem Rg.doc_o {α:Type} {R:Rg α} {q:α→Bool} {W:α→List UInt8} {t:List UInt8} (ht:t.length≤2 ^ 29) {o:Option α} (ho:(if (R.f (t,false)).2.2=false∧q (R.f (t,false)).1=true∧W (R.f (t,false)).1=t then some (R.f (t,false)).1 else none)=o) :
  ((R.n ⟨t,false,ht⟩).no=false∧q (R.v ⟨t,false,ht⟩)=true∧W (R.v ⟨t,false,ht⟩)=t∧o=some (R.v ⟨t,false,ht⟩))∨(((R.n ⟨t,false,ht⟩).no=false→q (R.v ⟨t,false,ht⟩)=true→W (R.v ⟨t,false,ht⟩)≠t)∧o=none):=by
 subst ho
 split
 ·rename_i h
  exact .inl ⟨h.1,h.2.1,h.2.2,rfl⟩
 ·rename_i h
  exact .inr ⟨fun h1 h2 h3=>h ⟨h1,h2,h3⟩,rfl⟩
theorem K566g (h:H566 Pg) (t:List UInt8) (ht:t.length≤2 ^ 29) (hsm:∀m,MsV m→msB m=t→m.places.length≤4194304∧m.mem.length≤4194304):K' Pg 566 [.str t]=some (Yd7 (tkM t)):=by
 obtain⟨h,h341,h464,h465,h466,h492,h493⟩:=h;generalize ho:tkM t=o;have e0:=Rg.whole_o (R:=uMs false) (q:=YbM) ht ho;clear ho;have hd:((uMs false).n ⟨t,false,ht⟩).no=false→((uMs false).n ⟨t,false,ht⟩).s=[]→((uMs false).v ⟨t,false,ht⟩).places.length≤4194304∧((uMs false).v ⟨t,false,ht⟩).mem.length≤4194304:=fun h1 h2=>
  have g:=Rg.good (cMs (D:=false)) ht h1 h2
  hsm _ g.2 g.1.symm
 have eR0:K' Pg 566 [.str t]=K' Pg 566 [.str (Rb.s ⟨t,false,ht⟩)]:=rfl;have hx0:eR ⟨t,false,ht⟩=[.str t,.bool false]:=rfl;generalize hx:(⟨t,false,ht⟩:Rb)=x at *
 simp only[YhO,YhN] at hd e0;simp only[Yhu,Yht] at hd e0;have k1:=YbZ h465 x;generalize (uI false).v x=v1 at *
 generalize (uI false).n x=z1 at *
 simp only[Yhw,Yhv] at hd e0;have k2:=YbZ h465 z1;generalize (uI false).v z1=v2 at *
 generalize (uI false).n z1=z2 at *
 simp only[Yhy,Yhx] at hd e0;have k3:=YbZ h465 z2;generalize (uI false).v z2=v3 at *
 generalize (uI false).n z2=z3 at *
 simp only[YhA,Yhz] at hd e0;have k4:=YbZ h465 z3;generalize (uI false).v z3=v4 at *
 generalize (uI false).n z3=z4 at *
 simp only[YhC,YhB] at hd e0;have k5:=YbZ h465 z4;generalize (uI false).v z4=v5 at *
 generalize (uI false).n z4=z5 at *
 simp only[YhE,YhD] at hd e0;have k6:=YbZ h465 z5;generalize (uI false).v z5=v6 at *
 generalize (uI false).n z5=z6 at *
 simp only[YhG,YhF] at hd e0;have k7:=YbZ h465 z6;generalize (uI false).v z6=v7 at *
 generalize (uI false).n z6=z7 at *
 simp only[YhI,YhH] at hd e0;have k8:=YbZ h465 z7;generalize (uI false).v z7=v8 at *
 generalize (uI false).n z7=z8 at *
 simp only[YhK,YhJ] at hd e0;have k9:=YbZ h465 z8;generalize (uI false).v z8=v9 at *
 generalize (uI false).n z8=z9 at *
 simp only[YhM,YhL] at hd e0;have k10:=YhT h464 z9;generalize (uS false).v z9=v10 at *
 generalize (uS false).n z9=z10 at *
 simp only[YfJ,YfI] at hd e0;have k11:=Yda h492 z10;generalize (uT false).v z10=v11 at *
 generalize (uT false).n z10=z11 at *
 simp only[YfM,YfL] at hd e0;have k12:=YbZ h465 z11;generalize (uI false).v z11=v12 at *
 generalize (uI false).n z11=z12 at *
 simp only[YfP,YfO] at hd e0;have k13:=YbZ h465 z12;generalize (uI false).v z12=v13 at *
 generalize (uI false).n z12=z13 at *
 simp only[YfS,YfR] at hd e0;have k14:=YbZ h465 z13;generalize (uI false).v z13=v14 at *
 generalize (uI false).n z13=z14 at *
 simp only[YfV,YfU] at hd e0;have k15:=Yda h492 z14;generalize (uT false).v z14=v15 at *
 generalize (uT false).n z14=z15 at *
 simp only[YfY,YfX] at hd e0;have k16:=Yda h492 z15;generalize (uT false).v z15=v16 at *
 generalize (uT false).n z15=z16 at *
 simp only[Yf1,Yf0] at hd e0;have k17:=YhW h493 z16;generalize (uF false).v z16=v17 at *
 generalize (uF false).n z16=z17 at *
 simp only[Yf4,Yf3] at hd e0;have k18:=Yda h492 z17;generalize (uT false).v z17=v18 at *
 generalize (uT false).n z17=z18 at *
 simp only[Yf7,Yf6] at hd e0;have k19:=YhT h464 z18;generalize (uS false).v z18=v19 at *
 generalize (uS false).n z18=z19 at *
 simp only[Yga,Yf9] at hd e0;have k20:=Yda h492 z19;generalize (uT false).v z19=v20 at *
 generalize (uT false).n z19=z20 at *
 simp only[Ygd,Ygc] at hd e0;have k21:=YbZ h465 z20;generalize (uI false).v z20=v21 at *
 generalize (uI false).n z20=z21 at *
 simp only[Ygg,Ygf] at hd e0;have k22:=YbZ h465 z21;generalize (uI false).v z21=v22 at *
 generalize (uI false).n z21=z22 at *
 simp only[Ygj,Ygi] at hd e0;have k23:=YhT h464 z22;generalize (uS false).v z22=v23 at *
 generalize (uS false).n z22=z23 at *
 simp only[Ygm,Ygl] at hd e0;have k24:=YhW h493 z23;generalize (uF false).v z23=v24 at *
 generalize (uF false).n z23=z24 at *
 simp only[Ygp,Ygo] at hd e0;have k25:=Yda h492 z24;generalize (uT false).v z24=v25 at *
 generalize (uT false).n z24=z25 at *
 simp only[Ygs,Ygr] at hd e0;have hva:=Rg.lst_v (D:=false) (R:=uIt false) (x:=z25);simp only[hva.1,hva.2] at hd e0;have hma:(uL false).v z25≤2 ^ 29:=YbY;have kla:=YhU h466 z25;generalize (uL false).v z25=ca at *
 generalize (uL false).n z25=ya at *
 generalize hpa:((uIt false).rep false ca).v ya=pa at *
 generalize hqa:((uIt false).rep false ca).n ya=wa at *
 simp only[Ygv,Ygu] at hd e0;have k26:=Yda h492 wa;generalize (uT false).v wa=v26 at *
 generalize (uT false).n wa=z26 at *
 simp only[Ygy,Ygx] at hd e0;have k27:=YhW h493 z26;generalize (uF false).v z26=v27 at *
 generalize (uF false).n z26=z27 at *
 simp only[YgB,YgA] at hd e0;have hvb:=Rg.lst_v (D:=false) (R:=uPl false) (x:=z27);simp only[hvb.1,hvb.2] at hd e0;have hmb:(uL false).v z27≤2 ^ 29:=YbY;have klb:=YhU h466 z27;generalize (uL false).v z27=cb at *
 generalize (uL false).n z27=yb at *
 generalize hpb:((uPl false).rep false cb).v yb=pb at *
 generalize hqb:((uPl false).rep false cb).n yb=wb at *
 simp only[YgE,YgD] at hd e0;have hvc:=Rg.lst_v (D:=false) (R:=uI false) (x:=wb);simp only[hvc.1,hvc.2] at hd e0;have hmc:(uL false).v wb≤2 ^ 29:=YbY;have klc:=YhU h466 wb;generalize (uL false).v wb=cc at *
 generalize (uL false).n wb=yc at *
 generalize hpc:((uI false).rep false cc).v yc=pc at *
 generalize hqc:((uI false).rep false cc).n yc=wc at *
 rw[eR0];have hxs:x.s=t:=by rw[←hx]
 simp only[go_sem,eSt] at k10 k19 k23;rw[hxs];refine Qa h rfl ?_;rw[hx0] at k1;simp only[F566,c566,go_sem,JiK,k1,k2,k3,k4,k5,k6,k7,k8,k9,k10,k11,k12,k13,k14,k15,k16,k17,k18,k19,k20,k21,k22,k23,k24,k25,kla];refine YiU h492 (y:=ya) (c:=ca) (m:=⟨v1,v2,v3,v4,v5,v6,v7,v8,v9,v10,v11,⟨v12,v13,v14,v15,v16,v17,v18,v19,v20,v21⟩,⟨v22,v23,v24,v25,[],[],false⟩,[],[]⟩) (pl:=[]) (me:=[]) hma ⟨by simp only[go_sem],by simp only[go_sem],by simp only[go_sem],by simp only[go_sem],by simp only[go_sem],by simp only[go_sem],by simp only[go_sem]<;>rfl,by simp only[go_sem]<;>rfl,by simp only[go_sem]<;>rfl,by simp only[go_sem]<;>rfl,by simp only[go_sem],rfl,rfl,rfl⟩ (by simp only[go_sem]) (by simp only[go_sem]) fun S1 hS=>?_;rw[hpa,hqa] at hS;obtain⟨t2,t4,t5,t6,t7,u11,u2,u5,u6,u7,n8,ait,apl,ame⟩:=hS;have w5:=u5;have w7:=u7;simp only[msP,go_sem] at w5;simp only[anP,go_sem] at w7;simp only[go_sem,JiK,t4,t7,u11,w7,k26,k27,klb];refine Yjh h465 h492 (y:=yb) (c:=cb) (m:=⟨v1,v2,v3,v4,v5,v6,v7,v8,v9,v10,v11,⟨v12,v13,v14,v15,v16,v17,v18,v19,v20,v21⟩,⟨v22,v23,v24,v25,[],v26,v27⟩,[],[]⟩) (it:=pa) (me:=[]) hmb ⟨by simp only[go_sem,t2],by simp only[go_sem,t4],by simp only[go_sem,t5],by simp only[go_sem,t6],by simp only[go_sem,t7],by simp only[go_sem],by simp only[go_sem,u2],by simp only[go_sem,w5]<;>rfl,by simp only[go_sem,u6],by simp only[go_sem,w7]<;>rfl,by simp only[go_sem,n8],by simp only[go_sem,ait],by simp only[go_sem,apl],by simp only[go_sem,ame]⟩ (by simp only[go_sem]) (by simp only[go_sem]) fun S2 hS=>?_;rw[hpb,hqb] at hS;obtain⟨t2,t4,t5,t6,t7,u11,u2,u5,u6,u7,n8,ait,apl,ame⟩:=hS;have w5:=u5;have w7:=u7;simp only[msP,go_sem] at w5;simp only[anP,go_sem] at w7;simp only[go_sem,JiK,t4,u11,klc];refine Yi3 h465 (y:=yc) (c:=cc) (m:=⟨v1,v2,v3,v4,v5,v6,v7,v8,v9,v10,v11,⟨v12,v13,v14,v15,v16,v17,v18,v19,v20,v21⟩,⟨v22,v23,v24,v25,[],v26,v27⟩,[],[]⟩) (it:=pa) (pl:=pb) hmc ⟨by simp only[go_sem,t2],by simp only[go_sem,t4],by simp only[go_sem,t5],by simp only[go_sem,t6],by simp only[go_sem,t7],by simp only[go_sem],by simp only[go_sem,u2],by simp only[go_sem,w5]<;>rfl,by simp only[go_sem,u6],by simp only[go_sem,w7]<;>rfl,by simp only[go_sem,n8],by simp only[go_sem,ait],by simp only[go_sem,apl],by simp only[go_sem,ame]⟩ (by simp only[go_sem]) (by simp only[go_sem]) fun S3 hS=>?_;rw[hpc,hqc] at hS;obtain⟨t2,t4,t5,t6,t7,u11,u2,u5,u6,u7,n8,ait,apl,ame⟩:=hS;have w5:=u5;have w7:=u7;simp only[msP,go_sem] at w5;simp only[anP,go_sem] at w7;have c99:=Yq ait (by simp);have c131:=Yq apl (by simp);have c143:=Yq ame (by simp);simp only[rqP,go_sem] at u6;obtain⟨zs,zb,zh⟩:=wc;simp only[eR] at u11;simp only[YbR] at u2;simp only[go_sem,t5,t6,t7,w5,w7,u6];cases zb with
 |true=>
  obtain rfl:o=none:=by
   rcases e0 with ⟨h1,-⟩|⟨-,h2⟩
   ·have h3:true=false:=h1;cases h3
   ·exact h2
  simp only[go_sem,t2,t4,u11,u2,Yd7,YbR]
 |false=>
  cases c2:decide (zs=[]) with
  |false=>
   obtain rfl:o=none:=by
    rcases e0 with ⟨-,h1,-⟩|⟨-,h2⟩
    ·exact absurd h1 (Gb c2)
    ·exact h2
   simp only[go_sem,t2,t4,u11,u2,c2,Yd7,YbR]
  |true=>
   have hu:=Gg c2;have k341:=K341w h341 _ (hd rfl hu);cases hB:YbM (Ycr (v1,v2,v3,v4,v5,v6,v7,v8,v9,v10,v11,v12,v13,v14,v15,v16,v17,v18,v19,v20,v21,v22,v23,v24,v25,pa,v26,v27,pb,pc)) with
   |false=>
    obtain rfl:o=none:=by
     rcases e0 with ⟨-,-,h1,-⟩|⟨-,h2⟩
     ·rw[hB] at h1;cases h1
     ·exact h2
    rw[hB] at k341;simp only[go_sem,Ycr] at k341;simp only[go_sem,t2,t4,t5,u11,u2,c2,c99,c131,c143,k341,Yd7,YbR]
   |true=>
    obtain rfl:o=some (Ycr (v1,v2,v3,v4,v5,v6,v7,v8,v9,v10,v11,v12,v13,v14,v15,v16,v17,v18,v19,v20,v21,v22,v23,v24,v25,pa,v26,v27,pb,pc)):=by
     rcases e0 with ⟨-,-,-,h1⟩|⟨h2,-⟩
     ·exact h1
     ·have h3:=h2 rfl hu;rw[hB] at h3;cases h3
    rw[hB] at k341;simp only[go_sem,Ycr] at k341;simp only[go_sem,t2,t4,t5,u11,u2,c2,c99,c131,c143,k341,Yd7,Ycr]
theorem K566 (h:H566 Pg) (t:List UInt8) (ht:t.length≤4194304):K' Pg 566 [.str t]=some (Yd7 (tkM t)):=
 K566g h t (Gi ht (by decide)) fun m _ hw=>(YdQ (N:=4194304) (by rw[hw];exact ht) (by decide)).1.2
theorem K460v (h:H460 Pg) (n:Int) (hn:NV n):K' Pg 460 [iz n]=some (.str (nB n)):=K460 h n (Ya3 hn).1 (Ya3 hn).2
theorem K460n (h:H460 Pg) (n:Nat) (hn:n<2 ^ 63):K' Pg 460 [iz n]=some (.str (putB n)):=K460v h n ⟨by omega,by omega⟩
theorem K459v (h:H459 Pg) (s:Stamp) (hs:Ya s=true):K' Pg 459 [.agg [iz s.wall,iz s.tick,iz s.node]]=some (.str (stB s)):=K459 h s hs
theorem K488v (h:H488 Pg) (t:List UInt8) (ht:t.length≤2 ^ 30):K' Pg 488 [.str t]=some (.str (Yh t)):=K488 h t (by omega)
set_option maxHeartbeats 1000000
theorem Yh2 (h488:H488 Pg) {m:Msg} {g:List UInt8} (he:∀e∈m.ans.items,(fun p:List UInt8×List UInt8=>p.1.length≤2 ^ 30∧p.2.length≤2 ^ 30) e) (hb:g.length+(m.ans.items.flatMap itB).length≤2 ^ 50) {S:St} {Q:Ex→St→Prop}
  (s1:S.ρ 1=.lref 1 0) (m1:S.μ 1=some (Yaa m,false)) (s5:S.ρ 5=.str g) (s4:S.ρ 4=.lref 4 0) (m4:S.μ 4=some (YcK m.ans,false)) (n8:S.μ 8=none) (si:S.ρ 6=iz 0)
  (hq:∀S',S'.ρ 1=.lref 1 0→S'.μ 1=some (Yaa m,false)→S'.ρ 5=.str (g++m.ans.items.flatMap itB)→S'.ρ 4=.lref 4 0→S'.μ 4=some (YcK m.ans,false)→S'.μ 8=none→Q .norm S'):Wp (K' Pg) l536_0 S (Blk 0 Q):=by
 have hll:m.ans.items.length≤(m.ans.items.flatMap itB).length:=YP (P:=fun _=>True) (fun e _=>by have:=YQ (t:=e.1);simp only[itB,Gc];omega) (fun _ _=>Gs)
 unfold l536_0
 refine JiY (fun (i:Nat) S=>i≤m.ans.items.length∧S.ρ 1=.lref 1 0∧S.μ 1=some (Yaa m,false)∧S.ρ 5=.str (g++(m.ans.items.take i).flatMap itB)∧S.ρ 4=.lref 4 0∧S.μ 4=some (YcK m.ans,false)∧S.μ 8=none∧S.ρ 6=iz i) (fun i=>m.ans.items.length-i) 0 ?_ ?_
 ·simp only[JhU]
  exact⟨Gu _,s1,m1,by rw[s5];simp,s4,m4,n8,si⟩
 ·intro i S ⟨hi,s1,m1,s5,s4,m4,n8,si⟩
  have v1:=m1
  simp only[go_sem] at v1
  have v4:=m4
  simp only[go_sem] at v4
  cases c1:decide ((i:Int)<(m.ans.items.length:Int)) with
  |false=>
   have hil:i=m.ans.items.length:=by have:=Gb c1;omega
   rw[hil,Gy] at s5
   simp only[go_sem,s1,v1,s4,v4,si,c1,Gf]
   exact hq _ (by simp only[go_sem,s1]) m1 (by simp only[go_sem,s5]) (by simp only[go_sem,s4]) m4 n8
  |true=>
   have hlt:=Ye c1
   obtain⟨e,hx,-⟩:=JiF hlt
   have hinc:=inc64q (i:=i) (by omega)
   have hv:=he e (List.mem_of_getElem? hx)
   have q1:=K488v h488 e.1 hv.1
   have q2:=K488v h488 e.2 hv.2
   have hbl:=YW (W:=itB) (l:=m.ans.items) (i:=i+1)
   rw[Y1 hx,Gc] at hbl
   have hf:g++(m.ans.items.take (i+1)).flatMap itB=g++(m.ans.items.take i).flatMap itB++itB e:=by rw[Y1 hx,Gr]
   have hgl:(g++(m.ans.items.take i).flatMap itB).length=g.length+((m.ans.items.take i).flatMap itB).length:=Gc
   generalize g++(m.ans.items.take i).flatMap itB=g1 at *
   simp only[itB,Gc] at hbl
   simp only[itB] at hf
   simp only[go_sem,s1,v1,s5,s4,v4,si,c1,hx,q1,q2,hinc,n8,Gf]
   repeat (rw[GB (by omega)];simp only[go_sem,q1,q2,hinc,hx,si,s1,v1,s5,s4,v4,Gf])
   try simp only[JhU]
   refine⟨i+1,by omega,by omega,?_⟩
   and_intros
   all_goals first|rfl|(rw[hf];simp only[Gr];done)|(rw[hf];done)|exact hf▸rfl|(simp only[n8,Option.map_none];done)
theorem Yia (h460:H460 Pg) (h488:H488 Pg) {m:Msg} {g:List UInt8} (he:∀e∈m.places,PlS e) (hb:g.length+(m.places.flatMap plB).length≤2 ^ 50) {S:St} {Q:Ex→St→Prop}
  (s1:S.ρ 1=.lref 1 0) (m1:S.μ 1=some (Yaa m,false)) (s5:S.ρ 5=.str g) (n8:S.μ 8=none) (si:S.ρ 7=iz 0)
  (hq:∀S',S'.ρ 1=.lref 1 0→S'.μ 1=some (Yaa m,false)→S'.ρ 5=.str (g++m.places.flatMap plB)→Q .norm S'):Wp (K' Pg) l536_1 S (Blk 2 Q):=by
 have hll:m.places.length≤(m.places.flatMap plB).length:=YP (P:=fun _=>True) (fun e _=>by have:=YQ (t:=e.span.lo);simp only[plB,Gc];omega) (fun _ _=>Gs)
 unfold l536_1
 refine JiY (fun (i:Nat) S=>i≤m.places.length∧S.ρ 1=.lref 1 0∧S.μ 1=some (Yaa m,false)∧S.ρ 5=.str (g++(m.places.take i).flatMap plB)∧S.μ 8=none∧S.ρ 7=iz i) (fun i=>m.places.length-i) 0 ?_ ?_
 ·exact⟨Gu _,JiJ s1 rfl,Yy m1 rfl,JiJ (by rw[s5];simp) rfl,JiH (.inr rfl),JiJ si rfl⟩
 ·intro i S ⟨hi,s1,m1,s5,n8,si⟩
  have v1:=m1
  simp only[go_sem] at v1
  cases c1:decide ((i:Int)<(m.places.length:Int)) with
  |false=>
   have hil:i=m.places.length:=by have:=Gb c1;omega
   rw[hil,Gy] at s5
   simp only[go_sem,s1,v1,si,c1,Gf]
   exact hq _ (by simp only[go_sem,s1]) m1 (by simp only[go_sem,s5])
  |true=>
   have hlt:=Ye c1
   obtain⟨e,hx,-⟩:=JiF hlt
   have hinc:=inc64q (i:=i) (by omega)
   have hv:=he e (List.mem_of_getElem? hx)
   have q1:=K488v h488 e.span.lo hv.2.1
   have q2:=K488v h488 e.span.hi hv.2.2
   have q3:=K460v h460 e.shard hv.1.1.2.2.1
   have q4:=K460v h460 e.cell hv.1.1.2.2.2.1
   have q5:=K460v h460 e.epoch hv.1.1.2.2.2.2
   have hbl:=YW (W:=plB) (l:=m.places) (i:=i+1)
   rw[Y1 hx,Gc] at hbl
   have hf:g++(m.places.take (i+1)).flatMap plB=g++(m.places.take i).flatMap plB++plB e:=by rw[Y1 hx,Gr]
   have hgl:(g++(m.places.take i).flatMap plB).length=g.length+((m.places.take i).flatMap plB).length:=Gc
   generalize g++(m.places.take i).flatMap plB=g1 at *
   simp only[plB,Gc] at hbl
   simp only[plB] at hf
   simp only[go_sem,s1,v1,s5,si,c1,hx,q1,q2,q3,q4,q5,hinc,n8,Gf]
   repeat (rw[GB (by omega)];simp only[go_sem,q1,q2,q3,q4,q5,hinc,hx,si,s1,v1,s5,Gf])
   try simp only[JhU]
   refine⟨i+1,by omega,by omega,?_⟩
   and_intros
   all_goals first|rfl|(rw[hf];simp only[Gr];done)|(rw[hf];done)|exact hf▸rfl|(simp only[n8,Option.map_none];done)
theorem Yh5 (h460:H460 Pg) {m:Msg} {g:List UInt8} (he:∀e∈m.mem,NV e) (hb:g.length+(m.mem.flatMap nB).length≤2 ^ 50) {S:St} {Q:Ex→St→Prop}
  (s1:S.ρ 1=.lref 1 0) (m1:S.μ 1=some (Yaa m,false)) (s5:S.ρ 5=.str g) (si:S.ρ 9=iz 0)
  (hq:∀S',S'.ρ 1=.lref 1 0→S'.μ 1=some (Yaa m,false)→S'.ρ 5=.str (g++m.mem.flatMap nB)→Q .norm S'):Wp (K' Pg) l536_2 S (Blk 4 Q):=by
 have hll:m.mem.length≤(m.mem.flatMap nB).length:=YP (P:=fun _=>True) (fun e _=>putB_pos _) (fun _ _=>Gs)
 unfold l536_2
 refine JiY (fun (i:Nat) S=>i≤m.mem.length∧S.ρ 1=.lref 1 0∧S.μ 1=some (Yaa m,false)∧S.ρ 5=.str (g++(m.mem.take i).flatMap nB)∧S.ρ 9=iz i) (fun i=>m.mem.length-i) 0 ?_ ?_
 ·simp only[JhU]
  exact⟨Gu _,s1,m1,by rw[s5];simp,si⟩
 ·intro i S ⟨hi,s1,m1,s5,si⟩
  have v1:=m1
  simp only[go_sem] at v1
  cases c1:decide ((i:Int)<(m.mem.length:Int)) with
  |false=>
   have hil:i=m.mem.length:=by have:=Gb c1;omega
   rw[hil,Gy] at s5
   simp only[go_sem,s1,v1,si,c1,Gf]
   exact hq _ (by simp only[go_sem,s1]) m1 (by simp only[go_sem,s5])
  |true=>
   have hlt:=Ye c1
   obtain⟨e,hx,-⟩:=JiF hlt
   have hinc:=inc64q (i:=i) (by omega)
   have hv:=he e (List.mem_of_getElem? hx)
   have q1:=K460v h460 e hv
   have hbl:=YW (W:=nB) (l:=m.mem) (i:=i+1)
   rw[Y1 hx,Gc] at hbl
   have hf:g++(m.mem.take (i+1)).flatMap nB=g++(m.mem.take i).flatMap nB++nB e:=by rw[Y1 hx,Gr]
   have hgl:(g++(m.mem.take i).flatMap nB).length=g.length+((m.mem.take i).flatMap nB).length:=Gc
   generalize g++(m.mem.take i).flatMap nB=g1 at *
   simp only[go_sem,s1,v1,s5,si,c1,hx,q1,hinc,Gf]
   repeat (rw[GB (by omega)];simp only[go_sem,q1,hinc,hx,si,s1,v1,s5,Gf])
   try simp only[JhU]
   refine⟨i+1,by omega,by omega,?_⟩
   and_intros
   all_goals first|rfl|(rw[hf];simp only[List.append_assoc];done)|(rw[hf];done)|exact hf▸rfl
def H536 (Pg:PgT):Prop:=Pg 536=some (.code F536)∧H459 Pg∧H460 Pg∧H488 Pg∧H489 Pg
theorem K536 (h:H536 Pg) (m:Msg) (c1:MsV m) (hl:MsL m) (hb:(msB m).length≤2 ^ 40):K' Pg 536 [.agg (Yaa m)]=some (.str (msB m)):=by
 obtain⟨h,h459,h460,h488,h489⟩:=h;obtain⟨⟨v1,v2,v3,v4,v5,v6,v7,v8,v9,v10,v11,v12,v13,v14,v15,v16,v17,v18,v19,v20,v21,v22,v23,v24,v25,v26,v27,v28,v29,v30⟩,-⟩:=c1;have hpl:∀p∈m.places,PlS p:=fun p hp=>⟨v29.2 p hp,by have:=(hl.places p hp).1;omega,by have:=(hl.places p hp).2;omega⟩;have hit:∀p∈m.ans.items,p.1.length≤2 ^ 30∧p.2.length≤2 ^ 30:=fun p hp=>⟨by have:=(hl.items p hp).1;omega,by have:=(hl.items p hp).2;omega⟩;have hdB:msB m=nB m.kind++nB m.from_++nB m.to++nB m.shard++nB m.epoch++nB m.move++nB m.lease++nB m.n++nB m.of_++stB m.at_++Yh m.text++nB m.req.client++nB m.req.req++nB m.req.kind++Yh m.req.key++Yh m.req.value++YL m.req.had++Yh m.req.old++stB m.req.at_++Yh m.req.hi++nB m.req.limit++nB m.ans.err++stB m.ans.at_++YL m.ans.found++Yh m.ans.val++putB m.ans.items.length++m.ans.items.flatMap itB++Yh m.ans.next++YL m.ans.more++putB m.places.length++m.places.flatMap plB++putB m.mem.length++m.mem.flatMap nB:=by simp only[msB,YH,Gr]
 rw[hdB] at hb ⊢;simp only[Gc] at hb;have q0:=K460v h460 m.kind v1;have q1:=K460v h460 m.from_ v2;have q2:=K460v h460 m.to v3;have q3:=K460v h460 m.shard v4;have q4:=K460v h460 m.epoch v5;have q5:=K460v h460 m.move v6;have q6:=K460v h460 m.lease v7;have q7:=K460v h460 m.n v8;have q8:=K460v h460 m.of_ v9;have q9:=K459v h459 m.at_ v10;have q10:=K488v h488 m.text (by have:=hl.text;omega);have q11:=K460v h460 m.req.client v12;have q12:=K460v h460 m.req.req v13;have q13:=K460v h460 m.req.kind v14;have q14:=K488v h488 m.req.key (by have:=hl.key;omega);have q15:=K488v h488 m.req.value (by have:=hl.value;omega);have q16:=K489 h489 m.req.had;have q17:=K488v h488 m.req.old (by have:=hl.old;omega);have q18:=K459v h459 m.req.at_ v19;have q19:=K488v h488 m.req.hi (by have:=hl.hi;omega);have q20:=K460v h460 m.req.limit v21;have q21:=K460v h460 m.ans.err v22;have q22:=K459v h459 m.ans.at_ v23;have q23:=K489 h489 m.ans.found;have q24:=K488v h488 m.ans.val (by have:=hl.val;omega);have q25:=K460n h460 m.ans.items.length (v26.1);have q27:=K488v h488 m.ans.next (by have:=hl.next;omega);have q28:=K489 h489 m.ans.more;have q29:=K460n h460 m.places.length (v29.1);have q31:=K460n h460 m.mem.length (v30.1);generalize nB m.kind=b0 at *
 generalize nB m.from_=b1 at *
 generalize nB m.to=b2 at *
 generalize nB m.shard=b3 at *
 generalize nB m.epoch=b4 at *
 generalize nB m.move=b5 at *
 generalize nB m.lease=b6 at *
 generalize nB m.n=b7 at *
 generalize nB m.of_=b8 at *
 generalize stB m.at_=b9 at *
 generalize Yh m.text=b10 at *
 generalize nB m.req.client=b11 at *
 generalize nB m.req.req=b12 at *
 generalize nB m.req.kind=b13 at *
 generalize Yh m.req.key=b14 at *
 generalize Yh m.req.value=b15 at *
 generalize YL m.req.had=b16 at *
 generalize Yh m.req.old=b17 at *
 generalize stB m.req.at_=b18 at *
 generalize Yh m.req.hi=b19 at *
 generalize nB m.req.limit=b20 at *
 generalize nB m.ans.err=b21 at *
 generalize stB m.ans.at_=b22 at *
 generalize YL m.ans.found=b23 at *
 generalize Yh m.ans.val=b24 at *
 generalize putB m.ans.items.length=b25 at *
 generalize hI:m.ans.items.flatMap itB=b26 at *
 generalize Yh m.ans.next=b27 at *
 generalize YL m.ans.more=b28 at *
 generalize putB m.places.length=b29 at *
 generalize hP:m.places.flatMap plB=b30 at *
 generalize putB m.mem.length=b31 at *
 generalize hN:m.mem.flatMap nB=b32 at *
 have u32:=hb;have u31:=Nat.le_of_add_right_le u32;have u30:=Nat.le_of_add_right_le u31;have u29:=Nat.le_of_add_right_le u30;have u28:=Nat.le_of_add_right_le u29;have u27:=Nat.le_of_add_right_le u28;have u26:=Nat.le_of_add_right_le u27;have u25:=Nat.le_of_add_right_le u26;have u24:=Nat.le_of_add_right_le u25;have u23:=Nat.le_of_add_right_le u24;have u22:=Nat.le_of_add_right_le u23;have u21:=Nat.le_of_add_right_le u22;have u20:=Nat.le_of_add_right_le u21;have u19:=Nat.le_of_add_right_le u20;have u18:=Nat.le_of_add_right_le u19;have u17:=Nat.le_of_add_right_le u18;have u16:=Nat.le_of_add_right_le u17;have u15:=Nat.le_of_add_right_le u16;have u14:=Nat.le_of_add_right_le u15;have u13:=Nat.le_of_add_right_le u14;have u12:=Nat.le_of_add_right_le u13;have u11:=Nat.le_of_add_right_le u12;have u10:=Nat.le_of_add_right_le u11;have u9:=Nat.le_of_add_right_le u10;have u8:=Nat.le_of_add_right_le u9;have u7:=Nat.le_of_add_right_le u8;have u6:=Nat.le_of_add_right_le u7;have u5:=Nat.le_of_add_right_le u6;have u4:=Nat.le_of_add_right_le u5;have u3:=Nat.le_of_add_right_le u4;have u2:=Nat.le_of_add_right_le u3;have u1:=Nat.le_of_add_right_le u2;have u0:=Nat.le_of_add_right_le u1;have w1:=Gi u1 (show 2 ^ 40≤4611686018427387904 by decide);have w2:=Gi u2 (show 2 ^ 40≤4611686018427387904 by decide);have w3:=Gi u3 (show 2 ^ 40≤4611686018427387904 by decide);have w4:=Gi u4 (show 2 ^ 40≤4611686018427387904 by decide);have w5:=Gi u5 (show 2 ^ 40≤4611686018427387904 by decide);have w6:=Gi u6 (show 2 ^ 40≤4611686018427387904 by decide);have w7:=Gi u7 (show 2 ^ 40≤4611686018427387904 by decide);have w8:=Gi u8 (show 2 ^ 40≤4611686018427387904 by decide);have w9:=Gi u9 (show 2 ^ 40≤4611686018427387904 by decide);have w10:=Gi u10 (show 2 ^ 40≤4611686018427387904 by decide);have w11:=Gi u11 (show 2 ^ 40≤4611686018427387904 by decide);have w12:=Gi u12 (show 2 ^ 40≤4611686018427387904 by decide);have w13:=Gi u13 (show 2 ^ 40≤4611686018427387904 by decide);have w14:=Gi u14 (show 2 ^ 40≤4611686018427387904 by decide);have w15:=Gi u15 (show 2 ^ 40≤4611686018427387904 by decide);have w16:=Gi u16 (show 2 ^ 40≤4611686018427387904 by decide);have w17:=Gi u17 (show 2 ^ 40≤4611686018427387904 by decide);have w18:=Gi u18 (show 2 ^ 40≤4611686018427387904 by decide);have w19:=Gi u19 (show 2 ^ 40≤4611686018427387904 by decide);have w20:=Gi u20 (show 2 ^ 40≤4611686018427387904 by decide);have w21:=Gi u21 (show 2 ^ 40≤4611686018427387904 by decide);have w22:=Gi u22 (show 2 ^ 40≤4611686018427387904 by decide);have w23:=Gi u23 (show 2 ^ 40≤4611686018427387904 by decide);have w24:=Gi u24 (show 2 ^ 40≤4611686018427387904 by decide);have w25:=Gi u25 (show 2 ^ 40≤4611686018427387904 by decide);have w26:=Gi u26 (show 2 ^ 40≤4611686018427387904 by decide);have w27:=Gi u27 (show 2 ^ 40≤4611686018427387904 by decide);have w28:=Gi u28 (show 2 ^ 40≤4611686018427387904 by decide);have w29:=Gi u29 (show 2 ^ 40≤4611686018427387904 by decide);have w30:=Gi u30 (show 2 ^ 40≤4611686018427387904 by decide);have w31:=Gi u31 (show 2 ^ 40≤4611686018427387904 by decide);have w32:=Gi u32 (show 2 ^ 40≤4611686018427387904 by decide);refine Qa h rfl ?_;simp only[F536,c536,go_sem,q0,q1,q2,q3,q4,q5,q6,q7,q8,q9,q10,q11,q12,q13,q14,q15,q16,q17,q18,q19,q20,q21,q22,q23,q24,q25,w1,w2,w3,w4,w5,w6,w7,w8,w9,w10,w11,w12,w13,w14,w15,w16,w17,w18,w19,w20,w21,w22,w23,w24,w25,Gf];refine Yh2 h488 (m:=m) (g:=b0++b1++b2++b3++b4++b5++b6++b7++b8++b9++b10++b11++b12++b13++b14++b15++b16++b17++b18++b19++b20++b21++b22++b23++b24++b25) hit (by simp only[hI,Gc];exact Gi u26 (by decide)) (by simp only[go_sem]) (by simp only[go_sem]) (by simp only[go_sem]) (by simp only[go_sem]) (by simp only[go_sem]) (by simp only[go_sem]) (by simp only[go_sem]) fun S1 t1 y1 t5 t4 y4 n8=>?_;rw[hI] at t5;have x1:=y1;have x4:=y4;simp only[go_sem] at x1 x4;simp only[go_sem,t1,x1,t4,x4,t5,n8,q27,q28,q29,w26,w27,w28,w29,Gf];refine Yia h460 h488 (m:=m) (g:=b0++b1++b2++b3++b4++b5++b6++b7++b8++b9++b10++b11++b12++b13++b14++b15++b16++b17++b18++b19++b20++b21++b22++b23++b24++b25++b26++b27++b28++b29) hpl (by simp only[hP,Gc];exact Gi u30 (by decide)) (by simp only[go_sem,t1]) (by simp only[go_sem,y1]) (by simp only[go_sem]) (by simp only[go_sem,n8]) (by simp only[go_sem]) fun S1 t1 y1 t5=>?_;rw[hP] at t5;have x1:=y1;simp only[go_sem] at x1;simp only[go_sem,t1,x1,t5,q31,w30,w31,Gf];refine Yh5 h460 (m:=m) (g:=b0++b1++b2++b3++b4++b5++b6++b7++b8++b9++b10++b11++b12++b13++b14++b15++b16++b17++b18++b19++b20++b21++b22++b23++b24++b25++b26++b27++b28++b29++b30++b31) v30.2 (by simp only[hN,Gc];exact Gi u32 (by decide)) (by simp only[go_sem,t1]) (by simp only[go_sem,y1]) (by simp only[go_sem]) (by simp only[go_sem]) fun S1 t1 y1 t5=>?_;rw[hN] at t5;simp only[go_sem,t5]
theorem YgI (h:H435 Pg) (x:Rb):K' Pg 435 [.tuple (.lref 0 0::eR x)]=some (.tuple [iz ((uN true).v x),.tuple (eR ((uN true).n x))]):=(uN true).k (e:=fun a:Nat=>iz (a:Int)) (K435 h) x
theorem YaX (h:H435 Pg) (x:Rb):K' Pg 435 [.tuple (.lref 0 0::eR x)]=some (.tuple [iz ((uI true).v x),.tuple (eR ((uI true).n x))]):=YgI h x
theorem Yc9 (h:H471 Pg) (x:Rb):K' Pg 471 [.tuple (.lref 0 0::eR x)]=some (.tuple [.str ((uT true).v x),.tuple (eR ((uT true).n x))]):=(uT true).k (e:=fun a:List UInt8=>.str a) (K471 h) x
theorem YhV (h:H472 Pg) (x:Rb):K' Pg 472 [.tuple (.lref 0 0::eR x)]=some (.tuple [.bool ((uF true).v x),.tuple (eR ((uF true).n x))]):=(uF true).k (e:=fun a:Bool=>.bool a) (K472 h) x
theorem YhS (h:H434 Pg) (x:Rb):K' Pg 434 [.tuple (.lref 0 0::eR x)]=some (.tuple [eSt ((uS true).v x),.tuple (eR ((uS true).n x))]):=(uS true).k (e:=fun a:Stamp=>eSt a) (K434 h) x
theorem Yih (x:List UInt8×List UInt8) (_:ItV x):1≤(itB x).length:=by
 have:=YQ (t:=x.1);simp only[itB,Gc];omega
def mdP (m:Msg) (i p e:V):List V:=[iz m.kind,iz m.from_,iz m.to,iz m.shard,iz m.epoch,iz m.move,iz m.lease,iz m.n,iz m.of_,iz m.at_.wall,iz m.at_.tick,iz m.at_.node,.str m.text,iz m.req.client,iz m.req.req,iz m.req.kind,.str m.req.key,.str m.req.value,.bool m.req.had,.str m.req.old,iz m.req.at_.wall,iz m.req.at_.tick,iz m.req.at_.node,.str m.req.hi,iz m.req.limit,iz m.ans.err,iz m.ans.at_.wall,iz m.ans.at_.tick,iz m.ans.at_.node,.bool m.ans.found,.str m.ans.val,i,.str m.ans.next,.bool m.ans.more,p,e]
structure TF (S:St) (y:Rb) (m:Msg) (it:List (List UInt8×List UInt8)) (pl:List Place) (me:List Int):Prop where
 r2:S.ρ 2=.lref 2 0
 r4:S.ρ 4=.lref 14 0
 r5:S.ρ 5=.lref 5 0
 m14:S.μ 14=some (eR y,false)
 m2:S.μ 2=some (YbR,false)
 m5:S.μ 5=some (mdP m (nilOr 129 2 it.length) (nilOr 175 5 pl.length) (nilOr 196 1 me.length),false)
 ait:S.A 129=YY 2 (it.map Ydw) it.length
 apl:S.A 175=YY 5 (pl.map ePl) pl.length
 ame:S.A 196=YY 1 (me.map (fun a:Int=>[iz a])) me.length
theorem TF.head {S:St} {y:Rb} {m:Msg} {it:List (List UInt8×List UInt8)} {pl:List Place} {me:List Int} {v:Nat} (h:TF S y m it pl me) (h2:[v].contains 2=false) (h5:[v].contains 5=false) (h14:[v].contains 14=false):TF (S.head [] [] [v] []) y m it pl me:=
 ⟨JiJ h.r2 (by simp only[stay,h2];rfl),JiJ h.r4 (by simp only[stay,h14];rfl),JiJ h.r5 (by simp only[stay,h5];rfl),Yy h.m14 h14,Yy h.m2 h2,Yy h.m5 h5,(Yv rfl).trans h.ait,(Yv rfl).trans h.apl,(Yv rfl).trans h.ame⟩
structure NF (t:List UInt8) (S:St):Prop where
 n0:S.ρ 0=.str t
 n8:S.μ 8=none
 n10:S.μ 10=none
set_option maxHeartbeats 1000000
theorem YiT (h471:H471 Pg) {y:Rb} {c:Nat} {m:Msg} {pl:List Place} {me:List Int} {S:St} {Q:Ex→St→Prop}
  (hS:TF S y m [] pl me) (sc:S.ρ 6=iz c) (si:S.ρ 7=iz 0) {t:List UInt8} (nn:NF t S)
  (hq:∀S',TF S' (((uIt true).rep true c).n y) m (((uIt true).rep true c).v y) pl me→NF t S'→Q .norm S'):Wp (K' Pg) l548_0 S (Blk 0 Q):=by
 unfold l548_0
 refine JiY (fun (i:Nat) S=>i≤c∧S.ρ 6=iz c∧S.ρ 7=iz i∧NF t S∧∃(vs:List (List UInt8×List UInt8)) (w:Rb),vs.length=i∧(((uIt true).rep true c).v y=vs++((uIt true).rep true (c-i)).v w∧((uIt true).rep true c).n y=((uIt true).rep true (c-i)).n w)∧TF S w m vs pl me) (fun i=>c-i) 0 ?_ ?_
 ·exact⟨Gu _,JiJ sc rfl,JiJ si rfl,⟨JiJ nn.n0 rfl,JiH (.inl nn.n8),JiH (.inl nn.n10)⟩,[],y,rfl,⟨rfl,rfl⟩,hS.head rfl rfl rfl⟩
 ·intro i S ⟨hi,sc,si,nn,vs,w,hvl,hrep,hS⟩
  obtain⟨t2,t4,t5,m14,m2,m5,ait,apl,ame⟩:=hS
  obtain⟨n0,n8,n10⟩:=nn
  cases c1:decide ((i:Int)<(c:Int)) with
  |false=>
   have him:c≤i:=by have:=Gb c1;omega
   obtain⟨e1,e2⟩:=Yw (.inl him) hrep
   rw[e1,e2] at hq
   simp only[go_sem,t4,sc,si,c1,m14]
   exact hq _ ⟨by simp only[go_sem,t2],by simp only[go_sem,t4],by simp only[go_sem,t5],by simp only[go_sem,m14],by simp only[go_sem,m2],m5,ait,apl,ame⟩ ⟨by simp only[go_sem,n0],n8,n10⟩
  |true=>
   cases c2:w.no with
   |true=>
   obtain⟨e1,e2⟩:=Yw (.inr c2) hrep
   rw[e1,e2] at hq
   simp only[go_sem,t4,sc,si,c1,c2,m14]
   exact hq _ ⟨by simp only[go_sem,t2],by simp only[go_sem,t4],by simp only[go_sem,t5],by simp only[go_sem,m14],by simp only[go_sem,m2],m5,ait,apl,ame⟩ ⟨by simp only[go_sem,n0],n8,n10⟩
   |false=>
   have hlt:=Ye c1
   have hone:=rep_stepD hlt c2 hrep
   have hf:=rep_few (cIt (D:=true)) Yih hone.1
   rw[Gc,List.length_singleton] at hf
   have hinc:=inc64q (i:=i) (by omega)
   have hR:(uIt true).v w=((uT true).v w,(uT true).v ((uT true).n w)):=rfl
   have hN:(uIt true).n w=(uT true).n ((uT true).n w):=rfl
   rw[hR,hN] at hone
   have k1:=Yc9 h471 w
   generalize (uT true).v w=v1 at *
   generalize (uT true).n w=z1 at *
   have k2:=Yc9 h471 z1
   generalize (uT true).v z1=v2 at *
   generalize (uT true).n z1=z2 at *
   have hil:(vs.map Ydw).length=vs.length:=by simp
   have ha:=fun S=>YV (S:=S) (s:=129) (z:=2) (r:=[.str v1,.str v2]) hil (by unfold lim;omega)
   have x5:=m5
   simp only[mdP,go_sem] at x5
   simp only[go_sem,JiK,t4,t5,sc,si,c1,c2,m14,x5,n8,ait,k1,k2,YI,ha,hinc,JhU]
   have hs1:(vs++[(v1,v2)]).length=vs.length+1:=by simp
   exact⟨i+1,by omega,by omega,rfl,⟨JiJ (by simp only[go_sem,n0]) rfl,JiH (.inr rfl),JiH (.inl (by simp only[go_sem,n10]))⟩,vs++[(v1,v2)],z2,by rw[hs1,hvl],hone,TF.head ⟨by simp only[go_sem,t2],by simp only[go_sem,t4],by simp only[go_sem,t5],by simp only[go_sem],by simp only[go_sem,m2],by rw[hs1];simp only[go_sem]<;>rfl,by rw[hs1,Gw];simp only[go_sem]<;>rfl,by simp only[go_sem,apl],by simp only[go_sem,ame]⟩ rfl rfl rfl⟩
theorem Yjg (h435:H435 Pg) (h471:H471 Pg) {y:Rb} {c:Nat} {m:Msg} {it:List (List UInt8×List UInt8)} {me:List Int} {S:St} {Q:Ex→St→Prop}
  (hS:TF S y m it [] me) (sc:S.ρ 6=iz c) (si:S.ρ 9=iz 0) {t:List UInt8} (nn:NF t S)
  (hq:∀S',TF S' (((uPl true).rep true c).n y) m it (((uPl true).rep true c).v y) me→NF t S'→Q .norm S'):Wp (K' Pg) l548_1 S (Blk 2 Q):=by
 unfold l548_1
 refine JiY (fun (i:Nat) S=>i≤c∧S.ρ 6=iz c∧S.ρ 9=iz i∧NF t S∧∃(vs:List Place) (w:Rb),vs.length=i∧(((uPl true).rep true c).v y=vs++((uPl true).rep true (c-i)).v w∧((uPl true).rep true c).n y=((uPl true).rep true (c-i)).n w)∧TF S w m it vs me) (fun i=>c-i) 0 ?_ ?_
 ·exact⟨Gu _,JiJ sc rfl,JiJ si rfl,⟨JiJ nn.n0 rfl,JiH (.inl nn.n8),JiH (.inl nn.n10)⟩,[],y,rfl,⟨rfl,rfl⟩,hS.head rfl rfl rfl⟩
 ·intro i S ⟨hi,sc,si,nn,vs,w,hvl,hrep,hS⟩
  obtain⟨t2,t4,t5,m14,m2,m5,ait,apl,ame⟩:=hS
  obtain⟨n0,n8,n10⟩:=nn
  cases c1:decide ((i:Int)<(c:Int)) with
  |false=>
   have him:c≤i:=by have:=Gb c1;omega
   obtain⟨e1,e2⟩:=Yw (.inl him) hrep
   rw[e1,e2] at hq
   simp only[go_sem,t4,sc,si,c1,m14]
   exact hq _ ⟨by simp only[go_sem,t2],by simp only[go_sem,t4],by simp only[go_sem,t5],by simp only[go_sem,m14],by simp only[go_sem,m2],m5,ait,apl,ame⟩ ⟨by simp only[go_sem,n0],n8,n10⟩
  |true=>
   cases c2:w.no with
   |true=>
   obtain⟨e1,e2⟩:=Yw (.inr c2) hrep
   rw[e1,e2] at hq
   simp only[go_sem,t4,sc,si,c1,c2,m14]
   exact hq _ ⟨by simp only[go_sem,t2],by simp only[go_sem,t4],by simp only[go_sem,t5],by simp only[go_sem,m14],by simp only[go_sem,m2],m5,ait,apl,ame⟩ ⟨by simp only[go_sem,n0],n8,n10⟩
   |false=>
   have hlt:=Ye c1
   have hone:=rep_stepD hlt c2 hrep
   have hf:=rep_few (cPl (D:=true)) Ydn hone.1
   rw[Gc,List.length_singleton] at hf
   have hinc:=inc64q (i:=i) (by omega)
   have hR:(uPl true).v w=mkPl ((uT true).v w,(uT true).v ((uT true).n w),(uI true).v ((uT true).n ((uT true).n w)),(uI true).v ((uI true).n ((uT true).n ((uT true).n w))),(uI true).v ((uI true).n ((uI true).n ((uT true).n ((uT true).n w))))):=rfl
   have hN:(uPl true).n w=(uI true).n ((uI true).n ((uI true).n ((uT true).n ((uT true).n w)))):=rfl
   rw[hR,hN] at hone
   have k1:=Yc9 h471 w
   generalize (uT true).v w=v1 at *
   generalize (uT true).n w=z1 at *
   have k2:=Yc9 h471 z1
   generalize (uT true).v z1=v2 at *
   generalize (uT true).n z1=z2 at *
   have k3:=YaX h435 z2
   generalize (uI true).v z2=v3 at *
   generalize (uI true).n z2=z3 at *
   have k4:=YaX h435 z3
   generalize (uI true).v z3=v4 at *
   generalize (uI true).n z3=z4 at *
   have k5:=YaX h435 z4
   generalize (uI true).v z4=v5 at *
   generalize (uI true).n z4=z5 at *
   have hil:(vs.map ePl).length=vs.length:=by simp
   have ha:=fun S=>YV (S:=S) (s:=175) (z:=5) (r:=[.str v1,.str v2,iz v3,iz v4,iz v5]) hil (by unfold lim;omega)
   have x5:=m5
   simp only[mdP,go_sem] at x5
   simp only[go_sem,JiK,t4,t5,sc,si,c1,c2,m14,x5,n10,apl,k1,k2,k3,k4,k5,YI,ha,hinc,JhU]
   have hs1:(vs++[mkPl (v1,v2,v3,v4,v5)]).length=vs.length+1:=by simp
   exact⟨i+1,by omega,by omega,rfl,⟨JiJ (by simp only[go_sem,n0]) rfl,JiH (.inl (by simp only[go_sem,n8])),JiH (.inr rfl)⟩,vs++[mkPl (v1,v2,v3,v4,v5)],z5,by rw[hs1,hvl],hone,TF.head ⟨by simp only[go_sem,t2],by simp only[go_sem,t4],by simp only[go_sem,t5],by simp only[go_sem],by simp only[go_sem,m2],by rw[hs1];simp only[go_sem]<;>rfl,by simp only[go_sem,ait],by rw[hs1,Gw];simp only[go_sem]<;>rfl,by simp only[go_sem,ame]⟩ rfl rfl rfl⟩
theorem Yi2 (h435:H435 Pg) {y:Rb} {c:Nat} {m:Msg} {it:List (List UInt8×List UInt8)} {pl:List Place} {S:St} {Q:Ex→St→Prop}
  (hS:TF S y m it pl []) (sc:S.ρ 6=iz c) (si:S.ρ 11=iz 0) {t:List UInt8} (nn:NF t S)
  (hq:∀S',TF S' (((uI true).rep true c).n y) m it pl (((uI true).rep true c).v y)→NF t S'→Q .norm S'):Wp (K' Pg) l548_2 S (Blk 4 Q):=by
 unfold l548_2
 refine JiY (fun (i:Nat) S=>i≤c∧S.ρ 6=iz c∧S.ρ 11=iz i∧NF t S∧∃(vs:List Int) (w:Rb),vs.length=i∧(((uI true).rep true c).v y=vs++((uI true).rep true (c-i)).v w∧((uI true).rep true c).n y=((uI true).rep true (c-i)).n w)∧TF S w m it pl vs) (fun i=>c-i) 0 ?_ ?_
 ·simp only[JhU]
  exact⟨Gu _,sc,si,nn,[],y,rfl,⟨rfl,rfl⟩,hS⟩
 ·intro i S ⟨hi,sc,si,nn,vs,w,hvl,hrep,hS⟩
  obtain⟨t2,t4,t5,m14,m2,m5,ait,apl,ame⟩:=hS
  obtain⟨n0,n8,n10⟩:=nn
  cases c1:decide ((i:Int)<(c:Int)) with
  |false=>
   have him:c≤i:=by have:=Gb c1;omega
   obtain⟨e1,e2⟩:=Yw (.inl him) hrep
   rw[e1,e2] at hq
   simp only[go_sem,t4,sc,si,c1,m14]
   exact hq _ ⟨by simp only[go_sem,t2],by simp only[go_sem,t4],by simp only[go_sem,t5],by simp only[go_sem,m14],by simp only[go_sem,m2],m5,ait,apl,ame⟩ ⟨by simp only[go_sem,n0],n8,n10⟩
  |true=>
   cases c2:w.no with
   |true=>
   obtain⟨e1,e2⟩:=Yw (.inr c2) hrep
   rw[e1,e2] at hq
   simp only[go_sem,t4,sc,si,c1,c2,m14]
   exact hq _ ⟨by simp only[go_sem,t2],by simp only[go_sem,t4],by simp only[go_sem,t5],by simp only[go_sem,m14],by simp only[go_sem,m2],m5,ait,apl,ame⟩ ⟨by simp only[go_sem,n0],n8,n10⟩
   |false=>
   have hlt:=Ye c1
   have hone:=rep_stepD hlt c2 hrep
   have hf:=rep_few (cI (D:=true)) Yfu hone.1
   rw[Gc,List.length_singleton] at hf
   have hinc:=inc64q (i:=i) (by omega)
   have k1:=YaX h435 w
   generalize (uI true).v w=v1 at *
   generalize (uI true).n w=z1 at *
   have hil:(vs.map (fun a:Int=>[iz a])).length=vs.length:=by simp
   have ha:=fun S=>YV (S:=S) (s:=196) (z:=1) (r:=[iz v1]) hil (by unfold lim;omega)
   have x5:=m5
   simp only[mdP,go_sem] at x5
   simp only[go_sem,JiK,t4,t5,sc,si,c1,c2,m14,x5,ame,k1,YI,ha,hinc,JhU]
   have hs1:(vs++[v1]).length=vs.length+1:=by simp
   exact⟨i+1,by omega,by omega,rfl,⟨by simp only[go_sem,n0],by simp only[go_sem,n8],by simp only[go_sem,n10]⟩,vs++[v1],z1,by rw[hs1,hvl],hone,⟨by simp only[go_sem,t2],by simp only[go_sem,t4],by simp only[go_sem,t5],by simp only[go_sem],by simp only[go_sem,m2],by rw[hs1];simp only[go_sem]<;>rfl,by simp only[go_sem,ait],by simp only[go_sem,apl],by rw[hs1,Gw];simp only[go_sem]<;>rfl⟩⟩
def H445 (Pg:PgT):Prop:=Pg 445=some (.code F445)
theorem K445 (h:H445 Pg) (n:Int):K' Pg 445 [iz n]=some (.bool (Yu n)):=by
 refine Qa h rfl ?_;have e:Yu n=(decide (0≤n)&&decide (n≤1099511627776)):=by
  unfold Yu frQ;by_cases h1:0≤n
  ·by_cases h2:n≤1099511627776
   ·rw[GA h1,GA h2,Gp (by omega),Gp (by omega)];rfl
   ·rw[GA h1,Gp h2,Gp (show ¬n<0 by omega),GA (show (1099511627776:Int)<n by omega)];rfl
  ·rw[Gp h1,GA (show n<0 by omega)];rfl
 rw[e];cases c1:decide (0≤n)<;>simp only[F445,c445,go_sem,c1]
def YbC (m:Msg):Bool:=!decide (m.kind<1)&&(!decide (37<m.kind)&&(!decide (m.ans.err<0)&&(!decide (16<m.ans.err)&&(!decide (8<(m.ans.items.length:Int))&&(!decide (8<(m.places.length:Int))&&!decide (8<(m.mem.length:Int)))))))
def Ybb (m:Msg):Bool:=Yu m.from_&&(Yu m.to&&(Yu m.shard&&(Yu m.epoch&&(Yu m.move&&(Yu m.lease&&(Yu m.n&&(Yu m.of_&&(Yu m.req.client&&(Yu m.req.req&&(Yu m.req.kind&&Yu m.req.limit))))))))))
def Yeg (p:Place):Bool:=Yu p.shard&&(Yu p.cell&&Yu p.epoch)
theorem YeX:∀{l:List Place},(l.flatMap fun p=>[p.shard,p.cell,p.epoch]).all Yu=l.all Yeg
 |[]=>rfl
 |p::l=>by
  have ih:=YeX (l:=l);simp only[Gaa,List.all_append,List.all_cons,List.all_nil,GW,ih,Yeg]
theorem Yij (m:Msg):YbM m=(YbC m&&(Ybb m&&(m.places.all Yeg&&(m.mem.all Yu&&(Ya m.at_&&(Ya m.req.at_&&Ya m.ans.at_)))))):=by
 have e0:YbM m=(YbC m&&(([m.kind,m.from_,m.to,m.shard,m.epoch,m.move,m.lease,m.n,m.of_,m.req.client,m.req.req,m.req.kind,m.req.limit]++(m.places.flatMap fun p=>[p.shard,p.cell,p.epoch])++m.mem).all Yu&&(Ya m.at_&&(Ya m.req.at_&&Ya m.ans.at_)))):=rfl;rw[e0];cases hq:YbC m with
 |false=>rfl
 |true=>
  have hk:Yu m.kind=true:=by
   simp only[YbC,Gk,GE,GH] at hq;obtain⟨h1,h2,-⟩:=hq;simp only[Yu,frQ,GE,Gao,GH];omega
  simp only[List.all_append,YeX,List.all_cons,List.all_nil,hk,Gn,GW,Ybb];simp only[Bool.and_assoc]
def H414 (Pg:PgT):Prop:=Pg 414=some (.code F414)∧H24 Pg∧H445 Pg
theorem K414 (h:H414 Pg) (m:Msg):K' Pg 414 [.agg (Yaa m)]=some (.bool (YbM m)):=by
 obtain⟨h,h24,h445⟩:=h;have fit:=fun n=>K445 (Pg:=Pg) h445 n;have k1:=K24 h24 m.at_;have k2:=K24 h24 m.req.at_;have k3:=K24 h24 m.ans.at_;simp only[go_sem] at k1 k2 k3;have f1:=fit m.from_;have f2:=fit m.to;have f3:=fit m.shard;have f4:=fit m.epoch;have f5:=fit m.move;have f6:=fit m.lease;have f7:=fit m.n;have f8:=fit m.of_;have f9:=fit m.req.client;have f10:=fit m.req.req;have f11:=fit m.req.kind;have f12:=fit m.req.limit;have hrr:True=True:=rfl;rw[Yij];refine Qa h rfl ?_;cases z1:decide (m.kind<1) with
 |true=>simp only[F414,c414,go_sem,z1,YbC,GI,Gj]
 |false=>
 cases z2:decide (37<m.kind) with
 |true=>simp only[F414,c414,go_sem,z1,z2,YbC,GI,Gj,Gm]
 |false=>
 cases z3:decide (m.ans.err<0) with
 |true=>simp only[F414,c414,go_sem,z1,z2,z3,YbC,GI,Gj,Gm]
 |false=>
 cases z4:decide (16<m.ans.err) with
 |true=>simp only[F414,c414,go_sem,z1,z2,z3,z4,YbC,GI,Gj,Gm]
 |false=>
 cases z5:decide (8<(m.ans.items.length:Int)) with
 |true=>simp only[F414,c414,go_sem,z1,z2,z3,z4,Gf,z5,YbC,GI,Gj,Gm]
 |false=>
 cases z6:decide (8<(m.places.length:Int)) with
 |true=>simp only[F414,c414,go_sem,z1,z2,z3,z4,z5,Gf,z6,YbC,GI,Gj,Gm]
 |false=>
 cases z7:decide (8<(m.mem.length:Int)) with
 |true=>simp only[F414,c414,go_sem,z1,z2,z3,z4,z5,z6,Gf,z7,YbC,GI,Gj,Gm]
 |false=>
 have hz:YbC m=true:=by simp only[YbC,z1,z2,z3,z4,z5,z6,z7];rfl
 have hpl:m.places.length≤8:=by have:=Gb z6;omega
 have hml:m.mem.length≤8:=by have:=Gb z7;omega
 rw[hz,Gn];cases d1:Yu m.from_ with
 |false=>rw[d1] at f1;simp only[F414,c414,go_sem,z1,z2,z3,z4,z5,z6,z7,Gf,f1,Ybb,d1,Gj]
 |true=>
 rw[d1] at f1;cases d2:Yu m.to with
 |false=>rw[d2] at f2;simp only[F414,c414,go_sem,z1,z2,z3,z4,z5,z6,z7,Gf,f1,f2,Ybb,d2,Gj,Gm]
 |true=>
 rw[d2] at f2;cases d3:Yu m.shard with
 |false=>rw[d3] at f3;simp only[F414,c414,go_sem,z1,z2,z3,z4,z5,z6,z7,Gf,f1,f2,f3,Ybb,d3,Gj,Gm]
 |true=>
 rw[d3] at f3;cases d4:Yu m.epoch with
 |false=>rw[d4] at f4;simp only[F414,c414,go_sem,z1,z2,z3,z4,z5,z6,z7,Gf,f1,f2,f3,f4,Ybb,d4,Gj,Gm]
 |true=>
 rw[d4] at f4;cases d5:Yu m.move with
 |false=>rw[d5] at f5;simp only[F414,c414,go_sem,z1,z2,z3,z4,z5,z6,z7,Gf,f1,f2,f3,f4,f5,Ybb,d5,Gj,Gm]
 |true=>
 rw[d5] at f5;cases d6:Yu m.lease with
 |false=>rw[d6] at f6;simp only[F414,c414,go_sem,z1,z2,z3,z4,z5,z6,z7,Gf,f1,f2,f3,f4,f5,f6,Ybb,d6,Gj,Gm]
 |true=>
 rw[d6] at f6;cases d7:Yu m.n with
 |false=>rw[d7] at f7;simp only[F414,c414,go_sem,z1,z2,z3,z4,z5,z6,z7,Gf,f1,f2,f3,f4,f5,f6,f7,Ybb,d7,Gj,Gm]
 |true=>
 rw[d7] at f7;cases d8:Yu m.of_ with
 |false=>rw[d8] at f8;simp only[F414,c414,go_sem,z1,z2,z3,z4,z5,z6,z7,Gf,f1,f2,f3,f4,f5,f6,f7,f8,Ybb,d8,Gj,Gm]
 |true=>
 rw[d8] at f8;cases d9:Yu m.req.client with
 |false=>rw[d9] at f9;simp only[F414,c414,go_sem,z1,z2,z3,z4,z5,z6,z7,Gf,f1,f2,f3,f4,f5,f6,f7,f8,f9,Ybb,d9,Gj,Gm]
 |true=>
 rw[d9] at f9;cases d10:Yu m.req.req with
 |false=>rw[d10] at f10;simp only[F414,c414,go_sem,z1,z2,z3,z4,z5,z6,z7,Gf,f1,f2,f3,f4,f5,f6,f7,f8,f9,f10,Ybb,d10,Gj,Gm]
 |true=>
 rw[d10] at f10;cases d11:Yu m.req.kind with
 |false=>rw[d11] at f11;simp only[F414,c414,go_sem,z1,z2,z3,z4,z5,z6,z7,Gf,f1,f2,f3,f4,f5,f6,f7,f8,f9,f10,f11,Ybb,d11,Gj,Gm]
 |true=>
 rw[d11] at f11;cases d12:Yu m.req.limit with
 |false=>rw[d12] at f12;simp only[F414,c414,go_sem,z1,z2,z3,z4,z5,z6,z7,Gf,f1,f2,f3,f4,f5,f6,f7,f8,f9,f10,f11,f12,Ybb,d12,Gj,Gm]
 |true=>
 rw[d12] at f12;have hf:Ybb m=true:=by simp only[Ybb,d1,d2,d3,d4,d5,d6,d7,d8,d9,d10,d11,d12];rfl
 rw[hf,Gn];simp only[F414,c414,go_sem,z1,z2,z3,z4,z5,z6,z7,f1,f2,f3,f4,f5,f6,f7,f8,f9,f10,f11,f12,Gf];unfold l414_0;refine JiY (fun (i:Nat) S=>i≤m.places.length∧S.ρ 1=.lref 1 0∧S.μ 1=some (Yaa m,false)∧S.ρ 3=iz i∧(m.places.take i).all Yeg=true) (fun i=>m.places.length-i) 0 ?_ ?_
 ·simp[go_sem]
 ·intro i S ⟨hi,s1,m1,s3,hall⟩;have m1':=m1;simp only[go_sem] at m1';cases c1:decide ((i:Int)<(m.places.length:Int)) with
  |false=>
   have hil:i=m.places.length:=by have:=Gb c1;omega
   rw[hil,Gy] at hall;rw[hall,Gn];simp only[go_sem,s1,m1',s3,c1,Gf];unfold l414_1;refine JiY (fun (j:Nat) S=>j≤m.mem.length∧S.ρ 1=.lref 1 0∧S.μ 1=some (Yaa m,false)∧S.ρ 4=iz j∧(m.mem.take j).all Yu=true) (fun j=>m.mem.length-j) 0 ?_ ?_
   ·simp[go_sem,s1,m1]
   ·intro j S ⟨hj,s1,m1,s4,hallm⟩;have m1':=m1;simp only[go_sem] at m1';cases e1:decide ((j:Int)<(m.mem.length:Int)) with
    |false=>
     have hjl:j=m.mem.length:=by have:=Gb e1;omega
     rw[hjl,Gy] at hallm;rw[hallm,Gn];cases y1:Ya m.at_ with
     |false=>rw[y1] at k1;simp only[go_sem,s1,m1',s4,e1,k1,Gf]
     |true=>
     rw[y1] at k1;cases y2:Ya m.req.at_ with
     |false=>rw[y2] at k2;simp only[go_sem,s1,m1',s4,e1,k1,k2,Gf]
     |true=>
     rw[y2] at k2;simp only[go_sem,s1,m1',s4,e1,k1,k2,k3,Gf]
    |true=>
     have hjt:=Ye e1;obtain⟨x,hx,-⟩:=JiF hjt;have hinj:=inc64q (i:=j) (by omega)
     have kx:=fit x;cases y1:Yu x with
     |false=>
      rw[y1] at kx;rw[Ya4 hx y1,Gj];simp only[go_sem,s1,m1',s4,e1,hx,kx,Gf]
     |true=>
      rw[y1] at kx;simp only[go_sem,s1,m1',s4,e1,hx,kx,hinj,Gf];exact⟨j+1,by omega,by omega,rfl,Ybw hx y1 hallm⟩
  |true=>
   have hlt:=Ye c1;obtain⟨p,hp,-⟩:=JiF hlt;have hinc:=inc64q (i:=i) (by omega)
   have p1:=fit p.shard;have p2:=fit p.cell;have p3:=fit p.epoch;cases y1:Yu p.shard with
   |false=>
    rw[y1] at p1;rw[Ya4 hp (by simp only[Yeg,y1,Gj]),Gj];simp only[go_sem,s1,m1',s3,c1,hp,p1,Gf]
   |true=>
   rw[y1] at p1;cases y2:Yu p.cell with
   |false=>
    rw[y2] at p2;rw[Ya4 hp (by simp only[Yeg,y2,Gj,Gm]),Gj];simp only[go_sem,s1,m1',s3,c1,hp,p1,p2,Gf]
   |true=>
   rw[y2] at p2;cases y3:Yu p.epoch with
   |false=>
    rw[y3] at p3;rw[Ya4 hp (by simp only[Yeg,y3,Gm]),Gj];simp only[go_sem,s1,m1',s3,c1,hp,p1,p2,p3,Gf]
   |true=>
    rw[y3] at p3;simp only[go_sem,s1,m1',s3,c1,hp,p1,p2,p3,hinc,Gf];exact⟨i+1,by omega,by omega,rfl,Ybw hp (by simp only[Yeg,y1,y2,y3,GW]) hall⟩
theorem Yhi {t:List UInt8} (h:t.length≤2 ^ 22):(if ((uMs true).f (t,false)).2.2=false∧YbM ((uMs true).f (t,false)).1=true∧msB ((uMs true).f (t,false)).1=t then some ((uMs true).f (t,false)).1 else none)=tkM t:=
 Cod.doc (cMs (D:=false)) (cMs (D:=true)) fun a hq hw=>Yft hq (YdQ (N:=2 ^ 22) (by rw[hw];exact h) (by decide)).2
def Ydg:Option Msg→V
 |some m=>.tuple [.agg (Yaa m),.bool true]
 |none=>.tuple [.agg YbR,.bool false]
def H548 (Pg:PgT):Prop:=Pg 548=some (.code F548)∧H414 Pg∧H434 Pg∧H435 Pg∧H471 Pg∧H472 Pg∧H536 Pg
theorem K548 (h:H548 Pg) (t:List UInt8) (ht:t.length≤2 ^ 22):K' Pg 548 [.str t]=some (Ydg (tkM t)):=by
 obtain⟨h,h414,h434,h435,h471,h472,h536⟩:=h;have ht2:t.length≤2 ^ 29:=by omega
 generalize ho:tkM t=o;have e0:=Rg.doc_o (R:=uMs true) (q:=YbM) (W:=msB) ht2 ((Yhi ht).trans ho);clear ho;have hd:((uMs true).n ⟨t,false,ht2⟩).no=false→MsL ((uMs true).v ⟨t,false,ht2⟩)∧(msB ((uMs true).v ⟨t,false,ht2⟩)).length≤2 ^ 40:=fun h1=>
  have g:=Rg.few (cMs (D:=true)) ht2 h1
  ⟨(YdQ (Gi g ht) (by decide)).2,Gi g (Gi ht (by decide))⟩
 have eR0:K' Pg 548 [.str t]=K' Pg 548 [.str (Rb.s ⟨t,false,ht2⟩)]:=rfl;have hx0:eR ⟨t,false,ht2⟩=[.str t,.bool false]:=rfl;generalize hx:(⟨t,false,ht2⟩:Rb)=x at *
 simp only[YhO,YhN] at hd e0;simp only[Yhu,Yht] at hd e0;have k1:=YaX h435 x;generalize (uI true).v x=v1 at *
 generalize (uI true).n x=z1 at *
 simp only[Yhw,Yhv] at hd e0;have k2:=YaX h435 z1;generalize (uI true).v z1=v2 at *
 generalize (uI true).n z1=z2 at *
 simp only[Yhy,Yhx] at hd e0;have k3:=YaX h435 z2;generalize (uI true).v z2=v3 at *
 generalize (uI true).n z2=z3 at *
 simp only[YhA,Yhz] at hd e0;have k4:=YaX h435 z3;generalize (uI true).v z3=v4 at *
 generalize (uI true).n z3=z4 at *
 simp only[YhC,YhB] at hd e0;have k5:=YaX h435 z4;generalize (uI true).v z4=v5 at *
 generalize (uI true).n z4=z5 at *
 simp only[YhE,YhD] at hd e0;have k6:=YaX h435 z5;generalize (uI true).v z5=v6 at *
 generalize (uI true).n z5=z6 at *
 simp only[YhG,YhF] at hd e0;have k7:=YaX h435 z6;generalize (uI true).v z6=v7 at *
 generalize (uI true).n z6=z7 at *
 simp only[YhI,YhH] at hd e0;have k8:=YaX h435 z7;generalize (uI true).v z7=v8 at *
 generalize (uI true).n z7=z8 at *
 simp only[YhK,YhJ] at hd e0;have k9:=YaX h435 z8;generalize (uI true).v z8=v9 at *
 generalize (uI true).n z8=z9 at *
 simp only[YhM,YhL] at hd e0;have k10:=YhS h434 z9;generalize (uS true).v z9=v10 at *
 generalize (uS true).n z9=z10 at *
 simp only[YfJ,YfI] at hd e0;have k11:=Yc9 h471 z10;generalize (uT true).v z10=v11 at *
 generalize (uT true).n z10=z11 at *
 simp only[YfM,YfL] at hd e0;have k12:=YaX h435 z11;generalize (uI true).v z11=v12 at *
 generalize (uI true).n z11=z12 at *
 simp only[YfP,YfO] at hd e0;have k13:=YaX h435 z12;generalize (uI true).v z12=v13 at *
 generalize (uI true).n z12=z13 at *
 simp only[YfS,YfR] at hd e0;have k14:=YaX h435 z13;generalize (uI true).v z13=v14 at *
 generalize (uI true).n z13=z14 at *
 simp only[YfV,YfU] at hd e0;have k15:=Yc9 h471 z14;generalize (uT true).v z14=v15 at *
 generalize (uT true).n z14=z15 at *
 simp only[YfY,YfX] at hd e0;have k16:=Yc9 h471 z15;generalize (uT true).v z15=v16 at *
 generalize (uT true).n z15=z16 at *
 simp only[Yf1,Yf0] at hd e0;have k17:=YhV h472 z16;generalize (uF true).v z16=v17 at *
 generalize (uF true).n z16=z17 at *
 simp only[Yf4,Yf3] at hd e0;have k18:=Yc9 h471 z17;generalize (uT true).v z17=v18 at *
 generalize (uT true).n z17=z18 at *
 simp only[Yf7,Yf6] at hd e0;have k19:=YhS h434 z18;generalize (uS true).v z18=v19 at *
 generalize (uS true).n z18=z19 at *
 simp only[Yga,Yf9] at hd e0;have k20:=Yc9 h471 z19;generalize (uT true).v z19=v20 at *
 generalize (uT true).n z19=z20 at *
 simp only[Ygd,Ygc] at hd e0;have k21:=YaX h435 z20;generalize (uI true).v z20=v21 at *
 generalize (uI true).n z20=z21 at *
 simp only[Ygg,Ygf] at hd e0;have k22:=YaX h435 z21;generalize (uI true).v z21=v22 at *
 generalize (uI true).n z21=z22 at *
 simp only[Ygj,Ygi] at hd e0;have k23:=YhS h434 z22;generalize (uS true).v z22=v23 at *
 generalize (uS true).n z22=z23 at *
 simp only[Ygm,Ygl] at hd e0;have k24:=YhV h472 z23;generalize (uF true).v z23=v24 at *
 generalize (uF true).n z23=z24 at *
 simp only[Ygp,Ygo] at hd e0;have k25:=Yc9 h471 z24;generalize (uT true).v z24=v25 at *
 generalize (uT true).n z24=z25 at *
 simp only[Ygs,Ygr] at hd e0;have hva:=Rg.lst_v (D:=true) (R:=uIt true) (x:=z25);simp only[hva.1,hva.2] at hd e0;have kla:=YgI h435 z25;change K' Pg 435 _=some (.tuple [iz ((uL true).v z25),.tuple (eR ((uL true).n z25))]) at kla;generalize (uL true).v z25=ca at *
 generalize (uL true).n z25=ya at *
 generalize hpa:((uIt true).rep true ca).v ya=pa at *
 generalize hqa:((uIt true).rep true ca).n ya=wa at *
 simp only[Ygv,Ygu] at hd e0;have k26:=Yc9 h471 wa;generalize (uT true).v wa=v26 at *
 generalize (uT true).n wa=z26 at *
 simp only[Ygy,Ygx] at hd e0;have k27:=YhV h472 z26;generalize (uF true).v z26=v27 at *
 generalize (uF true).n z26=z27 at *
 simp only[YgB,YgA] at hd e0;have hvb:=Rg.lst_v (D:=true) (R:=uPl true) (x:=z27);simp only[hvb.1,hvb.2] at hd e0;have klb:=YgI h435 z27;change K' Pg 435 _=some (.tuple [iz ((uL true).v z27),.tuple (eR ((uL true).n z27))]) at klb;generalize (uL true).v z27=cb at *
 generalize (uL true).n z27=yb at *
 generalize hpb:((uPl true).rep true cb).v yb=pb at *
 generalize hqb:((uPl true).rep true cb).n yb=wb at *
 simp only[YgE,YgD] at hd e0;have hvc:=Rg.lst_v (D:=true) (R:=uI true) (x:=wb);simp only[hvc.1,hvc.2] at hd e0;have klc:=YgI h435 wb;change K' Pg 435 _=some (.tuple [iz ((uL true).v wb),.tuple (eR ((uL true).n wb))]) at klc;generalize (uL true).v wb=cc at *
 generalize (uL true).n wb=yc at *
 generalize hpc:((uI true).rep true cc).v yc=pc at *
 generalize hqc:((uI true).rep true cc).n yc=wc at *
 rw[eR0];have hxs:x.s=t:=by rw[←hx]
 simp only[go_sem,eSt] at k10 k19 k23;rw[hxs];refine Qa h rfl ?_;rw[hx0] at k1;simp only[F548,c548,go_sem,JiK,k1,k2,k3,k4,k5,k6,k7,k8,k9,k10,k11,k12,k13,k14,k15,k16,k17,k18,k19,k20,k21,k22,k23,k24,k25,kla];refine YiT h471 (t:=t) (y:=ya) (c:=ca) (m:=⟨v1,v2,v3,v4,v5,v6,v7,v8,v9,v10,v11,⟨v12,v13,v14,v15,v16,v17,v18,v19,v20,v21⟩,⟨v22,v23,v24,v25,[],[],false⟩,[],[]⟩) (pl:=[]) (me:=[]) ⟨by simp only[go_sem],by simp only[go_sem],by simp only[go_sem],by simp only[go_sem],by simp only[go_sem]<;>rfl,by simp only[go_sem]<;>rfl,rfl,rfl,rfl⟩ (by simp only[go_sem]) (by simp only[go_sem]) ⟨by first|rfl|(simp only[go_sem];rfl),by simp only[go_sem],by simp only[go_sem]⟩ fun S1 hS nn=>?_;rw[hpa,hqa] at hS;obtain⟨t2,t4,t5,u14,u2,u5,ait,apl,ame⟩:=hS;obtain⟨n0,n8,n10⟩:=nn;have w5:=u5;simp only[mdP,go_sem] at w5;simp only[go_sem,JiK,t4,t5,u14,w5,k26,k27,klb];refine Yjg h435 h471 (t:=t) (y:=yb) (c:=cb) (m:=⟨v1,v2,v3,v4,v5,v6,v7,v8,v9,v10,v11,⟨v12,v13,v14,v15,v16,v17,v18,v19,v20,v21⟩,⟨v22,v23,v24,v25,[],v26,v27⟩,[],[]⟩) (it:=pa) (me:=[]) ⟨by simp only[go_sem,t2],by simp only[go_sem,t4],by simp only[go_sem,t5],by simp only[go_sem],by simp only[go_sem,u2],by simp only[go_sem,w5]<;>rfl,by simp only[go_sem,ait],by simp only[go_sem,apl],by simp only[go_sem,ame]⟩ (by simp only[go_sem]) (by simp only[go_sem]) ⟨by simp only[go_sem,n0],by simp only[go_sem,n8],by simp only[go_sem,n10]⟩ fun S2 hS nn=>?_;rw[hpb,hqb] at hS;obtain⟨t2,t4,t5,u14,u2,u5,ait,apl,ame⟩:=hS;obtain⟨n0,n8,n10⟩:=nn;have w5:=u5;simp only[mdP,go_sem] at w5;simp only[go_sem,JiK,t4,t5,u14,w5,klc];refine Yi2 h435 (t:=t) (y:=yc) (c:=cc) (m:=⟨v1,v2,v3,v4,v5,v6,v7,v8,v9,v10,v11,⟨v12,v13,v14,v15,v16,v17,v18,v19,v20,v21⟩,⟨v22,v23,v24,v25,[],v26,v27⟩,[],[]⟩) (it:=pa) (pl:=pb) ⟨by simp only[go_sem,t2],by simp only[go_sem,t4],by simp only[go_sem,t5],by simp only[go_sem],by simp only[go_sem,u2],by simp only[go_sem,w5]<;>rfl,by simp only[go_sem,ait],by simp only[go_sem,apl],by simp only[go_sem,ame]⟩ (by simp only[go_sem]) (by simp only[go_sem]) ⟨by simp only[go_sem,n0],by simp only[go_sem,n8],by simp only[go_sem,n10]⟩ fun S3 hS nn=>?_;rw[hpc,hqc] at hS;obtain⟨t2,t4,t5,u14,u2,u5,ait,apl,ame⟩:=hS;obtain⟨n0,n8,n10⟩:=nn;have w5:=u5;simp only[mdP,go_sem] at w5;have c99:=Yq ait (by simp);have c131:=Yq apl (by simp);have c143:=Yq ame (by simp);obtain⟨zs,zb,zh⟩:=wc;simp only[eR] at u14;simp only[YbR] at u2;cases zb with
 |true=>
  obtain rfl:o=none:=by
   rcases e0 with ⟨h1,-⟩|⟨-,h2⟩
   ·have h3:true=false:=h1;cases h3
   ·exact h2
  simp only[go_sem,t2,t4,u14,u2,Ydg,YbR]
 |false=>
  obtain⟨d1,d2⟩:=hd rfl;have k414:=K414 h414 (Ycr (v1,v2,v3,v4,v5,v6,v7,v8,v9,v10,v11,v12,v13,v14,v15,v16,v17,v18,v19,v20,v21,v22,v23,v24,v25,pa,v26,v27,pb,pc));have k536:=fun c3=>K536 h536 _ (Yft c3 d1) d1 d2;cases c3:YbM (Ycr (v1,v2,v3,v4,v5,v6,v7,v8,v9,v10,v11,v12,v13,v14,v15,v16,v17,v18,v19,v20,v21,v22,v23,v24,v25,pa,v26,v27,pb,pc)) with
  |false=>
   obtain rfl:o=none:=by
    rcases e0 with ⟨-,h1,-⟩|⟨-,h2⟩
    ·rw[c3] at h1;cases h1
    ·exact h2
   rw[c3] at k414;simp only[go_sem,Ycr] at k414;simp only[go_sem,t2,t4,t5,u14,u2,w5,c99,c131,c143,k414,Ydg,YbR]
  |true=>
   rw[c3] at k414;have k536:=k536 c3;generalize hB:msB (Ycr (v1,v2,v3,v4,v5,v6,v7,v8,v9,v10,v11,v12,v13,v14,v15,v16,v17,v18,v19,v20,v21,v22,v23,v24,v25,pa,v26,v27,pb,pc))=b at *
   simp only[go_sem,Ycr] at k414 k536;cases c4:decide (b=t) with
   |false=>
    have c5:b≠t:=Gb c4;obtain rfl:o=none:=by
     rcases e0 with ⟨-,-,h1,-⟩|⟨-,h2⟩
     ·exact absurd h1 c5
     ·exact h2
    simp only[go_sem,t2,t4,t5,u14,u2,w5,c99,c131,c143,k414,k536,c4,n0,Ydg,YbR]
   |true=>
    have c5:b=t:=Gg c4;obtain rfl:o=_:=by
     rcases e0 with ⟨-,-,-,h1⟩|⟨h2,-⟩
     ·exact h1
     ·exact absurd c5 (h2 rfl c3)
    simp only[go_sem,t2,t4,t5,u14,u2,w5,c99,c131,c143,k414,k536,c4,n0,Ydg,Ycr]
theorem Rg.len {α:Type} {R:Rg α} {x:Rb}:(R.n x).s.length≤x.s.length:=R.le x.d
theorem Ye7 {s t r:List UInt8} (h:tkT s=some (t,r)):t.length≤s.length:=by
 rw[(YdZ.1 h).1,Gc];have:=Ycd (t:=t);omega
theorem YiP (D:Bool) (x:Rd):(gT D x).1.length≤x.1.length:=by
 cases D
 ·show (rd tkT [] x).1.length≤_
  unfold rd;split
  ·rename_i h1 h2;exact Ye7 h2
  ·exact Gu _
 ·show (cu tkT [] x).1.length≤_
  unfold cu;split
  ·rename_i h2;exact Ye7 h2
  ·exact Gu _
theorem YhR {D:Bool} {x:Rb}:((uT D).v x).length≤x.s.length:=YiP D x.d
def owP (o:Own) (x:V):List V:=[iz o.cell,iz o.rep.id,iz o.rep.view,Yf o.rep.members,iz o.rep.n,.str o.rep.base,.str o.rep.text,Yf o.rep.acks,x]
def zOw:List V:=[iz 0,iz 0,iz 0,.slice 1 [],iz 0,.str [],.str [],.slice 1 [],.slice 36 []]
structure TW (S:St) (y:Rb) (o:Own) (ms:List Msg):Prop where
 r0:S.ρ 0=.lref 0 0
 r4:S.ρ 4=.lref 4 0
 r5:S.ρ 5=.lref 5 0
 m0:S.μ 0=some (eR y,false)
 m4:S.μ 4=some (zOw,false)
 m5:S.μ 5=some (owP o (nilOr 51 36 ms.length),false)
 a51:S.A 51=YY 36 (ms.map Yaa) ms.length
theorem TW.head {S:St} {y:Rb} {o:Own} {ms:List Msg} (h:TW S y o ms):TW (S.head [] [] [6] []) y o ms:=
 ⟨JiJ h.r0 rfl,JiJ h.r4 rfl,JiJ h.r5 rfl,Yy h.m0 rfl,Yy h.m4 rfl,Yy h.m5 rfl,(Yv rfl).trans h.a51⟩
set_option maxHeartbeats 2000000
theorem Yjb (h539:H539 Pg) (h566:H566 Pg) {y:Rb} {c:Nat} {o:Own} (hc:c≤2 ^ 29) (hy:y.s.length≤4194304) {S:St} {Q:Ex→St→Prop}
  (hS:TW S y o []) (sc:S.ρ 27=iz c) (si:S.ρ 28=iz 0) (n6:S.μ 6=none)
  (hq:∀S',TW S' (((uOu false).rep false c).n y) o (((uOu false).rep false c).v y)→Q .norm S'):Wp (K' Pg) l532_0 S (Blk 0 Q):=by
 unfold l532_0
 refine JiY (fun (i:Nat) S=>i≤c∧S.ρ 27=iz c∧S.ρ 28=iz i∧S.μ 6=none∧∃(vs:List Msg) (w:Rb),vs.length=i∧w.s.length≤4194304∧(((uOu false).rep false c).v y=vs++((uOu false).rep false (c-i)).v w∧((uOu false).rep false c).n y=((uOu false).rep false (c-i)).n w)∧TW S w o vs) (fun i=>c-i) 0 ?_ ?_
 ·exact⟨Gu _,JiJ sc rfl,JiJ si rfl,JiH (.inl n6),[],y,rfl,hy,⟨rfl,rfl⟩,hS.head⟩
 ·intro i S ⟨hi,sc,si,n6,vs,w,hvl,hw,hrep,hS⟩
  obtain⟨t0,t4,t5,m0,m4,m5,a51⟩:=hS
  cases c1:decide ((i:Int)<(c:Int)) with
  |false=>
   have him:i=c:=by have:=Gb c1;omega
   subst him
   obtain⟨e1,e2⟩:=Yau hrep
   rw[e1,e2] at hq
   simp only[go_sem,sc,si,c1]
   exact hq _ ⟨by simp only[go_sem,t0],by simp only[go_sem,t4],by simp only[go_sem,t5],m0,m4,m5,a51⟩
  |true=>
   have hlt:=Ye c1
   have hinc:=inc64q (i:=i) (by omega)
   have hone:=rep_step hlt hrep
   have hR:(uOu false).v w=(tkM ((uT false).v w)).getD zMs:=rfl
   have hN:(uOu false).n w=⟨((uT false).n w).s,((uT false).n w).no||(tkM ((uT false).v w)).isNone,((uT false).n w).h⟩:=rfl
   rw[hR,hN] at hone
   have k1:=R539 h539 w
   have kM:=K566 h566 ((uT false).v w) (Gi YhR hw)
   have hz:=Gi (Rg.len (R:=uT false) (x:=w)) hw
   generalize (uT false).v w=v1 at *
   generalize (uT false).n w=z1 at *
   obtain⟨ws,wb,wh⟩:=w
   obtain⟨zs,zb,zh⟩:=z1
   have r1:∀S:St,S.μ 0=some ([.str ws,.bool wb],false)→Jav (K' Pg) 20800 S 539 0 0 [.lref 0 0]=some (.str v1,⟨S.ρ,upd S.μ 0 (some ([.str zs,.bool zb],false)),S.A⟩):=fun S hm=>Qb (x:=(ws,wb)) (y:=(zs,zb)) k1 hm
   simp only[eR] at m0
   have hil:(vs.map Yaa).length=vs.length:=by simp
   have x5:=m5
   simp only[owP,go_sem] at x5
   simp only[YbR] at *
   have hs1:∀e:Msg,(vs++[e]).length=vs.length+1:=fun e=>by simp
   cases htk:tkM v1 with
   |none=>
    have ha:=fun S=>YV (S:=S) (s:=51) (z:=36) (r:=YbR) hil (by unfold lim;omega)
    rw[htk] at kM hone
    simp only[Yd7,YbR] at kM ha
    cases zb <;>
    ·simp only[go_sem,t0,t5,sc,si,c1,m0,x5,n6,a51,r1,kM,YI,ha,hinc]
     exact⟨i+1,by omega,by omega,rfl,vs++[zMs],⟨zs,true,zh⟩,by rw[hs1,hvl],hz,hone,TW.head ⟨by simp only[go_sem,t0],by simp only[go_sem,t4],by simp only[go_sem,t5],by simp only[go_sem]<;>rfl,by simp only[go_sem,m4],by rw[hs1];simp only[go_sem]<;>rfl,by rw[hs1,Gw];simp only[go_sem]<;>rfl⟩⟩
   |some e=>
    have ha:=fun S=>YV (S:=S) (s:=51) (z:=36) (r:=Yaa e) hil (by unfold lim;omega)
    rw[htk] at kM hone
    simp only[Yd7] at kM
    simp only[go_sem] at kM ha
    cases zb <;>
    ·simp only[go_sem,t0,t5,sc,si,c1,m0,x5,n6,a51,r1,kM,YI,ha,hinc]
     first
      |exact⟨i+1,by omega,by omega,rfl,vs++[e],⟨zs,false,zh⟩,by rw[hs1,hvl],hz,hone,TW.head ⟨by simp only[go_sem,t0],by simp only[go_sem,t4],by simp only[go_sem,t5],by simp only[go_sem]<;>rfl,by simp only[go_sem,m4],by rw[hs1];simp only[go_sem]<;>rfl,by rw[hs1,Gw];simp only[go_sem]<;>rfl⟩⟩
      |exact⟨i+1,by omega,by omega,rfl,vs++[e],⟨zs,true,zh⟩,by rw[hs1,hvl],hz,hone,TW.head ⟨by simp only[go_sem,t0],by simp only[go_sem,t4],by simp only[go_sem,t5],by simp only[go_sem]<;>rfl,by simp only[go_sem,m4],by rw[hs1];simp only[go_sem]<;>rfl,by rw[hs1,Gw];simp only[go_sem]<;>rfl⟩⟩
def H532 (Pg:PgT):Prop:=Pg 532=some (.codeR F532 0)∧H530 Pg∧H531 Pg∧H539 Pg∧H540 Pg∧H566 Pg
theorem R532 (h:H532 Pg) (id:Int) (x:Rb) (hx:x.s.length≤4194304):K' Pg 532 (.tuple (.lref 0 0::eR x)::[iz id])=some (.tuple [.agg (Ya6 ((uOw false id).v x)),.tuple (eR ((uOw false id).n x))]):=by
 obtain⟨h,h530,h531,h539,h540,h566⟩:=h;simp only[uOw,Rg.map_v,Rg.map_n,Rg.pair_v,Rg.pair_n];have k1:=Yaj h530 x;have l1:=Gi (Rg.len (R:=uI false) (x:=x)) hx;generalize (uI false).v x=v1 at *
 generalize (uI false).n x=z1 at *
 have k2:=Yaj h530 z1;have l2:=Gi (Rg.len (R:=uI false) (x:=z1)) l1;generalize (uI false).v z1=v2 at *
 generalize (uI false).n z1=z2 at *
 have k3:=Yfc h540 z2;have l3:=Gi (Rg.len (R:=uIs false) (x:=z2)) l2;generalize (uIs false).v z2=v3 at *
 generalize (uIs false).n z2=z3 at *
 have k4:=Yaj h530 z3;have l4:=Gi (Rg.len (R:=uI false) (x:=z3)) l3;generalize (uI false).v z3=v4 at *
 generalize (uI false).n z3=z4 at *
 have k5:=R539 h539 z4;have l5:=Gi (Rg.len (R:=uT false) (x:=z4)) l4;generalize (uT false).v z4=v5 at *
 generalize (uT false).n z4=z5 at *
 have k6:=R539 h539 z5;have l6:=Gi (Rg.len (R:=uT false) (x:=z5)) l5;generalize (uT false).v z5=v6 at *
 generalize (uT false).n z5=z6 at *
 have k7:=Yfc h540 z6;have l7:=Gi (Rg.len (R:=uIs false) (x:=z6)) l6;generalize (uIs false).v z6=v7 at *
 generalize (uIs false).n z6=z7 at *
 have hv:=Rg.lst_v (D:=false) (R:=uOu false) (x:=z7);rw[hv.1,hv.2];have hm:(uL false).v z7≤2 ^ 29:=YbY;have k8:=YdD h531 z7;have l8:=Gi (Rg.len (R:=uL false) (x:=z7)) l7;generalize (uL false).v z7=m at *
 generalize (uL false).n z7=y at *
 generalize hpv:((uOu false).rep false m).v y=pv;generalize hpn:((uOu false).rep false m).n y=z8;simp only[go_sem] at k3 k7;refine Ybm [.cell 4 (some 9)] (rest:=[iz id]) (ws:=[.agg (Ya6 _)]) h rfl rfl (Ya2 _) (Ya2 _) (Ydx _) fun S ⟨r0,r,hm0,m0,a0⟩=>?_;have r1:=r 0;simp only[JhS,Option.getD_some] at r1;simp only[go_sem] at r1;have n4:=m0 4 rfl;have n5:=m0 5 rfl;have n6:=m0 6 rfl;have a51:=a0 51;simp only[F532,c532,go_sem,JiK,r0,r1,hm0,n4,n5,k1,k2,k3,k4,k5,k6,k7,k8];refine Yjb h539 h566 (y:=y) (c:=m) (o:=⟨v1,⟨id,v2,v3,v4,v5,v6,v7⟩,[]⟩) hm l8 ⟨by simp only[go_sem,r0],by simp only[go_sem],by simp only[go_sem],by simp only[go_sem],by simp only[go_sem]<;>rfl,by simp only[go_sem]<;>rfl,by simp only[go_sem,a51]<;>rfl⟩ (by simp only[go_sem]) (by simp only[go_sem]) (by simp only[go_sem,n6]) fun S1 hS1=>?_;rw[hpv,hpn] at hS1;obtain⟨t0,t4,t5,u0,u4,u5,b51⟩:=hS1;have hc:=Yq b51 (by simp);simp only[owP,go_sem] at u5;simp only[zOw] at u4;simp only[go_sem,JiK,t0,t4,t5,u0,u4,u5];exact⟨_,rfl,by simp only[go_sem,hc,Yee]<;>rfl⟩
def Yc2:List V:=[iz 0,.slice 9 []]
structure TG (S:St) (y:Rb) (id:Int) (os:List Own):Prop where
 r2:S.ρ 2=.lref 2 0
 r4:S.ρ 4=.lref 8 0
 r5:S.ρ 5=.lref 5 0
 m8:S.μ 8=some (eR y,false)
 m2:S.μ 2=some (Yc2,false)
 m5:S.μ 5=some ([iz id,nilOr 23 9 os.length],false)
 a23:S.A 23=YY 9 (os.map Ya6) os.length
set_option maxHeartbeats 2000000
theorem Yjc (h532:H532 Pg) {y:Rb} {c:Nat} {id:Int} (hc:c≤2 ^ 29) (hy:y.s.length≤4194304) {S:St} {Q:Ex→St→Prop}
  (hS:TG S y id []) (sc:S.ρ 13=iz c) (si:S.ρ 14=iz 0)
  (hq:∀S',TG S' (((uOw false id).rep false c).n y) id (((uOw false id).rep false c).v y)→Q .norm S'):Wp (K' Pg) l512_0 S (Blk 0 Q):=by
 unfold l512_0
 refine JiY (fun (i:Nat) S=>i≤c∧S.ρ 13=iz c∧S.ρ 14=iz i∧∃(vs:List Own) (w:Rb),vs.length=i∧w.s.length≤4194304∧(((uOw false id).rep false c).v y=vs++((uOw false id).rep false (c-i)).v w∧((uOw false id).rep false c).n y=((uOw false id).rep false (c-i)).n w)∧TG S w id vs) (fun i=>c-i) 0 ?_ ?_
 ·simp only[JhU]
  exact⟨Gu _,sc,si,[],y,rfl,hy,⟨rfl,rfl⟩,hS⟩
 ·intro i S ⟨hi,sc,si,vs,w,hvl,hw,hrep,hS⟩
  obtain⟨t2,t4,t5,m8,m2,m5,a23⟩:=hS
  cases c1:decide ((i:Int)<(c:Int)) with
  |false=>
   have him:i=c:=by have:=Gb c1;omega
   subst him
   obtain⟨e1,e2⟩:=Yau hrep
   rw[e1,e2] at hq
   simp only[go_sem,sc,si,c1]
   exact hq _ ⟨by simp only[go_sem,t2],by simp only[go_sem,t4],by simp only[go_sem,t5],m8,m2,m5,a23⟩
  |true=>
   have hlt:=Ye c1
   have hinc:=inc64q (i:=i) (by omega)
   have hone:=rep_step hlt hrep
   have k1:=R532 h532 id w hw
   have hz:=Gi (Rg.len (R:=uOw false id) (x:=w)) hw
   generalize (uOw false id).v w=v1 at *
   generalize (uOw false id).n w=z1 at *
   have hil:(vs.map Ya6).length=vs.length:=by simp
   have ha:=fun S=>YV (S:=S) (s:=23) (z:=9) (r:=Ya6 v1) hil (by unfold lim;omega)
   simp only[go_sem] at k1 ha
   simp only[go_sem,JiK,t4,t5,sc,si,c1,m8,m5,a23,k1,YI,ha,hinc,JhU]
   have hs1:(vs++[v1]).length=vs.length+1:=by simp
   exact⟨i+1,by omega,by omega,rfl,vs++[v1],z1,by rw[hs1,hvl],hz,hone,by simp only[go_sem,t2],by simp only[go_sem,t4],by simp only[go_sem,t5],by simp only[go_sem],by simp only[go_sem,m2],by rw[hs1];simp only[go_sem]<;>rfl,by rw[hs1,Gw];simp only[go_sem]<;>rfl⟩
def tkSt (t:List UInt8):Option Sto:=if (Yd0 false (t,false)).2=([],false)∧Yba (Yd0 false (t,false)).1=true then some (Yd0 false (t,false)).1 else none
def YdA:Option Sto→V
 |some s=>.tuple [.agg (Y7 s),iz 0]
 |none=>.tuple [.agg Yc2,iz 3]
def uSt (D:Bool):Rg Sto:=⟨Yd0 D,Ye8.len⟩
theorem YhQ {D:Bool} {x:Rb}:(uSt D).v x=⟨(uI D).v x,((uOw D ((uI D).v x)).lst D).v ((uI D).n x)⟩:=rfl
theorem YhP {D:Bool} {x:Rb}:(uSt D).n x=((uOw D ((uI D).v x)).lst D).n ((uI D).n x):=rfl
def H512 (Pg:PgT):Prop:=Pg 512=some (.code F512)∧H408 Pg∧H530 Pg∧H531 Pg∧H532 Pg
theorem K512 (h:H512 Pg) (t:List UInt8) (ht0:t.length≤4194304) (hsm:∀s,YgJ s→Yc1 s=t→YbS s∧TxOk s):K' Pg 512 [.str t]=some (YdA (tkSt t)):=by
 obtain⟨h,h408,h530,h531,h532⟩:=h;have ht:t.length≤2 ^ 29:=by omega
 generalize ho:tkSt t=o;have e0:=Rg.whole_o (R:=uSt false) (q:=Yba) ht ho;clear ho;have hd:((uSt false).n ⟨t,false,ht⟩).no=false→((uSt false).n ⟨t,false,ht⟩).s=[]→YbS ((uSt false).v ⟨t,false,ht⟩)∧TxOk ((uSt false).v ⟨t,false,ht⟩):=fun h1 h2=>
  have g:=Rg.good (R:=uSt false) (Ye8 (D:=false)) ht h1 h2
  hsm _ g.2 g.1.symm
 have eR0:K' Pg 512 [.str t]=K' Pg 512 [.str (Rb.s ⟨t,false,ht⟩)]:=rfl;have hx0:eR ⟨t,false,ht⟩=[.str t,.bool false]:=rfl;have hxl:(⟨t,false,ht⟩:Rb).s.length≤4194304:=ht0;generalize hx:(⟨t,false,ht⟩:Rb)=x at *
 simp only[YhQ,YhP] at hd e0;have k1:=Yaj h530 x;have l1:=Gi (Rg.len (R:=uI false) (x:=x)) hxl;generalize (uI false).v x=id at *
 generalize (uI false).n x=z1 at *
 have hv:=Rg.lst_v (D:=false) (R:=uOw false id) (x:=z1);simp only[hv.1,hv.2] at hd e0;have hm:(uL false).v z1≤2 ^ 29:=YbY;have k2:=YdD h531 z1;have l2:=Gi (Rg.len (R:=uL false) (x:=z1)) l1;generalize (uL false).v z1=c at *
 generalize (uL false).n z1=y at *
 generalize hp:((uOw false id).rep false c).v y=p at *
 generalize hq:((uOw false id).rep false c).n y=w at *
 rw[eR0];have hxs:x.s=t:=by rw[←hx]
 rw[hxs];refine Qa h rfl ?_;rw[hx0] at k1;simp only[F512,c512,go_sem,JiK,k1,k2];refine Yjc h532 (y:=y) (c:=c) (id:=id) hm l2 ⟨by simp only[go_sem],by simp only[go_sem],by simp only[go_sem],by simp only[go_sem],by simp only[go_sem]<;>rfl,by simp only[go_sem]<;>rfl,rfl⟩ (by simp only[go_sem]) (by simp only[go_sem]) fun S1 hS=>?_;rw[hp,hq] at hS;obtain⟨t2,t4,t5,u8,u2,u5,a23⟩:=hS;have c23:=Yq a23 (by simp);obtain⟨zs,zb,zh⟩:=w;simp only[eR] at u8;simp only[Yc2] at u2;cases zb with
 |true=>
  obtain rfl:o=none:=by
   rcases e0 with ⟨h1,-⟩|⟨-,h2⟩
   ·have h3:true=false:=h1;cases h3
   ·exact h2
  simp only[go_sem,t2,t4,u8,u2,YdA,Yc2]
 |false=>
  cases c2:decide (zs=[]) with
  |false=>
   obtain rfl:o=none:=by
    rcases e0 with ⟨-,h1,-⟩|⟨-,h2⟩
    ·exact absurd h1 (Gb c2)
    ·exact h2
   simp only[go_sem,t2,t4,u8,u2,c2,YdA,Yc2]
  |true=>
   have hu:=Gg c2;obtain⟨d1,d2⟩:=hd rfl hu;have k408:=K408 h408 _ d1 d2;cases hB:Yba ⟨id,p⟩ with
   |false=>
    obtain rfl:o=none:=by
     rcases e0 with ⟨-,-,h1,-⟩|⟨-,h2⟩
     ·rw[hB] at h1;cases h1
     ·exact h2
    rw[hB] at k408;simp only[go_sem] at k408;simp only[go_sem,t2,t4,t5,u8,u2,u5,c2,c23,k408,YdA,Yc2]
   |true=>
    obtain rfl:o=some ⟨id,p⟩:=by
     rcases e0 with ⟨-,-,-,h1⟩|⟨h2,-⟩
     ·exact h1
     ·have h3:=h2 rfl hu;rw[hB] at h3;cases h3
    rw[hB] at k408;simp only[go_sem] at k408;simp only[go_sem,t2,t4,t5,u8,u2,u5,c2,c23,k408,YdA]
def OuS (m:Msg):Prop:=MsV m∧MsL m∧(msB m).length≤2 ^ 30
def OwS (id:Int) (o:Own):Prop:=OwV id o∧(o.rep.members.length≤2 ^ 40∧o.rep.acks.length≤2 ^ 40)∧(o.rep.base.length≤2 ^ 30∧o.rep.text.length≤2 ^ 30)∧∀m∈o.outs,OuS m
set_option maxHeartbeats 2000000
theorem Yh7 (h535:H535 Pg) (h536:H536 Pg) {s:Sto} {o:Own} {j:Nat} {g:List UInt8} (he:∀e∈o.outs,OuS e) (hb:g.length+(o.outs.flatMap ouB).length≤2 ^ 50) {S:St} {Q:Ex→St→Prop}
  (s1:S.ρ 1=.lref 1 0) (m1:S.μ 1=some (Y7 s,false)) (s3:S.ρ 3=.str g) (s4:S.ρ 4=iz j) (s5:S.ρ 5=.lref 5 0) (m5:S.μ 5=some (Ya6 o,false)) (si:S.ρ 6=iz 0)
  (hq:∀S',S'.ρ 1=.lref 1 0→S'.μ 1=some (Y7 s,false)→S'.ρ 3=.str (g++o.outs.flatMap ouB)→S'.ρ 4=iz j→Q .norm S'):Wp (K' Pg) l513_1 S (Blk 2 Q):=by
 have hll:o.outs.length≤(o.outs.flatMap ouB).length:=YP (P:=fun _=>True) (fun e _=>YQ) (fun _ _=>Gs)
 unfold l513_1
 refine JiY (fun (i:Nat) S=>i≤o.outs.length∧S.ρ 1=.lref 1 0∧S.μ 1=some (Y7 s,false)∧S.ρ 3=.str (g++(o.outs.take i).flatMap ouB)∧S.ρ 4=iz j∧S.ρ 5=.lref 5 0∧S.μ 5=some (Ya6 o,false)∧S.ρ 6=iz i) (fun i=>o.outs.length-i) 0 ?_ ?_
 ·simp only[JhU]
  exact⟨Gu _,s1,m1,by rw[s3];simp,s4,s5,m5,si⟩
 ·intro i S ⟨hi,s1,m1,s3,s4,s5,m5,si⟩
  have v5:=m5
  simp only[go_sem] at v5
  cases c1:decide ((i:Int)<(o.outs.length:Int)) with
  |false=>
   have hil:i=o.outs.length:=by have:=Gb c1;omega
   rw[hil,Gy] at s3
   simp only[go_sem,s5,v5,si,c1,Gf]
   exact hq _ (by simp only[go_sem,s1]) m1 (by simp only[go_sem,s3]) (by simp only[go_sem,s4])
  |true=>
   have hlt:=Ye c1
   obtain⟨e,hx,-⟩:=JiF hlt
   have hinc:=inc64q (i:=i) (by omega)
   have hv:=he e (List.mem_of_getElem? hx)
   have q1:=K536 h536 e hv.1 hv.2.1 (by have:=hv.2.2;omega)
   have q2:=K535 h535 (msB e) hv.2.2
   have hbl:=YW (W:=ouB) (l:=o.outs) (i:=i+1)
   rw[Y1 hx,Gc] at hbl
   have hf:g++(o.outs.take (i+1)).flatMap ouB=g++(o.outs.take i).flatMap ouB++Yh (msB e):=by rw[Y1 hx,Gr];rfl
   have hgl:(g++(o.outs.take i).flatMap ouB).length=g.length+((o.outs.take i).flatMap ouB).length:=Gc
   have hbe:(ouB e).length=(Yh (msB e)).length:=rfl
   generalize g++(o.outs.take i).flatMap ouB=g1 at *
   generalize msB e=b at *
   have hc:g1.length+(Yh b).length≤4611686018427387904:=by omega
   simp only[go_sem] at q1
   simp only[go_sem,s3,s5,v5,si,c1,hx,q1,q2,hinc,hc,JhU,Gf]
   refine⟨i+1,by omega,by omega,?_⟩
   and_intros
   all_goals first|rfl|exact s1|exact m1|exact s4|exact m5|(rw[hf];done)|(simp only[s1,m1,s4,m5,go_sem];done)
theorem Yh8 (h533:H533 Pg) (h534:H534 Pg) (h535:H535 Pg) (h536:H536 Pg) {s:Sto} {g:List UInt8} (he:∀e∈s.owns,OwS s.id e) (hb:g.length+(s.owns.flatMap owB).length≤2 ^ 50) {S:St} {Q:Ex→St→Prop}
  (s1:S.ρ 1=.lref 1 0) (m1:S.μ 1=some (Y7 s,false)) (s3:S.ρ 3=.str g) (n5:S.μ 5=none) (si:S.ρ 4=iz 0)
  (hq:∀S',S'.ρ 3=.str (g++s.owns.flatMap owB)→Q .norm S'):Wp (K' Pg) l513_0 S (Blk 0 Q):=by
 have hll:s.owns.length≤(s.owns.flatMap owB).length:=YP (P:=fun _=>True) (fun e _=>by have:=putB_pos e.cell.toNat;simp only[owB,nB,Gc];omega) (fun _ _=>Gs)
 unfold l513_0
 refine JiY (fun (i:Nat) S=>i≤s.owns.length∧S.ρ 1=.lref 1 0∧S.μ 1=some (Y7 s,false)∧S.ρ 3=.str (g++(s.owns.take i).flatMap owB)∧S.μ 5=none∧S.ρ 4=iz i) (fun i=>s.owns.length-i) 0 ?_ ?_
 ·exact⟨Gu _,JiJ s1 rfl,Yy m1 rfl,JiJ (by rw[s3];simp) rfl,JiH (.inr rfl),JiJ si rfl⟩
 ·intro i S ⟨hi,s1,m1,s3,n5,si⟩
  have v1:=m1
  simp only[go_sem] at v1
  cases c1:decide ((i:Int)<(s.owns.length:Int)) with
  |false=>
   have hil:i=s.owns.length:=by have:=Gb c1;omega
   rw[hil,Gy] at s3
   simp only[go_sem,s1,v1,si,c1,Gf]
   exact hq _ (by simp only[go_sem,s3])
  |true=>
   have hlt:=Ye c1
   obtain⟨e,hx,-⟩:=JiF hlt
   have hinc:=inc64q (i:=i) (by omega)
   obtain⟨⟨⟨p1,p2,p3,p4,p5,p6,p7,p8⟩,-⟩,⟨x1,x2⟩,⟨x3,x4⟩,hou⟩:=he e (List.mem_of_getElem? hx)
   have q0:=K533 h533 e.cell p1
   have q1:=K533 h533 e.rep.view p2
   have q2:=K534 h534 e.rep.members p3.2 x1
   have q3:=K533 h533 e.rep.n p4
   have q4:=K535 h535 e.rep.base x3
   have q5:=K535 h535 e.rep.text x4
   have q6:=K534 h534 e.rep.acks p7.2 x2
   have q7:=K533n h533 e.outs.length p8.1
   have hbl:=YW (W:=owB) (l:=s.owns) (i:=i+1)
   rw[Y1 hx,Gc] at hbl
   have hf:g++(s.owns.take (i+1)).flatMap owB=g++(s.owns.take i).flatMap owB++owB e:=by rw[Y1 hx,Gr]
   have hgl:(g++(s.owns.take i).flatMap owB).length=g.length+((s.owns.take i).flatMap owB).length:=Gc
   generalize g++(s.owns.take i).flatMap owB=g1 at *
   have hoB:owB e=nB e.cell++nB e.rep.view++YH nB e.rep.members++nB e.rep.n++Yh e.rep.base++Yh e.rep.text++YH nB e.rep.acks++putB e.outs.length++e.outs.flatMap ouB:=by simp only[owB,YH,Gr]
   rw[hoB] at hbl hf
   generalize nB e.cell=b0 at *
   generalize nB e.rep.view=b1 at *
   generalize YH nB e.rep.members=b2 at *
   generalize nB e.rep.n=b3 at *
   generalize Yh e.rep.base=b4 at *
   generalize Yh e.rep.text=b5 at *
   generalize YH nB e.rep.acks=b6 at *
   generalize putB e.outs.length=b7 at *
   generalize hO:e.outs.flatMap ouB=b8 at *
   simp only[Gc] at hbl
   have u8:g1.length+b0.length+b1.length+b2.length+b3.length+b4.length+b5.length+b6.length+b7.length+b8.length≤2 ^ 50:=by omega
   have u7:=Nat.le_of_add_right_le u8
   have u6:=Nat.le_of_add_right_le u7
   have u5:=Nat.le_of_add_right_le u6
   have u4:=Nat.le_of_add_right_le u5
   have u3:=Nat.le_of_add_right_le u4
   have u2:=Nat.le_of_add_right_le u3
   have u1:=Nat.le_of_add_right_le u2
   have u0:=Nat.le_of_add_right_le u1
   have w0:=Gi u0 (show 2 ^ 50≤4611686018427387904 by decide)
   have w1:=Gi u1 (show 2 ^ 50≤4611686018427387904 by decide)
   have w2:=Gi u2 (show 2 ^ 50≤4611686018427387904 by decide)
   have w3:=Gi u3 (show 2 ^ 50≤4611686018427387904 by decide)
   have w4:=Gi u4 (show 2 ^ 50≤4611686018427387904 by decide)
   have w5:=Gi u5 (show 2 ^ 50≤4611686018427387904 by decide)
   have w6:=Gi u6 (show 2 ^ 50≤4611686018427387904 by decide)
   have w7:=Gi u7 (show 2 ^ 50≤4611686018427387904 by decide)
   have w8:=Gi u8 (show 2 ^ 50≤4611686018427387904 by decide)
   simp only[go_sem,s1,v1,s3,si,n5,c1,hx,q0,q1,q2,q3,q4,q5,q6,q7,w0,w1,w2,w3,w4,w5,w6,w7,Gf]
   refine Yh7 h535 h536 (s:=s) (o:=e) (j:=i) (g:=g1++b0++b1++b2++b3++b4++b5++b6++b7) hou (by rw[hO];simp only[Gc];omega) (by simp only[go_sem,s1]) (by simp only[go_sem,v1]) (by simp only[go_sem,Gr]) (by simp only[go_sem,si]) (by simp only[go_sem]) (by simp only[go_sem]) (by simp only[go_sem]) fun S1 t1 y1 t3 t4=>?_
   rw[hO] at t3
   have x1:=y1
   simp only[go_sem] at x1
   simp only[go_sem,t1,x1,t3,t4,hinc]
   refine⟨i+1,by omega,by omega,?_⟩
   and_intros
   all_goals first|rfl|(rw[hf];simp only[Gr];done)|(rw[hf];done)
def H513 (Pg:PgT):Prop:=Pg 513=some (.code F513)∧H533 Pg∧H534 Pg∧H535 Pg∧H536 Pg
theorem K513 (h:H513 Pg) (s:Sto) (c1:YgJ s) (hl:∀o∈s.owns,OwS s.id o) (hb:(Yc1 s).length≤2 ^ 40):K' Pg 513 [.agg (Y7 s)]=some (.str (Yc1 s)):=by
 obtain⟨h,h533,h534,h535,h536⟩:=h;have q0:=K533 h533 s.id c1.1;have q1:=K533n h533 s.owns.length c1.2.1;have hdB:Yc1 s=nB s.id++putB s.owns.length++s.owns.flatMap owB:=by simp only[Yc1,YH,Gr]
 rw[hdB] at hb ⊢;simp only[Gc] at hb;generalize nB s.id=b0 at *
 generalize putB s.owns.length=b1 at *
 generalize hO:s.owns.flatMap owB=b2 at *
 have w1:b0.length+b1.length≤4611686018427387904:=by omega
 refine Qa h rfl ?_;simp only[F513,c513,go_sem,q0,q1,w1,Gf];refine Yh8 h533 h534 h535 h536 (s:=s) (g:=b0++b1) hl (by rw[hO];simp only[Gc];omega) (by simp only[go_sem]) (by simp only[go_sem]) (by simp only[go_sem]) (by simp only[go_sem]) (by simp only[go_sem]) fun S1 t3=>?_;rw[hO] at t3;simp only[go_sem,t3]
structure OwL (o:Own):Prop where
 mem:o.rep.members.length≤2 ^ 40
 acks:o.rep.acks.length≤2 ^ 40
 base:o.rep.base.length≤2 ^ 30
 text:o.rep.text.length≤2 ^ 30
 outs:o.outs.length≤2 ^ 40
 msg:∀m∈o.outs,MsL m∧(msB m).length≤2 ^ 30
def YhX (s:Sto):Prop:=s.owns.length≤2 ^ 40∧∀o∈s.owns,OwL o
theorem Yg9 (m:Msg):1≤(ouB m).length:=YQ
theorem Yhb (o:Own):1≤(owB o).length:=by
 have:=Ybr o.cell;simp only[owB,Gc];omega
theorem Yio {o:Own} {N:Nat} (h:(owB o).length≤N):(o.rep.members.length≤N∧o.rep.acks.length≤N)∧(o.rep.base.length≤N∧o.rep.text.length≤N)∧o.outs.length≤N∧∀m∈o.outs,(msB m).length≤N:=by
 unfold owB at h;obtain⟨-,h⟩:=Yo h;obtain⟨-,h⟩:=Yo h;obtain⟨hm,h⟩:=Yo h;obtain⟨-,h⟩:=Yo h;obtain⟨hb,h⟩:=Yo h;obtain⟨ht,h⟩:=Yo h;obtain⟨ha,ho⟩:=Yo h;obtain⟨o1,o2⟩:=YaY Yg9 ho;exact⟨⟨(YaY Ybr hm).1,(YaY Ybr ha).1⟩,⟨YaT hb,YaT ht⟩,o1,fun m hm=>YaT (o2 m hm)⟩
theorem Yc8 {s:Sto} (h:(Yc1 s).length≤10000):(YbS s∧TxOk s)∧YhX s:=by
 unfold Yc1 at h;obtain⟨-,h⟩:=Yo h;obtain⟨l1,l2⟩:=YaY Yhb h;have g:∀o∈s.owns,_:=fun o ho=>Yio (l2 o ho);refine⟨⟨⟨l1,fun o ho=>?_⟩,fun o ho=>(g o ho).2.1⟩,by omega,fun o ho=>?_⟩
 ·obtain⟨g1,g2,g3,g4⟩:=g o ho;exact⟨g1,g3,fun m hm=>(YeT (g4 m hm)).1⟩
 ·obtain⟨⟨g1,g5⟩,⟨g2,g6⟩,g3,g4⟩:=g o ho;exact⟨by omega,by omega,by omega,by omega,by omega,fun m hm=>⟨(YeT (g4 m hm)).2,Gi (g4 m hm) (by decide)⟩⟩
theorem YdB {id:Int}:∀{l:List Own} {p:Int} {o:Own},Ya7 id p l=true→o∈l→∃q,YaN id q o=true
 |x::l,p,o,h,ho=>by
  simp only[Ya7,Gk] at h;rcases GK.1 ho with rfl|ho
  ·exact⟨p,h.1⟩
  ·exact YdB h.2 ho
theorem YfD {l:List Int} (h:SetP l):∀n∈l,NV n:=fun n hn=>by
 have:=h.2.1 n hn;exact nv (by omega) (by omega)
theorem YeE {s:Sto} (h:Yba s=true) (hl:YhX s):YgJ s∧∀o∈s.owns,OwS s.id o:=by
 simp only[Yba,Gk,idQ,Gq] at h;obtain⟨h1,h2,h3⟩:=h;obtain⟨l1,l2⟩:=hl;have g:∀o∈s.owns,OwS s.id o:=fun o ho=>by
  obtain⟨q,hq⟩:=YdB h1 ho;simp only[YaN,ownQ1,YbD,Ycu,Gk,Gq,Gz,outQ] at hq;obtain⟨⟨-,⟨c1,c2⟩,ci,cr,-,-⟩,-,hou⟩:=hq;obtain⟨r1,r2,-,-,-,r3,r4,r5,r6⟩:=Yaz cr;have lo:=l2 o ho;have hOu:∀m∈o.outs,OuS m:=fun m hm=>⟨Yft (hou m hm).1 (lo.msg m hm).1,lo.msg m hm⟩;refine⟨⟨⟨nv (by omega) (by omega),nv r3 r4,⟨by have:=lo.mem;omega,YfD r1⟩,nv r5 r6,by have:=lo.base;show _<_;omega,by have:=lo.text;show _<_;omega,⟨by have:=lo.acks;omega,YfD r2⟩,by have:=lo.outs;omega,fun m hm=>⟨by have:=(hOu m hm).2.2;show _<_;omega,(hOu m hm).1,(hou m hm).1⟩⟩,?_⟩,⟨lo.mem,lo.acks⟩,⟨lo.base,lo.text⟩,hOu⟩;obtain⟨c,⟨i,v,m,n,b,t,a⟩,u⟩:=o;simp only at ci;subst ci
  rfl
 exact⟨⟨nv (by omega) (by omega),by omega,fun o ho=>(g o ho).1⟩,g⟩
structure TH (S:St) (t:List UInt8) (y:Rb) (id:Int) (M I:Nat) (os:List Own):Prop where
 r0:S.ρ 0=.str t
 r2:S.ρ 2=.lref 2 0
 r4:S.ρ 4=.lref 16 0
 r5:S.ρ 5=.lref 5 0
 r6:S.ρ 6=iz M
 r7:S.ρ 7=iz I
 m16:S.μ 16=some (eR y,false)
 m2:S.μ 2=some (Yc2,false)
 m5:S.μ 5=some ([iz id,nilOr 101 9 os.length],false)
 a101:S.A 101=YY 9 (os.map Ya6) os.length
structure TI (S:St) (c:Nat) (o:Own) (ms:List Msg):Prop where
 r8:S.ρ 8=.lref 8 0
 r10:S.ρ 10=iz c
 m8:S.μ 8=some (owP o (nilOr 95 36 ms.length),false)
 a95:S.A 95=YY 36 (ms.map Yaa) ms.length
theorem Yg0 {S:St} {v:Nat} {Wv Wa:List Nat} {id:Int} {s z n:Nat} (hm:S.μ v=some ([iz id,nilOr s z n],false)) (hv:Wv.contains v=false) (h:Wa.contains s=false) :
  (S.head [] [] Wv Wa).μ v=some ([iz id,nilOr s z n],false):=by
 show (if Wv.contains v then none else (S.μ v).map _)=_
 rw[hv,hm]
 simp only[Gx,GN,Option.map_some]
 have:([iz id,nilOr s z n]:List V).map (Jv Wa)=[iz id,nilOr s z n]:=by
  simp only[G3,G6,scrub_nil h]
  rfl
 rw[this]
 cases Wa.isEmpty<;>rfl
theorem TH.head {S:St} {t:List UInt8} {y:Rb} {id:Int} {M I:Nat} {os:List Own} {Wv Wa:List Nat} (h:TH S t y id M I os) (h2:Wv.contains 2=false) (h5:Wv.contains 5=false) (h16:Wv.contains 16=false) (h101:Wa.contains 101=false):TH (S.head [] [] Wv Wa) t y id M I os:=
 ⟨JiJ h.r0 rfl,JiJ h.r2 (by simp only[stay,h2];rfl),JiJ h.r4 (by simp only[stay,h16];rfl),JiJ h.r5 (by simp only[stay,h5];rfl),JiJ h.r6 rfl,JiJ h.r7 rfl,JiI h.m16 (Ya2 y) h16,JiI h.m2 rfl h2,Yg0 h.m5 h5 h101,(Yv h101).trans h.a101⟩
theorem TI.head {S:St} {c:Nat} {o:Own} {ms:List Msg} (h:TI S c o ms):TI (S.head [] [] [12] []) c o ms:=
 ⟨JiJ h.r8 rfl,JiJ h.r10 rfl,Yy h.m8 rfl,(Yv rfl).trans h.a95⟩
set_option maxHeartbeats 2000000
theorem Yja (h547:H547 Pg) (h548:H548 Pg) {t:List UInt8} {y:Rb} {id:Int} {M I c:Nat} {os:List Own} {o:Own} (hy:y.s.length≤10000) {S:St} {Q:Ex→St→Prop}
  (hS:TH S t y id M I os) (hI:TI S c o []) (si:S.ρ 11=iz 0) (n12:S.μ 12=none)
  (hq:∀S',TH S' t (((uOu true).rep true c).n y) id M I os→TI S' c o (((uOu true).rep true c).v y)→Q .norm S'):Wp (K' Pg) l520_1 S (Blk 2 Q):=by
 unfold l520_1
 refine JiY (fun (i:Nat) S=>i≤c∧S.ρ 11=iz i∧S.μ 12=none∧∃(vs:List Msg) (w:Rb),vs.length=i∧w.s.length≤10000∧(((uOu true).rep true c).v y=vs++((uOu true).rep true (c-i)).v w∧((uOu true).rep true c).n y=((uOu true).rep true (c-i)).n w)∧TH S t w id M I os∧TI S c o vs) (fun i=>c-i) 0 ?_ ?_
 ·exact⟨Gu _,JiJ si rfl,JiH (.inl n12),[],y,rfl,hy,⟨rfl,rfl⟩,hS.head rfl rfl rfl rfl,hI.head⟩
 ·intro i S ⟨hi,si,n12,vs,w,hvl,hw,hrep,hS,hI⟩
  obtain⟨t0,t2,t4,t5,t6,t7,m16,m2,m5,a101⟩:=hS
  obtain⟨t8,sc,m8,a95⟩:=hI
  cases c1:decide ((i:Int)<(c:Int)) with
  |false=>
   have him:c≤i:=by have:=Gb c1;omega
   obtain⟨e1,e2⟩:=Yw (.inl him) hrep
   rw[e1,e2] at hq
   simp only[go_sem,t4,sc,si,c1,m16]
   exact hq _ ⟨by simp only[go_sem,t0],by simp only[go_sem,t2],by simp only[go_sem,t4],by simp only[go_sem,t5],by simp only[go_sem,t6],by simp only[go_sem,t7],m16,m2,m5,a101⟩ ⟨by simp only[go_sem,t8],by simp only[go_sem,sc],m8,a95⟩
  |true=>
   cases c2:w.no with
   |true=>
   obtain⟨e1,e2⟩:=Yw (.inr c2) hrep
   rw[e1,e2] at hq
   simp only[go_sem,t4,sc,si,c1,c2,m16]
   exact hq _ ⟨by simp only[go_sem,t0],by simp only[go_sem,t2],by simp only[go_sem,t4],by simp only[go_sem,t5],by simp only[go_sem,t6],by simp only[go_sem,t7],m16,m2,m5,a101⟩ ⟨by simp only[go_sem,t8],by simp only[go_sem,sc],m8,a95⟩
   |false=>
   have hlt:=Ye c1
   have hone:=rep_stepD hlt c2 hrep
   have hf:=rep_few (cOu (D:=true)) Yfx hone.1
   rw[Gc,List.length_singleton] at hf
   have hinc:=inc64q (i:=i) (by omega)
   have hR:(uOu true).v w=(tkM ((uT true).v w)).getD zMs:=rfl
   have hN:(uOu true).n w=⟨((uT true).n w).s,((uT true).n w).no||(tkM ((uT true).v w)).isNone,((uT true).n w).h⟩:=rfl
   rw[hR,hN] at hone
   have k1:=YdE h547 w
   have kM:=K548 h548 ((uT true).v w) (Gi (Gi YhR hw) (by decide))
   have hz:=Gi (Rg.len (R:=uT true) (x:=w)) hw
   generalize (uT true).v w=v1 at *
   generalize (uT true).n w=z1 at *
   obtain⟨ws,wb,wh⟩:=w
   obtain⟨zs,zb,zh⟩:=z1
   have r1:∀S:St,S.μ 16=some ([.str ws,.bool wb],false)→Jav (K' Pg) 21000 S 547 0 16 [.lref 16 0]=some (.str v1,⟨S.ρ,upd S.μ 16 (some ([.str zs,.bool zb],false)),S.A⟩):=fun S hm=>Qb (x:=(ws,wb)) (y:=(zs,zb)) k1 hm
   simp only at c2
   subst c2
   simp only[eR] at m16
   have hil:(vs.map Yaa).length=vs.length:=by simp
   have x8:=m8
   simp only[owP,go_sem] at x8
   have hs1:∀e:Msg,(vs++[e]).length=vs.length+1:=fun e=>by simp
   cases htk:tkM v1 with
   |none=>
    have ha:=fun S=>YV (S:=S) (s:=95) (z:=36) (r:=YbR) hil (by unfold lim;omega)
    rw[htk] at kM hone
    simp only[Ydg,YbR] at kM ha
    cases zb <;>
    ·simp only[go_sem,t4,t8,sc,si,c1,m16,x8,n12,a95,r1,kM,YI,ha,hinc]
     exact⟨i+1,by omega,by omega,rfl,vs++[zMs],⟨zs,true,zh⟩,by rw[hs1,hvl],hz,hone,
      TH.head ⟨by simp only[go_sem,t0],by simp only[go_sem,t2],by simp only[go_sem,t4],by simp only[go_sem,t5],by simp only[go_sem,t6],by simp only[go_sem,t7],by simp only[go_sem]<;>rfl,by simp only[go_sem,m2],by simp only[go_sem,m5],by simp only[go_sem,a101]⟩ rfl rfl rfl rfl,
      TI.head ⟨by simp only[go_sem,t8],by simp only[go_sem,sc],by rw[hs1];simp only[go_sem]<;>rfl,by rw[hs1,Gw];simp only[go_sem]<;>rfl⟩⟩
   |some e=>
    have ha:=fun S=>YV (S:=S) (s:=95) (z:=36) (r:=Yaa e) hil (by unfold lim;omega)
    rw[htk] at kM hone
    simp only[Ydg] at kM
    simp only[go_sem] at kM ha
    cases zb
    all_goals
     simp only[go_sem,t4,t8,sc,si,c1,m16,x8,n12,a95,r1,kM,YI,ha,hinc]
     first
      |exact⟨i+1,by omega,by omega,rfl,vs++[e],⟨zs,false,zh⟩,by rw[hs1,hvl],hz,hone,
        TH.head ⟨by simp only[go_sem,t0],by simp only[go_sem,t2],by simp only[go_sem,t4],by simp only[go_sem,t5],by simp only[go_sem,t6],by simp only[go_sem,t7],by simp only[go_sem]<;>rfl,by simp only[go_sem,m2],by simp only[go_sem,m5],by simp only[go_sem,a101]⟩ rfl rfl rfl rfl,
        TI.head ⟨by simp only[go_sem,t8],by simp only[go_sem,sc],by rw[hs1];simp only[go_sem]<;>rfl,by rw[hs1,Gw];simp only[go_sem]<;>rfl⟩⟩
      |exact⟨i+1,by omega,by omega,rfl,vs++[e],⟨zs,true,zh⟩,by rw[hs1,hvl],hz,hone,
        TH.head ⟨by simp only[go_sem,t0],by simp only[go_sem,t2],by simp only[go_sem,t4],by simp only[go_sem,t5],by simp only[go_sem,t6],by simp only[go_sem,t7],by simp only[go_sem]<;>rfl,by simp only[go_sem,m2],by simp only[go_sem,m5],by simp only[go_sem,a101]⟩ rfl rfl rfl rfl,
        TI.head ⟨by simp only[go_sem,t8],by simp only[go_sem,sc],by rw[hs1];simp only[go_sem]<;>rfl,by rw[hs1,Gw];simp only[go_sem]<;>rfl⟩⟩
set_option maxHeartbeats 4000000
theorem Yjd (h545:H545 Pg) (h546:H546 Pg) (h547:H547 Pg) (h548:H548 Pg) {t:List UInt8} {y:Rb} {id:Int} {M:Nat} (hy:y.s.length≤10000) {S:St} {Q:Ex→St→Prop}
  (hS:TH S t y id M 0 [])
  (hq:∀S' I,TH S' t (((uOw true id).rep true M).n y) id M I (((uOw true id).rep true M).v y)→Q .norm S'):Wp (K' Pg) l520_0 S (Blk 0 Q):=by
 unfold l520_0
 refine JiY (fun (i:Nat) S=>i≤M∧S.μ 8=none∧S.μ 9=none∧S.μ 12=none∧S.A 95=none∧∃(vs:List Own) (w:Rb),vs.length=i∧w.s.length≤10000∧(((uOw true id).rep true M).v y=vs++((uOw true id).rep true (M-i)).v w∧((uOw true id).rep true M).n y=((uOw true id).rep true (M-i)).n w)∧TH S t w id M i vs) (fun i=>M-i) 0 ?_ ?_
 ·exact⟨Gu _,JiH (.inr rfl),JiH (.inr rfl),JiH (.inr rfl),YdO rfl,[],y,rfl,hy,⟨rfl,rfl⟩,hS.head rfl rfl rfl rfl⟩
 ·intro i S ⟨hi,n8,n9,n12,a95,vs,w,hvl,hw,hrep,hS⟩
  obtain⟨t0,t2,t4,t5,t6,t7,m16,m2,m5,a101⟩:=hS
  cases c1:decide ((i:Int)<(M:Int)) with
  |false=>
   have him:M≤i:=by have:=Gb c1;omega
   obtain⟨e1,e2⟩:=Yw (.inl him) hrep
   rw[e1,e2] at hq
   simp only[go_sem,t4,t6,t7,c1,m16]
   exact hq _ i ⟨by simp only[go_sem,t0],by simp only[go_sem,t2],by simp only[go_sem,t4],by simp only[go_sem,t5],by simp only[go_sem,t6],by simp only[go_sem,t7],m16,m2,m5,a101⟩
  |true=>
   cases c2:w.no with
   |true=>
   obtain⟨e1,e2⟩:=Yw (.inr c2) hrep
   rw[e1,e2] at hq
   simp only[go_sem,t4,t6,t7,c1,c2,m16]
   exact hq _ i ⟨by simp only[go_sem,t0],by simp only[go_sem,t2],by simp only[go_sem,t4],by simp only[go_sem,t5],by simp only[go_sem,t6],by simp only[go_sem,t7],m16,m2,m5,a101⟩
   |false=>
   have hlt:=Ye c1
   have hone:=rep_stepD hlt c2 hrep
   have hf:=rep_few (cOw (D:=true) (id:=id)) Yfy hone.1
   rw[Gc,List.length_singleton] at hf
   have hinc:=inc64q (i:=i) (by omega)
   have hR:(uOw true id).v w=Yee id ((uI true).v w,(uI true).v ((uI true).n w),(uIs true).v ((uI true).n ((uI true).n w)),(uI true).v ((uIs true).n ((uI true).n ((uI true).n w))),(uT true).v ((uI true).n ((uIs true).n ((uI true).n ((uI true).n w)))),(uT true).v ((uT true).n ((uI true).n ((uIs true).n ((uI true).n ((uI true).n w))))),(uIs true).v ((uT true).n ((uT true).n ((uI true).n ((uIs true).n ((uI true).n ((uI true).n w)))))),((uOu true).lst true).v ((uIs true).n ((uT true).n ((uT true).n ((uI true).n ((uIs true).n ((uI true).n ((uI true).n w)))))))):=by simp only[uOw,Rg.map_v,Rg.pair_v,Rg.pair_n]
   have hN:(uOw true id).n w=((uOu true).lst true).n ((uIs true).n ((uT true).n ((uT true).n ((uI true).n ((uIs true).n ((uI true).n ((uI true).n w))))))):=by simp only[uOw,Rg.map_n,Rg.pair_v,Rg.pair_n]
   rw[hR,hN] at hone
   have k1:=Yak h545 w
   have l1:=Gi (Rg.len (R:=uI true) (x:=w)) hw
   generalize (uI true).v w=v1 at *
   generalize (uI true).n w=z1 at *
   have k2:=Yak h545 z1
   have l2:=Gi (Rg.len (R:=uI true) (x:=z1)) l1
   generalize (uI true).v z1=v2 at *
   generalize (uI true).n z1=z2 at *
   have k3:=Yfd h546 z2
   have l3:=Gi (Rg.len (R:=uIs true) (x:=z2)) l2
   generalize (uIs true).v z2=v3 at *
   generalize (uIs true).n z2=z3 at *
   have k4:=Yak h545 z3
   have l4:=Gi (Rg.len (R:=uI true) (x:=z3)) l3
   generalize (uI true).v z3=v4 at *
   generalize (uI true).n z3=z4 at *
   have k5:=YdE h547 z4
   have l5:=Gi (Rg.len (R:=uT true) (x:=z4)) l4
   generalize (uT true).v z4=v5 at *
   generalize (uT true).n z4=z5 at *
   have k6:=YdE h547 z5
   have l6:=Gi (Rg.len (R:=uT true) (x:=z5)) l5
   generalize (uT true).v z5=v6 at *
   generalize (uT true).n z5=z6 at *
   have k7:=Yfd h546 z6
   have l7:=Gi (Rg.len (R:=uIs true) (x:=z6)) l6
   generalize (uIs true).v z6=v7 at *
   generalize (uIs true).n z6=z7 at *
   have hv:=Rg.lst_v (D:=true) (R:=uOu true) (x:=z7)
   rw[hv.1,hv.2] at hone
   have k8:=Ydp h545 z7
   change K' Pg 545 _=some (.tuple [iz ((uL true).v z7),.tuple (eR ((uL true).n z7))]) at k8
   have l8:=Gi (Rg.len (R:=uL true) (x:=z7)) l7
   generalize (uL true).v z7=m at *
   generalize (uL true).n z7=y8 at *
   have l9:=Gi (Rg.len (R:=(uOu true).rep true m) (x:=y8)) l8
   generalize hpv:((uOu true).rep true m).v y8=pv at *
   generalize hpn:((uOu true).rep true m).n y8=z8 at *
   simp only[go_sem] at k3 k7
   simp only[go_sem,JiK,t4,t5,t6,t7,c1,c2,m16,m5,n8,n9,k1,k2,k3,k4,k5,k6,k7,k8]
   refine Yja h547 h548 (t:=t) (y:=y8) (id:=id) (M:=M) (I:=i) (c:=m) (os:=vs) (o:=⟨v1,⟨id,v2,v3,v4,v5,v6,v7⟩,[]⟩) l8 ⟨by simp only[go_sem,t0],by simp only[go_sem,t2],by simp only[go_sem,t4],by simp only[go_sem,t5],by simp only[go_sem,t6],by simp only[go_sem,t7],by simp only[go_sem],by simp only[go_sem,m2],by simp only[go_sem,m5],by simp only[go_sem,a101]⟩
    ⟨by simp only[go_sem],by simp only[go_sem],by simp only[go_sem]<;>rfl,by simp only[go_sem,a95]<;>rfl⟩ (by simp only[go_sem]) (by simp only[go_sem,n12]) fun S1 hS1 hI1=>?_
   rw[hpn] at hS1
   rw[hpv] at hI1
   obtain⟨t0,t2,t4,t5,t6,t7,u16,u2,u5,b101⟩:=hS1
   obtain⟨t8,t10,u8,b95⟩:=hI1
   have hc:=Yq b95 (by simp)
   have hst:=YcU (s:=95) (z:=36) (n:=pv.length)
   have hil:(vs.map Ya6).length=vs.length:=by simp
   have ha:=fun S=>YV (S:=S) (s:=101) (z:=9) (r:=Ya6 (Yee id (v1,v2,v3,v4,v5,v6,v7,pv))) hil (by unfold lim;omega)
   simp only[go_sem,Yee] at ha
   have x8:=u8
   simp only[owP,go_sem] at x8
   simp only[go_sem,t5,t7,t8,u5,x8,b101,hc,hst,YI,ha,hinc]
   have hs1:∀e:Own,(vs++[e]).length=vs.length+1:=fun e=>by simp
   exact⟨i+1,by omega,by omega,vs++[Yee id (v1,v2,v3,v4,v5,v6,v7,pv)],z8,by rw[hs1,hvl],l9,hone,
    TH.head ⟨by simp only[go_sem,t0],by simp only[go_sem,t2],by simp only[go_sem,t4],by simp only[go_sem,t5],by simp only[go_sem,t6],by simp only[go_sem],by simp only[go_sem,u16],by simp only[go_sem,u2],by rw[hs1];simp only[go_sem]<;>rfl,by rw[hs1,Gw];simp only[go_sem]<;>rfl⟩ rfl rfl rfl rfl⟩
def Yb6 (l:List Own):Nat→Int
 |0=>0
 |j+1=>match l[j]? with|some o=>o.cell|none=>0
theorem YeR {l:List Own} {j:Nat} {o:Own} (h:l[j]?=some o):Yb6 l (j+1)=o.cell:=by simp[Yb6,h]
def H405 (Pg:PgT):Prop:=Pg 405=some (.code F405)∧H425 Pg∧H37 Pg∧H426 Pg∧H414 Pg
theorem K405g (h:H405 Pg) (s:Sto) (hs:YbS s) (hk:∀o∈s.owns,K' Pg 425 [.str o.rep.base]=some (Ycq (tkC o.rep.base))∧K' Pg 425 [.str o.rep.text]=some (Ycq (tkC o.rep.text))):K' Pg 405 [.agg (Y7 s)]=some (.bool (Yba s)):=by
 obtain⟨h,h425,h37,h426,h414⟩:=h;obtain⟨hl,ho⟩:=hs;refine Qa h rfl ?_;cases b1:decide (s.id<1) with
 |true=>
  have:Yba s=false:=by simp only[Yba,idQ,Gp (show ¬1≤s.id by have:=Gg b1;omega),Gj,Gm]
  simp only[F405,c405,go_sem,b1,this]
 |false=>
 cases b2:decide (3<s.id) with
 |true=>
  have:Yba s=false:=by simp only[Yba,idQ,Gp (show ¬s.id≤3 by have:=Gg b2;omega),Gm]
  simp only[F405,c405,go_sem,b1,b2,this]
 |false=>
 have hid:idQ s.id=true:=by
  have:=Gb b1;have:=Gb b2;simp only[idQ,Gk,Gq];omega
 have hst:Yba s=Ya7 s.id 0 s.owns:=by simp only[Yba,hid,GW]
 simp only[F405,c405,go_sem,b1,b2];unfold l405_0;refine JiY (fun (i:Nat) S=>i≤s.owns.length∧S.ρ 1=.lref 1 0∧S.μ 1=some (Y7 s,false)∧S.ρ 3=iz i∧S.μ 4=none∧S.μ 5=none∧S.μ 7=none∧Ya7 s.id (Yb6 s.owns i) (s.owns.drop i)=Ya7 s.id 0 s.owns) (fun i=>s.owns.length-i) 0 ?_ ?_
 ·refine⟨Gu _,?_⟩;simp[go_sem,Yb6]
 ·intro i S ⟨hi,s1,m1,s3,m4,m5,m7,hq⟩;have m1':=m1;simp only[go_sem] at m1';cases c1:decide ((i:Int)<(s.owns.length:Int)) with
  |false=>
   have hil:i=s.owns.length:=by have:=Gb c1;omega
   subst hil;simp only[GF,Ya7] at hq;have hr:Yba s=true:=by rw[hst,←hq]
   simp only[go_sem,s1,m1',s3,c1,hr,Gf]
  |true=>
   have hlt:=Ye c1;obtain⟨o,hn,hd⟩:=JiF hlt;have hinc:=inc64q (i:=i) (by omega)
   obtain⟨o1,o2,o3⟩:=ho o (List.mem_of_getElem? hn);obtain⟨kb,kt⟩:=hk o (List.mem_of_getElem? hn);rw[hd,Ya7] at hq;have k37:=K37 h37 o.rep o1.ok;have k426:=K426 h426 o.rep o1;have bad:YaN s.id (Yb6 s.owns i) o=false→Yba s=false:=fun hb=>by
    rw[hb,Gj] at hq;rw[hst,←hq]
   obtain⟨cb,hcb⟩:∃cb:List V,Ycq (tkC o.rep.base)=.tuple [.agg cb,.bool (YaG o.rep.base)]∧cb.length=5:=by
    unfold YaG Ycq;cases tkC o.rep.base<;>exact⟨_,rfl,rfl⟩
   obtain⟨ct,hct⟩:∃cb:List V,Ycq (tkC o.rep.text)=.tuple [.agg cb,.bool (YaG o.rep.text)]∧cb.length=5:=by
    unfold YaG Ycq;cases tkC o.rep.text<;>exact⟨_,rfl,rfl⟩
   obtain⟨hcb,hcbl⟩:=hcb;obtain⟨hct,hctl⟩:=hct;rw[hcb] at kb;rw[hct] at kt;have sb:∀{S:St} {s:Nat} {b:Bool},stV S s 0 cb (some ([.slice 17 [],.int .i64 0,.int .i64 0,.int .i64 0,.int .i64 0],false))=some ⟨S.ρ,upd S.μ s (some (cb,false)),S.A⟩:=by
    intro S s b;rw[Jik];unfold J0;simp[hcbl]
   have stt:∀{S:St} {s:Nat} {b:Bool},stV S s 0 ct (some ([.slice 17 [],.int .i64 0,.int .i64 0,.int .i64 0,.int .i64 0],false))=some ⟨S.ρ,upd S.μ s (some (ct,false)),S.A⟩:=by
    intro S s b;rw[Jik];unfold J0;simp[hctl]
   simp only[Yx,Yf] at k37 k426;cases d1:decide (o.cell<1) with
   |true=>
    have:=bad (by simp only[YaN,ownQ1,Ycu,Gp (show ¬1≤o.cell by have:=Gg d1;omega),Gj,Gm]);simp only[go_sem,s1,m1',s3,m4,m5,m7,c1,hn,kb,kt,sb (b:=true),stt (b:=true),hcbl,hctl,this,d1,Gf]
   |false=>
   cases d2:decide (3<o.cell) with
   |true=>
    have:=bad (by simp only[YaN,ownQ1,Ycu,Gp (show ¬o.cell≤3 by have:=Gg d2;omega),Gj,Gm]);simp only[go_sem,s1,m1',s3,m4,m5,m7,c1,hn,kb,kt,sb (b:=true),stt (b:=true),hcbl,hctl,this,d1,d2,Gf]
   |false=>
   have dcl:Ycu o.cell=true:=by
    have:=Gb d1;have:=Gb d2;simp only[Ycu,Gk,Gq];omega
   have outs:∀(S:St),(decide ((o.outs.length:Int)≤0)||YZ o.rep)=true→ownQ1 s.id (Yb6 s.owns i) o=true→S.ρ 1=.lref 1 0→S.μ 1=some ([iz s.id,.slice 9 (s.owns.map Ya6)],false)→S.ρ 3=iz i→S.ρ 4=.lref 4 0→S.μ 4=some (Ya6 o,false)→S.ρ 9=iz 0→
     Wp (K' Pg) l405_1 S (Blk 2 (Blk 1 (Cont (K' Pg) (.region false r405_17) (LQ (fun (i:Nat) S=>i≤s.owns.length∧S.ρ 1=.lref 1 0∧S.μ 1=some (Y7 s,false)∧S.ρ 3=iz i∧S.μ 4=none∧S.μ 5=none∧S.μ 7=none∧Ya7 s.id (Yb6 s.owns i) (s.owns.drop i)=Ya7 s.id 0 s.owns) (fun i=>s.owns.length-i) i [] [] [4,5,7] [] (Blk 0 (Cont (K' Pg) (.seq (.region false r405_18) .ret) fun ex S=>(ex=.norm∨ex=.ret)∧JaI F405 S=some (.bool (Yba s)))))))):=by
    intro S hb2 hb1 s1 m1 s3 s4 m4 s9
    unfold l405_1
    refine JiY (fun (j:Nat) S=>j≤o.outs.length∧S.ρ 1=.lref 1 0∧S.μ 1=some (Y7 s,false)∧S.ρ 3=iz i∧S.ρ 4=.lref 4 0∧S.μ 4=some (Ya6 o,false)∧S.ρ 9=iz j∧(o.outs.take j).all (outQ s.id)=true) (fun j=>o.outs.length-j) 0 ?_ ?_
    ·simp only[JhU]
     exact⟨Gu _,s1,m1,s3,s4,m4,s9,rfl⟩
    ·intro j S ⟨hj,s1,m1,s3,s4,m4,s9,hall⟩
     have m1':=m1
     have m4':=m4
     simp only[go_sem] at m1' m4'
     cases e1:decide ((j:Int)<(o.outs.length:Int)) with
     |false=>
      have hjl:j=o.outs.length:=by have:=Gb e1;omega
      rw[hjl,Gy] at hall
      have hok:YaN s.id (Yb6 s.owns i) o=true:=by simp only[YaN,YbD,hb1,hb2,hall];rfl
      rw[hok,Gn] at hq
      simp only[go_sem,s1,m1',s3,s4,m4',s9,e1,hinc,Gf]
      exact⟨i+1,by omega,by omega,rfl,by rw[YeR hn];exact hq⟩
     |true=>
      have hjt:=Ye e1
      obtain⟨x,hx,-⟩:=JiF hjt
      have hinj:=inc64q (i:=j) (by omega)
      have k414:=K414 h414 x
      simp only[Yaa,YU,YC,Yf] at k414
      cases f1:YbM x with
      |false=>
       rw[f1] at k414
       have:=bad (by simp only[YaN,YbD,Ya4 hx (show outQ s.id x=false by simp only[outQ,f1,Gj]),Gm])
       simp only[go_sem,s4,m4',s9,e1,hx,k414,this,Gf]
      |true=>
      rw[f1] at k414
      cases f2:decide (x.from_=s.id) with
      |false=>
       have:=bad (by simp only[YaN,YbD,Ya4 hx (show outQ s.id x=false by simp only[outQ,f2,Gm]),Gm])
       simp only[go_sem,s1,m1',s4,m4',s9,e1,hx,k414,f2,this,Gf]
      |true=>
       simp only[go_sem,s1,m1',s3,s4,m4',s9,e1,hx,k414,f2,hinj,Gf]
       exact⟨j+1,by omega,by omega,rfl,Ybw hx (by simp only[outQ,f1,f2];rfl) hall⟩
   rcases GT i with e0|e0
   ·have hneg:decide ((0:Int)<(i:Int))=false:=Gp (by omega);have dle:(!decide (o.cell≤Yb6 s.owns i))=true:=by
     have:=Gb d1;rw[e0]
     show (!decide (o.cell≤0))=true
     simp only[GE,GH];omega
    cases d4:decide (o.rep.id=s.id) with
    |false=>
     have:=bad (by simp only[YaN,ownQ1,d4,Gj,Gm]);simp only[go_sem,s1,m1',s3,m4,m5,m7,c1,hn,kb,kt,sb (b:=true),stt (b:=true),hcbl,hctl,this,d1,d2,hneg,d4,Gf]
    |true=>
    cases d5:rightB o.rep with
    |false=>
     have:=bad (by simp only[YaN,ownQ1,d5,Gj,Gm]);rw[d5] at k37;simp only[go_sem,s1,m1',s3,m4,m5,m7,c1,hn,kb,kt,sb (b:=true),stt (b:=true),hcbl,hctl,this,d1,d2,hneg,d4,k37,Gf]
    |true=>
    rw[d5] at k37;cases d6:YaG o.rep.base with
    |false=>
     have:=bad (by simp only[YaN,ownQ1,d6,Gj,Gm]);rw[d6] at kb;simp only[go_sem,s1,m1',s3,m4,m5,m7,c1,hn,kb,kt,sb (b:=true),stt (b:=true),hcbl,hctl,this,d1,d2,hneg,d4,k37,Gf]
    |true=>
    rw[d6] at kb;cases d7:YaG o.rep.text with
    |false=>
     have:=bad (by simp only[YaN,ownQ1,d7,Gj,Gm]);rw[d7] at kt;simp only[go_sem,s1,m1',s3,m4,m5,m7,c1,hn,kb,kt,sb (b:=true),stt (b:=true),hcbl,hctl,this,d1,d2,hneg,d4,k37,Gf]
    |true=>
    rw[d7] at kt;cases d8:decide (0<(o.outs.length:Int)) with
    |true=>
     cases d9:Yd3 o.rep with
     |false=>
      have:=bad (by simp only[YaN,YbD,Yct,d9,Gp (show ¬(o.outs.length:Int)≤0 by have:=Gg d8;omega),Gm,Bool.or_false,Gj]);rw[d9] at k426;simp only[go_sem,s1,m1',s3,m4,m5,m7,c1,hn,kb,kt,sb (b:=true),stt (b:=true),hcbl,hctl,this,d1,d2,hneg,d4,k37,d8,k426,Gf]
     |true=>
      rw[d9] at k426;have hb2:(decide ((o.outs.length:Int)≤0)||YZ o.rep)=true:=by simp only[Yct,d5,d9,GW,Bool.or_true]
      simp only[go_sem,s1,m1',s3,m4,m5,m7,c1,hn,kb,kt,sb (b:=true),stt (b:=true),hcbl,hctl,d1,d2,hneg,d4,k37,d8,k426,Gf];exact outs _ hb2 (by simp only[ownQ1,dle,dcl,d4,d5,d6,d7];rfl) (by simp only[go_sem,s1]) (by simp only[go_sem,m1']) (by simp only[go_sem,s3]) (by simp only[go_sem]) (by simp only[go_sem]) (by simp only[go_sem])
    |false=>
     have hb2:(decide ((o.outs.length:Int)≤0)||YZ o.rep)=true:=by rw[GA (show (o.outs.length:Int)≤0 by have:=Gb d8;omega)];rfl
     simp only[go_sem,s1,m1',s3,m4,m5,m7,c1,hn,kb,kt,sb (b:=true),stt (b:=true),hcbl,hctl,d1,d2,hneg,d4,k37,d8,Gf];exact outs _ hb2 (by simp only[ownQ1,dle,dcl,d4,d5,d6,d7];rfl) (by simp only[go_sem,s1]) (by simp only[go_sem,m1']) (by simp only[go_sem,s3]) (by simp only[go_sem]) (by simp only[go_sem]) (by simp only[go_sem])
   ·obtain⟨p,hp,-⟩:=JiF (l:=s.owns) (i:=i-1) (by omega);have hpos:decide ((0:Int)<(i:Int))=true:=GA (by omega);have hsub:IntKind.i64.wrap ((i:Int)-1)=((i-1:Nat):Int):=by rw[JiV (by omega) (by omega)];omega
    have hlast:Yb6 s.owns i=p.cell:=by
     have:=YeR hp;rwa [show i-1+1=i by omega] at this
    cases d3:decide (o.cell≤p.cell) with
    |true=>
     have:=bad (by simp only[YaN,ownQ1,hlast,d3,GI,Gj]);simp only[go_sem,s1,m1',s3,m4,m5,m7,c1,hn,kb,kt,sb (b:=true),stt (b:=true),hcbl,hctl,this,d1,d2,hpos,hsub,hp,d3,Gf]
    |false=>
     have dle:(!decide (o.cell≤Yb6 s.owns i))=true:=by rw[hlast,d3];rfl
     cases d4:decide (o.rep.id=s.id) with
     |false=>
      have:=bad (by simp only[YaN,ownQ1,d4,Gj,Gm]);simp only[go_sem,s1,m1',s3,m4,m5,m7,c1,hn,kb,kt,sb (b:=true),stt (b:=true),hcbl,hctl,this,d1,d2,hpos,hsub,hp,d3,d4,Gf]
     |true=>
     cases d5:rightB o.rep with
     |false=>
      have:=bad (by simp only[YaN,ownQ1,d5,Gj,Gm]);rw[d5] at k37;simp only[go_sem,s1,m1',s3,m4,m5,m7,c1,hn,kb,kt,sb (b:=true),stt (b:=true),hcbl,hctl,this,d1,d2,hpos,hsub,hp,d3,d4,k37,Gf]
     |true=>
     rw[d5] at k37;cases d6:YaG o.rep.base with
     |false=>
      have:=bad (by simp only[YaN,ownQ1,d6,Gj,Gm]);rw[d6] at kb;simp only[go_sem,s1,m1',s3,m4,m5,m7,c1,hn,kb,kt,sb (b:=true),stt (b:=true),hcbl,hctl,this,d1,d2,hpos,hsub,hp,d3,d4,k37,Gf]
     |true=>
     rw[d6] at kb;cases d7:YaG o.rep.text with
     |false=>
      have:=bad (by simp only[YaN,ownQ1,d7,Gj,Gm]);rw[d7] at kt;simp only[go_sem,s1,m1',s3,m4,m5,m7,c1,hn,kb,kt,sb (b:=true),stt (b:=true),hcbl,hctl,this,d1,d2,hpos,hsub,hp,d3,d4,k37,Gf]
     |true=>
     rw[d7] at kt;cases d8:decide (0<(o.outs.length:Int)) with
     |true=>
      cases d9:Yd3 o.rep with
      |false=>
       have:=bad (by simp only[YaN,YbD,Yct,d9,Gp (show ¬(o.outs.length:Int)≤0 by have:=Gg d8;omega),Gm,Bool.or_false,Gj]);rw[d9] at k426;simp only[go_sem,s1,m1',s3,m4,m5,m7,c1,hn,kb,kt,sb (b:=true),stt (b:=true),hcbl,hctl,this,d1,d2,hpos,hsub,hp,d3,d4,k37,d8,k426,Gf]
      |true=>
       rw[d9] at k426;have hb2:(decide ((o.outs.length:Int)≤0)||YZ o.rep)=true:=by simp only[Yct,d5,d9,GW,Bool.or_true]
       simp only[go_sem,s1,m1',s3,m4,m5,m7,c1,hn,kb,kt,sb (b:=true),stt (b:=true),hcbl,hctl,d1,d2,hpos,hsub,hp,d3,d4,k37,d8,k426,Gf];exact outs _ hb2 (by simp only[ownQ1,dle,dcl,d4,d5,d6,d7];rfl) (by simp only[go_sem,s1]) (by simp only[go_sem,m1']) (by simp only[go_sem,s3]) (by simp only[go_sem]) (by simp only[go_sem]) (by simp only[go_sem])
     |false=>
      have hb2:(decide ((o.outs.length:Int)≤0)||YZ o.rep)=true:=by rw[GA (show (o.outs.length:Int)≤0 by have:=Gb d8;omega)];rfl
      simp only[go_sem,s1,m1',s3,m4,m5,m7,c1,hn,kb,kt,sb (b:=true),stt (b:=true),hcbl,hctl,d1,d2,hpos,hsub,hp,d3,d4,k37,d8,Gf];exact outs _ hb2 (by simp only[ownQ1,dle,dcl,d4,d5,d6,d7];rfl) (by simp only[go_sem,s1]) (by simp only[go_sem,m1']) (by simp only[go_sem,s3]) (by simp only[go_sem]) (by simp only[go_sem]) (by simp only[go_sem])
theorem K405 (h:H405 Pg) (s:Sto) (hs:YbS s) (ht:TxOk s):K' Pg 405 [.agg (Y7 s)]=some (.bool (Yba s)):=
 K405g h s hs fun o ho=>⟨K425 h.2.1 _ (ht o ho).1,K425 h.2.1 _ (ht o ho).2⟩
theorem YfG {t:List UInt8} (h:t.length≤10000):(if (Yd0 true (t,false)).2.2=false∧Yba (Yd0 true (t,false)).1=true∧Yc1 (Yd0 true (t,false)).1=t then some (Yd0 true (t,false)).1 else none)=tkSt t:=
 Cod.doc (Ye8 (D:=false)) (Ye8 (D:=true)) fun a hq hw=>(YeE hq (Yc8 (by rw[hw];exact h)).2).1
def Ydz:Option Sto→V
 |some s=>.tuple [.agg (Y7 s),.bool true]
 |none=>.tuple [.agg Yc2,.bool false]
def H520 (Pg:PgT):Prop:=Pg 520=some (.code F520)∧H405 Pg∧H513 Pg∧H545 Pg∧H546 Pg∧H547 Pg∧H548 Pg
theorem K520 (h:H520 Pg) (t:List UInt8) (ht:t.length≤10000):K' Pg 520 [.str t]=some (Ydz (tkSt t)):=by
 obtain⟨h,h405,h513,h545,h546,h547,h548⟩:=h;have ht2:t.length≤2 ^ 29:=by omega
 generalize ho:tkSt t=o;have e0:=Rg.doc_o (R:=uSt true) (q:=Yba) (W:=Yc1) ht2 ((YfG ht).trans ho);clear ho;have hd:((uSt true).n ⟨t,false,ht2⟩).no=false→(YbS ((uSt true).v ⟨t,false,ht2⟩)∧TxOk ((uSt true).v ⟨t,false,ht2⟩))∧YhX ((uSt true).v ⟨t,false,ht2⟩)∧(Yc1 ((uSt true).v ⟨t,false,ht2⟩)).length≤2 ^ 40:=fun h1=>
  have g:=Rg.few (R:=uSt true) (Ye8 (D:=true)) ht2 h1
  have g2:=Yc8 (Gi g ht)
  ⟨g2.1,g2.2,Gi g (Gi ht (by decide))⟩
 have eR0:K' Pg 520 [.str t]=K' Pg 520 [.str (Rb.s ⟨t,false,ht2⟩)]:=rfl;have hx0:eR ⟨t,false,ht2⟩=[.str t,.bool false]:=rfl;have hxl:(⟨t,false,ht2⟩:Rb).s.length≤10000:=ht;generalize hx:(⟨t,false,ht2⟩:Rb)=x at *
 simp only[YhQ,YhP] at hd e0;have k1:=Yak h545 x;have l1:=Gi (Rg.len (R:=uI true) (x:=x)) hxl;generalize (uI true).v x=id at *
 generalize (uI true).n x=z1 at *
 have hv:=Rg.lst_v (D:=true) (R:=uOw true id) (x:=z1);simp only[hv.1,hv.2] at hd e0;have k2:=Ydp h545 z1;change K' Pg 545 _=some (.tuple [iz ((uL true).v z1),.tuple (eR ((uL true).n z1))]) at k2;have l2:=Gi (Rg.len (R:=uL true) (x:=z1)) l1;generalize (uL true).v z1=c at *
 generalize (uL true).n z1=y at *
 generalize hp:((uOw true id).rep true c).v y=p at *
 generalize hq:((uOw true id).rep true c).n y=w at *
 rw[eR0];have hxs:x.s=t:=by rw[←hx]
 rw[hxs];refine Qa h rfl ?_;rw[hx0] at k1;simp only[F520,c520,go_sem,JiK,k1,k2];refine Yjd h545 h546 h547 h548 (t:=t) (y:=y) (id:=id) (M:=c) l2 ⟨by first|rfl|(simp only[go_sem];rfl),by simp only[go_sem],by simp only[go_sem],by simp only[go_sem],by simp only[go_sem],by simp only[go_sem],by simp only[go_sem],by simp only[go_sem]<;>rfl,by simp only[go_sem]<;>rfl,rfl⟩ fun S1 I hS=>?_;rw[hp,hq] at hS;obtain⟨t0,t2,t4,t5,t6,t7,u16,u2,u5,a101⟩:=hS;have c101:=Yq a101 (by simp);obtain⟨zs,zb,zh⟩:=w;simp only[eR] at u16;simp only[Yc2] at u2;cases zb with
 |true=>
  obtain rfl:o=none:=by
   rcases e0 with ⟨h1,-⟩|⟨-,h2⟩
   ·have h3:true=false:=h1;cases h3
   ·exact h2
  simp only[go_sem,t2,t4,u16,u2,Ydz,Yc2]
 |false=>
  obtain⟨⟨d1,d2⟩,d3,d4⟩:=hd rfl;have k405:=K405 h405 _ d1 d2;have k513:=fun c3=>K513 h513 _ (YeE c3 d3).1 (YeE c3 d3).2 d4;cases c3:Yba ⟨id,p⟩ with
  |false=>
   obtain rfl:o=none:=by
    rcases e0 with ⟨-,h1,-⟩|⟨-,h2⟩
    ·rw[c3] at h1;cases h1
    ·exact h2
   rw[c3] at k405;simp only[go_sem] at k405;simp only[go_sem,t2,t4,t5,u16,u2,u5,c101,k405,Ydz,Yc2]
  |true=>
   rw[c3] at k405;have k513:=k513 c3;generalize hB:Yc1 ⟨id,p⟩=b at *
   simp only[go_sem] at k405 k513;cases c4:decide (b=t) with
   |false=>
    have c5:b≠t:=Gb c4;obtain rfl:o=none:=by
     rcases e0 with ⟨-,-,h1,-⟩|⟨-,h2⟩
     ·exact absurd h1 c5
     ·exact h2
    simp only[go_sem,t0,t2,t4,t5,u16,u2,u5,c101,k405,k513,c4,Ydz,Yc2]
   |true=>
    have c5:b=t:=Gg c4;obtain rfl:o=some ⟨id,p⟩:=by
     rcases e0 with ⟨-,-,-,h1⟩|⟨h2,-⟩
     ·exact h1
     ·exact absurd c5 (h2 rfl c3)
    simp only[go_sem,t0,t2,t4,t5,u16,u2,u5,c101,k405,k513,c4,Ydz]
theorem Yhd (s:Stamp):1≤(stB s).length:=st_pos
theorem YgU {d:Drc} (h:(drB d).length≤10000):SmE d:=by
 have g:=(YdM h).1;unfold drB at h;obtain⟨h1,h⟩:=Yo h;obtain⟨h2,h⟩:=Yo h;obtain⟨-,h⟩:=Yo h;obtain⟨-,h⟩:=Yo h;obtain⟨h5,-⟩:=Yo h;exact⟨(YaY YdR h1).1,(YaY YeQ h2).1,(YaY Yhd h5).1,g⟩
def zDr:Drc:=⟨[],[],0,[],[],⟨0,0,0⟩,zJb,[]⟩
theorem YiG:SmE zDr:=by
 refine⟨?_,?_,?_,?_,?_,?_,?_⟩<;>simp[zDr,zJb,SmJ]
def H509 (Pg:PgT):Prop:=Pg 509=some (.code F398)
theorem K509 (h:H509 Pg) (s:Sto) (hs:YbS s):K' Pg 509 [.agg (Y7 s)]=some (.agg (Y7 s)):=K398g h s (by have:=hs.1;omega)
def H519 (Pg:PgT):Prop:=Pg 519=some (.code F519)∧H332 Pg∧H399 Pg∧H509 Pg∧H510 Pg∧H512 Pg∧H515 Pg∧H517 Pg∧H520 Pg∧H521 Pg
theorem K519 (h:H519 Pg) (t:List UInt8):K' Pg 519 [.str t]=some (.bool true):=by
 obtain⟨h,h332,h399,h509,h510,h512,h515,h517,h520,h521⟩:=h;have k510:=K510 h510;refine Qa h rfl ?_;cases c0:decide ((4096:Int)<(t.length:Int)) with
 |true=>simp only[F519,c519,go_sem,c0,k510]
 |false=>
 have ht:t.length≤10000:=by have:=Gb c0;omega
 have k512:=K512 h512 t (by omega) fun s _ hw=>(Yc8 (by rw[hw];exact ht)).1;have k520:=K520 h520 t ht;have k517:=K517 h517 t (by omega) fun d _ hw=>(YdM (by rw[hw];exact ht)).1;have k521:=K521 h521 t ht;have hst:∃s:Sto,YbS s∧(tkSt t=some s∨(tkSt t=none∧s=⟨0,[]⟩)):=by
  cases hq:tkSt t with
  |some s=>
   have g:=((Ye8 (D:=false)).whole (q:=Yba)).1 hq;exact⟨s,(Yc8 (by rw[←g.1];exact ht)).1.1,.inl rfl⟩
  |none=>exact⟨⟨0,[]⟩,⟨by simp,fun o ho=>by cases ho⟩,.inr ⟨rfl,rfl⟩⟩
 have hdr:∃d:Drc,SmE d∧(tkD t=some d∨(tkD t=none∧d=zDr)):=by
  cases hq:tkD t with
  |some d=>
   have g:=((cDr (D:=false)).whole (q:=Yar)).1 hq;exact⟨d,YgU (by rw[←g.1];exact ht),.inl rfl⟩
  |none=>exact⟨zDr,YiG,.inr ⟨rfl,rfl⟩⟩
 obtain⟨s,s1,s2⟩:=hst;obtain⟨d,d1,d2⟩:=hdr;have k509:=K509 h509 s s1;have k399:=K399 h399 s s1;have k515:=K324g h515 d (by have:=d1.2.1;omega) (by have:=d1.2.2.2.2.1;omega);have k332:=K332 h332 d d1;have e1:∃e:Int,∃b:Bool,YdA (tkSt t)=.tuple [.agg (Y7 s),iz e]∧Ydz (tkSt t)=.tuple [.agg (Y7 s),.bool b]∧((e=0∧b=true)∨(e=3∧b=false)):=by
  rcases s2 with s2|⟨s2,rfl⟩
  ·rw[s2];exact⟨0,true,rfl,rfl,.inl ⟨rfl,rfl⟩⟩
  ·rw[s2];exact⟨3,false,rfl,rfl,.inr ⟨rfl,rfl⟩⟩
 have e2:∃e:Int,∃b:Bool,Ydf (tkD t)=.tuple [.agg (YT d),iz e]∧Ydy (tkD t)=.tuple [.agg (YT d),.bool b]∧((e=0∧b=true)∨(e=3∧b=false)):=by
  rcases d2 with d2|⟨d2,rfl⟩
  ·rw[d2];exact⟨0,true,rfl,rfl,.inl ⟨rfl,rfl⟩⟩
  ·rw[d2];exact⟨3,false,rfl,rfl,.inr ⟨rfl,rfl⟩⟩
 obtain⟨x,a,x1,x2,x3⟩:=e1;obtain⟨y,b,y1,y2,y3⟩:=e2;rw[x1] at k512;rw[x2] at k520;rw[y1] at k517;rw[y2] at k521;simp only[go_sem] at k512 k520 k517 k521 k509 k399 k515 k332;rcases x3 with ⟨rfl,rfl⟩|⟨rfl,rfl⟩<;>rcases y3 with ⟨rfl,rfl⟩|⟨rfl,rfl⟩ <;>
  simp only[F519,c519,go_sem,c0,k512,k520,k517,k521,k509,k399,k515,k332,k510]
end Sg
namespace Sg
open _root_.Go
variable {N : Nat}
theorem Ybn {x:V} (h:HasN N .str x):∃s,x=.str s∧s.length≤N:=by cases h;exact⟨_,rfl,by assumption⟩
theorem arg_str {x:V} (h:ArgVN N (false,[.str]) x):∃s,x=.str s∧s.length≤N:=by
 obtain⟨c,hc,h⟩:=h;simp only[Gaq,and_true] at hc;subst hc;exact Ybn h
end Sg
