/- NodeStores, wherever what it reads is of bulk at most 1048576: proved over a checked abstract run of the translated code; no condition but that. A part. -/
import Derived.Test.YtcdejnpngkeknaaGreatDoorNodeStoresA6
set_option linter.unusedSimpArgs false
set_option linter.unusedVariables false
set_option linter.constructorNameAsVariable false
set_option linter.defProp false
set_option maxRecDepth 10000
set_option maxHeartbeats 4000000
namespace Sg
open _root_.Go (IntKind BinOp UnOp)
variable {Pg:PgT}
def YQ {n:Int} (h:NV n):(nB n).length<=9:=YG.2 h.1
def yP {l:List Int} {k:Nat} (h:∀n∈l,NV n) (q:l.length<=k) (p:k<2 ^ 60):(YC nB l).length<=9+9*k:=by
 have h1:=YG.2 (show l.length<2 ^ 63 by omega);have o:=ob (W:=nB) (l:=l) (k:=9) fun n j=>YQ (h n j);simp only[YC,Gb];omega
structure TE (S:St) (y:Rb) (ps:List aT) (is:List rE) (n:Int) (ls:List sE) (ss:List aH) (m:aH) (j:Jb) (os:List sF):Prop where
 r2:S.ρ 2=.lref 2 0
 r4:S.ρ 4=.lref 18 0
 r5:S.ρ 5=.lref 5 0
 m9:S.μ 18=some (eR y,false)
 m2:S.μ 2=some (CH,false)
 m5:S.μ 5=some (DM (aK 54 5 ps.length) (aK 83 3 is.length) n (aK 115 5 ls.length) (aK 136 3 ss.length) m j (aK 177 7 os.length),false)
 a33:S.A 54=Y2 5 (ps.map gu) ps.length
 a50:S.A 83=Y2 3 (is.map CA) is.length
 a70:S.A 115=Y2 5 (ls.map Ck) ls.length
 a82:S.A 136=Y2 3 (ss.map Yg) ss.length
 a109:S.A 177=Y2 7 (os.map CC) os.length
def TE.head {S:St} {y:Rb} {ps:List aT} {is:List rE} {n:Int} {ls:List sE} {ss:List aH} {m:aH} {j:Jb} {os:List sF} {v:Nat} (h:TE S y ps is n ls ss m j os) (p:[v].contains 2=false) (q:[v].contains 5=false) (o:[v].contains 18=false):TE (S.head [] [] [v] []) y ps is n ls ss m j os:=
 ⟨aM h.r2 (by simp only[dR,p];rfl),aM h.r4 (by simp only[dR,o];rfl),aM h.r5 (by simp only[dR,q];rfl),YD h.m9 o,YD h.m2 p,YD h.m5 q,(YA rfl).trans h.a33,(YA rfl).trans h.a50,(YA rfl).trans h.a70,(YA rfl).trans h.a82,(YA rfl).trans h.a109⟩
set_option maxHeartbeats 1000000
def Yt {a b:List UInt8} {N:Nat} (h:(a++b).length<=N):a.length<=N/\b.length<=N:=by
 rw[Gb] at h;omega
def ka {t:List UInt8} {N:Nat} (h:(Yk t).length<=N):t.length<=N:=Gj sV h
def yI {α:Type} {W:α->List UInt8} {N:Nat} (j:∀a,1<=(W a).length) {l:List α} (h:(YC W l).length<=N):l.length<=N/\∀a∈l,(W a).length<=N:=by
 have p:∀a∈l,(fun _:α=>True) a:=fun _ _=>Gs;have g:=tg (fun a _=>j a) p;exact⟨Gj g.1 h,fun a o=>Gj (g.2 a o) h⟩
def Cq (n:Int):1<=(nB n).length:=bH _
def Dh (t:List UInt8):1<=(Yk t).length:=YO
def MG (x:aT):1<=(dI x).length:=by
 have:=Dh x.span.lo;simp only[dI,Gb];omega
def gz (D:Bool):Rg (List UInt8×List UInt8):=.pair (uT D) (uT D)
def du (x:List UInt8×List UInt8):List UInt8:=Yk x.1++Yk x.2
def wo (x:List UInt8×List UInt8):Prop:=TV x.1/\TV x.2
def PI {D:Bool}:bV (gz D).f du wo:=cT.pair cT
def Pz {D:Bool}:bV ((gz D).lst D).f (YC du) (LV wo):=cL PI fun x _=>by
 have:=YO (t:=x.1);simp only[du,Gb];omega
abbrev Cb:=Int×Int×Int×Int×Int×Int×Int×Int×Int×aH×List UInt8×Int×Int×Int×List UInt8×List UInt8×Bool×List UInt8×aH×List UInt8×Int×Int×aH×Bool×List UInt8×List (List UInt8×List UInt8)×List UInt8×Bool×List aT×List Int
def lR (p:Cb):bQ:=
 ⟨p.1,p.2.1,p.2.2.1,p.2.2.2.1,p.2.2.2.2.1,p.2.2.2.2.2.1,p.2.2.2.2.2.2.1,p.2.2.2.2.2.2.2.1,p.2.2.2.2.2.2.2.2.1,p.2.2.2.2.2.2.2.2.2.1,p.2.2.2.2.2.2.2.2.2.2.1,⟨p.2.2.2.2.2.2.2.2.2.2.2.1,p.2.2.2.2.2.2.2.2.2.2.2.2.1,p.2.2.2.2.2.2.2.2.2.2.2.2.2.1,p.2.2.2.2.2.2.2.2.2.2.2.2.2.2.1,p.2.2.2.2.2.2.2.2.2.2.2.2.2.2.2.1,p.2.2.2.2.2.2.2.2.2.2.2.2.2.2.2.2.1,p.2.2.2.2.2.2.2.2.2.2.2.2.2.2.2.2.2.1,p.2.2.2.2.2.2.2.2.2.2.2.2.2.2.2.2.2.2.1,p.2.2.2.2.2.2.2.2.2.2.2.2.2.2.2.2.2.2.2.1,p.2.2.2.2.2.2.2.2.2.2.2.2.2.2.2.2.2.2.2.2.1⟩,⟨p.2.2.2.2.2.2.2.2.2.2.2.2.2.2.2.2.2.2.2.2.2.1,p.2.2.2.2.2.2.2.2.2.2.2.2.2.2.2.2.2.2.2.2.2.2.1,p.2.2.2.2.2.2.2.2.2.2.2.2.2.2.2.2.2.2.2.2.2.2.2.1,p.2.2.2.2.2.2.2.2.2.2.2.2.2.2.2.2.2.2.2.2.2.2.2.2.1,p.2.2.2.2.2.2.2.2.2.2.2.2.2.2.2.2.2.2.2.2.2.2.2.2.2.1,p.2.2.2.2.2.2.2.2.2.2.2.2.2.2.2.2.2.2.2.2.2.2.2.2.2.2.1,p.2.2.2.2.2.2.2.2.2.2.2.2.2.2.2.2.2.2.2.2.2.2.2.2.2.2.2.1⟩,p.2.2.2.2.2.2.2.2.2.2.2.2.2.2.2.2.2.2.2.2.2.2.2.2.2.2.2.2.1,p.2.2.2.2.2.2.2.2.2.2.2.2.2.2.2.2.2.2.2.2.2.2.2.2.2.2.2.2.2⟩
def DH (x:bQ):Cb:=(x.kind,x.from_,x.to,x.shard,x.epoch,x.move,x.lease,x.n,x.of_,x.at_,x.text,x.req.client,x.req.req,x.req.kind,x.req.key,x.req.value,x.req.had,x.req.old,x.req.at_,x.req.hi,x.req.limit,x.ans.err,x.ans.at_,x.ans.found,x.ans.val,x.ans.items,x.ans.next,x.ans.more,x.places,x.mem)
def ku (D:Bool):Rg bQ:=.map lR (.pair (uI D) (.pair (uI D) (.pair (uI D) (.pair (uI D) (.pair (uI D) (.pair (uI D) (.pair (uI D) (.pair (uI D) (.pair (uI D) (.pair (uS D) (.pair (uT D) (.pair (uI D) (.pair (uI D) (.pair (uI D) (.pair (uT D) (.pair (uT D) (.pair (uF D) (.pair (uT D) (.pair (uS D) (.pair (uT D) (.pair (uI D) (.pair (uI D) (.pair (uS D) (.pair (uF D) (.pair (uT D) (.pair ((gz D).lst D) (.pair (uT D) (.pair (uF D) (.pair ((g8 D).lst D) (jD D))))))))))))))))))))))))))))))
def ey (x:bQ):List UInt8:=nB x.kind++(nB x.from_++(nB x.to++(nB x.shard++(nB x.epoch++(nB x.move++(nB x.lease++(nB x.n++(nB x.of_++(dh x.at_++(Yk x.text++(nB x.req.client++(nB x.req.req++(nB x.req.kind++(Yk x.req.key++(Yk x.req.value++(Yp x.req.had++(Yk x.req.old++(dh x.req.at_++(Yk x.req.hi++(nB x.req.limit++(nB x.ans.err++(dh x.ans.at_++(Yp x.ans.found++(Yk x.ans.val++(YC du x.ans.items++(Yk x.ans.next++(Yp x.ans.more++(YC dI x.places++(YC nB x.mem)))))))))))))))))))))))))))))
def mG (x:bQ):Prop:=(NV x.kind/\NV x.from_/\NV x.to/\NV x.shard/\NV x.epoch/\NV x.move/\NV x.lease/\NV x.n/\NV x.of_/\Ya x.at_=true/\TV x.text/\NV x.req.client/\NV x.req.req/\NV x.req.kind/\TV x.req.key/\TV x.req.value/\True/\TV x.req.old/\Ya x.req.at_=true/\TV x.req.hi/\NV x.req.limit/\NV x.ans.err/\Ya x.ans.at_=true/\True/\TV x.ans.val/\LV wo x.ans.items/\TV x.ans.next/\True/\LV vd x.places/\LV NV x.mem)/\lR (DH x)=x
def DL {D:Bool}:bV (ku D).f ey mG:=
 ((cI.pair (cI.pair (cI.pair (cI.pair (cI.pair (cI.pair (cI.pair (cI.pair (cI.pair (cS.pair (cT.pair (cI.pair (cI.pair (cI.pair (cT.pair (cT.pair (cF.pair (cT.pair (cS.pair (cT.pair (cI.pair (cI.pair (cS.pair (cF.pair (cT.pair (Pz.pair (cT.pair (cF.pair ((cL PL Cw).pair zM)))))))))))))))))))))))))))))).map (g:=lR) (k:=DH) (fun a=>rfl)
def kS (t:List UInt8):Option bQ:=if ((ku false).f (t,false)).2=([],false)/\fO ((ku false).f (t,false)).1=true then some ((ku false).f (t,false)).1 else none
structure kF (m:bQ):Prop where
 text:m.text.length<=2 ^ 24
 key:m.req.key.length<=2 ^ 24
 value:m.req.value.length<=2 ^ 24
 old:m.req.old.length<=2 ^ 24
 hi:m.req.hi.length<=2 ^ 24
 val:m.ans.val.length<=2 ^ 24
 next:m.ans.next.length<=2 ^ 24
 items:∀p∈m.ans.items,p.1.length<=2 ^ 24/\p.2.length<=2 ^ 24
 places:∀p∈m.places,p.span.lo.length<=2 ^ 24/\p.span.hi.length<=2 ^ 24
def tv {t:List UInt8} (h:t.length<=2 ^ 24):TV t:=by show _<_;omega
def zf {m:bQ} (h:fO m=true) (j:kF m):mG m:=by
 simp only[fO,List.all_append,List.all_cons,List.all_nil,List.all_flatMap,Gg,GI,GM,Gx,and_true] at h;obtain⟨⟨a1,a2,a3,a4,a5,a6,a7⟩,⟨⟨⟨B,D,E,H,I,J,L,M,N,q,u,w,y⟩,O⟩,P⟩,Q,R,S⟩:=h;have z:(0:Int)<=0:=Int.le_refl 0;have f:∀{n},Yz n=true->NV n:=fun h=>Mq z h;refine⟨⟨f B,f D,f E,f H,f I,f J,f L,f M,f N,Q,tv j.text,f q,f u,f w,tv j.key,tv j.value,Gs,tv j.old,R,tv j.hi,f y,nv (by omega) (by omega),S,Gs,tv j.val,⟨by omega,fun p o=>⟨tv (j.items p o).1,tv (j.items p o).2⟩⟩,tv j.next,Gs,⟨by omega,fun p o=>?_⟩,⟨by omega,fun n T=>f (P n T)⟩⟩,rfl⟩;have:=O p o;exact⟨⟨tv (j.places p o).1,tv (j.places p o).2,f this.1,f this.2.1,f this.2.2⟩,rfl⟩
def gq (h:fV Pg) (x:Rb):K' Pg 465 [.tuple (.lref 0 0::eR x)]=some (.tuple [iz ((uI false).v x),.tuple (eR ((uI false).n x))]):=(uN false).k (e:=fun a:Nat=>iz (a:Int)) (eW h) x
def kg (h:fX Pg) (x:Rb):K' Pg 492 [.tuple (.lref 0 0::eR x)]=some (.tuple [.str ((uT false).v x),.tuple (eR ((uT false).n x))]):=(uT false).k (e:=fun a:List UInt8=>.str a) (i5 h) x
def zG (h:ik Pg) (x:Rb):K' Pg 493 [.tuple (.lref 0 0::eR x)]=some (.tuple [.bool ((uF false).v x),.tuple (eR ((uF false).n x))]):=(uF false).k (e:=fun a:Bool=>.bool a) (nS h) x
def zD (h:gH Pg) (x:Rb):K' Pg 464 [.tuple (.lref 0 0::eR x)]=some (.tuple [fy ((uS false).v x),.tuple (eR ((uS false).n x))]):=(uS false).k (e:=fun a:aH=>fy a) (iZ h) x
def zE (h:iW Pg) (x:Rb):K' Pg 466 [.tuple (.lref 0 0::eR x)]=some (.tuple [iz ((uL false).v x),.tuple (eR ((uL false).n x))]):=(uL false).k (e:=fun a:Nat=>iz (a:Int)) (j0 h) x
def kc:List V:=[iz 0,iz 0,iz 0,iz 0,iz 0,iz 0,iz 0,iz 0,iz 0,iz 0,iz 0,iz 0,.str [],iz 0,iz 0,iz 0,.str [],.str [],.bool false,.str [],iz 0,iz 0,iz 0,.str [],iz 0,iz 0,iz 0,iz 0,iz 0,.bool false,.str [],.slice 2 [],.str [],.bool false,.slice 5 [],.slice 1 []]
def na (m:bQ) (a b:V):List V:=[iz m.kind,iz m.from_,iz m.to,iz m.shard,iz m.epoch,iz m.move,iz m.lease,iz m.n,iz m.of_,iz m.at_.wall,iz m.at_.tick,iz m.at_.node,.str m.text,iz 0,iz 0,iz 0,.str [],.str [],.bool false,.str [],iz 0,iz 0,iz 0,.str [],iz 0,iz 0,iz 0,iz 0,iz 0,.bool false,.str [],.slice 2 [],.str [],.bool false,a,b]
def zZ (r:Rq):List V:=[iz r.client,iz r.req,iz r.kind,.str r.key,.str r.value,.bool r.had,.str r.old,iz r.at_.wall,iz r.at_.tick,iz r.at_.node,.str r.hi,iz r.limit]
def mV (a:kT) (i:V):List V:=[iz a.err,iz a.at_.wall,iz a.at_.tick,iz a.at_.node,.bool a.found,.str a.val,i,.str a.next,.bool a.more]
structure TM (S:St) (y:Rb) (m:bQ) (it:List (List UInt8×List UInt8)) (pl:List aT) (me:List Int):Prop where
 r2:S.ρ 2=.lref 2 0
 r4:S.ρ 4=.lref 11 0
 r5:S.ρ 5=.lref 5 0
 r6:S.ρ 6=.lref 6 0
 r7:S.ρ 7=.lref 7 0
 m11:S.μ 11=some (eR y,false)
 m2:S.μ 2=some (kc,false)
 m5:S.μ 5=some (na m (aK 131 5 pl.length) (aK 143 1 me.length),false)
 m6:S.μ 6=some (zZ m.req,false)
 m7:S.μ 7=some (mV m.ans (aK 99 2 it.length),false)
 n8:S.μ 8=none
 ait:S.A 99=Y2 2 (it.map iG) it.length
 apl:S.A 131=Y2 5 (pl.map gu) pl.length
 ame:S.A 143=Y2 1 (me.map (fun a:Int=>[iz a])) me.length
structure vf (S:St) (y:Rb) (m:bQ) (it:List (List UInt8×List UInt8)) (pl:List aT) (me:List Int):Prop where
 r2:S.ρ 2=.lref 2 0
 r4:S.ρ 4=.lref 11 0
 r5:S.ρ 5=.lref 5 0
 r6:S.ρ 6=.lref 6 0
 r7:S.ρ 7=.lref 7 0
 m11:S.μ 11=some (eR y,false)
 m2:S.μ 2=some (kc,false)
 m5:S.μ 5=some (na m (aK 131 5 pl.length) (aK 143 1 me.length),false)
 m6:S.μ 6=some (zZ m.req,false)
 m7:S.μ 7=some (mV m.ans (aK 99 2 it.length),false)
 ait:S.A 99=Y2 2 (it.map iG) it.length
 apl:S.A 131=Y2 5 (pl.map gu) pl.length
 ame:S.A 143=Y2 1 (me.map (fun a:Int=>[iz a])) me.length
def vf.head {S:St} {y:Rb} {m:bQ} {it:List (List UInt8×List UInt8)} {pl:List aT} {me:List Int} (h:vf S y m it pl me):TM (S.head [] [] [8] []) y m it pl me:=
 ⟨aM h.r2 rfl,aM h.r4 rfl,aM h.r5 rfl,aM h.r6 rfl,aM h.r7 rfl,YD h.m11 rfl,YD h.m2 rfl,YD h.m5 rfl,YD h.m6 rfl,YD h.m7 rfl,ej (.inr rfl),(YA rfl).trans h.ait,(YA rfl).trans h.apl,(YA rfl).trans h.ame⟩
def TM.head {S:St} {y:Rb} {m:bQ} {it:List (List UInt8×List UInt8)} {pl:List aT} {me:List Int} (h:TM S y m it pl me):TM (S.head [] [] [8] []) y m it pl me:=
 vf.head ⟨h.r2,h.r4,h.r5,h.r6,h.r7,h.m11,h.m2,h.m5,h.m6,h.m7,h.ait,h.apl,h.ame⟩
set_option maxHeartbeats 1000000
def O3 (o:fX Pg) {y:Rb} {c:Nat} {m:bQ} {pl:List aT} {me:List Int} (hc:c<=2 ^ 29) {S:St} {Q:Ex->St->Prop}
  (hS:TM S y m [] pl me) (D:S.ρ 88=iz c) (E:S.ρ 89=iz 0)
  (U:∀S',TM S' (((gz false).rep false c).n y) m (((gz false).rep false c).v y) pl me->Q .norm S'):Wp (K' Pg) l566_0 S (dU 0 Q):=by
 unfold l566_0
 refine bE (fun (i:Nat) S=>i<=c/\S.ρ 88=iz c/\S.ρ 89=iz i/\∃(vs:List (List UInt8×List UInt8)) (w:Rb),vs.length=i/\(((gz false).rep false c).v y=vs++((gz false).rep false (c-i)).v w/\((gz false).rep false c).n y=((gz false).rep false (c-i)).n w)/\TM S w m vs pl me) (fun i=>c-i) 0 ?_ ?_
 ·simp only[eS]
  exact⟨Gy _,D,E,[],y,rfl,⟨rfl,rfl⟩,hS⟩
 ·intro i S ⟨hi,D,E,vs,w,L,q,hS⟩
  obtain⟨W,M,N,X,O,m11,m2,m5,m6,m7,n8,ait,apl,ame⟩:=hS
  cases B:decide ((i:Int)<(c:Int)) with
  |false=>
   have I:i=c:=by have:=Ge B;omega
   subst I
   obtain⟨e1,e2⟩:=oY q
   rw[e1,e2] at U
   simp only[go_sem,D,E,B]
   exact U _ ⟨by simp only[go_sem,W],by simp only[go_sem,M],by simp only[go_sem,N],by simp only[go_sem,X],by simp only[go_sem,O],m11,m2,m5,m6,m7,n8,ait,apl,ame⟩
  |true=>
   have J:=Yh B
   have u:=inc64q (i:=i) (by omega)
   have p:=dJ J q
   have hR:(gz false).v w=((uT false).v w,(uT false).v ((uT false).n w)):=rfl
   have hN:(gz false).n w=(uT false).n ((uT false).n w):=rfl
   rw[hR,hN] at p
   have k1:=kg o w
   generalize (uT false).v w=P at *
   generalize (uT false).n w=T at *
   have k2:=kg o T
   generalize (uT false).v T=R at *
   generalize (uT false).n T=z2 at *
   have H:(vs.map iG).length=vs.length:=by simp
   have ha:=fun S=>YZ (S:=S) (s:=99) (z:=2) (r:=[.str P,.str R]) H (by unfold dj;omega)
   have Y:=m5
   have Z:=m7
   simp only[na,go_sem] at Y
   simp only[mV,go_sem] at Z
   simp only[go_sem,eT,M,N,O,D,E,B,m11,Y,Z,n8,ait,k1,k2,YM,ha,u,eS]
   have j:(vs++[(P,R)]).length=vs.length+1:=by simp
   exact⟨i+1,by omega,by omega,rfl,vs++[(P,R)],z2,by rw[j,L],p,⟨by simp only[go_sem,W],by simp only[go_sem,M],by simp only[go_sem,N],by simp only[go_sem,X],by simp only[go_sem,O],by simp only[go_sem],by simp only[go_sem,m2],by first|(rw[j];simp only[go_sem]<;>rfl)|simp only[go_sem,m5],by simp only[go_sem,m6],by first|(rw[j];simp only[go_sem]<;>rfl)|simp only[go_sem,m7],by simp only[go_sem,n8],by rw[j,GJ];simp only[go_sem]<;>rfl,by simp only[go_sem,apl],by simp only[go_sem,ame]⟩⟩
def Px (j:fV Pg) (p:fX Pg) {y:Rb} {c:Nat} {m:bQ} {it:List (List UInt8×List UInt8)} {me:List Int} (hc:c<=2 ^ 29) {S:St} {Q:Ex->St->Prop}
  (hS:TM S y m it [] me) (E:S.ρ 109=iz c) (H:S.ρ 110=iz 0)
  (hq:∀S',TM S' (((g8 false).rep false c).n y) m it (((g8 false).rep false c).v y) me->Q .norm S'):Wp (K' Pg) l566_1 S (dU 2 Q):=by
 unfold l566_1
 refine bE (fun (i:Nat) S=>i<=c/\S.ρ 109=iz c/\S.ρ 110=iz i/\∃(vs:List aT) (w:Rb),vs.length=i/\(((g8 false).rep false c).v y=vs++((g8 false).rep false (c-i)).v w/\((g8 false).rep false c).n y=((g8 false).rep false (c-i)).n w)/\TM S w m it vs me) (fun i=>c-i) 0 ?_ ?_
 ·exact⟨Gy _,aM E rfl,aM H rfl,[],y,rfl,⟨rfl,rfl⟩,hS.head⟩
 ·intro i S ⟨hi,E,H,vs,w,M,u,hS⟩
  obtain⟨t2,N,O,t6,P,m11,m2,m5,m6,m7,n8,ait,apl,ame⟩:=hS
  cases D:decide ((i:Int)<(c:Int)) with
  |false=>
   have J:i=c:=by have:=Ge D;omega
   subst J
   obtain⟨e1,e2⟩:=oY u
   rw[e1,e2] at hq
   simp only[go_sem,E,H,D]
   exact hq _ ⟨by simp only[go_sem,t2],by simp only[go_sem,N],by simp only[go_sem,O],by simp only[go_sem,t6],by simp only[go_sem,P],m11,m2,m5,m6,m7,n8,ait,apl,ame⟩
  |true=>
   have L:=Yh D
   have B:=inc64q (i:=i) (by omega)
   have q:=dJ L u
   have hR:(g8 false).v w=jm ((uT false).v w,(uT false).v ((uT false).n w),(uI false).v ((uT false).n ((uT false).n w)),(uI false).v ((uI false).n ((uT false).n ((uT false).n w))),(uI false).v ((uI false).n ((uI false).n ((uT false).n ((uT false).n w))))):=rfl
   have hN:(g8 false).n w=(uI false).n ((uI false).n ((uI false).n ((uT false).n ((uT false).n w)))):=rfl
   rw[hR,hN] at q
   have k1:=kg p w
   generalize (uT false).v w=R at *
   generalize (uT false).n w=Y at *
   have k2:=kg p Y
   generalize (uT false).v Y=T at *
   generalize (uT false).n Y=Z at *
   have k3:=gq j Z
   generalize (uI false).v Z=U at *
   generalize (uI false).n Z=z3 at *
   have k4:=gq j z3
   generalize (uI false).v z3=W at *
   generalize (uI false).n z3=z4 at *
   have k5:=gq j z4
   generalize (uI false).v z4=X at *
   generalize (uI false).n z4=z5 at *
   have I:(vs.map gu).length=vs.length:=by simp
   have ha:=fun S=>YZ (S:=S) (s:=131) (z:=5) (r:=[.str R,.str T,iz U,iz W,iz X]) I (by unfold dj;omega)
   have x5:=m5
   have x7:=m7
   simp only[na,go_sem] at x5
   simp only[mV,go_sem] at x7
   simp only[go_sem,eT,N,O,P,E,H,D,m11,x5,x7,n8,apl,k1,k2,k3,k4,k5,YM,ha,B,eS]
   have o:(vs++[jm (R,T,U,W,X)]).length=vs.length+1:=by simp
   exact⟨i+1,by omega,by omega,rfl,vs++[jm (R,T,U,W,X)],z5,by rw[o,M],q,vf.head ⟨by simp only[go_sem,t2],by simp only[go_sem,N],by simp only[go_sem,O],by simp only[go_sem,t6],by simp only[go_sem,P],by simp only[go_sem],by simp only[go_sem,m2],by first|(rw[o];simp only[go_sem]<;>rfl)|simp only[go_sem,m5],by simp only[go_sem,m6],by first|(rw[o];simp only[go_sem]<;>rfl)|simp only[go_sem,m7],by simp only[go_sem,ait],by rw[o,GJ];simp only[go_sem]<;>rfl,by simp only[go_sem,ame]⟩⟩
def OI (p:fV Pg) {y:Rb} {c:Nat} {m:bQ} {it:List (List UInt8×List UInt8)} {pl:List aT} (hc:c<=2 ^ 29) {S:St} {Q:Ex->St->Prop}
  (hS:TM S y m it pl []) (D:S.ρ 135=iz c) (E:S.ρ 136=iz 0)
  (R:∀S',TM S' (((uI false).rep false c).n y) m it pl (((uI false).rep false c).v y)->Q .norm S'):Wp (K' Pg) l566_2 S (dU 4 Q):=by
 unfold l566_2
 refine bE (fun (i:Nat) S=>i<=c/\S.ρ 135=iz c/\S.ρ 136=iz i/\∃(vs:List Int) (w:Rb),vs.length=i/\(((uI false).rep false c).v y=vs++((uI false).rep false (c-i)).v w/\((uI false).rep false c).n y=((uI false).rep false (c-i)).n w)/\TM S w m it pl vs) (fun i=>c-i) 0 ?_ ?_
 ·simp only[eS]
  exact⟨Gy _,D,E,[],y,rfl,⟨rfl,rfl⟩,hS⟩
 ·intro i S ⟨hi,D,E,vs,w,L,o,hS⟩
  obtain⟨T,M,N,U,O,m11,m2,m5,m6,m7,n8,ait,apl,ame⟩:=hS
  cases B:decide ((i:Int)<(c:Int)) with
  |false=>
   have I:i=c:=by have:=Ge B;omega
   subst I
   obtain⟨Y,Z⟩:=oY o
   rw[Y,Z] at R
   simp only[go_sem,D,E,B]
   exact R _ ⟨by simp only[go_sem,T],by simp only[go_sem,M],by simp only[go_sem,N],by simp only[go_sem,U],by simp only[go_sem,O],m11,m2,m5,m6,m7,n8,ait,apl,ame⟩
  |true=>
   have J:=Yh B
   have q:=inc64q (i:=i) (by omega)
   have u:=dJ J o
   have k1:=gq p w
   generalize (uI false).v w=P at *
   generalize (uI false).n w=z1 at *
   have H:(vs.map (fun a:Int=>[iz a])).length=vs.length:=by simp
   have ha:=fun S=>YZ (S:=S) (s:=143) (z:=1) (r:=[iz P]) H (by unfold dj;omega)
   have W:=m5
   have X:=m7
   simp only[na,go_sem] at W
   simp only[mV,go_sem] at X
   simp only[go_sem,eT,M,N,O,D,E,B,m11,W,X,n8,ame,k1,YM,ha,q,eS]
   have j:(vs++[P]).length=vs.length+1:=by simp
   exact⟨i+1,by omega,by omega,rfl,vs++[P],z1,by rw[j,L],u,⟨by simp only[go_sem,T],by simp only[go_sem,M],by simp only[go_sem,N],by simp only[go_sem,U],by simp only[go_sem,O],by simp only[go_sem],by simp only[go_sem,m2],by first|(rw[j];simp only[go_sem]<;>rfl)|simp only[go_sem,m5],by simp only[go_sem,m6],by first|(rw[j];simp only[go_sem]<;>rfl)|simp only[go_sem,m7],by simp only[go_sem,n8],by simp only[go_sem,ait],by simp only[go_sem,apl],by rw[j,GJ];simp only[go_sem]<;>rfl⟩⟩
end Sg
namespace Sg
variable {α β : Type}
def ki (R1:Rd->α×Rd) (R2:α->Rd->β×Rd) (x:Rd):(α×β)×Rd:=(((R1 x).1,(R2 (R1 x).1 (R1 x).2).1),(R2 (R1 x).1 (R1 x).2).2)
def bV.dep {o:Rd->α×Rd} {B:α->Rd->β×Rd} {D:α->List UInt8} {E:β->List UInt8} {w:α->Prop} {z:α->β->Prop} (h1:bV o D w) (j:∀a,bV (B a) E (z a)) :
  bV (ki o B) (fun p=>D p.1++E p.2) (fun p=>w p.1/\z p.1 p.2):=by
 refine⟨fun {s r a} h=>?_,fun {r a} h=>?_,fun {s}=>?_,fun x=>?_⟩
 ·obtain⟨a,b⟩:=a
  simp only[ki,Gi] at h
  obtain⟨⟨I,J⟩,u⟩:=h
  cases L:o (s,false) with
  |mk H y=>
   obtain⟨M,b'⟩:=y
   rw[L] at I J u
   cases b' with
   |true=>
    have:=(j H).bad (s:=M)
    rw[u] at this;cases this
   |false=>
    obtain⟨N,O⟩:=h1.get L
    obtain⟨P,Q⟩:=(j H).get (s:=M) (r:=r) (a:=b) (Prod.ext J u)
    subst I
    rw[N,P]
    exact⟨by simp,O,Q⟩
 ·obtain⟨a,b⟩:=a
  simp only[ki,Gr]
  rw[h1.put h.1,(j a).put h.2]
 ·simp only[ki]
  have:=h1.bad (s:=s)
  generalize o (s,true)=q at *
  obtain⟨a,t,b⟩:=q
  simp only at this
  subst this
  exact (j a).bad
 ·exact Gj ((j _).len _) (h1.len x)
def P8:Rq:=⟨0,0,0,[],[],false,[],⟨0,0,0⟩,[],0⟩
def P7:kT:=⟨0,⟨0,0,0⟩,false,[],[],[],false⟩
def Ai:bQ:=⟨0,0,0,0,0,0,0,0,0,⟨0,0,0⟩,[],P8,P7,[],[]⟩
def C9 {t:List UInt8} {m:bQ}:kS t=some m↔t=ey m/\mG m/\fO m=true:=(DL (D:=false)).whole
def g7 (D:Bool):Rg bQ:=⟨fun x=>((kS (gT D x).1).getD Ai,((gT D x).2.1,(gT D x).2.2||(kS (gT D x).1).isNone)),fun x=>cT.len x⟩
def dV (m:bQ):List UInt8:=Yk (ey m)
def yC (m:bQ):Prop:=TV (ey m)/\mG m/\fO m=true
def PJ {D:Bool}:bV (g7 D).f dV yC:=by
 refine⟨fun {s r a} h=>?_,fun {r a} h=>?_,fun {s}=>?_,(g7 D).le⟩
 ·simp only[g7,Gi,Bool.or_eq_false_iff] at h;obtain⟨h1,z,B,q⟩:=h;cases j:kS (gT D (s,false)).1 with
  |none=>rw[j] at q;cases q
  |some m=>
   rw[j] at h1;obtain rfl:m=a:=h1;obtain⟨o,p⟩:=(cT (D:=D)).get (s:=s) (r:=r) (a:=(gT D (s,false)).1) (Prod.ext rfl (Prod.ext z B));obtain⟨u,w,y⟩:=C9.1 j;rw[u] at o p;exact⟨o,p,w,y⟩
 ·have:=(cT (D:=D)).put (r:=r) h.1;have hm:=C9.2 ⟨rfl,h.2.1,h.2.2⟩;simp only[g7,dV,this,hm];rfl
 ·simp only[g7,(cT (D:=D)).bad (s:=s),ky]
def M3 (m:bQ) (_:yC m):1<=(dV m).length:=YO
abbrev Ce:=Int×Int×List Int×Int×List UInt8×List UInt8×List Int×List bQ
def vC (id:Int) (p:Ce):dB:=⟨p.1,⟨id,p.2.1,p.2.2.1,p.2.2.2.1,p.2.2.2.2.1,p.2.2.2.2.2.1,p.2.2.2.2.2.2.1⟩,p.2.2.2.2.2.2.2⟩
def DI (x:dB):Ce:=(x.cell,x.rep.view,x.rep.members,x.rep.n,x.rep.base,x.rep.text,x.rep.acks,x.outs)
def gh (D:Bool) (id:Int):Rg dB:=.map (vC id) (.pair (uI D) (.pair (uI D) (.pair (jD D) (.pair (uI D) (.pair (uT D) (.pair (uT D) (.pair (jD D) ((g7 D).lst D))))))))
def dH (x:dB):List UInt8:=nB x.cell++(nB x.rep.view++(YC nB x.rep.members++(nB x.rep.n++(Yk x.rep.base++(Yk x.rep.text++(YC nB x.rep.acks++YC dV x.outs))))))
def oQ (id:Int) (x:dB):Prop:=(NV x.cell/\NV x.rep.view/\LV NV x.rep.members/\NV x.rep.n/\TV x.rep.base/\TV x.rep.text/\LV NV x.rep.acks/\LV yC x.outs)/\vC id (DI x)=x
def PK {D:Bool} {id:Int}:bV (gh D id).f dH (oQ id):=(cI.pair (cI.pair (zM.pair (cI.pair (cT.pair (cT.pair (zM.pair (cL PJ M3)))))))).map (g:=vC id) (k:=DI) (fun a=>rfl)
def MI {id:Int} (x:dB) (_:oQ id x):1<=(dH x).length:=by
 have:=bH x.cell.toNat;simp only[dH,nB,Gb];omega
def ti (D:Bool):Rd->ek×Rd:=eI (fun p:Int×List dB=>(⟨p.1,p.2⟩:ek)) (ki (uI D).f fun id=>((gh D id).lst D).f)
def ib (s:ek):List UInt8:=nB s.id++YC dH s.owns
def ol (s:ek):Prop:=NV s.id/\LV (oQ s.id) s.owns
def tl {D:Bool}:bV (ti D) ib ol:=by
 have h:=((cI (D:=D)).dep fun id=>cL (D:=D) (PK (D:=D) (id:=id)) MI).map (g:=fun p:Int×List dB=>(⟨p.1,p.2⟩:ek)) (k:=fun s=>(s.id,s.owns)) (fun a=>rfl);exact⟨fun j=>⟨(h.get j).1,(h.get j).2.1⟩,fun o=>h.put ⟨o,rfl⟩,h.bad,h.len⟩
end Sg
namespace Sg
open _root_.Go (IntKind BinOp UnOp)
variable {Pg:PgT}
def Oz (x:List UInt8×List UInt8):1<=(du x).length:=by
 have:=Dh x.1;simp only[du,Gb];omega
def MF {x:bQ} {N:Nat} (h:(ey x).length<=N) (j:N<=2 ^ 24):(x.ans.items.length<=N/\x.places.length<=N/\x.mem.length<=N)/\kF x:=by
 unfold ey at h;obtain⟨-,h⟩:=Yt h;obtain⟨-,h⟩:=Yt h;obtain⟨-,h⟩:=Yt h;obtain⟨-,h⟩:=Yt h;obtain⟨-,h⟩:=Yt h;obtain⟨-,h⟩:=Yt h;obtain⟨-,h⟩:=Yt h;obtain⟨-,h⟩:=Yt h;obtain⟨-,h⟩:=Yt h;obtain⟨-,h⟩:=Yt h;obtain⟨D,h⟩:=Yt h;obtain⟨-,h⟩:=Yt h;obtain⟨-,h⟩:=Yt h;obtain⟨-,h⟩:=Yt h;obtain⟨I,h⟩:=Yt h;obtain⟨J,h⟩:=Yt h;obtain⟨-,h⟩:=Yt h;obtain⟨y,h⟩:=Yt h;obtain⟨-,h⟩:=Yt h;obtain⟨H,h⟩:=Yt h;obtain⟨-,h⟩:=Yt h;obtain⟨-,h⟩:=Yt h;obtain⟨-,h⟩:=Yt h;obtain⟨-,h⟩:=Yt h;obtain⟨E,h⟩:=Yt h;obtain⟨u,h⟩:=Yt h;obtain⟨w,h⟩:=Yt h;obtain⟨-,h⟩:=Yt h;obtain⟨B,h⟩:=Yt h;obtain⟨L,M⟩:=yI Oz u;obtain⟨O,P⟩:=yI MG B;refine⟨⟨L,O,(yI Cq h).1⟩,Gj (ka D) j,Gj (ka I) j,Gj (ka J) j,Gj (ka y) j,Gj (ka H) j,Gj (ka E) j,Gj (ka w) j,fun p z=>?_,fun p z=>?_⟩
 ·have g:=M p z;unfold du at g;obtain⟨o,q⟩:=Yt g;exact⟨Gj (ka o) j,Gj (ka q) j⟩
 ·have g:=P p z;unfold dI at g;obtain⟨o,g⟩:=Yt g;obtain⟨q,-⟩:=Yt g;exact⟨Gj (ka o) j,Gj (ka q) j⟩
def mT:Option bQ->V
 |some m=>.tuple [.agg (YS m),iz 0]
 |none=>.tuple [.agg kc,iz 3]
def tw (D:Bool):=(uI D).lst D
def tu (D:Bool):=((g8 D).lst D).pair (tw D)
theorem Nd {D:Bool} {x:Rb}:(tu D).v x=(((g8 D).lst D).v x,(tw D).v (((g8 D).lst D).n x)):=rfl
theorem Nc {D:Bool} {x:Rb}:(tu D).n x=(tw D).n (((g8 D).lst D).n x):=rfl
def tq (D:Bool):=(uF D).pair (tu D)
theorem Nb {D:Bool} {x:Rb}:(tq D).v x=((uF D).v x,(tu D).v ((uF D).n x)):=rfl
theorem Na {D:Bool} {x:Rb}:(tq D).n x=(tu D).n ((uF D).n x):=rfl
def tI (D:Bool):=(uT D).pair (tq D)
theorem M9 {D:Bool} {x:Rb}:(tI D).v x=((uT D).v x,(tq D).v ((uT D).n x)):=rfl
theorem M8 {D:Bool} {x:Rb}:(tI D).n x=(tq D).n ((uT D).n x):=rfl
def tH (D:Bool):=((gz D).lst D).pair (tI D)
theorem Nw {D:Bool} {x:Rb}:(tH D).v x=(((gz D).lst D).v x,(tI D).v (((gz D).lst D).n x)):=rfl
theorem Nv {D:Bool} {x:Rb}:(tH D).n x=(tI D).n (((gz D).lst D).n x):=rfl
def tG (D:Bool):=(uT D).pair (tH D)
theorem Nu {D:Bool} {x:Rb}:(tG D).v x=((uT D).v x,(tH D).v ((uT D).n x)):=rfl
theorem Nt {D:Bool} {x:Rb}:(tG D).n x=(tH D).n ((uT D).n x):=rfl
def tF (D:Bool):=(uF D).pair (tG D)
theorem Ns {D:Bool} {x:Rb}:(tF D).v x=((uF D).v x,(tG D).v ((uF D).n x)):=rfl
theorem Nr {D:Bool} {x:Rb}:(tF D).n x=(tG D).n ((uF D).n x):=rfl
def tE (D:Bool):=(uS D).pair (tF D)
theorem Nq {D:Bool} {x:Rb}:(tE D).v x=((uS D).v x,(tF D).v ((uS D).n x)):=rfl
theorem Np {D:Bool} {x:Rb}:(tE D).n x=(tF D).n ((uS D).n x):=rfl
def tD (D:Bool):=(uI D).pair (tE D)
theorem No {D:Bool} {x:Rb}:(tD D).v x=((uI D).v x,(tE D).v ((uI D).n x)):=rfl
theorem Nn {D:Bool} {x:Rb}:(tD D).n x=(tE D).n ((uI D).n x):=rfl
def tC (D:Bool):=(uI D).pair (tD D)
theorem Nm {D:Bool} {x:Rb}:(tC D).v x=((uI D).v x,(tD D).v ((uI D).n x)):=rfl
theorem Nl {D:Bool} {x:Rb}:(tC D).n x=(tD D).n ((uI D).n x):=rfl
def tz (D:Bool):=(uT D).pair (tC D)
theorem Nk {D:Bool} {x:Rb}:(tz D).v x=((uT D).v x,(tC D).v ((uT D).n x)):=rfl
theorem Nj {D:Bool} {x:Rb}:(tz D).n x=(tC D).n ((uT D).n x):=rfl
def tx (D:Bool):=(uS D).pair (tz D)
theorem Ni {D:Bool} {x:Rb}:(tx D).v x=((uS D).v x,(tz D).v ((uS D).n x)):=rfl
theorem Nh {D:Bool} {x:Rb}:(tx D).n x=(tz D).n ((uS D).n x):=rfl
def tT (D:Bool):=(uT D).pair (tx D)
theorem Ng {D:Bool} {x:Rb}:(tT D).v x=((uT D).v x,(tx D).v ((uT D).n x)):=rfl
theorem NL {D:Bool} {x:Rb}:(tT D).n x=(tx D).n ((uT D).n x):=rfl
def tQ (D:Bool):=(uF D).pair (tT D)
theorem NK {D:Bool} {x:Rb}:(tQ D).v x=((uF D).v x,(tT D).v ((uF D).n x)):=rfl
theorem NJ {D:Bool} {x:Rb}:(tQ D).n x=(tT D).n ((uF D).n x):=rfl
def tP (D:Bool):=(uT D).pair (tQ D)
theorem NI {D:Bool} {x:Rb}:(tP D).v x=((uT D).v x,(tQ D).v ((uT D).n x)):=rfl
theorem NH {D:Bool} {x:Rb}:(tP D).n x=(tQ D).n ((uT D).n x):=rfl
def tO (D:Bool):=(uT D).pair (tP D)
theorem NG {D:Bool} {x:Rb}:(tO D).v x=((uT D).v x,(tP D).v ((uT D).n x)):=rfl
theorem NF {D:Bool} {x:Rb}:(tO D).n x=(tP D).n ((uT D).n x):=rfl
def tN (D:Bool):=(uI D).pair (tO D)
theorem NE {D:Bool} {x:Rb}:(tN D).v x=((uI D).v x,(tO D).v ((uI D).n x)):=rfl
theorem ND {D:Bool} {x:Rb}:(tN D).n x=(tO D).n ((uI D).n x):=rfl
def tM (D:Bool):=(uI D).pair (tN D)
theorem NC {D:Bool} {x:Rb}:(tM D).v x=((uI D).v x,(tN D).v ((uI D).n x)):=rfl
theorem NB {D:Bool} {x:Rb}:(tM D).n x=(tN D).n ((uI D).n x):=rfl
def tL (D:Bool):=(uI D).pair (tM D)
theorem NA {D:Bool} {x:Rb}:(tL D).v x=((uI D).v x,(tM D).v ((uI D).n x)):=rfl
theorem Nz {D:Bool} {x:Rb}:(tL D).n x=(tM D).n ((uI D).n x):=rfl
def tK (D:Bool):=(uT D).pair (tL D)
theorem Ny {D:Bool} {x:Rb}:(tK D).v x=((uT D).v x,(tL D).v ((uT D).n x)):=rfl
theorem Nx {D:Bool} {x:Rb}:(tK D).n x=(tL D).n ((uT D).n x):=rfl
def ur (D:Bool):=(uS D).pair (tK D)
theorem NO {D:Bool} {x:Rb}:(ur D).v x=((uS D).v x,(tK D).v ((uS D).n x)):=rfl
theorem NN {D:Bool} {x:Rb}:(ur D).n x=(tK D).n ((uS D).n x):=rfl
def uq (D:Bool):=(uI D).pair (ur D)
theorem NM {D:Bool} {x:Rb}:(uq D).v x=((uI D).v x,(ur D).v ((uI D).n x)):=rfl
theorem Og {D:Bool} {x:Rb}:(uq D).n x=(ur D).n ((uI D).n x):=rfl
def uo (D:Bool):=(uI D).pair (uq D)
theorem Of {D:Bool} {x:Rb}:(uo D).v x=((uI D).v x,(uq D).v ((uI D).n x)):=rfl
theorem Oe {D:Bool} {x:Rb}:(uo D).n x=(uq D).n ((uI D).n x):=rfl
def um (D:Bool):=(uI D).pair (uo D)
theorem Od {D:Bool} {x:Rb}:(um D).v x=((uI D).v x,(uo D).v ((uI D).n x)):=rfl
theorem Oc {D:Bool} {x:Rb}:(um D).n x=(uo D).n ((uI D).n x):=rfl
def ul (D:Bool):=(uI D).pair (um D)
theorem Ob {D:Bool} {x:Rb}:(ul D).v x=((uI D).v x,(um D).v ((uI D).n x)):=rfl
theorem Oa {D:Bool} {x:Rb}:(ul D).n x=(um D).n ((uI D).n x):=rfl
def uk (D:Bool):=(uI D).pair (ul D)
theorem N9 {D:Bool} {x:Rb}:(uk D).v x=((uI D).v x,(ul D).v ((uI D).n x)):=rfl
theorem N8 {D:Bool} {x:Rb}:(uk D).n x=(ul D).n ((uI D).n x):=rfl
def uj (D:Bool):=(uI D).pair (uk D)
theorem N7 {D:Bool} {x:Rb}:(uj D).v x=((uI D).v x,(uk D).v ((uI D).n x)):=rfl
theorem N6 {D:Bool} {x:Rb}:(uj D).n x=(uk D).n ((uI D).n x):=rfl
def ui (D:Bool):=(uI D).pair (uj D)
theorem N5 {D:Bool} {x:Rb}:(ui D).v x=((uI D).v x,(uj D).v ((uI D).n x)):=rfl
theorem N4 {D:Bool} {x:Rb}:(ui D).n x=(uj D).n ((uI D).n x):=rfl
def uh (D:Bool):=(uI D).pair (ui D)
theorem N3 {D:Bool} {x:Rb}:(uh D).v x=((uI D).v x,(ui D).v ((uI D).n x)):=rfl
theorem N2 {D:Bool} {x:Rb}:(uh D).n x=(ui D).n ((uI D).n x):=rfl
def vY (D:Bool):=(uI D).pair (uh D)
theorem N1 {D:Bool} {x:Rb}:(vY D).v x=((uI D).v x,(uh D).v ((uI D).n x)):=rfl
theorem N0 {D:Bool} {x:Rb}:(vY D).n x=(uh D).n ((uI D).n x):=rfl
theorem Oh {D:Bool} {x:Rb}:(tw D).v x=((uI D).lst D).v x:=rfl
theorem Nf {D:Bool} {x:Rb}:(tw D).n x=((uI D).lst D).n x:=rfl
theorem NQ {D:Bool} {x:Rb}:(ku D).v x=lR ((vY D).v x):=rfl
theorem NP {D:Bool} {x:Rb}:(ku D).n x=(vY D).n x:=rfl
def ly:=HpC 566 F566<|HpA jJ<|HpA gH<|HpA fV<|HpA iW<|HpA fX<|ik
def Rg.whole_o {α:Type} {R:Rg α} {q:α->Bool} {t:List UInt8} (ht:t.length<=2 ^ 29) {o:Option α} (ho:(if (R.f (t,false)).2=([],false)/\q (R.f (t,false)).1=true then some (R.f (t,false)).1 else none)=o) :
  ((R.n ⟨t,false,ht⟩).no=false/\(R.n ⟨t,false,ht⟩).s=[]/\q (R.v ⟨t,false,ht⟩)=true/\o=some (R.v ⟨t,false,ht⟩))\/(((R.n ⟨t,false,ht⟩).no=false->(R.n ⟨t,false,ht⟩).s=[]->q (R.v ⟨t,false,ht⟩)=false)/\o=none):=by
 subst ho
 split
 ·rename_i h
  exact .inl ⟨fp Prod.snd h.1,fp Prod.fst h.1,h.2,rfl⟩
 ·rename_i h
  refine .inr ⟨fun h1 h2=>?_,rfl⟩
  cases hq:q (R.v ⟨t,false,ht⟩) with
  |false=>rfl
  |true=>exact absurd ⟨Prod.ext h2 h1,hq⟩ h
theorem sD (h:ly Pg) (t:List UInt8) (ht:t.length<=2 ^ 29) (bj:∀m,mG m->ey m=t->m.places.length<=4194304/\m.mem.length<=4194304):K' Pg 566 [.str t]=some (mT (kS t)):=by
 obtain⟨h,a2,E,j,H,w,I⟩:=h;generalize ho:kS t=o;have p:=Rg.whole_o (R:=ku false) (q:=fO) ht ho;clear ho;have u:((ku false).n ⟨t,false,ht⟩).no=false->((ku false).n ⟨t,false,ht⟩).s=[]->((ku false).v ⟨t,false,ht⟩).places.length<=4194304/\((ku false).v ⟨t,false,ht⟩).mem.length<=4194304:=fun h1 h2=>
  have g:=Rg.good (DL (D:=false)) ht h1 h2
  bj _ g.2 g.1.symm
 have a9:K' Pg 566 [.str t]=K' Pg 566 [.str (Rb.s ⟨t,false,ht⟩)]:=rfl;have bk:eR ⟨t,false,ht⟩=[.str t,.bool false]:=rfl;generalize hx:(⟨t,false,ht⟩:Rb)=x at *
 simp only[NQ,NP] at u p;simp only[N1,N0] at u p;have k1:=gq j x;generalize (uI false).v x=v1 at *
 generalize (uI false).n x=z1 at *
 simp only[N3,N2] at u p;have k2:=gq j z1;generalize (uI false).v z1=v2 at *
 generalize (uI false).n z1=z2 at *
 simp only[N5,N4] at u p;have k3:=gq j z2;generalize (uI false).v z2=v3 at *
 generalize (uI false).n z2=z3 at *
 simp only[N7,N6] at u p;have k4:=gq j z3;generalize (uI false).v z3=v4 at *
 generalize (uI false).n z3=z4 at *
 simp only[N9,N8] at u p;have k5:=gq j z4;generalize (uI false).v z4=v5 at *
 generalize (uI false).n z4=z5 at *
 simp only[Ob,Oa] at u p;have k6:=gq j z5;generalize (uI false).v z5=v6 at *
 generalize (uI false).n z5=z6 at *
 simp only[Od,Oc] at u p;have k7:=gq j z6;generalize (uI false).v z6=v7 at *
 generalize (uI false).n z6=z7 at *
 simp only[Of,Oe] at u p;have k8:=gq j z7;generalize (uI false).v z7=v8 at *
 generalize (uI false).n z7=z8 at *
 simp only[NM,Og] at u p;have k9:=gq j z8;generalize (uI false).v z8=v9 at *
 generalize (uI false).n z8=z9 at *
 simp only[NO,NN] at u p;have a6:=zD E z9;generalize (uS false).v z9=J at *
 generalize (uS false).n z9=ai at *
 simp only[Ny,Nx] at u p;have bm:=kg w ai;generalize (uT false).v ai=L at *
 generalize (uT false).n ai=aj at *
 simp only[NA,Nz] at u p;have bn:=gq j aj;generalize (uI false).v aj=M at *
 generalize (uI false).n aj=ak at *
 simp only[NC,NB] at u p;have bo:=gq j ak;generalize (uI false).v ak=N at *
 generalize (uI false).n ak=al at *
 simp only[NE,ND] at u p;have bp:=gq j al;generalize (uI false).v al=O at *
 generalize (uI false).n al=am at *
 simp only[NG,NF] at u p;have bq:=kg w am;generalize (uT false).v am=P at *
 generalize (uT false).n am=an at *
 simp only[NI,NH] at u p;have br:=kg w an;generalize (uT false).v an=Q at *
 generalize (uT false).n an=ao at *
 simp only[NK,NJ] at u p;have bs:=zG I ao;generalize (uF false).v ao=S at *
 generalize (uF false).n ao=ap at *
 simp only[Ng,NL] at u p;have bu:=kg w ap;generalize (uT false).v ap=T at *
 generalize (uT false).n ap=aq at *
 simp only[Ni,Nh] at u p;have a7:=zD E aq;generalize (uS false).v aq=U at *
 generalize (uS false).n aq=ar at *
 simp only[Nk,Nj] at u p;have bv:=kg w ar;generalize (uT false).v ar=W at *
 generalize (uT false).n ar=au at *
 simp only[Nm,Nl] at u p;have bw:=gq j au;generalize (uI false).v au=X at *
 generalize (uI false).n au=av at *
 simp only[No,Nn] at u p;have bz:=gq j av;generalize (uI false).v av=Y at *
 generalize (uI false).n av=ax at *
 simp only[Nq,Np] at u p;have a8:=zD E ax;generalize (uS false).v ax=Z at *
 generalize (uS false).n ax=ay at *
 simp only[Ns,Nr] at u p;have b0:=zG I ay;generalize (uF false).v ay=aa at *
 generalize (uF false).n ay=az at *
 simp only[Nu,Nt] at u p;have b1:=kg w az;generalize (uT false).v az=ab at *
 generalize (uT false).n az=ac at *
 simp only[Nw,Nv] at u p;have a3:=Rg.lst_v (D:=false) (R:=gz false) (x:=ac);simp only[a3.1,a3.2] at u p;have ba:(uL false).v ac<=2 ^ 29:=o0;have b4:=zE H ac;generalize (uL false).v ac=ca at *
 generalize (uL false).n ac=ya at *
 generalize bd:((gz false).rep false ca).v ya=pa at *
 generalize bg:((gz false).rep false ca).n ya=wa at *
 simp only[M9,M8] at u p;have b2:=kg w wa;generalize (uT false).v wa=ae at *
 generalize (uT false).n wa=a0 at *
 simp only[Nb,Na] at u p;have b3:=zG I a0;generalize (uF false).v a0=af at *
 generalize (uF false).n a0=ad at *
 simp only[Nd,Nc] at u p;have a4:=Rg.lst_v (D:=false) (R:=g8 false) (x:=ad);simp only[a4.1,a4.2] at u p;have bb:(uL false).v ad<=2 ^ 29:=o0;have b5:=zE H ad;generalize (uL false).v ad=cb at *
 generalize (uL false).n ad=yb at *
 generalize be:((g8 false).rep false cb).v yb=pb at *
 generalize bh:((g8 false).rep false cb).n yb=wb at *
 simp only[Oh,Nf] at u p;have a5:=Rg.lst_v (D:=false) (R:=uI false) (x:=wb);simp only[a5.1,a5.2] at u p;have bc:(uL false).v wb<=2 ^ 29:=o0;have b6:=zE H wb;generalize (uL false).v wb=cc at *
 generalize (uL false).n wb=yc at *
 generalize bf:((uI false).rep false cc).v yc=pc at *
 generalize bi:((uI false).rep false cc).n yc=wc at *
 rw[a9];have bl:x.s=t:=by rw[<-hx]
 simp only[go_sem,fy] at a6 a7 a8;rw[bl];refine aA h rfl ?_;rw[bk] at k1;simp only[F566,c566,go_sem,eT,k1,k2,k3,k4,k5,k6,k7,k8,k9,a6,bm,bn,bo,bp,bq,br,bs,bu,a7,bv,bw,bz,a8,b0,b1,b4];refine O3 w (y:=ya) (c:=ca) (m:=⟨v1,v2,v3,v4,v5,v6,v7,v8,v9,J,L,⟨M,N,O,P,Q,S,T,U,W,X⟩,⟨Y,Z,aa,ab,[],[],false⟩,[],[]⟩) (pl:=[]) (me:=[]) ba ⟨by simp only[go_sem],by simp only[go_sem],by simp only[go_sem],by simp only[go_sem],by simp only[go_sem],by simp only[go_sem],by simp only[go_sem]<;>rfl,by simp only[go_sem]<;>rfl,by simp only[go_sem]<;>rfl,by simp only[go_sem]<;>rfl,by simp only[go_sem],rfl,rfl,rfl⟩ (by simp only[go_sem]) (by simp only[go_sem]) fun S1 hS=>?_;rw[bd,bg] at hS;obtain⟨t2,t4,t5,t6,t7,B,u2,u5,u6,u7,n8,ait,apl,ame⟩:=hS;have w5:=u5;have w7:=u7;simp only[na,go_sem] at w5;simp only[mV,go_sem] at w7;simp only[go_sem,eT,t4,t7,B,w7,b2,b3,b5];refine Px j w (y:=yb) (c:=cb) (m:=⟨v1,v2,v3,v4,v5,v6,v7,v8,v9,J,L,⟨M,N,O,P,Q,S,T,U,W,X⟩,⟨Y,Z,aa,ab,[],ae,af⟩,[],[]⟩) (it:=pa) (me:=[]) bb ⟨by simp only[go_sem,t2],by simp only[go_sem,t4],by simp only[go_sem,t5],by simp only[go_sem,t6],by simp only[go_sem,t7],by simp only[go_sem],by simp only[go_sem,u2],by simp only[go_sem,w5]<;>rfl,by simp only[go_sem,u6],by simp only[go_sem,w7]<;>rfl,by simp only[go_sem,n8],by simp only[go_sem,ait],by simp only[go_sem,apl],by simp only[go_sem,ame]⟩ (by simp only[go_sem]) (by simp only[go_sem]) fun S2 hS=>?_;rw[be,bh] at hS;obtain⟨t2,t4,t5,t6,t7,B,u2,u5,u6,u7,n8,ait,apl,ame⟩:=hS;have w5:=u5;have w7:=u7;simp only[na,go_sem] at w5;simp only[mV,go_sem] at w7;simp only[go_sem,eT,t4,B,b6];refine OI j (y:=yc) (c:=cc) (m:=⟨v1,v2,v3,v4,v5,v6,v7,v8,v9,J,L,⟨M,N,O,P,Q,S,T,U,W,X⟩,⟨Y,Z,aa,ab,[],ae,af⟩,[],[]⟩) (it:=pa) (pl:=pb) bc ⟨by simp only[go_sem,t2],by simp only[go_sem,t4],by simp only[go_sem,t5],by simp only[go_sem,t6],by simp only[go_sem,t7],by simp only[go_sem],by simp only[go_sem,u2],by simp only[go_sem,w5]<;>rfl,by simp only[go_sem,u6],by simp only[go_sem,w7]<;>rfl,by simp only[go_sem,n8],by simp only[go_sem,ait],by simp only[go_sem,apl],by simp only[go_sem,ame]⟩ (by simp only[go_sem]) (by simp only[go_sem]) fun S3 hS=>?_;rw[bf,bi] at hS;obtain⟨t2,t4,t5,t6,t7,B,u2,u5,u6,u7,n8,ait,apl,ame⟩:=hS;have w5:=u5;have w7:=u7;simp only[na,go_sem] at w5;simp only[mV,go_sem] at w7;have a1:=Yv ait (by simp);have ag:=Yv apl (by simp);have ah:=Yv ame (by simp);simp only[zZ,go_sem] at u6;obtain⟨zs,zb,zh⟩:=wc;simp only[eR] at B;simp only[kc] at u2;simp only[go_sem,t5,t6,t7,w5,w7,u6];cases zb with
 |true=>
  obtain rfl:o=none:=by
   rcases p with ⟨h1,-⟩|⟨-,h2⟩
   ·have h3:true=false:=h1;cases h3
   ·exact h2
  simp only[go_sem,t2,t4,B,u2,mT,kc]
 |false=>
  cases c2:decide (zs=[]) with
  |false=>
   obtain rfl:o=none:=by
    rcases p with ⟨-,h1,-⟩|⟨-,h2⟩
    ·exact absurd h1 (Ge c2)
    ·exact h2
   simp only[go_sem,t2,t4,B,u2,c2,mT,kc]
  |true=>
   have hu:=Gk c2;have z:=mA a2 _ (u rfl hu);cases hB:fO (lR (v1,v2,v3,v4,v5,v6,v7,v8,v9,J,L,M,N,O,P,Q,S,T,U,W,X,Y,Z,aa,ab,pa,ae,af,pb,pc)) with
   |false=>
    obtain rfl:o=none:=by
     rcases p with ⟨-,-,h1,-⟩|⟨-,h2⟩
     ·rw[hB] at h1;cases h1
     ·exact h2
    rw[hB] at z;simp only[go_sem,lR] at z;simp only[go_sem,t2,t4,t5,B,u2,c2,a1,ag,ah,z,mT,kc]
   |true=>
    obtain rfl:o=some (lR (v1,v2,v3,v4,v5,v6,v7,v8,v9,J,L,M,N,O,P,Q,S,T,U,W,X,Y,Z,aa,ab,pa,ae,af,pb,pc)):=by
     rcases p with ⟨-,-,-,h1⟩|⟨h2,-⟩
     ·exact h1
     ·have h3:=h2 rfl hu;rw[hB] at h3;cases h3
    rw[hB] at z;simp only[go_sem,lR] at z;simp only[go_sem,t2,t4,t5,B,u2,c2,a1,ag,ah,z,mT,lR]
def yy (h:ly Pg) (t:List UInt8) (ht:t.length<=4194304):K' Pg 566 [.str t]=some (mT (kS t)):=
 sD h t (Gj ht (by decide)) fun m _ hw=>(MF (N:=4194304) (by rw[hw];exact ht) (by decide)).1.2
def cO (h:fI Pg) (n:Int) (j:NV n):K' Pg 460 [iz n]=some (.str (nB n)):=ef h n (Y3 j).1 (Y3 j).2
def jZ (h:fI Pg) (n:Nat) (j:n<2 ^ 63):K' Pg 460 [iz n]=some (.str (aC n)):=cO h n ⟨by omega,by omega⟩
def jY (h:gG Pg) (s:aH) (j:Ya s=true):K' Pg 459 [.agg [iz s.wall,iz s.tick,iz s.node]]=some (.str (dh s)):=iY h s j
def dW (h:fW Pg) (t:List UInt8) (ht:t.length<=2 ^ 30):K' Pg 488 [.str t]=some (.str (Yk t)):=i3 h t (by omega)
set_option maxHeartbeats 1000000
def O8 (j:fW Pg) {m:bQ} {g:List UInt8} (T:∀e∈m.ans.items,(fun p:List UInt8×List UInt8=>p.1.length<=2 ^ 30/\p.2.length<=2 ^ 30) e) (hb:g.length+(m.ans.items.flatMap du).length<=2 ^ 50) {S:St} {Q:Ex->St->Prop}
  (q:S.ρ 1=.lref 1 0) (H:S.μ 1=some (YS m,false)) (w:S.ρ 5=.str g) (u:S.ρ 4=.lref 4 0) (m4:S.μ 4=some (je m.ans,false)) (n8:S.μ 8=none) (B:S.ρ 6=iz 0)
  (Y:∀S',S'.ρ 1=.lref 1 0->S'.μ 1=some (YS m,false)->S'.ρ 5=.str (g++m.ans.items.flatMap du)->S'.ρ 4=.lref 4 0->S'.μ 4=some (je m.ans,false)->S'.μ 8=none->Q .norm S'):Wp (K' Pg) l536_0 S (dU 0 Q):=by
 have X:m.ans.items.length<=(m.ans.items.flatMap du).length:=YE (P:=fun _=>True) (fun e _=>by have:=YO (t:=e.1);simp only[du,Gb];omega) (fun _ _=>Gs)
 unfold l536_0
 refine bE (fun (i:Nat) S=>i<=m.ans.items.length/\S.ρ 1=.lref 1 0/\S.μ 1=some (YS m,false)/\S.ρ 5=.str (g++(m.ans.items.take i).flatMap du)/\S.ρ 4=.lref 4 0/\S.μ 4=some (je m.ans,false)/\S.μ 8=none/\S.ρ 6=iz i) (fun i=>m.ans.items.length-i) 0 ?_ ?_
 ·simp only[eS]
  exact⟨Gy _,q,H,by rw[w];simp,u,m4,n8,B⟩
 ·intro i S ⟨hi,q,H,w,u,m4,n8,B⟩
  have I:=H
  simp only[go_sem] at I
  have J:=m4
  simp only[go_sem] at J
  cases D:decide ((i:Int)<(m.ans.items.length:Int)) with
  |false=>
   have L:i=m.ans.items.length:=by have:=Ge D;omega
   rw[L,Gw] at w
   simp only[go_sem,q,I,u,J,B,D,Gf]
   exact Y _ (by simp only[go_sem,q]) H (by simp only[go_sem,w]) (by simp only[go_sem,u]) m4 n8
  |true=>
   have M:=Yh D
   obtain⟨e,z,-⟩:=bO M
   have o:=inc64q (i:=i) (by omega)
   have N:=T e (List.mem_of_getElem? z)
   have O:=dW j e.1 N.1
   have R:=dW j e.2 N.2
   have y:=YT (W:=du) (l:=m.ans.items) (i:=i+1)
   rw[Y7 z,Gb] at y
   have E:g++(m.ans.items.take (i+1)).flatMap du=g++(m.ans.items.take i).flatMap du++du e:=by rw[Y7 z,Gr]
   have U:(g++(m.ans.items.take i).flatMap du).length=g.length+((m.ans.items.take i).flatMap du).length:=Gb
   generalize g++(m.ans.items.take i).flatMap du=Z at *
   simp only[du,Gb] at y
   simp only[du] at E
   simp only[go_sem,q,I,w,u,J,B,D,z,O,R,o,n8,Gf]
   repeat (rw[GE (by omega)];simp only[go_sem,O,R,o,z,B,q,I,w,u,J,Gf])
   try simp only[eS]
   refine⟨i+1,by omega,by omega,?_⟩
   and_intros
   all_goals first|rfl|(rw[E];simp only[Gr];done)|(rw[E];done)|exact E▸rfl|(simp only[n8,Option.map_none];done)
def Pc (j:fI Pg) (o:fW Pg) {m:bQ} {g:List UInt8} (U:∀e∈m.places,va e) (hb:g.length+(m.places.flatMap dI).length<=2 ^ 50) {S:St} {Q:Ex->St->Prop}
  (q:S.ρ 1=.lref 1 0) (H:S.μ 1=some (YS m,false)) (u:S.ρ 5=.str g) (n8:S.μ 8=none) (B:S.ρ 7=iz 0)
  (Z:∀S',S'.ρ 1=.lref 1 0->S'.μ 1=some (YS m,false)->S'.ρ 5=.str (g++m.places.flatMap dI)->Q .norm S'):Wp (K' Pg) l536_1 S (dU 2 Q):=by
 have Y:m.places.length<=(m.places.flatMap dI).length:=YE (P:=fun _=>True) (fun e _=>by have:=YO (t:=e.span.lo);simp only[dI,Gb];omega) (fun _ _=>Gs)
 unfold l536_1
 refine bE (fun (i:Nat) S=>i<=m.places.length/\S.ρ 1=.lref 1 0/\S.μ 1=some (YS m,false)/\S.ρ 5=.str (g++(m.places.take i).flatMap dI)/\S.μ 8=none/\S.ρ 7=iz i) (fun i=>m.places.length-i) 0 ?_ ?_
 ·exact⟨Gy _,aM q rfl,YD H rfl,aM (by rw[u];simp) rfl,ej (.inr rfl),aM B rfl⟩
 ·intro i S ⟨hi,q,H,u,n8,B⟩
  have I:=H
  simp only[go_sem] at I
  cases D:decide ((i:Int)<(m.places.length:Int)) with
  |false=>
   have J:i=m.places.length:=by have:=Ge D;omega
   rw[J,Gw] at u
   simp only[go_sem,q,I,B,D,Gf]
   exact Z _ (by simp only[go_sem,q]) H (by simp only[go_sem,u])
  |true=>
   have L:=Yh D
   obtain⟨e,z,-⟩:=bO L
   have p:=inc64q (i:=i) (by omega)
   have y:=U e (List.mem_of_getElem? z)
   have M:=dW o e.span.lo y.2.1
   have N:=dW o e.span.hi y.2.2
   have O:=cO j e.shard y.1.1.2.2.1
   have R:=cO j e.cell y.1.1.2.2.2.1
   have T:=cO j e.epoch y.1.1.2.2.2.2
   have w:=YT (W:=dI) (l:=m.places) (i:=i+1)
   rw[Y7 z,Gb] at w
   have E:g++(m.places.take (i+1)).flatMap dI=g++(m.places.take i).flatMap dI++dI e:=by rw[Y7 z,Gr]
   have X:(g++(m.places.take i).flatMap dI).length=g.length+((m.places.take i).flatMap dI).length:=Gb
   generalize g++(m.places.take i).flatMap dI=g1 at *
   simp only[dI,Gb] at w
   simp only[dI] at E
   simp only[go_sem,q,I,u,B,D,z,M,N,O,R,T,p,n8,Gf]
   repeat (rw[GE (by omega)];simp only[go_sem,M,N,O,R,T,p,z,B,q,I,u,Gf])
   try simp only[eS]
   refine⟨i+1,by omega,by omega,?_⟩
   and_intros
   all_goals first|rfl|(rw[E];simp only[Gr];done)|(rw[E];done)|exact E▸rfl|(simp only[n8,Option.map_none];done)
def O9 (q:fI Pg) {m:bQ} {g:List UInt8} (L:∀e∈m.mem,NV e) (U:g.length+(m.mem.flatMap nB).length<=2 ^ 50) {S:St} {Q:Ex->St->Prop}
  (o:S.ρ 1=.lref 1 0) (z:S.μ 1=some (YS m,false)) (p:S.ρ 5=.str g) (w:S.ρ 9=iz 0)
  (O:∀S',S'.ρ 1=.lref 1 0->S'.μ 1=some (YS m,false)->S'.ρ 5=.str (g++m.mem.flatMap nB)->Q .norm S'):Wp (K' Pg) l536_2 S (dU 4 Q):=by
 have N:m.mem.length<=(m.mem.flatMap nB).length:=YE (P:=fun _=>True) (fun e _=>bH _) (fun _ _=>Gs)
 unfold l536_2
 refine bE (fun (i:Nat) S=>i<=m.mem.length/\S.ρ 1=.lref 1 0/\S.μ 1=some (YS m,false)/\S.ρ 5=.str (g++(m.mem.take i).flatMap nB)/\S.ρ 9=iz i) (fun i=>m.mem.length-i) 0 ?_ ?_
 ·simp only[eS]
  exact⟨Gy _,o,z,by rw[p];simp,w⟩
 ·intro i S ⟨hi,o,z,p,w⟩
  have B:=z
  simp only[go_sem] at B
  cases y:decide ((i:Int)<(m.mem.length:Int)) with
  |false=>
   have H:i=m.mem.length:=by have:=Ge y;omega
   rw[H,Gw] at p
   simp only[go_sem,o,B,w,y,Gf]
   exact O _ (by simp only[go_sem,o]) z (by simp only[go_sem,p])
  |true=>
   have I:=Yh y
   obtain⟨e,u,-⟩:=bO I
   have j:=inc64q (i:=i) (by omega)
   have R:=L e (List.mem_of_getElem? u)
   have J:=cO q e R
   have D:=YT (W:=nB) (l:=m.mem) (i:=i+1)
   rw[Y7 u,Gb] at D
   have E:g++(m.mem.take (i+1)).flatMap nB=g++(m.mem.take i).flatMap nB++nB e:=by rw[Y7 u,Gr]
   have M:(g++(m.mem.take i).flatMap nB).length=g.length+((m.mem.take i).flatMap nB).length:=Gb
   generalize g++(m.mem.take i).flatMap nB=T at *
   simp only[go_sem,o,B,p,w,y,u,J,j,Gf]
   repeat (rw[GE (by omega)];simp only[go_sem,J,j,u,w,o,B,p,Gf])
   try simp only[eS]
   refine⟨i+1,by omega,by omega,?_⟩
   and_intros
   all_goals first|rfl|(rw[E];simp only[List.append_assoc];done)|(rw[E];done)|exact E▸rfl
def lw:=HpC 536 F536<|HpA gG<|HpA fI<|HpA fW<|iX
theorem yw (h:lw Pg) (m:bQ) (c1:mG m) (w:kF m) (hb:(ey m).length<=2 ^ 40):K' Pg 536 [.agg (YS m)]=some (.str (ey m)):=by
 obtain⟨h,q,j,o,u⟩:=h;obtain⟨⟨v1,v2,v3,v4,v5,v6,v7,v8,v9,bs,c6,bu,bv,bw,c7,c8,c9,da,bz,db,ca,cc,cd,dc,dd,ce,de,df,a1,a2⟩,-⟩:=c1;have a7:∀p∈m.places,va p:=fun p X=>⟨a1.2 p X,by have:=(w.places p X).1;omega,by have:=(w.places p X).2;omega⟩;have a6:∀p∈m.ans.items,p.1.length<=2 ^ 30/\p.2.length<=2 ^ 30:=fun p X=>⟨by have:=(w.items p X).1;omega,by have:=(w.items p X).2;omega⟩;have a5:ey m=nB m.kind++nB m.from_++nB m.to++nB m.shard++nB m.epoch++nB m.move++nB m.lease++nB m.n++nB m.of_++dh m.at_++Yk m.text++nB m.req.client++nB m.req.req++nB m.req.kind++Yk m.req.key++Yk m.req.value++Yp m.req.had++Yk m.req.old++dh m.req.at_++Yk m.req.hi++nB m.req.limit++nB m.ans.err++dh m.ans.at_++Yp m.ans.found++Yk m.ans.val++aC m.ans.items.length++m.ans.items.flatMap du++Yk m.ans.next++Yp m.ans.more++aC m.places.length++m.places.flatMap dI++aC m.mem.length++m.mem.flatMap nB:=by simp only[ey,YC,Gr]
 rw[a5] at hb ⊢;simp only[Gb] at hb;have q0:=cO j m.kind v1;have q1:=cO j m.from_ v2;have q2:=cO j m.to v3;have q3:=cO j m.shard v4;have q4:=cO j m.epoch v5;have q5:=cO j m.move v6;have q6:=cO j m.lease v7;have q7:=cO j m.n v8;have q8:=cO j m.of_ v9;have q9:=jY q m.at_ bs;have a8:=dW o m.text (by have:=w.text;omega);have a9:=cO j m.req.client bu;have ba:=cO j m.req.req bv;have bb:=cO j m.req.kind bw;have bc:=dW o m.req.key (by have:=w.key;omega);have bd:=dW o m.req.value (by have:=w.value;omega);have be:=j5 u m.req.had;have bf:=dW o m.req.old (by have:=w.old;omega);have bg:=jY q m.req.at_ bz;have bh:=dW o m.req.hi (by have:=w.hi;omega);have bi:=cO j m.req.limit ca;have bj:=cO j m.ans.err cc;have bk:=jY q m.ans.at_ cd;have bl:=j5 u m.ans.found;have bm:=dW o m.ans.val (by have:=w.val;omega);have bn:=jZ j m.ans.items.length (ce.1);have bo:=dW o m.ans.next (by have:=w.next;omega);have bp:=j5 u m.ans.more;have bq:=jZ j m.places.length (a1.1);have br:=jZ j m.mem.length (a2.1);generalize nB m.kind=b0 at *
 generalize nB m.from_=b1 at *
 generalize nB m.to=b2 at *
 generalize nB m.shard=b3 at *
 generalize nB m.epoch=b4 at *
 generalize nB m.move=b5 at *
 generalize nB m.lease=b6 at *
 generalize nB m.n=b7 at *
 generalize nB m.of_=b8 at *
 generalize dh m.at_=b9 at *
 generalize Yk m.text=z at *
 generalize nB m.req.client=B at *
 generalize nB m.req.req=D at *
 generalize nB m.req.kind=E at *
 generalize Yk m.req.key=H at *
 generalize Yk m.req.value=I at *
 generalize Yp m.req.had=J at *
 generalize Yk m.req.old=L at *
 generalize dh m.req.at_=M at *
 generalize Yk m.req.hi=N at *
 generalize nB m.req.limit=O at *
 generalize nB m.ans.err=P at *
 generalize dh m.ans.at_=Q at *
 generalize Yp m.ans.found=R at *
 generalize Yk m.ans.val=S at *
 generalize aC m.ans.items.length=T at *
 generalize hI:m.ans.items.flatMap du=aa at *
 generalize Yk m.ans.next=ab at *
 generalize Yp m.ans.more=ac at *
 generalize aC m.places.length=ad at *
 generalize hP:m.places.flatMap dI=a3 at *
 generalize aC m.mem.length=a4 at *
 generalize hN:m.mem.flatMap nB=c5 at *
 have u32:=hb;have a0:=Nat.le_of_add_right_le u32;have W:=Nat.le_of_add_right_le a0;have az:=Nat.le_of_add_right_le W;have ay:=Nat.le_of_add_right_le az;have ax:=Nat.le_of_add_right_le ay;have U:=Nat.le_of_add_right_le ax;have av:=Nat.le_of_add_right_le U;have au:=Nat.le_of_add_right_le av;have ar:=Nat.le_of_add_right_le au;have aq:=Nat.le_of_add_right_le ar;have ap:=Nat.le_of_add_right_le aq;have ao:=Nat.le_of_add_right_le ap;have an:=Nat.le_of_add_right_le ao;have am:=Nat.le_of_add_right_le an;have al:=Nat.le_of_add_right_le am;have ak:=Nat.le_of_add_right_le al;have aj:=Nat.le_of_add_right_le ak;have ai:=Nat.le_of_add_right_le aj;have ah:=Nat.le_of_add_right_le ai;have ag:=Nat.le_of_add_right_le ah;have af:=Nat.le_of_add_right_le ag;have ae:=Nat.le_of_add_right_le af;have u9:=Nat.le_of_add_right_le ae;have u8:=Nat.le_of_add_right_le u9;have u7:=Nat.le_of_add_right_le u8;have u6:=Nat.le_of_add_right_le u7;have u5:=Nat.le_of_add_right_le u6;have u4:=Nat.le_of_add_right_le u5;have u3:=Nat.le_of_add_right_le u4;have u2:=Nat.le_of_add_right_le u3;have u1:=Nat.le_of_add_right_le u2;have u0:=Nat.le_of_add_right_le u1;have w1:=Gj u1 (show 2 ^ 40<=4611686018427387904 by decide);have w2:=Gj u2 (show 2 ^ 40<=4611686018427387904 by decide);have w3:=Gj u3 (show 2 ^ 40<=4611686018427387904 by decide);have w4:=Gj u4 (show 2 ^ 40<=4611686018427387904 by decide);have w5:=Gj u5 (show 2 ^ 40<=4611686018427387904 by decide);have w6:=Gj u6 (show 2 ^ 40<=4611686018427387904 by decide);have w7:=Gj u7 (show 2 ^ 40<=4611686018427387904 by decide);have w8:=Gj u8 (show 2 ^ 40<=4611686018427387904 by decide);have w9:=Gj u9 (show 2 ^ 40<=4611686018427387904 by decide);have cf:=Gj ae (show 2 ^ 40<=4611686018427387904 by decide);have cg:=Gj af (show 2 ^ 40<=4611686018427387904 by decide);have ch:=Gj ag (show 2 ^ 40<=4611686018427387904 by decide);have cj:=Gj ah (show 2 ^ 40<=4611686018427387904 by decide);have ck:=Gj ai (show 2 ^ 40<=4611686018427387904 by decide);have cl:=Gj aj (show 2 ^ 40<=4611686018427387904 by decide);have cm:=Gj ak (show 2 ^ 40<=4611686018427387904 by decide);have cn:=Gj al (show 2 ^ 40<=4611686018427387904 by decide);have co:=Gj am (show 2 ^ 40<=4611686018427387904 by decide);have cp:=Gj an (show 2 ^ 40<=4611686018427387904 by decide);have cq:=Gj ao (show 2 ^ 40<=4611686018427387904 by decide);have cr:=Gj ap (show 2 ^ 40<=4611686018427387904 by decide);have cs:=Gj aq (show 2 ^ 40<=4611686018427387904 by decide);have ct:=Gj ar (show 2 ^ 40<=4611686018427387904 by decide);have cv:=Gj au (show 2 ^ 40<=4611686018427387904 by decide);have cw:=Gj av (show 2 ^ 40<=4611686018427387904 by decide);have cx:=Gj U (show 2 ^ 40<=4611686018427387904 by decide);have cy:=Gj ax (show 2 ^ 40<=4611686018427387904 by decide);have cz:=Gj ay (show 2 ^ 40<=4611686018427387904 by decide);have c0:=Gj az (show 2 ^ 40<=4611686018427387904 by decide);have c2:=Gj W (show 2 ^ 40<=4611686018427387904 by decide);have c4:=Gj a0 (show 2 ^ 40<=4611686018427387904 by decide);have dg:=Gj u32 (show 2 ^ 40<=4611686018427387904 by decide);refine aA h rfl ?_;simp only[F536,c536,go_sem,q0,q1,q2,q3,q4,q5,q6,q7,q8,q9,a8,a9,ba,bb,bc,bd,be,bf,bg,bh,bi,bj,bk,bl,bm,bn,w1,w2,w3,w4,w5,w6,w7,w8,w9,cf,cg,ch,cj,ck,cl,cm,cn,co,cp,cq,cr,cs,ct,cv,cw,Gf];refine O8 o (m:=m) (g:=b0++b1++b2++b3++b4++b5++b6++b7++b8++b9++z++B++D++E++H++I++J++L++M++N++O++P++Q++R++S++T) a6 (by simp only[hI,Gb];exact Gj U (by decide)) (by simp only[go_sem]) (by simp only[go_sem]) (by simp only[go_sem]) (by simp only[go_sem]) (by simp only[go_sem]) (by simp only[go_sem]) (by simp only[go_sem]) fun S1 Y Z y t4 y4 n8=>?_;rw[hI] at y;have x1:=Z;have x4:=y4;simp only[go_sem] at x1 x4;simp only[go_sem,Y,x1,t4,x4,y,n8,bo,bp,bq,cx,cy,cz,c0,Gf];refine Pc j o (m:=m) (g:=b0++b1++b2++b3++b4++b5++b6++b7++b8++b9++z++B++D++E++H++I++J++L++M++N++O++P++Q++R++S++T++aa++ab++ac++ad) a7 (by simp only[hP,Gb];exact Gj W (by decide)) (by simp only[go_sem,Y]) (by simp only[go_sem,Z]) (by simp only[go_sem]) (by simp only[go_sem,n8]) (by simp only[go_sem]) fun S1 Y Z y=>?_;rw[hP] at y;have x1:=Z;simp only[go_sem] at x1;simp only[go_sem,Y,x1,y,br,c2,c4,Gf];refine O9 j (m:=m) (g:=b0++b1++b2++b3++b4++b5++b6++b7++b8++b9++z++B++D++E++H++I++J++L++M++N++O++P++Q++R++S++T++aa++ab++ac++ad++a3++a4) a2.2 (by simp only[hN,Gb];exact Gj u32 (by decide)) (by simp only[go_sem,Y]) (by simp only[go_sem,Z]) (by simp only[go_sem]) (by simp only[go_sem]) fun S1 Y Z y=>?_;rw[hN] at y;simp only[go_sem,y]
def P0 (m:bQ) (i p e:V):List V:=[iz m.kind,iz m.from_,iz m.to,iz m.shard,iz m.epoch,iz m.move,iz m.lease,iz m.n,iz m.of_,iz m.at_.wall,iz m.at_.tick,iz m.at_.node,.str m.text,iz m.req.client,iz m.req.req,iz m.req.kind,.str m.req.key,.str m.req.value,.bool m.req.had,.str m.req.old,iz m.req.at_.wall,iz m.req.at_.tick,iz m.req.at_.node,.str m.req.hi,iz m.req.limit,iz m.ans.err,iz m.ans.at_.wall,iz m.ans.at_.tick,iz m.ans.at_.node,.bool m.ans.found,.str m.ans.val,i,.str m.ans.next,.bool m.ans.more,p,e]
structure TF (S:St) (y:Rb) (m:bQ) (it:List (List UInt8×List UInt8)) (pl:List aT) (me:List Int):Prop where
 r2:S.ρ 2=.lref 2 0
 r4:S.ρ 4=.lref 14 0
 r5:S.ρ 5=.lref 5 0
 m14:S.μ 14=some (eR y,false)
 m2:S.μ 2=some (kc,false)
 m5:S.μ 5=some (P0 m (aK 129 2 it.length) (aK 175 5 pl.length) (aK 196 1 me.length),false)
 ait:S.A 129=Y2 2 (it.map iG) it.length
 apl:S.A 175=Y2 5 (pl.map gu) pl.length
 ame:S.A 196=Y2 1 (me.map (fun a:Int=>[iz a])) me.length
def TF.head {S:St} {y:Rb} {m:bQ} {it:List (List UInt8×List UInt8)} {pl:List aT} {me:List Int} {v:Nat} (h:TF S y m it pl me) (o:[v].contains 2=false) (p:[v].contains 5=false) (j:[v].contains 14=false):TF (S.head [] [] [v] []) y m it pl me:=
 ⟨aM h.r2 (by simp only[dR,o];rfl),aM h.r4 (by simp only[dR,j];rfl),aM h.r5 (by simp only[dR,p];rfl),YD h.m14 j,YD h.m2 o,YD h.m5 p,(YA rfl).trans h.ait,(YA rfl).trans h.apl,(YA rfl).trans h.ame⟩
set_option maxHeartbeats 1000000
def qU:=HpZ 445 F445
def xQ (h:qU Pg) (n:Int):K' Pg 445 [iz n]=some (.bool (Yz n)):=by
 refine aA h rfl ?_;have e:Yz n=(decide (0<=n)&&decide (n<=1099511627776)):=by
  unfold Yz ma;by_cases h1:0<=n
  ·by_cases j:n<=1099511627776
   ·rw[GC h1,GC j,Gq (by omega),Gq (by omega)];rfl
   ·rw[GC h1,Gq j,Gq (show ¬n<0 by omega),GC (show (1099511627776:Int)<n by omega)];rfl
  ·rw[Gq h1,GC (show n<0 by omega)];rfl
 rw[e];cases o:decide (0<=n)<;>simp only[F445,c445,go_sem,o]
def jd (m:bQ):Bool:=!decide (m.kind<1)&&(!decide (37<m.kind)&&(!decide (m.ans.err<0)&&(!decide (16<m.ans.err)&&(!decide (8<(m.ans.items.length:Int))&&(!decide (8<(m.places.length:Int))&&!decide (8<(m.mem.length:Int)))))))
def hK (m:bQ):Bool:=Yz m.from_&&(Yz m.to&&(Yz m.shard&&(Yz m.epoch&&(Yz m.move&&(Yz m.lease&&(Yz m.n&&(Yz m.of_&&(Yz m.req.client&&(Yz m.req.req&&(Yz m.req.kind&&Yz m.req.limit))))))))))
def mU (p:aT):Bool:=Yz p.shard&&(Yz p.cell&&Yz p.epoch)
theorem Dp:∀{l:List aT},(l.flatMap fun p=>[p.shard,p.cell,p.epoch]).all Yz=l.all mU
 |[]=>rfl
 |p::l=>by
  have j:=Dp (l:=l);simp only[GH,List.all_append,List.all_cons,List.all_nil,G0,j,mU]
def Pk (m:bQ):fO m=(jd m&&(hK m&&(m.places.all mU&&(m.mem.all Yz&&(Ya m.at_&&(Ya m.req.at_&&Ya m.ans.at_)))))):=by
 have o:fO m=(jd m&&(([m.kind,m.from_,m.to,m.shard,m.epoch,m.move,m.lease,m.n,m.of_,m.req.client,m.req.req,m.req.kind,m.req.limit]++(m.places.flatMap fun p=>[p.shard,p.cell,p.epoch])++m.mem).all Yz&&(Ya m.at_&&(Ya m.req.at_&&Ya m.ans.at_)))):=rfl;rw[o];cases j:jd m with
 |false=>rfl
 |true=>
  have q:Yz m.kind=true:=by
   simp only[jd,Gg,GI,GM] at j;obtain⟨h1,u,-⟩:=j;simp only[Yz,ma,GI,Bool.or_eq_false_iff,GM];omega
  simp only[List.all_append,Dp,List.all_cons,List.all_nil,q,GK,G0,hK];simp only[Bool.and_assoc]
def pY:=HpC 414 F414<|HpA nr<|qU
theorem xJ (h:pY Pg) (m:bQ):K' Pg 414 [.agg (YS m)]=some (.bool (fO m)):=by
 obtain⟨h,aa,ab⟩:=h;have o:=fun n=>xQ (Pg:=Pg) ab n;have k1:=lG aa m.at_;have k2:=lG aa m.req.at_;have k3:=lG aa m.ans.at_;simp only[go_sem] at k1 k2 k3;have H:=o m.from_;have J:=o m.to;have M:=o m.shard;have N:=o m.epoch;have R:=o m.move;have U:=o m.lease;have f7:=o m.n;have f8:=o m.of_;have f9:=o m.req.client;have L:=o m.req.req;have Q:=o m.req.kind;have Z:=o m.req.limit;have ak:True=True:=rfl;rw[Pk];refine aA h rfl ?_;cases u:decide (m.kind<1) with
 |true=>simp only[F414,c414,go_sem,u,jd,GR,Gl]
 |false=>
 cases w:decide (37<m.kind) with
 |true=>simp only[F414,c414,go_sem,u,w,jd,GR,Gl,Gm]
 |false=>
 cases y:decide (m.ans.err<0) with
 |true=>simp only[F414,c414,go_sem,u,w,y,jd,GR,Gl,Gm]
 |false=>
 cases z:decide (16<m.ans.err) with
 |true=>simp only[F414,c414,go_sem,u,w,y,z,jd,GR,Gl,Gm]
 |false=>
 cases B:decide (8<(m.ans.items.length:Int)) with
 |true=>simp only[F414,c414,go_sem,u,w,y,z,Gf,B,jd,GR,Gl,Gm]
 |false=>
 cases D:decide (8<(m.places.length:Int)) with
 |true=>simp only[F414,c414,go_sem,u,w,y,z,B,Gf,D,jd,GR,Gl,Gm]
 |false=>
 cases E:decide (8<(m.mem.length:Int)) with
 |true=>simp only[F414,c414,go_sem,u,w,y,z,B,D,Gf,E,jd,GR,Gl,Gm]
 |false=>
 have hz:jd m=true:=by simp only[jd,u,w,y,z,B,D,E];rfl
 have aj:m.places.length<=8:=by have:=Ge D;omega
 have ai:m.mem.length<=8:=by have:=Ge E;omega
 rw[hz,GK];cases d1:Yz m.from_ with
 |false=>rw[d1] at H;simp only[F414,c414,go_sem,u,w,y,z,B,D,E,Gf,H,hK,d1,Gl]
 |true=>
 rw[d1] at H;cases d2:Yz m.to with
 |false=>rw[d2] at J;simp only[F414,c414,go_sem,u,w,y,z,B,D,E,Gf,H,J,hK,d2,Gl,Gm]
 |true=>
 rw[d2] at J;cases d3:Yz m.shard with
 |false=>rw[d3] at M;simp only[F414,c414,go_sem,u,w,y,z,B,D,E,Gf,H,J,M,hK,d3,Gl,Gm]
 |true=>
 rw[d3] at M;cases d4:Yz m.epoch with
 |false=>rw[d4] at N;simp only[F414,c414,go_sem,u,w,y,z,B,D,E,Gf,H,J,M,N,hK,d4,Gl,Gm]
 |true=>
 rw[d4] at N;cases d5:Yz m.move with
 |false=>rw[d5] at R;simp only[F414,c414,go_sem,u,w,y,z,B,D,E,Gf,H,J,M,N,R,hK,d5,Gl,Gm]
 |true=>
 rw[d5] at R;cases d6:Yz m.lease with
 |false=>rw[d6] at U;simp only[F414,c414,go_sem,u,w,y,z,B,D,E,Gf,H,J,M,N,R,U,hK,d6,Gl,Gm]
 |true=>
 rw[d6] at U;cases d7:Yz m.n with
 |false=>rw[d7] at f7;simp only[F414,c414,go_sem,u,w,y,z,B,D,E,Gf,H,J,M,N,R,U,f7,hK,d7,Gl,Gm]
 |true=>
 rw[d7] at f7;cases d8:Yz m.of_ with
 |false=>rw[d8] at f8;simp only[F414,c414,go_sem,u,w,y,z,B,D,E,Gf,H,J,M,N,R,U,f7,f8,hK,d8,Gl,Gm]
 |true=>
 rw[d8] at f8;cases d9:Yz m.req.client with
 |false=>rw[d9] at f9;simp only[F414,c414,go_sem,u,w,y,z,B,D,E,Gf,H,J,M,N,R,U,f7,f8,f9,hK,d9,Gl,Gm]
 |true=>
 rw[d9] at f9;cases W:Yz m.req.req with
 |false=>rw[W] at L;simp only[F414,c414,go_sem,u,w,y,z,B,D,E,Gf,H,J,M,N,R,U,f7,f8,f9,L,hK,W,Gl,Gm]
 |true=>
 rw[W] at L;cases X:Yz m.req.kind with
 |false=>rw[X] at Q;simp only[F414,c414,go_sem,u,w,y,z,B,D,E,Gf,H,J,M,N,R,U,f7,f8,f9,L,Q,hK,X,Gl,Gm]
 |true=>
 rw[X] at Q;cases Y:Yz m.req.limit with
 |false=>rw[Y] at Z;simp only[F414,c414,go_sem,u,w,y,z,B,D,E,Gf,H,J,M,N,R,U,f7,f8,f9,L,Q,Z,hK,Y,Gl,Gm]
 |true=>
 rw[Y] at Z;have hf:hK m=true:=by simp only[hK,d1,d2,d3,d4,d5,d6,d7,d8,d9,W,X,Y];rfl
 rw[hf,GK];simp only[F414,c414,go_sem,u,w,y,z,B,D,E,H,J,M,N,R,U,f7,f8,f9,L,Q,Z,Gf];unfold l414_0;refine bE (fun (i:Nat) S=>i<=m.places.length/\S.ρ 1=.lref 1 0/\S.μ 1=some (YS m,false)/\S.ρ 3=iz i/\(m.places.take i).all mU=true) (fun i=>m.places.length-i) 0 ?_ ?_
 ·simp[go_sem]
 ·intro i S ⟨hi,O,m1,s3,T⟩;have q:=m1;simp only[go_sem] at q;cases c1:decide ((i:Int)<(m.places.length:Int)) with
  |false=>
   have ae:i=m.places.length:=by have:=Ge c1;omega
   rw[ae,Gw] at T;rw[T,GK];simp only[go_sem,O,q,s3,c1,Gf];unfold l414_1;refine bE (fun (j:Nat) S=>j<=m.mem.length/\S.ρ 1=.lref 1 0/\S.μ 1=some (YS m,false)/\S.ρ 4=iz j/\(m.mem.take j).all Yz=true) (fun j=>m.mem.length-j) 0 ?_ ?_
   ·simp[go_sem,O,m1]
   ·intro j S ⟨hj,O,m1,s4,I⟩;have q:=m1;simp only[go_sem] at q;cases e1:decide ((j:Int)<(m.mem.length:Int)) with
    |false=>
     have af:j=m.mem.length:=by have:=Ge e1;omega
     rw[af,Gw] at I;rw[I,GK];cases P:Ya m.at_ with
     |false=>rw[P] at k1;simp only[go_sem,O,q,s4,e1,k1,Gf]
     |true=>
     rw[P] at k1;cases y2:Ya m.req.at_ with
     |false=>rw[y2] at k2;simp only[go_sem,O,q,s4,e1,k1,k2,Gf]
     |true=>
     rw[y2] at k2;simp only[go_sem,O,q,s4,e1,k1,k2,k3,Gf]
    |true=>
     have ag:=Yh e1;obtain⟨x,hx,-⟩:=bO ag;have ad:=inc64q (i:=j) (by omega)
     have kx:=o x;cases P:Yz x with
     |false=>
      rw[P] at kx;rw[mH hx P,Gl];simp only[go_sem,O,q,s4,e1,hx,kx,Gf]
     |true=>
      rw[P] at kx;simp only[go_sem,O,q,s4,e1,hx,kx,ad,Gf];exact⟨j+1,by omega,by omega,rfl,sY hx P I⟩
  |true=>
   have ah:=Yh c1;obtain⟨p,hp,-⟩:=bO ah;have ac:=inc64q (i:=i) (by omega)
   have p1:=o p.shard;have p2:=o p.cell;have p3:=o p.epoch;cases P:Yz p.shard with
   |false=>
    rw[P] at p1;rw[mH hp (by simp only[mU,P,Gl]),Gl];simp only[go_sem,O,q,s3,c1,hp,p1,Gf]
   |true=>
   rw[P] at p1;cases y2:Yz p.cell with
   |false=>
    rw[y2] at p2;rw[mH hp (by simp only[mU,y2,Gl,Gm]),Gl];simp only[go_sem,O,q,s3,c1,hp,p1,p2,Gf]
   |true=>
   rw[y2] at p2;cases y3:Yz p.epoch with
   |false=>
    rw[y3] at p3;rw[mH hp (by simp only[mU,y3,Gm]),Gl];simp only[go_sem,O,q,s3,c1,hp,p1,p2,p3,Gf]
   |true=>
    rw[y3] at p3;simp only[go_sem,O,q,s3,c1,hp,p1,p2,p3,ac,Gf];exact⟨i+1,by omega,by omega,rfl,sY hp (by simp only[mU,P,y2,y3,G0]) T⟩
def Rg.len {α:Type} {R:Rg α} {x:Rb}:(R.n x).s.length<=x.s.length:=R.le x.d
def Da {s t r:List UInt8} (h:bS s=some (t,r)):t.length<=s.length:=by
 rw[(CG.1 h).1,Gb];have:=sV (t:=t);omega
def O1 (D:Bool) (x:Rd):(gT D x).1.length<=x.1.length:=by
 cases D
 ·show (rd bS [] x).1.length<=_
  unfold rd;split
  ·rename_i h1 j;exact Da j
  ·exact Gy _
 ·show (cu bS [] x).1.length<=_
  unfold cu;split
  ·rename_i j;exact Da j
  ·exact Gy _
def NT {D:Bool} {x:Rb}:((uT D).v x).length<=x.s.length:=O1 D x.d
def vW (o:dB) (x:V):List V:=[iz o.cell,iz o.rep.id,iz o.rep.view,Yi o.rep.members,iz o.rep.n,.str o.rep.base,.str o.rep.text,Yi o.rep.acks,x]
def DX:List V:=[iz 0,iz 0,iz 0,.slice 1 [],iz 0,.str [],.str [],.slice 1 [],.slice 36 []]
structure TW (S:St) (y:Rb) (o:dB) (ms:List bQ):Prop where
 r0:S.ρ 0=.lref 0 0
 r4:S.ρ 4=.lref 4 0
 r5:S.ρ 5=.lref 5 0
 m0:S.μ 0=some (eR y,false)
 m4:S.μ 4=some (DX,false)
 m5:S.μ 5=some (vW o (aK 51 36 ms.length),false)
 a51:S.A 51=Y2 36 (ms.map YS) ms.length
def TW.head {S:St} {y:Rb} {o:dB} {ms:List bQ} (h:TW S y o ms):TW (S.head [] [] [6] []) y o ms:=
 ⟨aM h.r0 rfl,aM h.r4 rfl,aM h.r5 rfl,YD h.m0 rfl,YD h.m4 rfl,YD h.m5 rfl,(YA rfl).trans h.a51⟩
set_option maxHeartbeats 2000000
def Ps (J:lx Pg) (L:ly Pg) {y:Rb} {c:Nat} {o:dB} (hc:c<=2 ^ 29) (hy:y.s.length<=4194304) {S:St} {Q:Ex->St->Prop}
  (hS:TW S y o []) (P:S.ρ 27=iz c) (T:S.ρ 28=iz 0) (W:S.μ 6=none)
  (hq:∀S',TW S' (((g7 false).rep false c).n y) o (((g7 false).rep false c).v y)->Q .norm S'):Wp (K' Pg) l532_0 S (dU 0 Q):=by
 unfold l532_0
 refine bE (fun (i:Nat) S=>i<=c/\S.ρ 27=iz c/\S.ρ 28=iz i/\S.μ 6=none/\∃(vs:List bQ) (w:Rb),vs.length=i/\w.s.length<=4194304/\(((g7 false).rep false c).v y=vs++((g7 false).rep false (c-i)).v w/\((g7 false).rep false c).n y=((g7 false).rep false (c-i)).n w)/\TW S w o vs) (fun i=>c-i) 0 ?_ ?_
 ·exact⟨Gy _,aM P rfl,aM T rfl,ej (.inl W),[],y,rfl,hy,⟨rfl,rfl⟩,hS.head⟩
 ·intro i S ⟨hi,P,T,W,vs,w,B,hw,u,hS⟩
  obtain⟨E,X,H,m0,m4,m5,a51⟩:=hS
  cases I:decide ((i:Int)<(c:Int)) with
  |false=>
   have Z:i=c:=by have:=Ge I;omega
   subst Z
   obtain⟨e1,e2⟩:=oY u
   rw[e1,e2] at hq
   simp only[go_sem,P,T,I]
   exact hq _ ⟨by simp only[go_sem,E],by simp only[go_sem,X],by simp only[go_sem,H],m0,m4,m5,a51⟩
  |true=>
   have aa:=Yh I
   have q:=inc64q (i:=i) (by omega)
   have j:=dJ aa u
   have hR:(g7 false).v w=(kS ((uT false).v w)).getD Ai:=rfl
   have hN:(g7 false).n w=⟨((uT false).n w).s,((uT false).n w).no||(kS ((uT false).v w)).isNone,((uT false).n w).h⟩:=rfl
   rw[hR,hN] at j
   have k1:=nY J w
   have D:=yy L ((uT false).v w) (Gj NT hw)
   have hz:=Gj (Rg.len (R:=uT false) (x:=w)) hw
   generalize (uT false).v w=v1 at *
   generalize (uT false).n w=z1 at *
   obtain⟨ws,wb,wh⟩:=w
   obtain⟨U,Y,zh⟩:=z1
   have r1:∀S:St,S.μ 0=some ([.str ws,.bool wb],false)->kz (K' Pg) 20800 S 539 0 0 [.lref 0 0]=some (.str v1,⟨S.ρ,aE S.μ 0 (some ([.str U,.bool Y],false)),S.A⟩):=fun S hm=>aF (x:=(ws,wb)) (y:=(U,Y)) k1 hm
   simp only[eR] at m0
   have N:(vs.map YS).length=vs.length:=by simp
   have x5:=m5
   simp only[vW,go_sem] at x5
   simp only[kc] at *
   have p:∀e:bQ,(vs++[e]).length=vs.length+1:=fun e=>by simp
   cases O:kS v1 with
   |none=>
    have M:=fun S=>YZ (S:=S) (s:=51) (z:=36) (r:=kc) N (by unfold dj;omega)
    rw[O] at D j
    simp only[mT,kc] at D M
    cases Y <;>
    ·simp only[go_sem,E,H,P,T,I,m0,x5,W,a51,r1,D,YM,M,q]
     exact⟨i+1,by omega,by omega,rfl,vs++[Ai],⟨U,true,zh⟩,by rw[p,B],hz,j,TW.head ⟨by simp only[go_sem,E],by simp only[go_sem,X],by simp only[go_sem,H],by simp only[go_sem]<;>rfl,by simp only[go_sem,m4],by rw[p];simp only[go_sem]<;>rfl,by rw[p,GJ];simp only[go_sem]<;>rfl⟩⟩
   |some e=>
    have M:=fun S=>YZ (S:=S) (s:=51) (z:=36) (r:=YS e) N (by unfold dj;omega)
    rw[O] at D j
    simp only[mT] at D
    simp only[go_sem] at D M
    cases Y <;>
    ·simp only[go_sem,E,H,P,T,I,m0,x5,W,a51,r1,D,YM,M,q]
     first
      |exact⟨i+1,by omega,by omega,rfl,vs++[e],⟨U,false,zh⟩,by rw[p,B],hz,j,TW.head ⟨by simp only[go_sem,E],by simp only[go_sem,X],by simp only[go_sem,H],by simp only[go_sem]<;>rfl,by simp only[go_sem,m4],by rw[p];simp only[go_sem]<;>rfl,by rw[p,GJ];simp only[go_sem]<;>rfl⟩⟩
      |exact⟨i+1,by omega,by omega,rfl,vs++[e],⟨U,true,zh⟩,by rw[p,B],hz,j,TW.head ⟨by simp only[go_sem,E],by simp only[go_sem,X],by simp only[go_sem,H],by simp only[go_sem]<;>rfl,by simp only[go_sem,m4],by rw[p];simp only[go_sem]<;>rfl,by rw[p,GJ];simp only[go_sem]<;>rfl⟩⟩
def nJ:=HpR 532 F532 0<|HpA il<|HpA jO<|HpA lx<|HpA ry<|ly
theorem yD (h:nJ Pg) (id:Int) (x:Rb) (hx:x.s.length<=4194304):K' Pg 532 (.tuple (.lref 0 0::eR x)::[iz id])=some (.tuple [.agg (ed ((gh false id).v x)),.tuple (eR ((gh false id).n x))]):=by
 obtain⟨h,j,w,p,q,z⟩:=h;simp only[gh,Rg.map_v,Rg.map_n,Rg.pair_v,Rg.pair_n];have k1:=vh j x;have l1:=Gj (Rg.len (R:=uI false) (x:=x)) hx;generalize (uI false).v x=v1 at *
 generalize (uI false).n x=E at *
 have k2:=vh j E;have l2:=Gj (Rg.len (R:=uI false) (x:=E)) l1;generalize (uI false).v E=v2 at *
 generalize (uI false).n E=H at *
 have k3:=Db q H;have l3:=Gj (Rg.len (R:=jD false) (x:=H)) l2;generalize (jD false).v H=v3 at *
 generalize (jD false).n H=I at *
 have k4:=vh j I;have l4:=Gj (Rg.len (R:=uI false) (x:=I)) l3;generalize (uI false).v I=v4 at *
 generalize (uI false).n I=J at *
 have k5:=nY p J;have l5:=Gj (Rg.len (R:=uT false) (x:=J)) l4;generalize (uT false).v J=v5 at *
 generalize (uT false).n J=L at *
 have k6:=nY p L;have l6:=Gj (Rg.len (R:=uT false) (x:=L)) l5;generalize (uT false).v L=v6 at *
 generalize (uT false).n L=M at *
 have W:=Db q M;have l7:=Gj (Rg.len (R:=jD false) (x:=M)) l6;generalize (jD false).v M=v7 at *
 generalize (jD false).n M=u at *
 have U:=Rg.lst_v (D:=false) (R:=g7 false) (x:=u);rw[U.1,U.2];have hm:(uL false).v u<=2 ^ 29:=o0;have k8:=zi w u;have l8:=Gj (Rg.len (R:=uL false) (x:=u)) l7;generalize (uL false).v u=m at *
 generalize (uL false).n u=y at *
 generalize Q:((g7 false).rep false m).v y=pv;generalize P:((g7 false).rep false m).n y=z8;simp only[go_sem] at k3 W;refine sX [.cell 4 (some 9)] (aR:=[iz id]) (ws:=[.agg (ed _)]) h rfl rfl (od _) (od _) (zg _) fun S ⟨r0,r,O,m0,Z⟩=>?_;have T:=r 0;simp only[kD,Option.getD_some] at T;simp only[go_sem] at T;have n4:=m0 4 rfl;have n5:=m0 5 rfl;have n6:=m0 6 rfl;have a51:=Z 51;simp only[F532,c532,go_sem,eT,r0,T,O,n4,n5,k1,k2,k3,k4,k5,k6,W,k8];refine Ps p z (y:=y) (c:=m) (o:=⟨v1,⟨id,v2,v3,v4,v5,v6,v7⟩,[]⟩) hm l8 ⟨by simp only[go_sem,r0],by simp only[go_sem],by simp only[go_sem],by simp only[go_sem],by simp only[go_sem]<;>rfl,by simp only[go_sem]<;>rfl,by simp only[go_sem,a51]<;>rfl⟩ (by simp only[go_sem]) (by simp only[go_sem]) (by simp only[go_sem,n6]) fun S1 B=>?_;rw[Q,P] at B;obtain⟨t0,t4,t5,u0,X,Y,N⟩:=B;have hc:=Yv N (by simp);simp only[vW,go_sem] at Y;simp only[DX] at X;simp only[go_sem,eT,t0,t4,t5,u0,X,Y];exact⟨_,rfl,by simp only[go_sem,hc,vC]<;>rfl⟩
def oi:List V:=[iz 0,.slice 9 []]
structure TG (S:St) (y:Rb) (id:Int) (os:List dB):Prop where
 r2:S.ρ 2=.lref 2 0
 r4:S.ρ 4=.lref 8 0
 r5:S.ρ 5=.lref 5 0
 m8:S.μ 8=some (eR y,false)
 m2:S.μ 2=some (oi,false)
 m5:S.μ 5=some ([iz id,aK 23 9 os.length],false)
 jC:S.A 23=Y2 9 (os.map ed) os.length
set_option maxHeartbeats 2000000
def Pu (p:nJ Pg) {y:Rb} {c:Nat} {id:Int} (hc:c<=2 ^ 29) (Z:y.s.length<=4194304) {S:St} {Q:Ex->St->Prop}
  (hS:TG S y id []) (D:S.ρ 13=iz c) (E:S.ρ 14=iz 0)
  (T:∀S',TG S' (((gh false id).rep false c).n y) id (((gh false id).rep false c).v y)->Q .norm S'):Wp (K' Pg) l512_0 S (dU 0 Q):=by
 unfold l512_0
 refine bE (fun (i:Nat) S=>i<=c/\S.ρ 13=iz c/\S.ρ 14=iz i/\∃(vs:List dB) (w:Rb),vs.length=i/\w.s.length<=4194304/\(((gh false id).rep false c).v y=vs++((gh false id).rep false (c-i)).v w/\((gh false id).rep false c).n y=((gh false id).rep false (c-i)).n w)/\TG S w id vs) (fun i=>c-i) 0 ?_ ?_
 ·simp only[eS]
  exact⟨Gy _,D,E,[],y,rfl,Z,⟨rfl,rfl⟩,hS⟩
 ·intro i S ⟨hi,D,E,vs,w,L,hw,j,hS⟩
  obtain⟨W,M,N,m8,m2,m5,jC⟩:=hS
  cases B:decide ((i:Int)<(c:Int)) with
  |false=>
   have I:i=c:=by have:=Ge B;omega
   subst I
   obtain⟨X,Y⟩:=oY j
   rw[X,Y] at T
   simp only[go_sem,D,E,B]
   exact T _ ⟨by simp only[go_sem,W],by simp only[go_sem,M],by simp only[go_sem,N],m8,m2,m5,jC⟩
  |true=>
   have J:=Yh B
   have q:=inc64q (i:=i) (by omega)
   have u:=dJ J j
   have U:=yD p id w hw
   have hz:=Gj (Rg.len (R:=gh false id) (x:=w)) hw
   generalize (gh false id).v w=O at *
   generalize (gh false id).n w=z1 at *
   have H:(vs.map ed).length=vs.length:=by simp
   have P:=fun S=>YZ (S:=S) (s:=23) (z:=9) (r:=ed O) H (by unfold dj;omega)
   simp only[go_sem] at U P
   simp only[go_sem,eT,M,N,D,E,B,m8,m5,jC,U,YM,P,q,eS]
   have o:(vs++[O]).length=vs.length+1:=by simp
   exact⟨i+1,by omega,by omega,rfl,vs++[O],z1,by rw[o,L],hz,u,by simp only[go_sem,W],by simp only[go_sem,M],by simp only[go_sem,N],by simp only[go_sem],by simp only[go_sem,m2],by rw[o];simp only[go_sem]<;>rfl,by rw[o,GJ];simp only[go_sem]<;>rfl⟩
def oB (t:List UInt8):Option ek:=if (ti false (t,false)).2=([],false)/\eD (ti false (t,false)).1=true then some (ti false (t,false)).1 else none
def pe:Option ek->V
 |some s=>.tuple [.agg (YV s),iz 0]
 |none=>.tuple [.agg oi,iz 3]
def nd (D:Bool):Rg ek:=⟨ti D,tl.len⟩
theorem NS {D:Bool} {x:Rb}:(nd D).v x=⟨(uI D).v x,((gh D ((uI D).v x)).lst D).v ((uI D).n x)⟩:=rfl
theorem NR {D:Bool} {x:Rb}:(nd D).n x=((gh D ((uI D).v x)).lst D).n ((uI D).n x):=rfl
def rv:=HpC 512 F512<|HpA lh<|HpA il<|HpA jO<|nJ
theorem yr (h:rv Pg) (t:List UInt8) (X:t.length<=4194304) (W:∀s,ol s->ib s=t->lQ s/\i8 s):K' Pg 512 [.str t]=some (pe (oB t)):=by
 obtain⟨h,I,J,L,M⟩:=h;have ht:t.length<=2 ^ 29:=by omega
 generalize ho:oB t=o;have z:=Rg.whole_o (R:=nd false) (q:=eD) ht ho;clear ho;have U:((nd false).n ⟨t,false,ht⟩).no=false->((nd false).n ⟨t,false,ht⟩).s=[]->lQ ((nd false).v ⟨t,false,ht⟩)/\i8 ((nd false).v ⟨t,false,ht⟩):=fun h1 u=>
  have g:=Rg.good (R:=nd false) (tl (D:=false)) ht h1 u
  W _ g.2 g.1.symm
 have T:K' Pg 512 [.str t]=K' Pg 512 [.str (Rb.s ⟨t,false,ht⟩)]:=rfl;have Y:eR ⟨t,false,ht⟩=[.str t,.bool false]:=rfl;have Z:(⟨t,false,ht⟩:Rb).s.length<=4194304:=X;generalize hx:(⟨t,false,ht⟩:Rb)=x at *
 simp only[NS,NR] at U z;have k1:=vh J x;have l1:=Gj (Rg.len (R:=uI false) (x:=x)) Z;generalize (uI false).v x=id at *
 generalize (uI false).n x=B at *
 have hv:=Rg.lst_v (D:=false) (R:=gh false id) (x:=B);simp only[hv.1,hv.2] at U z;have hm:(uL false).v B<=2 ^ 29:=o0;have k2:=zi L B;have l2:=Gj (Rg.len (R:=uL false) (x:=B)) l1;generalize (uL false).v B=c at *
 generalize (uL false).n B=y at *
 generalize hp:((gh false id).rep false c).v y=p at *
 generalize hq:((gh false id).rep false c).n y=w at *
 rw[T];have aa:x.s=t:=by rw[<-hx]
 rw[aa];refine aA h rfl ?_;rw[Y] at k1;simp only[F512,c512,go_sem,eT,k1,k2];refine Pu M (y:=y) (c:=c) (id:=id) hm l2 ⟨by simp only[go_sem],by simp only[go_sem],by simp only[go_sem],by simp only[go_sem],by simp only[go_sem]<;>rfl,by simp only[go_sem]<;>rfl,rfl⟩ (by simp only[go_sem]) (by simp only[go_sem]) fun S1 hS=>?_;rw[hp,hq] at hS;obtain⟨Q,S,t5,u8,N,u5,jC⟩:=hS;have H:=Yv jC (by simp);obtain⟨zs,zb,zh⟩:=w;simp only[eR] at u8;simp only[oi] at N;cases zb with
 |true=>
  obtain rfl:o=none:=by
   rcases z with ⟨h1,-⟩|⟨-,u⟩
   ·have O:true=false:=h1;cases O
   ·exact u
  simp only[go_sem,Q,S,u8,N,pe,oi]
 |false=>
  cases E:decide (zs=[]) with
  |false=>
   obtain rfl:o=none:=by
    rcases z with ⟨-,h1,-⟩|⟨-,u⟩
    ·exact absurd h1 (Ge E)
    ·exact u
   simp only[go_sem,Q,S,u8,N,E,pe,oi]
  |true=>
   have hu:=Gk E;obtain⟨d1,d2⟩:=U rfl hu;have j:=sj I _ d1 d2;cases P:eD ⟨id,p⟩ with
   |false=>
    obtain rfl:o=none:=by
     rcases z with ⟨-,-,h1,-⟩|⟨-,u⟩
     ·rw[P] at h1;cases h1
     ·exact u
    rw[P] at j;simp only[go_sem] at j;simp only[go_sem,Q,S,t5,u8,N,u5,E,H,j,pe,oi]
   |true=>
    obtain rfl:o=some ⟨id,p⟩:=by
     rcases z with ⟨-,-,-,h1⟩|⟨u,-⟩
     ·exact h1
     ·have O:=u rfl hu;rw[P] at O;cases O
    rw[P] at j;simp only[go_sem] at j;simp only[go_sem,Q,S,t5,u8,N,u5,E,H,j,pe]
def yB (m:bQ):Prop:=mG m/\kF m/\(ey m).length<=2 ^ 30
def sG (id:Int) (o:dB):Prop:=oQ id o/\(o.rep.members.length<=2 ^ 40/\o.rep.acks.length<=2 ^ 40)/\(o.rep.base.length<=2 ^ 30/\o.rep.text.length<=2 ^ 30)/\∀m∈o.outs,yB m
set_option maxHeartbeats 2000000
def Pa (p:lv Pg) (q:lw Pg) {s:ek} {o:dB} {j:Nat} {g:List UInt8} (Y:∀e∈o.outs,yB e) (hb:g.length+(o.outs.flatMap dV).length<=2 ^ 50) {S:St} {Q:Ex->St->Prop}
  (y:S.ρ 1=.lref 1 0) (w:S.μ 1=some (YV s,false)) (z:S.ρ 3=.str g) (B:S.ρ 4=iz j) (I:S.ρ 5=.lref 5 0) (m5:S.μ 5=some (ed o,false)) (J:S.ρ 6=iz 0)
  (hq:∀S',S'.ρ 1=.lref 1 0->S'.μ 1=some (YV s,false)->S'.ρ 3=.str (g++o.outs.flatMap dV)->S'.ρ 4=iz j->Q .norm S'):Wp (K' Pg) l513_1 S (dU 2 Q):=by
 have ab:o.outs.length<=(o.outs.flatMap dV).length:=YE (P:=fun _=>True) (fun e _=>YO) (fun _ _=>Gs)
 unfold l513_1
 refine bE (fun (i:Nat) S=>i<=o.outs.length/\S.ρ 1=.lref 1 0/\S.μ 1=some (YV s,false)/\S.ρ 3=.str (g++(o.outs.take i).flatMap dV)/\S.ρ 4=iz j/\S.ρ 5=.lref 5 0/\S.μ 5=some (ed o,false)/\S.ρ 6=iz i) (fun i=>o.outs.length-i) 0 ?_ ?_
 ·simp only[eS]
  exact⟨Gy _,y,w,by rw[z];simp,B,I,m5,J⟩
 ·intro i S ⟨hi,y,w,z,B,I,m5,J⟩
  have O:=m5
  simp only[go_sem] at O
  cases D:decide ((i:Int)<(o.outs.length:Int)) with
  |false=>
   have M:i=o.outs.length:=by have:=Ge D;omega
   rw[M,Gw] at z
   simp only[go_sem,I,O,J,D,Gf]
   exact hq _ (by simp only[go_sem,y]) w (by simp only[go_sem,z]) (by simp only[go_sem,B])
  |true=>
   have N:=Yh D
   obtain⟨e,H,-⟩:=bO N
   have u:=inc64q (i:=i) (by omega)
   have E:=Y e (List.mem_of_getElem? H)
   have R:=yw q e E.1 E.2.1 (by have:=E.2.2;omega)
   have q2:=nT p (ey e) E.2.2
   have L:=YT (W:=dV) (l:=o.outs) (i:=i+1)
   rw[Y7 H,Gb] at L
   have Z:g++(o.outs.take (i+1)).flatMap dV=g++(o.outs.take i).flatMap dV++Yk (ey e):=by rw[Y7 H,Gr];rfl
   have aa:(g++(o.outs.take i).flatMap dV).length=g.length+((o.outs.take i).flatMap dV).length:=Gb
   have U:(dV e).length=(Yk (ey e)).length:=rfl
   generalize g++(o.outs.take i).flatMap dV=T at *
   generalize ey e=b at *
   have X:T.length+(Yk b).length<=4611686018427387904:=by omega
   simp only[go_sem] at R
   simp only[go_sem,z,I,O,J,D,H,R,q2,u,X,eS,Gf]
   refine⟨i+1,by omega,by omega,?_⟩
   and_intros
   all_goals first|rfl|exact y|exact w|exact B|exact m5|(rw[Z];done)|(simp only[y,w,B,m5,go_sem];done)
def Pb (p:jP Pg) (u:nK Pg) (q:lv Pg) (y:lw Pg) {s:ek} {g:List UInt8} (he:∀e∈s.owns,sG s.id e) (hb:g.length+(s.owns.flatMap dH).length<=2 ^ 50) {S:St} {Q:Ex->St->Prop}
  (B:S.ρ 1=.lref 1 0) (U:S.μ 1=some (YV s,false)) (D:S.ρ 3=.str g) (n5:S.μ 5=none) (E:S.ρ 4=iz 0)
  (hq:∀S',S'.ρ 3=.str (g++s.owns.flatMap dH)->Q .norm S'):Wp (K' Pg) l513_0 S (dU 0 Q):=by
 have ab:s.owns.length<=(s.owns.flatMap dH).length:=YE (P:=fun _=>True) (fun e _=>by have:=bH e.cell.toNat;simp only[dH,nB,Gb];omega) (fun _ _=>Gs)
 unfold l513_0
 refine bE (fun (i:Nat) S=>i<=s.owns.length/\S.ρ 1=.lref 1 0/\S.μ 1=some (YV s,false)/\S.ρ 3=.str (g++(s.owns.take i).flatMap dH)/\S.μ 5=none/\S.ρ 4=iz i) (fun i=>s.owns.length-i) 0 ?_ ?_
 ·exact⟨Gy _,aM B rfl,YD U rfl,aM (by rw[D];simp) rfl,ej (.inr rfl),aM E rfl⟩
 ·intro i S ⟨hi,B,U,D,n5,E⟩
  have J:=U
  simp only[go_sem] at J
  cases H:decide ((i:Int)<(s.owns.length:Int)) with
  |false=>
   have N:i=s.owns.length:=by have:=Ge H;omega
   rw[N,Gw] at D
   simp only[go_sem,B,J,E,H,Gf]
   exact hq _ (by simp only[go_sem,D])
  |true=>
   have O:=Yh H
   obtain⟨e,I,-⟩:=bO O
   have z:=inc64q (i:=i) (by omega)
   obtain⟨⟨⟨p1,p2,p3,p4,p5,p6,p7,p8⟩,-⟩,⟨L,x2⟩,⟨x3,x4⟩,T⟩:=he e (List.mem_of_getElem? I)
   have q0:=i6 p e.cell p1
   have q1:=i6 p e.rep.view p2
   have q2:=sC u e.rep.members p3.2 L
   have q3:=i6 p e.rep.n p4
   have q4:=nT q e.rep.base x3
   have q5:=nT q e.rep.text x4
   have q6:=sC u e.rep.acks p7.2 x2
   have q7:=j6 p e.outs.length p8.1
   have w:=YT (W:=dH) (l:=s.owns) (i:=i+1)
   rw[Y7 I,Gb] at w
   have M:g++(s.owns.take (i+1)).flatMap dH=g++(s.owns.take i).flatMap dH++dH e:=by rw[Y7 I,Gr]
   have aa:(g++(s.owns.take i).flatMap dH).length=g.length+((s.owns.take i).flatMap dH).length:=Gb
   generalize g++(s.owns.take i).flatMap dH=g1 at *
   have R:dH e=nB e.cell++nB e.rep.view++YC nB e.rep.members++nB e.rep.n++Yk e.rep.base++Yk e.rep.text++YC nB e.rep.acks++aC e.outs.length++e.outs.flatMap dV:=by simp only[dH,YC,Gr]
   rw[R] at w M
   generalize nB e.cell=b0 at *
   generalize nB e.rep.view=X at *
   generalize YC nB e.rep.members=Y at *
   generalize nB e.rep.n=Z at *
   generalize Yk e.rep.base=b4 at *
   generalize Yk e.rep.text=b5 at *
   generalize YC nB e.rep.acks=b6 at *
   generalize aC e.outs.length=b7 at *
   generalize hO:e.outs.flatMap dV=b8 at *
   simp only[Gb] at w
   have u8:g1.length+b0.length+X.length+Y.length+Z.length+b4.length+b5.length+b6.length+b7.length+b8.length<=2 ^ 50:=by omega
   have u7:=Nat.le_of_add_right_le u8
   have u6:=Nat.le_of_add_right_le u7
   have u5:=Nat.le_of_add_right_le u6
   have u4:=Nat.le_of_add_right_le u5
   have u3:=Nat.le_of_add_right_le u4
   have u2:=Nat.le_of_add_right_le u3
   have u1:=Nat.le_of_add_right_le u2
   have u0:=Nat.le_of_add_right_le u1
   have w0:=Gj u0 (show 2 ^ 50<=4611686018427387904 by decide)
   have w1:=Gj u1 (show 2 ^ 50<=4611686018427387904 by decide)
   have w2:=Gj u2 (show 2 ^ 50<=4611686018427387904 by decide)
   have w3:=Gj u3 (show 2 ^ 50<=4611686018427387904 by decide)
   have w4:=Gj u4 (show 2 ^ 50<=4611686018427387904 by decide)
   have w5:=Gj u5 (show 2 ^ 50<=4611686018427387904 by decide)
   have w6:=Gj u6 (show 2 ^ 50<=4611686018427387904 by decide)
   have w7:=Gj u7 (show 2 ^ 50<=4611686018427387904 by decide)
   have w8:=Gj u8 (show 2 ^ 50<=4611686018427387904 by decide)
   simp only[go_sem,B,J,D,E,n5,H,I,q0,q1,q2,q3,q4,q5,q6,q7,w0,w1,w2,w3,w4,w5,w6,w7,Gf]
   refine Pa q y (s:=s) (o:=e) (j:=i) (g:=g1++b0++X++Y++Z++b4++b5++b6++b7) T (by rw[hO];simp only[Gb];omega) (by simp only[go_sem,B]) (by simp only[go_sem,J]) (by simp only[go_sem,Gr]) (by simp only[go_sem,E]) (by simp only[go_sem]) (by simp only[go_sem]) (by simp only[go_sem]) fun S1 t1 y1 t3 t4=>?_
   rw[hO] at t3
   have L:=y1
   simp only[go_sem] at L
   simp only[go_sem,t1,L,t3,t4,z]
   refine⟨i+1,by omega,by omega,?_⟩
   and_intros
   all_goals first|rfl|(rw[M];simp only[Gr];done)|(rw[M];done)
def rx:=HpC 513 F513<|HpA jP<|HpA nK<|HpA lv<|lw
def yt (h:rx Pg) (s:ek) (z:ol s) (H:∀o∈s.owns,sG s.id o) (D:(ib s).length<=2 ^ 40):K' Pg 513 [.agg (YV s)]=some (.str (ib s)):=by
 obtain⟨h,j,p,q,u⟩:=h;have I:=i6 j s.id z.1;have J:=j6 j s.owns.length z.2.1;have w:ib s=nB s.id++aC s.owns.length++s.owns.flatMap dH:=by simp only[ib,YC,Gr]
 rw[w] at D ⊢;simp only[Gb] at D;generalize nB s.id=b0 at *
 generalize aC s.owns.length=y at *
 generalize B:s.owns.flatMap dH=N at *
 have L:b0.length+y.length<=4611686018427387904:=by omega
 refine aA h rfl ?_;simp only[F513,c513,go_sem,I,J,L,Gf];refine Pb j p q u (s:=s) (g:=b0++y) H (by rw[B];simp only[Gb];omega) (by simp only[go_sem]) (by simp only[go_sem]) (by simp only[go_sem]) (by simp only[go_sem]) (by simp only[go_sem]) fun M E=>?_;rw[B] at E;simp only[go_sem,E]
structure Ml (o:dB):Prop where
 mem:o.rep.members.length<=2 ^ 40
 acks:o.rep.acks.length<=2 ^ 40
 base:o.rep.base.length<=2 ^ 30
 text:o.rep.text.length<=2 ^ 30
 outs:o.outs.length<=2 ^ 40
 msg:∀m∈o.outs,kF m/\(ey m).length<=2 ^ 30
def zt (s:ek):Prop:=s.owns.length<=2 ^ 40/\∀o∈s.owns,Ml o
def M7 (o:dB):1<=(dH o).length:=by
 have:=Cq o.cell;simp only[dH,Gb];omega
theorem vk {id:Int}:∀{l:List dB} {p:Int} {o:dB},gO id p l=true->o∈l->∃q,eb id q o=true
 |x::l,p,o,h,ho=>by
  simp only[gO,Gg] at h;rcases GN.1 ho with rfl|ho
  ·exact⟨p,h.1⟩
  ·exact vk h.2 ho
def C8 {l:List Int} (h:cP l):∀n∈l,NV n:=fun n j=>by
 have:=h.2.1 n j;exact nv (by omega) (by omega)
def MH {s:ek} (h:eD s=true) (B:zt s):ol s/\∀o∈s.owns,sG s.id o:=by
 simp only[eD,Gg,mZ,Gn] at h;obtain⟨h1,J,L⟩:=h;obtain⟨M,D⟩:=B;have g:∀o∈s.owns,sG s.id o:=fun o w=>by
  obtain⟨q,y⟩:=vk h1 w;simp only[eb,bG,iH,lS,Gg,Gn,Gx,ei] at y;obtain⟨⟨-,⟨H,I⟩,ci,z,-,-⟩,-,p⟩:=y;obtain⟨E,r2,-,-,-,r3,r4,r5,r6⟩:=yJ z;have lo:=D o w;have j:∀m∈o.outs,yB m:=fun m hm=>⟨zf (p m hm).1 (lo.msg m hm).1,lo.msg m hm⟩;refine⟨⟨⟨nv (by omega) (by omega),nv r3 r4,⟨by have:=lo.mem;omega,C8 E⟩,nv r5 r6,by have:=lo.base;show _<_;omega,by have:=lo.text;show _<_;omega,⟨by have:=lo.acks;omega,C8 r2⟩,by have:=lo.outs;omega,fun m hm=>⟨by have:=(j m hm).2.2;show _<_;omega,(j m hm).1,(p m hm).1⟩⟩,?_⟩,⟨lo.mem,lo.acks⟩,⟨lo.base,lo.text⟩,j⟩;obtain⟨c,⟨i,v,m,n,b,t,a⟩,u⟩:=o;simp only at ci;subst ci
  rfl
 exact⟨⟨nv (by omega) (by omega),by omega,fun o w=>(g o w).1⟩,g⟩
structure TH (S:St) (t:List UInt8) (y:Rb) (id:Int) (M I:Nat) (os:List dB):Prop where
 r0:S.ρ 0=.str t
 r2:S.ρ 2=.lref 2 0
 r4:S.ρ 4=.lref 16 0
 r5:S.ρ 5=.lref 5 0
 r6:S.ρ 6=iz M
 r7:S.ρ 7=iz I
 m16:S.μ 16=some (eR y,false)
 m2:S.μ 2=some (oi,false)
 m5:S.μ 5=some ([iz id,aK 101 9 os.length],false)
 a101:S.A 101=Y2 9 (os.map ed) os.length
structure TI (S:St) (c:Nat) (o:dB) (ms:List bQ):Prop where
 r8:S.ρ 8=.lref 8 0
 r10:S.ρ 10=iz c
 m8:S.μ 8=some (vW o (aK 95 36 ms.length),false)
 a95:S.A 95=Y2 36 (ms.map YS) ms.length
def Oy {S:St} {v:Nat} {Wv Wa:List Nat} {id:Int} {s z n:Nat} (hm:S.μ v=some ([iz id,aK s z n],false)) (j:Wv.contains v=false) (h:Wa.contains s=false) :
  (S.head [] [] Wv Wa).μ v=some ([iz id,aK s z n],false):=by
 show (if Wv.contains v then none else (S.μ v).map _)=_
 rw[j,hm]
 simp only[Gv,GO,Option.map_some]
 have:([iz id,aK s z n]:List V).map (Jv Wa)=[iz id,aK s z n]:=by
  simp only[GB,GF,eY h]
  rfl
 rw[this]
 cases Wa.isEmpty<;>rfl
def TH.head {S:St} {t:List UInt8} {y:Rb} {id:Int} {M I:Nat} {os:List dB} {Wv Wa:List Nat} (h:TH S t y id M I os) (p:Wv.contains 2=false) (q:Wv.contains 5=false) (o:Wv.contains 16=false) (j:Wa.contains 101=false):TH (S.head [] [] Wv Wa) t y id M I os:=
 ⟨aM h.r0 rfl,aM h.r2 (by simp only[dR,p];rfl),aM h.r4 (by simp only[dR,o];rfl),aM h.r5 (by simp only[dR,q];rfl),aM h.r6 rfl,aM h.r7 rfl,fe h.m16 (od y) o,fe h.m2 rfl p,Oy h.m5 q j,(YA j).trans h.a101⟩
def TI.head {S:St} {c:Nat} {o:dB} {ms:List bQ} (h:TI S c o ms):TI (S.head [] [] [12] []) c o ms:=
 ⟨aM h.r8 rfl,aM h.r10 rfl,YD h.m8 rfl,(YA rfl).trans h.a95⟩
set_option maxHeartbeats 2000000
set_option maxHeartbeats 4000000
def ke (l:List dB):Nat->Int
 |0=>0
 |j+1=>match l[j]? with|some o=>o.cell|none=>0
def Do {l:List dB} {j:Nat} {o:dB} (h:l[j]?=some o):ke l (j+1)=o.cell:=by simp[ke,h]
def nx:=HpC 405 F405<|HpA p9<|HpA Ap<|HpA qI<|pY
theorem si (h:nx Pg) (s:ek) (hs:lQ s) (hk:∀o∈s.owns,K' Pg 425 [.str o.rep.base]=some (iw (fS o.rep.base))/\K' Pg 425 [.str o.rep.text]=some (iw (fS o.rep.text))):K' Pg 405 [.agg (YV s)]=some (.bool (eD s)):=by
 obtain⟨h,ax,am,ai,ah⟩:=h;obtain⟨hl,ho⟩:=hs;refine aA h rfl ?_;cases b1:decide (s.id<1) with
 |true=>
  have:eD s=false:=by simp only[eD,mZ,Gq (show ¬1<=s.id by have:=Gk b1;omega),Gl,Gm]
  simp only[F405,c405,go_sem,b1,this]
 |false=>
 cases b2:decide (3<s.id) with
 |true=>
  have:eD s=false:=by simp only[eD,mZ,Gq (show ¬s.id<=3 by have:=Gk b2;omega),Gm]
  simp only[F405,c405,go_sem,b1,b2,this]
 |false=>
 have ao:mZ s.id=true:=by
  have:=Ge b1;have:=Ge b2;simp only[mZ,Gg,Gn];omega
 have al:eD s=gO s.id 0 s.owns:=by simp only[eD,ao,G0]
 simp only[F405,c405,go_sem,b1,b2];unfold l405_0;refine bE (fun (i:Nat) S=>i<=s.owns.length/\S.ρ 1=.lref 1 0/\S.μ 1=some (YV s,false)/\S.ρ 3=iz i/\S.μ 4=none/\S.μ 5=none/\S.μ 7=none/\gO s.id (ke s.owns i) (s.owns.drop i)=gO s.id 0 s.owns) (fun i=>s.owns.length-i) 0 ?_ ?_
 ·refine⟨Gy _,?_⟩;simp[go_sem,ke]
 ·intro i S ⟨hi,D,m1,E,m4,m5,m7,hq⟩;have q:=m1;simp only[go_sem] at q;cases O:decide ((i:Int)<(s.owns.length:Int)) with
  |false=>
   have ap:i=s.owns.length:=by have:=Ge O;omega
   subst ap;simp only[GQ,gO] at hq;have hr:eD s=true:=by rw[al,<-hq]
   simp only[go_sem,D,q,E,O,hr,Gf]
  |true=>
   have au:=Yh O;obtain⟨o,Q,hd⟩:=bO au;have aj:=inc64q (i:=i) (by omega)
   obtain⟨o1,o2,o3⟩:=ho o (List.mem_of_getElem? Q);obtain⟨L,M⟩:=hk o (List.mem_of_getElem? Q);rw[hd,gO] at hq;have y:=L6 am o.rep o1.ok;have B:=xL ai o.rep o1;have bad:eb s.id (ke s.owns i) o=false->eD s=false:=fun hb=>by
    rw[hb,Gl] at hq;rw[al,<-hq]
   obtain⟨cb,af⟩:∃cb:List V,iw (fS o.rep.base)=.tuple [.agg cb,.bool (hU o.rep.base)]/\cb.length=5:=by
    unfold hU iw;cases fS o.rep.base<;>exact⟨_,rfl,rfl⟩
   obtain⟨ct,ag⟩:∃cb:List V,iw (fS o.rep.text)=.tuple [.agg cb,.bool (hU o.rep.text)]/\cb.length=5:=by
    unfold hU iw;cases fS o.rep.text<;>exact⟨_,rfl,rfl⟩
   obtain⟨af,u⟩:=af;obtain⟨ag,w⟩:=ag;rw[af] at L;rw[ag] at M;have W:∀{S:St} {s:Nat} {b:Bool},gx S s 0 cb (some ([.slice 17 [],.int .i64 0,.int .i64 0,.int .i64 0,.int .i64 0],false))=some ⟨S.ρ,aE S.μ s (some (cb,false)),S.A⟩:=by
    intro S s b;rw[xe];unfold J0;simp[u]
   have z:∀{S:St} {s:Nat} {b:Bool},gx S s 0 ct (some ([.slice 17 [],.int .i64 0,.int .i64 0,.int .i64 0,.int .i64 0],false))=some ⟨S.ρ,aE S.μ s (some (ct,false)),S.A⟩:=by
    intro S s b;rw[xe];unfold J0;simp[w]
   simp only[YB,Yi] at y B;cases P:decide (o.cell<1) with
   |true=>
    have:=bad (by simp only[eb,bG,lS,Gq (show ¬1<=o.cell by have:=Gk P;omega),Gl,Gm]);simp only[go_sem,D,q,E,m4,m5,m7,O,Q,L,M,W (b:=true),z (b:=true),u,w,this,P,Gf]
   |false=>
   cases U:decide (3<o.cell) with
   |true=>
    have:=bad (by simp only[eb,bG,lS,Gq (show ¬o.cell<=3 by have:=Gk U;omega),Gl,Gm]);simp only[go_sem,D,q,E,m4,m5,m7,O,Q,L,M,W (b:=true),z (b:=true),u,w,this,P,U,Gf]
   |false=>
   have ae:lS o.cell=true:=by
    have:=Ge P;have:=Ge U;simp only[lS,Gg,Gn];omega
   have outs:∀(S:St),(decide ((o.outs.length:Int)<=0)||Y4 o.rep)=true->bG s.id (ke s.owns i) o=true->S.ρ 1=.lref 1 0->S.μ 1=some ([iz s.id,.slice 9 (s.owns.map ed)],false)->S.ρ 3=iz i->S.ρ 4=.lref 4 0->S.μ 4=some (ed o,false)->S.ρ 9=iz 0->
     Wp (K' Pg) l405_1 S (dU 2 (dU 1 (fU (K' Pg) (.region false r405_17) (LQ (fun (i:Nat) S=>i<=s.owns.length/\S.ρ 1=.lref 1 0/\S.μ 1=some (YV s,false)/\S.ρ 3=iz i/\S.μ 4=none/\S.μ 5=none/\S.μ 7=none/\gO s.id (ke s.owns i) (s.owns.drop i)=gO s.id 0 s.owns) (fun i=>s.owns.length-i) i [] [] [4,5,7] [] (dU 0 (fU (K' Pg) (.seq (.region false r405_18) .ret) fun ex S=>(ex=.norm\/ex=.ret)/\mu F405 S=some (.bool (eD s)))))))):=by
    intro S T an D m1 E s4 m4 s9
    unfold l405_1
    refine bE (fun (j:Nat) S=>j<=o.outs.length/\S.ρ 1=.lref 1 0/\S.μ 1=some (YV s,false)/\S.ρ 3=iz i/\S.ρ 4=.lref 4 0/\S.μ 4=some (ed o,false)/\S.ρ 9=iz j/\(o.outs.take j).all (ei s.id)=true) (fun j=>o.outs.length-j) 0 ?_ ?_
    ·simp only[eS]
     exact⟨Gy _,D,m1,E,s4,m4,s9,rfl⟩
    ·intro j S ⟨hj,D,m1,E,s4,m4,s9,ab⟩
     have q:=m1
     have ad:=m4
     simp only[go_sem] at q ad
     cases e1:decide ((j:Int)<(o.outs.length:Int)) with
     |false=>
      have aq:j=o.outs.length:=by have:=Ge e1;omega
      rw[aq,Gw] at ab
      have av:eb s.id (ke s.owns i) o=true:=by simp only[eb,iH,an,T,ab];rfl
      rw[av,GK] at hq
      simp only[go_sem,D,q,E,s4,ad,s9,e1,aj,Gf]
      exact⟨i+1,by omega,by omega,rfl,by rw[Do Q];exact hq⟩
     |true=>
      have ar:=Yh e1
      obtain⟨x,hx,-⟩:=bO ar
      have ak:=inc64q (i:=j) (by omega)
      have R:=xJ ah x
      simp only[YS,YU,YF,Yi] at R
      cases f1:fO x with
      |false=>
       rw[f1] at R
       have:=bad (by simp only[eb,iH,mH hx (show ei s.id x=false by simp only[ei,f1,Gl]),Gm])
       simp only[go_sem,s4,ad,s9,e1,hx,R,this,Gf]
      |true=>
      rw[f1] at R
      cases f2:decide (x.from_=s.id) with
      |false=>
       have:=bad (by simp only[eb,iH,mH hx (show ei s.id x=false by simp only[ei,f2,Gm]),Gm])
       simp only[go_sem,D,q,s4,ad,s9,e1,hx,R,f2,this,Gf]
      |true=>
       simp only[go_sem,D,q,E,s4,ad,s9,e1,hx,R,f2,ak,Gf]
       exact⟨j+1,by omega,by omega,rfl,sY hx (by simp only[ei,f1,f2];rfl) ab⟩
   rcases G4 i with e0|e0
   ·have J:decide ((0:Int)<(i:Int))=false:=Gq (by omega);have aa:(!decide (o.cell<=ke s.owns i))=true:=by
     have:=Ge P;rw[e0]
     show (!decide (o.cell<=0))=true
     simp only[GI,GM];omega
    cases N:decide (o.rep.id=s.id) with
    |false=>
     have:=bad (by simp only[eb,bG,N,Gl,Gm]);simp only[go_sem,D,q,E,m4,m5,m7,O,Q,L,M,W (b:=true),z (b:=true),u,w,this,P,U,J,N,Gf]
    |true=>
    cases X:bU o.rep with
    |false=>
     have:=bad (by simp only[eb,bG,X,Gl,Gm]);rw[X] at y;simp only[go_sem,D,q,E,m4,m5,m7,O,Q,L,M,W (b:=true),z (b:=true),u,w,this,P,U,J,N,y,Gf]
    |true=>
    rw[X] at y;cases Y:hU o.rep.base with
    |false=>
     have:=bad (by simp only[eb,bG,Y,Gl,Gm]);rw[Y] at L;simp only[go_sem,D,q,E,m4,m5,m7,O,Q,L,M,W (b:=true),z (b:=true),u,w,this,P,U,J,N,y,Gf]
    |true=>
    rw[Y] at L;cases Z:hU o.rep.text with
    |false=>
     have:=bad (by simp only[eb,bG,Z,Gl,Gm]);rw[Z] at M;simp only[go_sem,D,q,E,m4,m5,m7,O,Q,L,M,W (b:=true),z (b:=true),u,w,this,P,U,J,N,y,Gf]
    |true=>
    rw[Z] at M;cases d8:decide (0<(o.outs.length:Int)) with
    |true=>
     cases d9:tj o.rep with
     |false=>
      have:=bad (by simp only[eb,iH,vx,d9,Gq (show ¬(o.outs.length:Int)<=0 by have:=Gk d8;omega),Gm,Bool.or_false,Gl]);rw[d9] at B;simp only[go_sem,D,q,E,m4,m5,m7,O,Q,L,M,W (b:=true),z (b:=true),u,w,this,P,U,J,N,y,d8,B,Gf]
     |true=>
      rw[d9] at B;have T:(decide ((o.outs.length:Int)<=0)||Y4 o.rep)=true:=by simp only[vx,X,d9,G0,Bool.or_true]
      simp only[go_sem,D,q,E,m4,m5,m7,O,Q,L,M,W (b:=true),z (b:=true),u,w,P,U,J,N,y,d8,B,Gf];exact outs _ T (by simp only[bG,aa,ae,N,X,Y,Z];rfl) (by simp only[go_sem,D]) (by simp only[go_sem,q]) (by simp only[go_sem,E]) (by simp only[go_sem]) (by simp only[go_sem]) (by simp only[go_sem])
    |false=>
     have T:(decide ((o.outs.length:Int)<=0)||Y4 o.rep)=true:=by rw[GC (show (o.outs.length:Int)<=0 by have:=Ge d8;omega)];rfl
     simp only[go_sem,D,q,E,m4,m5,m7,O,Q,L,M,W (b:=true),z (b:=true),u,w,P,U,J,N,y,d8,Gf];exact outs _ T (by simp only[bG,aa,ae,N,X,Y,Z];rfl) (by simp only[go_sem,D]) (by simp only[go_sem,q]) (by simp only[go_sem,E]) (by simp only[go_sem]) (by simp only[go_sem]) (by simp only[go_sem])
   ·obtain⟨p,hp,-⟩:=bO (l:=s.owns) (i:=i-1) (by omega);have H:decide ((0:Int)<(i:Int))=true:=GC (by omega);have I:IntKind.i64.wrap ((i:Int)-1)=((i-1:Nat):Int):=by rw[bI (by omega) (by omega)];omega
    have ac:ke s.owns i=p.cell:=by
     have:=Do hp;rwa [show i-1+1=i by omega] at this
    cases d3:decide (o.cell<=p.cell) with
    |true=>
     have:=bad (by simp only[eb,bG,ac,d3,GR,Gl]);simp only[go_sem,D,q,E,m4,m5,m7,O,Q,L,M,W (b:=true),z (b:=true),u,w,this,P,U,H,I,hp,d3,Gf]
    |false=>
     have aa:(!decide (o.cell<=ke s.owns i))=true:=by rw[ac,d3];rfl
     cases N:decide (o.rep.id=s.id) with
     |false=>
      have:=bad (by simp only[eb,bG,N,Gl,Gm]);simp only[go_sem,D,q,E,m4,m5,m7,O,Q,L,M,W (b:=true),z (b:=true),u,w,this,P,U,H,I,hp,d3,N,Gf]
     |true=>
     cases X:bU o.rep with
     |false=>
      have:=bad (by simp only[eb,bG,X,Gl,Gm]);rw[X] at y;simp only[go_sem,D,q,E,m4,m5,m7,O,Q,L,M,W (b:=true),z (b:=true),u,w,this,P,U,H,I,hp,d3,N,y,Gf]
     |true=>
     rw[X] at y;cases Y:hU o.rep.base with
     |false=>
      have:=bad (by simp only[eb,bG,Y,Gl,Gm]);rw[Y] at L;simp only[go_sem,D,q,E,m4,m5,m7,O,Q,L,M,W (b:=true),z (b:=true),u,w,this,P,U,H,I,hp,d3,N,y,Gf]
     |true=>
     rw[Y] at L;cases Z:hU o.rep.text with
     |false=>
      have:=bad (by simp only[eb,bG,Z,Gl,Gm]);rw[Z] at M;simp only[go_sem,D,q,E,m4,m5,m7,O,Q,L,M,W (b:=true),z (b:=true),u,w,this,P,U,H,I,hp,d3,N,y,Gf]
     |true=>
     rw[Z] at M;cases d8:decide (0<(o.outs.length:Int)) with
     |true=>
      cases d9:tj o.rep with
      |false=>
       have:=bad (by simp only[eb,iH,vx,d9,Gq (show ¬(o.outs.length:Int)<=0 by have:=Gk d8;omega),Gm,Bool.or_false,Gl]);rw[d9] at B;simp only[go_sem,D,q,E,m4,m5,m7,O,Q,L,M,W (b:=true),z (b:=true),u,w,this,P,U,H,I,hp,d3,N,y,d8,B,Gf]
      |true=>
       rw[d9] at B;have T:(decide ((o.outs.length:Int)<=0)||Y4 o.rep)=true:=by simp only[vx,X,d9,G0,Bool.or_true]
       simp only[go_sem,D,q,E,m4,m5,m7,O,Q,L,M,W (b:=true),z (b:=true),u,w,P,U,H,I,hp,d3,N,y,d8,B,Gf];exact outs _ T (by simp only[bG,aa,ae,N,X,Y,Z];rfl) (by simp only[go_sem,D]) (by simp only[go_sem,q]) (by simp only[go_sem,E]) (by simp only[go_sem]) (by simp only[go_sem]) (by simp only[go_sem])
     |false=>
      have T:(decide ((o.outs.length:Int)<=0)||Y4 o.rep)=true:=by rw[GC (show (o.outs.length:Int)<=0 by have:=Ge d8;omega)];rfl
      simp only[go_sem,D,q,E,m4,m5,m7,O,Q,L,M,W (b:=true),z (b:=true),u,w,P,U,H,I,hp,d3,N,y,d8,Gf];exact outs _ T (by simp only[bG,aa,ae,N,X,Y,Z];rfl) (by simp only[go_sem,D]) (by simp only[go_sem,q]) (by simp only[go_sem,E]) (by simp only[go_sem]) (by simp only[go_sem]) (by simp only[go_sem])
def xH (h:nx Pg) (s:ek) (p:lQ s) (ht:i8 s):K' Pg 405 [.agg (YV s)]=some (.bool (eD s)):=
 si h s p fun o j=>⟨sr h.2.1 _ (ht o j).1,sr h.2.1 _ (ht o j).2⟩
def wl:=HpZ 509 F398
def mP (h:nz Pg) (g:List UInt8) (l:List Int) (o:∀n∈l,0<=n/\n<2 ^ 63) (j:g.length+9*l.length<=2 ^ 29) :
  K' Pg 422 [.tuple [.lref 0 0,.tuple [.slice 1 (g.map cW)]],.slice 1 (l.map fun a=>[iz a])]=some (.tuple [.tuple [],.tuple [.tuple [.slice 1 ((g++Yc l).map cW)]]]):=mB h.1 h.2 g l o j
def mQ (h:li Pg) (g:List UInt8) (l:List (List UInt8)) (o:∀n∈l,n.length<=2 ^ 30) (j:g.length+(Yd l).length<=2 ^ 29) :
  K' Pg 457 [.tuple [.lref 0 0,.tuple [.slice 1 (g.map cW)]],.slice 1 (l.map fun t=>[.str t])]=some (.tuple [.tuple [],.tuple [.tuple [.slice 1 ((g++Yd l).map cW)]]]):=mC h.1 h.2 g l o j
def zu (h:pZ Pg) (g:List UInt8) (l:List aH) (o:∀n∈l,Ya n=true) (j:g.length+(Yf l).length<=2 ^ 29) :
  K' Pg 421 [.tuple [.lref 0 0,.tuple [.slice 1 (g.map cW)]],.slice 3 (l.map Yg)]=some (.tuple [.tuple [],.tuple [.tuple [.slice 1 ((g++Yf l).map cW)]]]):=so h.1 h.2 g l o j
def AI (p:List UInt8×List UInt8):Prop:=p.1.length<=2 ^ 30/\p.2.length<=2 ^ 30
set_option maxHeartbeats 1000000
def O2 (z:li Pg) {g:List UInt8} {es:List (List UInt8×List UInt8)} (he:∀e∈es,AI e) (hc:es.length<2 ^ 60) (hb:g.length+(es.flatMap du).length+2 ^ 25<=2 ^ 29) {S:St} {Q:Ex->St->Prop} {X:List V} (Z:X.all V.datC=true) {Y:List V} (hY:Y.all V.datC=true) (N:S.ρ 6=.lref 6 0) (m6:S.μ 6=some (Y,false))
  (H:S.ρ 1=.lref 1 0) (I:S.ρ 4=.lref 4 0) (M:S.μ 1=some (X,false)) (ph:S.μ 10=none) (L:Fr S.A 21500) (p:S.ρ 98=.slice 2 (es.map iG)) (o:S.ρ 99=iz es.length) (j:S.ρ 100=iz 0) {a:Nat} (ha:a<21500) (u:HW S 4 g a)
  (hq:∀S',S'.ρ 1=.lref 1 0->S'.ρ 4=.lref 4 0->S'.μ 1=some (X,false)->S'.ρ 6=.lref 6 0->S'.μ 6=some (Y,false)->S'.μ 10=none->Fr S'.A 21500->HW S' 4 (g++es.flatMap du) 10400->Q .norm S'):Wp (K' Pg) l529_0 S (dU 0 Q):=by
 unfold l529_0
 refine bE (fun (i:Nat) S=>i<=es.length/\S.ρ 1=.lref 1 0/\S.ρ 4=.lref 4 0/\S.μ 1=some (X,false)/\S.ρ 6=.lref 6 0/\S.μ 6=some (Y,false)/\S.μ 10=none/\Fr S.A 21500/\S.ρ 98=.slice 2 (es.map iG)/\S.ρ 99=iz es.length/\S.ρ 100=iz i/\HW S 4 (g++(es.take i).flatMap du) 10400/\S.μ 8=none/\S.A 21400=none) (fun i=>es.length-i) 0 ?_ ?_
 ·have R:=HW.head (Wv:=[8]) (Wa:=[21400]) (h1:=10400) u rfl rfl
  exact⟨Gy _,aM H rfl,aM I rfl,fe M Z rfl,aM N rfl,fe m6 hY rfl,ej (.inl ph),fun x y=>R.2.2 x (by omega) (by omega) (L x y),aM p rfl,aM o rfl,aM j rfl,by simpa using R.1,ej (.inr rfl),R.2.1 _ rfl⟩
 ·intro i S ⟨hi,H,I,M,N,m6,ph,L,p,o,j,u,nn,q⟩
  have hm:=u.m
  have hA:=u.a
  cases J:decide ((i:Int)<(es.length:Int)) with
  |false=>
   have T:i=es.length:=by have:=Ge J;omega
   rw[T,Gw] at u
   simp only[go_sem,o,j,J]
   exact hq _ (by simp only[go_sem,H]) (by simp only[go_sem,I]) M (by simp only[go_sem,N]) m6 ph L ⟨u.m,u.a⟩
  |true=>
   have U:=Yh J
   obtain⟨e,y,-⟩:=bO U
   have D:=inc64q (i:=i) (by omega)
   have hv:=he e (List.mem_of_getElem? y)
   have E:es.take (i+1)=es.take i++[e]:=by rw[GW,y];rfl
   have B:=YT (W:=du) (l:=es) (i:=i+1)
   have w:g++(es.take (i+1)).flatMap du=g++(es.take i).flatMap du++Yd [e.1,e.2]:=by rw[E];simp[du,sM,Yd,Yc,Yf,nB]
   rw[E,G7,Gb] at B
   simp only[GH,G1,GG,du,nB,<-sM,Gb] at B
   generalize hg:g++(es.take i).flatMap du=O at *
   have aa:O.length=g.length+((es.take i).flatMap du).length:=by rw[<-hg,Gb]
   have q1:=mQ z (O) [e.1,e.2] (Gp.2 ⟨hv.1,Gp.2 ⟨hv.2,fun _ h=>by cases h⟩⟩) (by simp only[Yd,Yc,Yf,GH,G1,GG,Gb,List.length_cons,List.length_nil];omega)
   simp only[GB,GF] at q1
   generalize Yd [e.1,e.2]=b1 at *
   simp only[go_sem,eT,H,I,p,o,j,J,y,hm,hA,nn,q,q1,D,Gf]
   have P:=fun {S:St} (h:HW S 4 (O++b1) 21400)=>HW.head (Wv:=[8]) (Wa:=[21400]) (h1:=10400) h rfl rfl
   refine⟨i+1,by omega,by omega,aM (by simp only[go_sem,H]) rfl,aM (by simp only[go_sem,I]) rfl,fe (by simp only[go_sem,M]) Z rfl,aM (by simp only[go_sem,N]) rfl,fe (by simp only[go_sem,m6]) hY rfl,ej (.inl (by simp only[go_sem,ph])),fun x y=>(P ⟨?_,?_⟩).2.2 x (by omega) (by omega) ((show Fr _ 21500 from by repeat' first|exact L|refine Fr.up ?_ (by omega)) x y),aM (by simp only[go_sem,p]) rfl,aM (by simp only[go_sem,o]) rfl,aM (by simp only[go_sem]) rfl,(P ⟨?_,?_⟩).1.out w.symm,ej (.inr rfl),(P ⟨?_,?_⟩).2.1 _ rfl⟩
   all_goals simp only[go_sem,Gb]
def Pw (B:nz Pg) (D:li Pg) {g:List UInt8} {es:List aT} (he:∀e∈es,va e) (hc:es.length<2 ^ 60) (hb:g.length+(es.flatMap dI).length+2 ^ 25<=2 ^ 29) {S:St} {Q:Ex->St->Prop} {X:List V} (hX:X.all V.datC=true)
  (L:S.ρ 1=.lref 1 0) (M:S.ρ 4=.lref 4 0) (U:S.μ 1=some (X,false))  (T:Fr S.A 22000) (o:S.ρ 124=.slice 5 (es.map gu)) (j:S.ρ 125=iz es.length) (p:S.ρ 126=iz 0) {a:Nat} (ha:a<22000) (w:HW S 4 g a)
  (hq:∀S',S'.ρ 1=.lref 1 0->S'.ρ 4=.lref 4 0->S'.μ 1=some (X,false)-> Fr S'.A 22000->HW S' 4 (g++es.flatMap dI) 10400->Q .norm S'):Wp (K' Pg) l529_1 S (dU 2 Q):=by
 unfold l529_1
 refine bE (fun (i:Nat) S=>i<=es.length/\S.ρ 1=.lref 1 0/\S.ρ 4=.lref 4 0/\S.μ 1=some (X,false)/\Fr S.A 22000/\S.ρ 124=.slice 5 (es.map gu)/\S.ρ 125=iz es.length/\S.ρ 126=iz i/\HW S 4 (g++(es.take i).flatMap dI) 10400/\S.μ 10=none/\S.A 21800=none/\S.A 21900=none) (fun i=>es.length-i) 0 ?_ ?_
 ·have R:=HW.head (Wv:=[10]) (Wa:=[21800,21900]) (h1:=10400) w rfl rfl
  exact⟨Gy _,aM L rfl,aM M rfl,fe U hX rfl,fun x z=>R.2.2 x (by omega) (by omega) (T x z),aM o rfl,aM j rfl,aM p rfl,by simpa using R.1,ej (.inr rfl),R.2.1 _ rfl,R.2.1 _ rfl⟩
 ·intro i S ⟨hi,L,M,U,T,o,j,p,w,nn,q,u⟩
  have hm:=w.m
  have hA:=w.a
  cases N:decide ((i:Int)<(es.length:Int)) with
  |false=>
   have Y:i=es.length:=by have:=Ge N;omega
   rw[Y,Gw] at w
   simp only[go_sem,j,p,N]
   exact hq _ (by simp only[go_sem,L]) (by simp only[go_sem,M]) U T ⟨w.m,w.a⟩
  |true=>
   have Z:=Yh N
   obtain⟨e,z,-⟩:=bO Z
   have H:=inc64q (i:=i) (by omega)
   have J:=he e (List.mem_of_getElem? z)
   have I:es.take (i+1)=es.take i++[e]:=by rw[GW,z];rfl
   have E:=YT (W:=dI) (l:=es) (i:=i+1)
   have y:g++(es.take (i+1)).flatMap dI=g++(es.take i).flatMap dI++Yd [e.span.lo,e.span.hi]++Yc [e.shard,e.cell,e.epoch]:=by rw[I];simp[dI,sM,Yd,Yc,Yf,nB]
   rw[I,G7,Gb] at E
   simp only[GH,G1,GG,dI,nB,<-sM,Gb] at E
   generalize hg:g++(es.take i).flatMap dI=O at *
   have aa:O.length=g.length+((es.take i).flatMap dI).length:=by rw[<-hg,Gb]
   have q1:=mQ D (O) [e.span.lo,e.span.hi] (Gp.2 ⟨J.2.1,Gp.2 ⟨J.2.2,fun _ h=>by cases h⟩⟩) (by simp only[Yd,Yc,Yf,GH,G1,GG,Gb,List.length_cons,List.length_nil];omega)
   have q2:=mP B (O++Yd [e.span.lo,e.span.hi]) [e.shard,e.cell,e.epoch] (Gp.2 ⟨Y3 J.1.1.2.2.1,Gp.2 ⟨Y3 J.1.1.2.2.2.1,Gp.2 ⟨Y3 J.1.1.2.2.2.2,fun _ h=>by cases h⟩⟩⟩) (by simp only[Yd,Yc,Yf,GH,G1,GG,Gb,List.length_cons,List.length_nil];omega)
   simp only[GB,GF] at q1 q2
   generalize Yd [e.span.lo,e.span.hi]=b1 at *
   generalize Yc [e.shard,e.cell,e.epoch]=b2 at *
   simp only[go_sem,eT,L,M,o,j,p,N,z,hm,hA,nn,q,u,q1,q2,H,Gf]
   have P:=fun {S:St} (h:HW S 4 (O++b1++b2) 21900)=>HW.head (Wv:=[10]) (Wa:=[21800,21900]) (h1:=10400) h rfl rfl
   refine⟨i+1,by omega,by omega,aM (by simp only[go_sem,L]) rfl,aM (by simp only[go_sem,M]) rfl,fe (by simp only[go_sem,U]) hX rfl,fun x z=>(P ⟨?_,?_⟩).2.2 x (by omega) (by omega) ((show Fr _ 22000 from by repeat' first|exact T|refine Fr.up ?_ (by omega)) x z),aM (by simp only[go_sem,o]) rfl,aM (by simp only[go_sem,j]) rfl,aM (by simp only[go_sem]) rfl,(P ⟨?_,?_⟩).1.out y.symm,ej (.inr rfl),(P ⟨?_,?_⟩).2.1 _ rfl,(P ⟨?_,?_⟩).2.1 _ rfl⟩
   all_goals simp only[go_sem,Gb]
def bt {t:List UInt8} (h:t.length<=2 ^ 24):t.length<=2 ^ 30:=by omega
def lu:=HpC 529 F529<|HpA jJ<|HpA pZ<|HpA nz<|HpA li<|nE
theorem yu (h:lu Pg) (m:bQ) (hm:lJ m) (q:kF m) (c1:fO m=true) (hb:(ey m).length<=2 ^ 23) :
  K' Pg 529 [.agg (YS m)]=some (.tuple [.str (ey m),iz 0]):=by
 obtain⟨h,aa,u,j,o,w⟩:=h
 have k1:=se aa m hm
 rw[c1] at k1
 simp only[go_sem] at k1
 obtain⟨⟨v1,v2,v3,v4,v5,v6,v7,v8,v9,bb,bn,bc,bd,be,bo,bp,bq,br,bf,bs,bg,bh,bi,bu,bv,bj,bw,bz,Q,R⟩,-⟩:=zf c1 q
 have ay:∀p∈m.places,va p:=fun p S=>⟨Q.2 p S,bt (q.places p S).1,bt (q.places p S).2⟩
 have ar:∀p∈m.ans.items,AI p:=fun p S=>⟨bt (q.items p S).1,bt (q.items p S).2⟩
 have ax:=R.2
 have bl:m.mem.length<=(Yc m.mem).length:=YE M6 ax
 have bk:m.ans.items.length<=(m.ans.items.flatMap du).length:=YE (P:=fun _=>True) (fun e _=>by have:=YO (t:=e.1);simp only[du,Gb];omega) (fun _ _=>Gs)
 have bm:m.places.length<=(m.places.flatMap dI).length:=YE Cw Q.2
 have aq:ey m=Yc [m.kind,m.from_,m.to,m.shard,m.epoch,m.move,m.lease,m.n,m.of_]++Yf [m.at_]++Yd [m.text]++Yc [m.req.client,m.req.req,m.req.kind]++Yd [m.req.key,m.req.value]++Yp m.req.had++Yd [m.req.old]++Yf [m.req.at_]++Yd [m.req.hi]++Yc [m.req.limit,m.ans.err]++Yf [m.ans.at_]++Yp m.ans.found++Yd [m.ans.val]++Yc [(m.ans.items.length:Int)]++m.ans.items.flatMap du++Yd [m.ans.next]++Yp m.ans.more++Yc [(m.places.length:Int)]++m.places.flatMap dI++Yc [(m.mem.length:Int)]++Yc m.mem:=by
  simp only[ey,YC,Yc,Yd,Yf,nB,GH,G1,GG,Int.toNat_natCast,Gr]
  rfl
 rw[aq] at hb ⊢
 simp only[Gb] at hb
 have ba:=hb
 have ak:=Nat.le_of_add_right_le ba
 have O:=Nat.le_of_add_right_le ak
 have a9:=Nat.le_of_add_right_le O
 have aj:=Nat.le_of_add_right_le a9
 have N:=Nat.le_of_add_right_le aj
 have ai:=Nat.le_of_add_right_le N
 have a8:=Nat.le_of_add_right_le ai
 have M:=Nat.le_of_add_right_le a8
 have a7:=Nat.le_of_add_right_le M
 have L:=Nat.le_of_add_right_le a7
 have u9:=Nat.le_of_add_right_le L
 have u8:=Nat.le_of_add_right_le u9
 have u7:=Nat.le_of_add_right_le u8
 have u6:=Nat.le_of_add_right_le u7
 have u5:=Nat.le_of_add_right_le u6
 have u4:=Nat.le_of_add_right_le u5
 have u3:=Nat.le_of_add_right_le u4
 have u2:=Nat.le_of_add_right_le u3
 have u1:=Nat.le_of_add_right_le u2
 have u0:=Nat.le_of_add_right_le u1
 have q0:=mP j ([]) [m.kind,m.from_,m.to,m.shard,m.epoch,m.move,m.lease,m.n,m.of_] (Gp.2 ⟨Y3 v1,Gp.2 ⟨Y3 v2,Gp.2 ⟨Y3 v3,Gp.2 ⟨Y3 v4,Gp.2 ⟨Y3 v5,Gp.2 ⟨Y3 v6,Gp.2 ⟨Y3 v7,Gp.2 ⟨Y3 v8,Gp.2 ⟨Y3 v9,fun _ h=>by cases h⟩⟩⟩⟩⟩⟩⟩⟩⟩) (show 0+9*9<=2 ^ 29 by decide)
 simp only[GB,GF,List.nil_append] at q0
 have q1:=zu u (Yc [m.kind,m.from_,m.to,m.shard,m.epoch,m.move,m.lease,m.n,m.of_]) [m.at_] (Gp.2 ⟨bb,fun _ h=>by cases h⟩) (by exact Gj u1 (by decide))
 simp only[GB,GF] at q1
 simp only[go_sem] at q1
 have q2:=mQ o (Yc [m.kind,m.from_,m.to,m.shard,m.epoch,m.move,m.lease,m.n,m.of_]++Yf [m.at_]) [m.text] (Gp.2 ⟨bt q.text,fun _ h=>by cases h⟩) (by simp only[Gb];exact Gj u2 (by decide))
 simp only[GB,GF] at q2
 have q3:=mP j (Yc [m.kind,m.from_,m.to,m.shard,m.epoch,m.move,m.lease,m.n,m.of_]++Yf [m.at_]++Yd [m.text]) [m.req.client,m.req.req,m.req.kind] (Gp.2 ⟨Y3 bc,Gp.2 ⟨Y3 bd,Gp.2 ⟨Y3 be,fun _ h=>by cases h⟩⟩⟩) (by simp only[Gb];exact Gj (Nat.add_le_add_right u2 (9*3)) (show 2 ^ 23+9*3<=2 ^ 29 by decide))
 simp only[GB,GF] at q3
 have q4:=mQ o (Yc [m.kind,m.from_,m.to,m.shard,m.epoch,m.move,m.lease,m.n,m.of_]++Yf [m.at_]++Yd [m.text]++Yc [m.req.client,m.req.req,m.req.kind]) [m.req.key,m.req.value] (Gp.2 ⟨bt q.key,Gp.2 ⟨bt q.value,fun _ h=>by cases h⟩⟩) (by simp only[Gb];exact Gj u4 (by decide))
 simp only[GB,GF] at q4
 have q5:=ze w (Yc [m.kind,m.from_,m.to,m.shard,m.epoch,m.move,m.lease,m.n,m.of_]++Yf [m.at_]++Yd [m.text]++Yc [m.req.client,m.req.req,m.req.kind]++Yd [m.req.key,m.req.value]) m.req.had (by simp only[Gb];exact Gj u4 (by decide))
 have q6:=mQ o (Yc [m.kind,m.from_,m.to,m.shard,m.epoch,m.move,m.lease,m.n,m.of_]++Yf [m.at_]++Yd [m.text]++Yc [m.req.client,m.req.req,m.req.kind]++Yd [m.req.key,m.req.value]++Yp m.req.had) [m.req.old] (Gp.2 ⟨bt q.old,fun _ h=>by cases h⟩) (by simp only[Gb];exact Gj u6 (by decide))
 simp only[GB,GF] at q6
 have q7:=zu u (Yc [m.kind,m.from_,m.to,m.shard,m.epoch,m.move,m.lease,m.n,m.of_]++Yf [m.at_]++Yd [m.text]++Yc [m.req.client,m.req.req,m.req.kind]++Yd [m.req.key,m.req.value]++Yp m.req.had++Yd [m.req.old]) [m.req.at_] (Gp.2 ⟨bf,fun _ h=>by cases h⟩) (by simp only[Gb];exact Gj u7 (by decide))
 simp only[GB,GF] at q7
 simp only[go_sem] at q7
 have q8:=mQ o (Yc [m.kind,m.from_,m.to,m.shard,m.epoch,m.move,m.lease,m.n,m.of_]++Yf [m.at_]++Yd [m.text]++Yc [m.req.client,m.req.req,m.req.kind]++Yd [m.req.key,m.req.value]++Yp m.req.had++Yd [m.req.old]++Yf [m.req.at_]) [m.req.hi] (Gp.2 ⟨bt q.hi,fun _ h=>by cases h⟩) (by simp only[Gb];exact Gj u8 (by decide))
 simp only[GB,GF] at q8
 have q9:=mP j (Yc [m.kind,m.from_,m.to,m.shard,m.epoch,m.move,m.lease,m.n,m.of_]++Yf [m.at_]++Yd [m.text]++Yc [m.req.client,m.req.req,m.req.kind]++Yd [m.req.key,m.req.value]++Yp m.req.had++Yd [m.req.old]++Yf [m.req.at_]++Yd [m.req.hi]) [m.req.limit,m.ans.err] (Gp.2 ⟨Y3 bg,Gp.2 ⟨Y3 bh,fun _ h=>by cases h⟩⟩) (by simp only[Gb];exact Gj (Nat.add_le_add_right u8 (9*2)) (show 2 ^ 23+9*2<=2 ^ 29 by decide))
 simp only[GB,GF] at q9
 have J:=zu u (Yc [m.kind,m.from_,m.to,m.shard,m.epoch,m.move,m.lease,m.n,m.of_]++Yf [m.at_]++Yd [m.text]++Yc [m.req.client,m.req.req,m.req.kind]++Yd [m.req.key,m.req.value]++Yp m.req.had++Yd [m.req.old]++Yf [m.req.at_]++Yd [m.req.hi]++Yc [m.req.limit,m.ans.err]) [m.ans.at_] (Gp.2 ⟨bi,fun _ h=>by cases h⟩) (by simp only[Gb];exact Gj L (by decide))
 simp only[GB,GF] at J
 simp only[go_sem] at J
 have az:=ze w (Yc [m.kind,m.from_,m.to,m.shard,m.epoch,m.move,m.lease,m.n,m.of_]++Yf [m.at_]++Yd [m.text]++Yc [m.req.client,m.req.req,m.req.kind]++Yd [m.req.key,m.req.value]++Yp m.req.had++Yd [m.req.old]++Yf [m.req.at_]++Yd [m.req.hi]++Yc [m.req.limit,m.ans.err]++Yf [m.ans.at_]) m.ans.found (by simp only[Gb];exact Gj L (by decide))
 have ad:=mQ o (Yc [m.kind,m.from_,m.to,m.shard,m.epoch,m.move,m.lease,m.n,m.of_]++Yf [m.at_]++Yd [m.text]++Yc [m.req.client,m.req.req,m.req.kind]++Yd [m.req.key,m.req.value]++Yp m.req.had++Yd [m.req.old]++Yf [m.req.at_]++Yd [m.req.hi]++Yc [m.req.limit,m.ans.err]++Yf [m.ans.at_]++Yp m.ans.found) [m.ans.val] (Gp.2 ⟨bt q.val,fun _ h=>by cases h⟩) (by simp only[Gb];exact Gj M (by decide))
 simp only[GB,GF] at ad
 have ae:=mP j (Yc [m.kind,m.from_,m.to,m.shard,m.epoch,m.move,m.lease,m.n,m.of_]++Yf [m.at_]++Yd [m.text]++Yc [m.req.client,m.req.req,m.req.kind]++Yd [m.req.key,m.req.value]++Yp m.req.had++Yd [m.req.old]++Yf [m.req.at_]++Yd [m.req.hi]++Yc [m.req.limit,m.ans.err]++Yf [m.ans.at_]++Yp m.ans.found++Yd [m.ans.val]) [(m.ans.items.length:Int)] (sP bj.1) (by simp only[Gb];exact Gj (Nat.add_le_add_right M (9*1)) (show 2 ^ 23+9*1<=2 ^ 29 by decide))
 simp only[GB,GF] at ae
 have af:=mQ o (Yc [m.kind,m.from_,m.to,m.shard,m.epoch,m.move,m.lease,m.n,m.of_]++Yf [m.at_]++Yd [m.text]++Yc [m.req.client,m.req.req,m.req.kind]++Yd [m.req.key,m.req.value]++Yp m.req.had++Yd [m.req.old]++Yf [m.req.at_]++Yd [m.req.hi]++Yc [m.req.limit,m.ans.err]++Yf [m.ans.at_]++Yp m.ans.found++Yd [m.ans.val]++Yc [(m.ans.items.length:Int)]++m.ans.items.flatMap du) [m.ans.next] (Gp.2 ⟨bt q.next,fun _ h=>by cases h⟩) (by simp only[Gb];exact Gj N (by decide))
 simp only[GB,GF] at af
 have a0:=ze w (Yc [m.kind,m.from_,m.to,m.shard,m.epoch,m.move,m.lease,m.n,m.of_]++Yf [m.at_]++Yd [m.text]++Yc [m.req.client,m.req.req,m.req.kind]++Yd [m.req.key,m.req.value]++Yp m.req.had++Yd [m.req.old]++Yf [m.req.at_]++Yd [m.req.hi]++Yc [m.req.limit,m.ans.err]++Yf [m.ans.at_]++Yp m.ans.found++Yd [m.ans.val]++Yc [(m.ans.items.length:Int)]++m.ans.items.flatMap du++Yd [m.ans.next]) m.ans.more (by simp only[Gb];exact Gj N (by decide))
 have ag:=mP j (Yc [m.kind,m.from_,m.to,m.shard,m.epoch,m.move,m.lease,m.n,m.of_]++Yf [m.at_]++Yd [m.text]++Yc [m.req.client,m.req.req,m.req.kind]++Yd [m.req.key,m.req.value]++Yp m.req.had++Yd [m.req.old]++Yf [m.req.at_]++Yd [m.req.hi]++Yc [m.req.limit,m.ans.err]++Yf [m.ans.at_]++Yp m.ans.found++Yd [m.ans.val]++Yc [(m.ans.items.length:Int)]++m.ans.items.flatMap du++Yd [m.ans.next]++Yp m.ans.more) [(m.places.length:Int)] (sP Q.1) (by simp only[Gb];exact Gj (Nat.add_le_add_right aj (9*1)) (show 2 ^ 23+9*1<=2 ^ 29 by decide))
 simp only[GB,GF] at ag
 have ah:=mP j (Yc [m.kind,m.from_,m.to,m.shard,m.epoch,m.move,m.lease,m.n,m.of_]++Yf [m.at_]++Yd [m.text]++Yc [m.req.client,m.req.req,m.req.kind]++Yd [m.req.key,m.req.value]++Yp m.req.had++Yd [m.req.old]++Yf [m.req.at_]++Yd [m.req.hi]++Yc [m.req.limit,m.ans.err]++Yf [m.ans.at_]++Yp m.ans.found++Yd [m.ans.val]++Yc [(m.ans.items.length:Int)]++m.ans.items.flatMap du++Yd [m.ans.next]++Yp m.ans.more++Yc [(m.places.length:Int)]++m.places.flatMap dI) [(m.mem.length:Int)] (sP R.1) (by simp only[Gb];exact Gj (Nat.add_le_add_right O (9*1)) (show 2 ^ 23+9*1<=2 ^ 29 by decide))
 simp only[GB,GF] at ah
 have a6:=mP j (Yc [m.kind,m.from_,m.to,m.shard,m.epoch,m.move,m.lease,m.n,m.of_]++Yf [m.at_]++Yd [m.text]++Yc [m.req.client,m.req.req,m.req.kind]++Yd [m.req.key,m.req.value]++Yp m.req.had++Yd [m.req.old]++Yf [m.req.at_]++Yd [m.req.hi]++Yc [m.req.limit,m.ans.err]++Yf [m.ans.at_]++Yp m.ans.found++Yd [m.ans.val]++Yc [(m.ans.items.length:Int)]++m.ans.items.flatMap du++Yd [m.ans.next]++Yp m.ans.more++Yc [(m.places.length:Int)]++m.places.flatMap dI++Yc [(m.mem.length:Int)]) m.mem (fun n hn=>Y3 (R.2 n hn)) (by simp only[Gb];exact Gj (Nat.add_le_add ak (Nat.mul_le_mul_left 9 hm.2.2)) (by decide))
 generalize Yc [m.kind,m.from_,m.to,m.shard,m.epoch,m.move,m.lease,m.n,m.of_]=b0 at *
 generalize Yf [m.at_]=b1 at *
 generalize Yd [m.text]=b2 at *
 generalize Yc [m.req.client,m.req.req,m.req.kind]=b3 at *
 generalize Yd [m.req.key,m.req.value]=b4 at *
 generalize Yp m.req.had=b5 at *
 generalize Yd [m.req.old]=b6 at *
 generalize Yf [m.req.at_]=b7 at *
 generalize Yd [m.req.hi]=b8 at *
 generalize Yc [m.req.limit,m.ans.err]=b9 at *
 generalize Yf [m.ans.at_]=z at *
 generalize Yp m.ans.found=B at *
 generalize Yd [m.ans.val]=D at *
 generalize Yc [(m.ans.items.length:Int)]=E at *
 generalize hI:m.ans.items.flatMap du=T at *
 generalize Yd [m.ans.next]=U at *
 generalize Yp m.ans.more=W at *
 generalize Yc [(m.places.length:Int)]=Z at *
 generalize hP:m.places.flatMap dI=al at *
 generalize Yc [(m.mem.length:Int)]=am at *
 generalize Yc m.mem=an at *
 refine aA h rfl ?_
 simp only[F529,c529,go_sem,eT,k1,q0,q1,q2,q3,q4,q5,q6,q7,q8,q9,J,az,ad,ae,Gf]
 refine O2 o (g:=b0++b1++b2++b3++b4++b5++b6++b7++b8++b9++z++B++D++E) (es:=m.ans.items) (X:=YS m) ar (Nat.lt_of_le_of_lt hm.1 (by decide)) (by rw[hI];simp only[Gb];exact Gj (Nat.add_le_add_right ai _) (by decide)) rfl (Y:=je m.ans) rfl (by simp only[go_sem]) (by simp only[go_sem]) (by simp only[go_sem]) (by simp only[go_sem]) (by simp only[go_sem]) (by simp only[go_sem]) (show Fr _ _ from by repeat' first|exact fun x hx=>rfl|refine Fr.up ?_ (by omega)) (by simp only[go_sem]) (by simp only[go_sem]) (by simp only[go_sem]) (a:=21300) (by omega) ⟨by simp only[go_sem,Gb],by simp only[go_sem]⟩ fun S1 t1 t4 y1 t6 y6 ph y H=>?_
 rw[hI] at H
 have au:=H.m
 have ao:=H.a
 have x1:=y1
 have x6:=y6
 simp only[go_sem] at x1 x6
 have a1:=y 21500 (by omega)
 have a2:=y 21600 (by omega)
 have a3:=y 21700 (by omega)
 simp only[go_sem,eT,t1,t4,t6,x1,x6,au,ao,a1,a2,a3,ph,af,a0,ag,Gf]
 refine Pw j o (g:=b0++b1++b2++b3++b4++b5++b6++b7++b8++b9++z++B++D++E++T++U++W++Z) (es:=m.places) (X:=YS m) ay (Nat.lt_of_le_of_lt hm.2.1 (by decide)) (by rw[hP];simp only[Gb];exact Gj (Nat.add_le_add_right O _) (by decide)) rfl (by simp only[go_sem,t1]) (by simp only[go_sem,t4]) (by simp only[go_sem,y1]) (show Fr _ _ from by repeat' first|exact fun x hx=>y x (by omega)|refine Fr.up ?_ (by omega)) (by simp only[go_sem]) (by simp only[go_sem]) (by simp only[go_sem]) (a:=21700) (by omega) ⟨by simp only[go_sem,Gb],by simp only[go_sem]⟩ fun S2 t1 t4 y1 ac I=>?_
 rw[hP] at I
 have av:=I.m
 have ap:=I.a
 have x1:=y1
 simp only[go_sem] at x1
 have a4:=ac 22000 (by omega)
 have a5:=ac 22100 (by omega)
 have ab:=uQ (b0++b1++b2++b3++b4++b5++b6++b7++b8++b9++z++B++D++E++T++U++W++Z++al++am++an)
 simp only[Cs] at ab
 simp only[go_sem,eT,t1,t4,x1,av,ap,a4,a5,ah,a6,ab,Gf]
def Cc (m:bQ):Prop:=lJ m/\kF m/\fO m=true/\(ey m).length<=2 ^ 23
def uZ (id:Int) (o:dB):Prop:=oQ id o/\(o.rep.members.length<=8/\o.rep.acks.length<=8)/\(o.rep.base.length<=2 ^ 30/\o.rep.text.length<=2 ^ 30)/\∀m∈o.outs,Cc m
set_option maxHeartbeats 2000000
def OJ (H:lp Pg) (I:lu Pg) {g:List UInt8} {es:List bQ} (he:∀e∈es,Cc e) (hc:es.length<2 ^ 60) (hb:g.length+(es.flatMap dV).length+2 ^ 25<=2 ^ 29) {S:St} {Q:Ex->St->Prop} {X:List V} (hX:X.all V.datC=true) {os:List dB} {j:Nat}
  (N:S.ρ 1=.lref 1 0) (O:S.ρ 4=.lref 4 0) (T:S.μ 1=some (X,false)) (p:S.ρ 22=.slice 9 (os.map ed)) (q:S.ρ 23=iz os.length) (u:S.ρ 24=iz j) (n8:S.μ 8=none) (R:Fr S.A 20700) (w:S.ρ 62=.slice 36 (es.map YS)) (o:S.ρ 63=iz es.length) (y:S.ρ 64=iz 0) {a:Nat} (ha:a<20700) (B:HW S 4 g a)
  (hq:∀S',S'.ρ 1=.lref 1 0->S'.ρ 4=.lref 4 0->S'.μ 1=some (X,false)->S'.ρ 22=.slice 9 (os.map ed)->S'.ρ 23=iz os.length->S'.ρ 24=iz j->Fr S'.A 20701->HW S' 4 (g++es.flatMap dV) 10400->Q .norm S'):Wp (K' Pg) l511_1 S (dU 2 Q):=by
 unfold l511_1
 refine bE (fun (i:Nat) S=>i<=es.length/\S.ρ 1=.lref 1 0/\S.ρ 4=.lref 4 0/\S.μ 1=some (X,false)/\S.ρ 22=.slice 9 (os.map ed)/\S.ρ 23=iz os.length/\S.ρ 24=iz j/\Fr S.A 20701/\S.ρ 62=.slice 36 (es.map YS)/\S.ρ 63=iz es.length/\S.ρ 64=iz i/\HW S 4 (g++(es.take i).flatMap dV) 10400/\S.μ 8=none/\S.A 20700=none) (fun i=>es.length-i) 0 ?_ ?_
 ·have Z:=HW.head (Wv:=[8]) (Wa:=[20700]) (h1:=10400) B rfl rfl
  exact⟨Gy _,aM N rfl,aM O rfl,fe T hX rfl,aM p rfl,aM q rfl,aM u rfl,fun x E=>Z.2.2 x (by omega) (by omega) (R x (by omega)),aM w rfl,aM o rfl,aM y rfl,by simpa using Z.1,ej (.inr rfl),Z.2.1 _ rfl⟩
 ·intro i S ⟨hi,N,O,T,p,q,u,R,w,o,y,B,nn,z⟩
  have hm:=B.m
  have hA:=B.a
  cases P:decide ((i:Int)<(es.length:Int)) with
  |false=>
   have aa:i=es.length:=by have:=Ge P;omega
   rw[aa,Gw] at B
   simp only[go_sem,o,y,P]
   exact hq _ (by simp only[go_sem,N]) (by simp only[go_sem,O]) T (by simp only[go_sem,p]) (by simp only[go_sem,q]) (by simp only[go_sem,u]) R ⟨B.m,B.a⟩
  |true=>
   have ab:=Yh P
   obtain⟨e,E,-⟩:=bO ab
   have L:=inc64q (i:=i) (by omega)
   obtain⟨e1,e2,e3,e4⟩:=he e (List.mem_of_getElem? E)
   have M:es.take (i+1)=es.take i++[e]:=by rw[GW,E];rfl
   have J:=YT (W:=dV) (l:=es) (i:=i+1)
   have D:g++(es.take (i+1)).flatMap dV=g++(es.take i).flatMap dV++Yd [ey e]:=by rw[M];simp[dV,Yd]
   rw[M,G7,Gb] at J
   simp only[GH,G1,GG,dV] at J
   generalize hg:g++(es.take i).flatMap dV=U at *
   have ac:U.length=g.length+((es.take i).flatMap dV).length:=by rw[<-hg,Gb]
   have q1:=yu I e e1 e2 e3 e4
   have q2:=CY H U [ey e] (Gp.2 ⟨by omega,fun _ h=>by cases h⟩) (by simp only[Yd,GH,G1,GG];omega)
   simp only[GB,GF] at q2
   simp only[go_sem] at q1
   generalize Yd [ey e]=b1 at *
   simp only[go_sem,eT,N,O,w,o,y,P,E,hm,hA,nn,z,q1,q2,L,Gf]
   have Y:=fun {S:St} (h:HW S 4 (U++b1) 20700)=>HW.head (Wv:=[8]) (Wa:=[20700]) (h1:=10400) h rfl rfl
   refine⟨i+1,by omega,by omega,aM (by simp only[go_sem,N]) rfl,aM (by simp only[go_sem,O]) rfl,fe (by simp only[go_sem,T]) hX rfl,aM (by simp only[go_sem,p]) rfl,aM (by simp only[go_sem,q]) rfl,aM (by simp only[go_sem,u]) rfl,fun x E=>(Y ⟨?_,?_⟩).2.2 x (by omega) (by omega) ((show Fr _ 20701 from by repeat' first|exact R|refine Fr.up ?_ (by omega)) x E),aM (by simp only[go_sem,w]) rfl,aM (by simp only[go_sem,o]) rfl,aM (by simp only[go_sem]) rfl,(Y ⟨?_,?_⟩).1.out D.symm,ej (.inr rfl),(Y ⟨?_,?_⟩).2.1 _ rfl⟩
   all_goals simp only[go_sem,Gb]
set_option maxHeartbeats 4000000
def Pt (o:lm Pg) (M:nI Pg) (N:lp Pg) (U:lu Pg) {id:Int} {g:List UInt8} {es:List dB} (he:∀e∈es,uZ id e) (hc:es.length<2 ^ 60) (hb:g.length+(es.flatMap dH).length+2 ^ 26<=2 ^ 29) {S:St} {Q:Ex->St->Prop} {X:List V} (hX:X.all V.datC=true)
  (s1:S.ρ 1=.lref 1 0) (s4:S.ρ 4=.lref 4 0) (m1:S.μ 1=some (X,false)) (hn:Fr S.A 20701) (z:S.ρ 22=.slice 9 (es.map ed)) (p:S.ρ 23=iz es.length) (q:S.ρ 24=iz 0) {a:Nat} (ha:a<20100) (O:HW S 4 g a)
  (hq:∀S',S'.ρ 4=.lref 4 0->HW S' 4 (g++es.flatMap dH) 10400->Q .norm S'):Wp (K' Pg) l511_0 S (dU 0 Q):=by
 unfold l511_0
 refine bE (fun (i:Nat) S=>i<=es.length/\S.ρ 1=.lref 1 0/\S.ρ 4=.lref 4 0/\S.μ 1=some (X,false)/\Fr S.A 20700/\S.ρ 22=.slice 9 (es.map ed)/\S.ρ 23=iz es.length/\S.ρ 24=iz i/\HW S 4 (g++(es.take i).flatMap dH) 10400/\S.μ 6=none/\S.μ 8=none/\S.A 20100=none/\S.A 20200=none/\S.A 20300=none/\S.A 20400=none/\S.A 20500=none/\S.A 20600=none/\S.A 20700=none) (fun i=>es.length-i) 0 ?_ ?_
 ·have y:=HW.head (Wv:=[6,8]) (Wa:=[20100,20200,20300,20400,20500,20600,20700]) (h1:=10400) O rfl rfl
  exact⟨Gy _,aM s1 rfl,aM s4 rfl,fe m1 hX rfl,fun x hx=>by
   by_cases h:x=20700
   ·subst h;exact y.2.1 _ rfl
   ·exact y.2.2 x (by omega) (by omega) (hn x (by omega)),aM z rfl,aM p rfl,aM q rfl,by simpa using y.1,ej (.inr rfl),ej (.inr rfl),y.2.1 _ rfl,y.2.1 _ rfl,y.2.1 _ rfl,y.2.1 _ rfl,y.2.1 _ rfl,y.2.1 _ rfl,y.2.1 _ rfl⟩
 ·intro i S ⟨hi,s1,s4,m1,hn,z,p,q,O,n6,n8,B,D,E,H,I,J,L⟩
  have hm:=O.m
  have hA:=O.a
  cases c1:decide ((i:Int)<(es.length:Int)) with
  |false=>
   have ad:i=es.length:=by have:=Ge c1;omega
   rw[ad,Gw] at O
   simp only[go_sem,p,q,c1]
   exact hq _ (by simp only[go_sem,s4]) ⟨O.m,O.a⟩
  |true=>
   have ae:=Yh c1
   obtain⟨e,hx,-⟩:=bO ae
   have Z:=inc64q (i:=i) (by omega)
   obtain⟨⟨⟨p1,p2,p3,p4,p5,p6,p7,p8⟩,-⟩,⟨x1,x2⟩,⟨x3,x4⟩,ag⟩:=he e (List.mem_of_getElem? hx)
   have ab:es.take (i+1)=es.take i++[e]:=by rw[GW,hx];rfl
   have Y:=YT (W:=dH) (l:=es) (i:=i+1)
   have aa:dH e=Yc [e.cell,e.rep.view]++Y6 e.rep.members++Yc [e.rep.n]++Yd [e.rep.base,e.rep.text]++Y6 e.rep.acks++Yc [(e.outs.length:Int)]++e.outs.flatMap dV:=by simp only[dH,sM,YC,Yc,Yd,nB,GH,G1,GG,Int.toNat_natCast,Gr]
   have T:g++(es.take (i+1)).flatMap dH=g++(es.take i).flatMap dH++(Yc [e.cell,e.rep.view]++Y6 e.rep.members++Yc [e.rep.n]++Yd [e.rep.base,e.rep.text]++Y6 e.rep.acks++Yc [(e.outs.length:Int)]++e.outs.flatMap dV):=by rw[ab,<-aa];simp
   rw[ab,G7,Gb] at Y
   simp only[GH,G1,GG,aa,Gb] at Y
   generalize hg:g++(es.take i).flatMap dH=u at *
   have ak:u.length=g.length+((es.take i).flatMap dH).length:=by rw[<-hg,Gb]
   have u6:u.length+(Yc [e.cell,e.rep.view]).length+(Y6 e.rep.members).length+(Yc [e.rep.n]).length+(Yd [e.rep.base,e.rep.text]).length+(Y6 e.rep.acks).length+(Yc [(e.outs.length:Int)]).length+(e.outs.flatMap dV).length<=2 ^ 28+2 ^ 27+2 ^ 26:=by omega
   have u5:=Nat.le_of_add_right_le u6
   have u4:=Nat.le_of_add_right_le u5
   have u3:=Nat.le_of_add_right_le u4
   have u2:=Nat.le_of_add_right_le u3
   have u1:=Nat.le_of_add_right_le u2
   have u0:=Nat.le_of_add_right_le u1
   have ug:=Nat.le_of_add_right_le u0
   have q0:=oU o (u) [e.cell,e.rep.view] (Gp.2 ⟨Y3 p1,Gp.2 ⟨Y3 p2,fun _ h=>by cases h⟩⟩) (by simp only[Gb,List.length_cons,List.length_nil];omega)
   have q1:=CN M (u++Yc [e.cell,e.rep.view]) e.rep.members p3.2 (by simp only[Gb,List.length_cons,List.length_nil];omega)
   have q2:=oU o (u++Yc [e.cell,e.rep.view]++Y6 e.rep.members) [e.rep.n] (Gp.2 ⟨Y3 p4,fun _ h=>by cases h⟩) (by simp only[Gb,List.length_cons,List.length_nil];omega)
   have q3:=CY N (u++Yc [e.cell,e.rep.view]++Y6 e.rep.members++Yc [e.rep.n]) [e.rep.base,e.rep.text] (Gp.2 ⟨x3,Gp.2 ⟨x4,fun _ h=>by cases h⟩⟩) (by simp only[Gb];exact Gj u3 (by decide))
   have q4:=CN M (u++Yc [e.cell,e.rep.view]++Y6 e.rep.members++Yc [e.rep.n]++Yd [e.rep.base,e.rep.text]) e.rep.acks p7.2 (by simp only[Gb,List.length_cons,List.length_nil];omega)
   have q5:=oU o (u++Yc [e.cell,e.rep.view]++Y6 e.rep.members++Yc [e.rep.n]++Yd [e.rep.base,e.rep.text]++Y6 e.rep.acks) [(e.outs.length:Int)] (sP p8.1) (by simp only[Gb,List.length_cons,List.length_nil];omega)
   simp only[GB,GF] at q0 q2 q3 q5
   have al:e.outs.length<=(e.outs.flatMap dV).length:=YE (P:=fun _=>True) (fun e _=>YO) (fun _ _=>Gs)
   generalize Yc [e.cell,e.rep.view]=b0 at *
   generalize Y6 e.rep.members=b1 at *
   generalize Yc [e.rep.n]=b2 at *
   generalize Yd [e.rep.base,e.rep.text]=b3 at *
   generalize Y6 e.rep.acks=b4 at *
   generalize Yc [(e.outs.length:Int)]=b5 at *
   generalize hO:e.outs.flatMap dV=b6 at *
   simp only[go_sem,eT,s1,s4,z,p,q,c1,hx,hm,hA,n6,n8,B,D,E,H,I,J,L,q0,q1,q2,q3,q4,q5,Gf]
   refine OJ N U (g:=u++b0++b1++b2++b3++b4++b5) (es:=e.outs) (X:=X) (os:=es) (j:=i) ag (by omega) (by rw[hO];simp only[Gb];omega) hX (by simp only[go_sem,s1]) (by simp only[go_sem,s4]) (by simp only[go_sem,m1]) (by simp only[go_sem,z]) (by simp only[go_sem,p]) (by simp only[go_sem,q]) (by simp only[go_sem,n8]) (show Fr _ 20700 from by repeat' first|exact hn|refine Fr.up ?_ (by omega)) (by simp only[go_sem]) (by simp only[go_sem]) (by simp only[go_sem]) (a:=20600) (by omega) ⟨by simp only[go_sem,Gb],by simp only[go_sem]⟩ fun S1 t1 t4 y1 ah ai aj af R=>?_
   rw[hO] at R
   simp only[go_sem,aj,Z]
   have ac:HW ⟨aE S1.ρ 24 (V.int .i64 ((i+1:Nat):Int)),S1.μ,S1.A⟩ 4 (u++b0++b1++b2++b3++b4++b5++b6) 10400:=⟨R.m,R.a⟩
   have w:=HW.head (Wv:=[6,8]) (Wa:=[20100,20200,20300,20400,20500,20600,20700]) (h1:=10400) ac rfl rfl
   refine⟨i+1,by omega,by omega,aM (by simp only[go_sem,t1]) rfl,aM (by simp only[go_sem,t4]) rfl,fe (by simp only[go_sem,y1]) hX rfl,fun x hx=>by
    by_cases h:x=20700
    ·subst h;exact w.2.1 _ rfl
    ·exact w.2.2 x (by omega) (by omega) (af x (by omega)),aM (by simp only[go_sem,ah]) rfl,aM (by simp only[go_sem,ai]) rfl,aM (by simp only[go_sem]) rfl,w.1.out (by rw[T];simp only[Gr]),ej (.inr rfl),ej (.inr rfl),w.2.1 _ rfl,w.2.1 _ rfl,w.2.1 _ rfl,w.2.1 _ rfl,w.2.1 _ rfl,w.2.1 _ rfl,w.2.1 _ rfl⟩
def ru:=HpC 511 F511<|HpA lh<|HpA lm<|HpA nI<|HpA lp<|lu
def yq (h:ru Pg) (s:ek) (h1:lQ s) (Q:i8 s) (S:eD s=true->ol s/\(∀o∈s.owns,uZ s.id o)/\(ib s).length<=2 ^ 28) :
  K' Pg 511 [.agg (YV s)]=some (if eD s=true then .tuple [.str (ib s),iz 0] else .tuple [.str [],iz 1]):=by
 obtain⟨h,q,j,u,w,y⟩:=h
 have B:=sj q s h1 Q
 simp only[go_sem] at B
 refine aA h rfl ?_
 cases D:eD s with
 |false=>
  rw[Gu (by simp)]
  rw[D] at B
  simp only[F511,c511,go_sem,B]
 |true=>
 rw[GE rfl]
 rw[D] at B
 obtain⟨⟨U,W⟩,J,M⟩:=S D
 have H:ib s=Yc [s.id,(s.owns.length:Int)]++s.owns.flatMap dH:=by
  simp only[ib,YC,Yc,nB,GH,G1,GG,Int.toNat_natCast,Gr]
 rw[H] at M ⊢
 simp only[Gb] at M
 have R:s.owns.length<=(s.owns.flatMap dH).length:=YE (P:=fun _=>True) (fun e _=>M7 e) (fun _ _=>Gs)
 have N:=oU j [] [s.id,(s.owns.length:Int)] (Gp.2 ⟨Y3 U,sP W.1⟩) (by simp only[List.length_nil,List.length_cons];omega)
 simp only[GB,GF,List.nil_append] at N
 generalize Yc [s.id,(s.owns.length:Int)]=b0 at *
 generalize L:s.owns.flatMap dH=O at *
 have z:=uQ (b0++O)
 simp only[Cs] at z
 simp only[F511,c511,go_sem,eT,B,N,Gf]
 refine Pt j u w y (id:=s.id) (g:=b0) (es:=s.owns) (X:=YV s) J (by omega) (by rw[L];omega) rfl (by simp only[go_sem]) (by simp only[go_sem]) (by simp only[go_sem]) (show Fr _ _ from by repeat' first|exact fun x Z=>rfl|refine Fr.up ?_ (by omega)) (by simp only[go_sem]) (by simp only[go_sem]) (by simp only[go_sem]) (a:=20000) (by omega) ⟨by simp only[go_sem],by simp only[go_sem]⟩ fun Y T p=>?_
 rw[L] at p
 have I:=p.m
 have E:=p.a
 simp only[go_sem,T,I,E,z,Gf]
theorem th {α:Type} {enc:α->List V}:∀{l:List α} {a:α},a∈l->dw (enc a)<=g9 (l.map enc)
 |b::l,a,h=>by
  simp only[GB,g9];rcases GN.1 h with rfl|h
  ·omega
  ·have:=th (enc:=enc) h;omega
theorem te {α:Type} {enc:α->List V} {W:α->List UInt8} {k:Nat}:∀{l:List α},(∀a∈l,(W a).length<=dw (enc a)+k)->(l.flatMap W).length<=g9 (l.map enc)+k*l.length
 |[],_=>by simp
 |b::l,h=>by
  have h1:=h b (by simp);have o:=te (enc:=enc) (W:=W) (k:=k) (l:=l) fun a j=>h a (by simp[j]);simp only[GH,Gb,GB,g9,List.length_cons,Nat.mul_add,Nat.mul_one];omega
def iE {t:List UInt8} (h:t.length<2 ^ 63):(Yk t).length<=t.length+9:=by
 have:=YG.2 h;simp only[Yk,Gb];omega
def Dg (m:bQ):m.text.length+m.req.key.length+m.req.value.length+m.req.old.length+m.req.hi.length+m.ans.val.length+(m.ans.items.length+g9 (m.ans.items.map iG))+m.ans.next.length+(m.places.length+g9 (m.places.map gu))<=dw (YS m):=by
 simp only[YS,YU,YF,Yi,dw,gA,Gf];omega
def Pj {m:bQ} (h:dw (YS m)<=2 ^ 24):kF m:=by
 have g:=Dg m;refine⟨by omega,by omega,by omega,by omega,by omega,by omega,by omega,fun p j=>?_,fun p j=>?_⟩
 ·have:=th (enc:=iG) j;simp only[iG,dw,gA] at this;omega
 ·have:=th (enc:=gu) j;simp only[gu,dw,gA] at this;omega
def OK {m:bQ} (hv:mG m) (hi:m.ans.items.length<=8) (Q:m.places.length<=8) (hm:m.mem.length<=8):(ey m).length<=dw (YS m)+1000:=by
 obtain⟨⟨R,S,T,U,X,Y,Z,v8,v9,q,u,w,y,z,B,D,-,E,H,I,J,L,M,-,N,j,O,-,o,P⟩,-⟩:=hv;have g:=Dg m;have y1:=te (enc:=iG) (W:=du) (k:=18) (l:=m.ans.items) fun p Q=>by
  obtain⟨a,b⟩:=j.2 p Q;have:=iE a;have:=iE b;simp only[du,iG,dw,gA,Gb];omega
 have y2:=te (enc:=gu) (W:=dI) (k:=45) (l:=m.places) fun p Q=>by
  obtain⟨⟨a,b,k1,k2,k3⟩,-⟩:=o.2 p Q;have:=iE a;have:=iE b;have:=YQ k1;have:=YQ k2;have:=YQ k3;simp only[dI,gu,dw,gA,Gb];omega
 have y3:=yP P.2 hm (by decide);have x1:=YG.2 j.1;have x2:=YG.2 o.1;have z1:=YQ R;have z2:=YQ S;have z3:=YQ T;have z4:=YQ U;have z5:=YQ X;have z6:=YQ Y;have z7:=YQ Z;have z8:=YQ v8;have z9:=YQ v9;have aa:=mJ q;have ab:=iE u;have ac:=YQ w;have ad:=YQ y;have ae:=YQ z;have af:=iE B;have ag:=iE D;have ah:=sZ (x:=m.req.had);have ai:=iE E;have aj:=mJ H;have ak:=iE I;have al:=YQ J;have am:=YQ L;have an:=mJ M;have ao:=sZ (x:=m.ans.found);have ap:=iE N;have aq:=iE O;have ar:=sZ (x:=m.ans.more);have e:(ey m).length=(nB m.kind).length+(nB m.from_).length+(nB m.to).length+(nB m.shard).length+(nB m.epoch).length+(nB m.move).length+(nB m.lease).length+(nB m.n).length+(nB m.of_).length+(dh m.at_).length+(Yk m.text).length+(nB m.req.client).length+(nB m.req.req).length+(nB m.req.kind).length+(Yk m.req.key).length+(Yk m.req.value).length+(Yp m.req.had).length+(Yk m.req.old).length+(dh m.req.at_).length+(Yk m.req.hi).length+(nB m.req.limit).length+(nB m.ans.err).length+(dh m.ans.at_).length+(Yp m.ans.found).length+(Yk m.ans.val).length+((aC m.ans.items.length).length+(m.ans.items.flatMap du).length)+(Yk m.ans.next).length+(Yp m.ans.more).length+((aC m.places.length).length+(m.places.flatMap dI).length)+(YC nB m.mem).length:=by
  simp only[ey,YC,Gb,G5]
 rw[e];clear e R S T U X Y Z v8 v9 q u w y z B D E H I J L M N j O o P;omega
def C6 (o:dB):o.rep.base.length+o.rep.text.length+(o.outs.length+g9 (o.outs.map YS))<=dw (ed o):=by
 simp only[ed,kd,Yi,dw,gA,Gf];omega
def Pv {id:Int} {o:dB} (u:oQ id o) (hm:o.rep.members.length<=8) (q:o.rep.acks.length<=8) (J:o.outs.length<=10) (j:∀m∈o.outs,(ey m).length<=dw (YS m)+1000):(dH o).length<=dw (ed o)+10500:=by
 obtain⟨⟨w,y,z,B,D,E,H,p⟩,-⟩:=u;have g:=C6 o;have L:=te (enc:=YS) (W:=dV) (k:=1009) (l:=o.outs) fun m h=>by
  have h1:=j m h;have I:=iE (p.2 m h).1
  show (Yk (ey m)).length<=_
  omega
 have M:=yP z.2 hm (by decide);have N:=yP H.2 q (by decide);have O:=YQ w;have P:=YQ y;have Q:=YQ B;have R:=iE D;have S:=iE E;have T:=YG.2 p.1;have e:(dH o).length=(nB o.cell).length+(nB o.rep.view).length+(YC nB o.rep.members).length+(nB o.rep.n).length+(Yk o.rep.base).length+(Yk o.rep.text).length+(YC nB o.rep.acks).length+((aC o.outs.length).length+(o.outs.flatMap dV).length):=by
  rw[dH];rw[Gb,Gb,Gb,Gb,Gb,Gb,Gb];rw[show YC dV o.outs=aC o.outs.length++o.outs.flatMap dV from rfl,Gb];omega
 rw[e];omega
def OO {s:ek} (j:ol s) (p:s.owns.length<=6) (h:∀o∈s.owns,(dH o).length<=dw (ed o)+10500):(ib s).length<=dw (YV s)+64000:=by
 have y:=te (enc:=ed) (W:=dH) (k:=10500) (l:=s.owns) h;have q:=YQ j.1;have u:=YG.2 j.2.1;have e:(ib s).length=(nB s.id).length+((aC s.owns.length).length+(s.owns.flatMap dH).length):=by simp only[ib,YC,Gb]
 have g:s.owns.length+g9 (s.owns.map ed)<=dw (YV s):=by
  simp only[YV,mO,dw,gA,Gf];omega
 omega
def iP {s:ek} (hr:eD s=true) (hs:oo s=true) (hw:dw (YV s)<=1048576):zt s/\ol s/\(∀o∈s.owns,sG s.id o)/\(∀o∈s.owns,uZ s.id o)/\(ib s).length<=4194304:=by
 obtain⟨k1,k2,k3⟩:=Dt hs;have g:s.owns.length+g9 (s.owns.map ed)<=dw (YV s):=by
  simp only[YV,mO,dw,gA,Gf];omega
 have hm:∀o∈s.owns,∀m∈o.outs,kF m/\fO m=true/\lJ m/\(ey m).length<=dw (YS m)+1000/\dw (YS m)<=1048576:=fun o ho m hm=>by
  have a1:=th (enc:=ed) ho;have a2:=C6 o;have a3:=th (enc:=YS) hm;have hL:kF m:=Pj (by omega);have md:=hr;simp only[eD,Gg] at md;obtain⟨q,hq⟩:=vk md.1 ho;simp only[eb,iH,Gg,Gx,ei] at hq;have hQ:=(hq.2.2 m hm).1;have DP:=hQ;simp only[fO,Gg,GI,GM] at DP;obtain⟨⟨-,-,-,-,q1,q2,q3⟩,-⟩:=DP;exact⟨hL,hQ,(k1.2 o ho).2.2 m hm,OK (zf hQ hL) (by omega) (by omega) (by omega),by omega⟩
 have hL:zt s:=⟨by omega,fun o ho=>by
  obtain⟨b1,b2,b3,b4,b5⟩:=k3 o ho;exact⟨by omega,by omega,by omega,by omega,by omega,fun m h=>⟨(hm o ho m h).1,by have:=(hm o ho m h).2.2.2;omega⟩⟩⟩
 obtain⟨hV,hO⟩:=MH hr hL;have hW:∀o∈s.owns,uZ s.id o:=fun o ho=>by
  have md:=hr;simp only[eD,Gg] at md;obtain⟨q,hq⟩:=vk md.1 ho;simp only[eb,bG,Gg] at hq;obtain⟨r1,r2,-⟩:=yJ hq.1.2.2.2.1;exact⟨(hO o ho).1,⟨r1.1,r2.1⟩,(hO o ho).2.2.1,fun m h=>⟨(hm o ho m h).2.2.1,(hm o ho m h).1,(hm o ho m h).2.1,by have:=(hm o ho m h).2.2.2;omega⟩⟩
 have hb:=OO hV k2 fun o ho=>Pv (hO o ho).1 (hW o ho).2.1.1 (hW o ho).2.1.2 (k3 o ho).2.2.2.2 fun m h=>(hm o ho m h).2.2.2.1;exact⟨hL,hV,hO,hW,by omega⟩
def tX {xs:List V} (h:ij 1048576 (.agg xs)):dw xs<=1048576:=by
 rcases h with h|h
 ·exact absurd h (by decide)
 ·exact h
def rq:=HpC 508 F508<|HpA pW<|HpA pX<|HpA nx<|HpA wl<|HpA rr<|HpA ru<|HpA rv<|rx
theorem ym (h:rq Pg) (s:ek) (hw:dw (YV s)<=1048576):K' Pg 508 [.agg (YV s)]=some (.bool true):=by
 obtain⟨h,H,I,J,L,M,N,O,P⟩:=h;have g:s.owns.length+g9 (s.owns.map ed)<=dw (YV s):=by
  simp only[YV,mO,dw,gA,Gf];omega
 have u:=sg L s (by omega);have p:=xG I s;have w:=yp M;refine aA h rfl ?_;simp only[go_sem] at u p;cases E:oo s with
 |false=>
  rw[E] at p;simp only[F508,c508,go_sem,u,p,w]
 |true=>
 rw[E] at p;obtain⟨R,s2,s3⟩:=Dt E;have U:i8 s:=fun o Z=>by have:=s3 o Z;omega
 have j:=yq N s R U fun hr=>by
  obtain⟨-,a1,-,a3,a4⟩:=iP hr E hw;exact⟨a1,a3,by omega⟩
 have q:=xH J s R U;cases Q:eD s with
 |false=>
  rw[Q] at q j;rw[Gu (by simp)] at j;simp only[go_sem] at q j;simp only[F508,c508,go_sem,u,p,j,q,w]
 |true=>
 obtain⟨-,a1,a2,-,a4⟩:=iP Q E hw;have y:=yr O (ib s) a4 fun e Y X=>by
  have S:=(tl (D:=false)).put (r:=[]) Y;have W:=(tl (D:=false)).put (r:=[]) a1;rw[X,W] at S;simp only[Gi,and_true] at S;rw[<-S];exact⟨R,U⟩
 have T:oB (ib s)=some s:=(tl (D:=false)).whole.2 ⟨rfl,a1,Q⟩;rw[T] at y;have B:=yt P s a1 a2 (by omega);have z:=xF H s R;rw[Q] at q j;rw[GE rfl] at j;simp only[go_sem,pe] at q j y B z;simp only[F508,c508,go_sem,u,p,j,q,y,B,z,w]
end Sg
namespace Sg
open _root_.Go
variable {N : Nat}
def Yl {k:IntKind} {x:V} (h:dM N (.int k) x):∃n,x=.int k n/\(Lit.int k n).wf=true:=by cases h;exact⟨_,rfl,by assumption⟩
def yL {x:V} (h:dM N .bool x):∃b,x=.bool b:=by cases h;exact⟨_,rfl⟩
def YY {x:V} (h:dM N .str x):∃s,x=.str s/\s.length<=N:=by cases h;exact⟨_,rfl,by assumption⟩
def Y0 {r:List CT} {x:V} (h:dM N (.slice r) x):∃rows:List (List V),x=.slice r.length rows/\rows.length<=N/\∀gg∈rows,mw N r gg:=by
 cases h with
 |slice r rows u hz h=>
  refine⟨rows,rfl,u,fun gg o=>?_⟩;obtain⟨i,hi,rfl⟩:=List.getElem_of_mem o;have p:gr rows i=rows[i]:=by simp[gr,hi]
  exact⟨by rw[<-p];exact hz i hi,fun j q=>by rw[<-p];exact h i j hi q⟩
theorem oX {α:Type} {enc:α->List V} {Q:α->Prop}:∀{rows:List (List V)},(∀gg∈rows,∃a,gg=enc a/\Q a)->∃l:List α,rows=l.map enc/\∀a∈l,Q a
 |[],_=>⟨[],rfl,fun a j=>by simp at j⟩
 |gg::rows,h=>by
  obtain⟨a,rfl,j⟩:=h gg (by simp);obtain⟨l,rfl,o⟩:=oX (rows:=rows) (fun r p=>h r (by simp[p]));exact⟨a::l,rfl,fun b hb=>by
   rcases GN.1 hb with rfl|hb
   ·exact j
   ·exact o b hb⟩
end Sg
namespace Sg
open _root_.Go
abbrev tJ:List CT:=[.int .i64]
def NU {N:Nat} {xs:List V} (h:mw N tJ xs):∃s,xs=DN s:=by
 obtain⟨o,j⟩:=h
 match xs,o with
 |[x0],_=>
  obtain⟨p,h0,-⟩:=Yl (j 0 (by simp));simp[gv] at h0;subst h0;exact⟨p,rfl⟩
def yV {N:Nat} {x:V} (h:dM N (.slice tJ) x):∃l,x=Yi l/\l.length<=N:=by
 obtain⟨rows,rfl,p,q⟩:=Y0 h;obtain⟨l,rfl,-⟩:=oX (enc:=DN) (Q:=fun _=>True) (fun o j=>by obtain⟨v,u⟩:=NU (q o j);exact⟨v,u,Gs⟩);exact⟨l,rfl,by simpa using p⟩
abbrev zF:List CT:=[.str,.str,.int .i64,.int .i64,.int .i64]
def NW {N:Nat} {xs:List V} (h:mw N zF xs):∃s,xs=gu s:=by
 obtain⟨u,j⟩:=h
 match xs,u with
 |[x0,x1,x2,x3,x4],_=>
  obtain⟨w,h0,-⟩:=YY (j 0 (by simp));obtain⟨y,h1,-⟩:=YY (j 1 (by simp));obtain⟨z,o,-⟩:=Yl (j 2 (by simp));obtain⟨B,p,-⟩:=Yl (j 3 (by simp));obtain⟨D,q,-⟩:=Yl (j 4 (by simp));simp[gv] at h0 h1 o p q;subst h0;subst h1;subst o;subst p;subst q;exact⟨⟨⟨w,y⟩,z,B,D⟩,rfl⟩
def MY {N:Nat} {x:V} (h:dM N (.slice zF) x):∃l,x=YF l/\l.length<=N:=by
 obtain⟨rows,rfl,p,q⟩:=Y0 h;obtain⟨l,rfl,-⟩:=oX (enc:=gu) (Q:=fun _=>True) (fun o j=>by obtain⟨v,u⟩:=NW (q o j);exact⟨v,u,Gs⟩);exact⟨l,rfl,by simpa using p⟩
abbrev zC:List CT:=[.str,.str]
def MK {N:Nat} {xs:List V} (h:mw N zC xs):∃s,xs=iG s:=by
 obtain⟨o,j⟩:=h
 match xs,o with
 |[x0,x1],_=>
  obtain⟨p,h0,-⟩:=YY (j 0 (by simp));obtain⟨q,h1,-⟩:=YY (j 1 (by simp));simp[gv] at h0 h1;subst h0;subst h1;exact⟨⟨p,q⟩,rfl⟩
def MQ {N:Nat} {x:V} (h:dM N (.slice zC) x):∃l,x=YU l/\l.length<=N:=by
 obtain⟨rows,rfl,p,q⟩:=Y0 h;obtain⟨l,rfl,-⟩:=oX (enc:=iG) (Q:=fun _=>True) (fun o j=>by obtain⟨v,u⟩:=MK (q o j);exact⟨v,u,Gs⟩);exact⟨l,rfl,by simpa using p⟩
abbrev zB:List CT:=[.int .i64,.int .i64,.int .i64,.int .i64,.int .i64,.int .i64,.int .i64,.int .i64,.int .i64,.int .i64,.int .i64,.int .i64,.str,.int .i64,.int .i64,.int .i64,.str,.str,.bool,.str,.int .i64,.int .i64,.int .i64,.str,.int .i64,.int .i64,.int .i64,.int .i64,.int .i64,.bool,.str,.slice zC,.str,.bool,.slice zF,.slice tJ]
def MC {N:Nat} {xs:List V} (h:mw N zB xs):∃s,xs=YS s:=by
 obtain⟨hl,j⟩:=h
 match xs,hl with
 |x0::x1::x2::x3::x4::x5::x6::x7::x8::x9::x10::x11::x12::x13::x14::x15::x16::x17::x18::x19::x20::x21::x22::x23::x24::x25::x26::x27::x28::x29::x30::x31::x32::x33::x34::x35::[],_=>
  obtain⟨y0,h0,-⟩:=Yl (j 0 (by simp));obtain⟨y1,h1,-⟩:=Yl (j 1 (by simp));obtain⟨y2,h2,-⟩:=Yl (j 2 (by simp));obtain⟨y3,h3,-⟩:=Yl (j 3 (by simp));obtain⟨y4,h4,-⟩:=Yl (j 4 (by simp));obtain⟨y5,h5,-⟩:=Yl (j 5 (by simp));obtain⟨y6,h6,-⟩:=Yl (j 6 (by simp));obtain⟨y7,h7,-⟩:=Yl (j 7 (by simp));obtain⟨y8,h8,-⟩:=Yl (j 8 (by simp));obtain⟨y9,h9,-⟩:=Yl (j 9 (by simp));obtain⟨aa,o,-⟩:=Yl (j 10 (by simp));obtain⟨ab,p,-⟩:=Yl (j 11 (by simp));obtain⟨ac,q,-⟩:=YY (j 12 (by simp));obtain⟨ad,u,-⟩:=Yl (j 13 (by simp));obtain⟨ae,w,-⟩:=Yl (j 14 (by simp));obtain⟨af,y,-⟩:=Yl (j 15 (by simp));obtain⟨ag,z,-⟩:=YY (j 16 (by simp));obtain⟨ah,B,-⟩:=YY (j 17 (by simp));obtain⟨ai,D⟩:=yL (j 18 (by simp));obtain⟨aj,E,-⟩:=YY (j 19 (by simp));obtain⟨ak,H,-⟩:=Yl (j 20 (by simp));obtain⟨al,I,-⟩:=Yl (j 21 (by simp));obtain⟨am,J,-⟩:=Yl (j 22 (by simp));obtain⟨an,L,-⟩:=YY (j 23 (by simp));obtain⟨ao,M,-⟩:=Yl (j 24 (by simp));obtain⟨ap,O,-⟩:=Yl (j 25 (by simp));obtain⟨aq,P,-⟩:=Yl (j 26 (by simp));obtain⟨ar,Q,-⟩:=Yl (j 27 (by simp));obtain⟨au,R,-⟩:=Yl (j 28 (by simp));obtain⟨av,S⟩:=yL (j 29 (by simp));obtain⟨ax,T,-⟩:=YY (j 30 (by simp));obtain⟨ay,U,-⟩:=MQ (j 31 (by simp));obtain⟨az,W,-⟩:=YY (j 32 (by simp));obtain⟨a0,X⟩:=yL (j 33 (by simp));obtain⟨a1,Y,-⟩:=MY (j 34 (by simp));obtain⟨a2,Z,-⟩:=yV (j 35 (by simp));simp[gv] at h0 h1 h2 h3 h4 h5 h6 h7 h8 h9 o p q u w y z B D E H I J L M O P Q R S T U W X Y Z;subst h0;subst h1;subst h2;subst h3;subst h4;subst h5;subst h6;subst h7;subst h8;subst h9;subst o;subst p;subst q;subst u;subst w;subst y;subst z;subst B;subst D;subst E;subst H;subst I;subst J;subst L;subst M;subst O;subst P;subst Q;subst R;subst S;subst T;subst U;subst W;subst X;subst Y;subst Z;exact⟨⟨y0,y1,y2,y3,y4,y5,y6,y7,y8,⟨y9,aa,ab⟩,ac,⟨ad,ae,af,ag,ah,ai,aj,⟨ak,al,am⟩,an,ao⟩,⟨ap,⟨aq,ar,au⟩,av,ax,ay,az,a0⟩,a1,a2⟩,rfl⟩
def MR {N:Nat} {x:V} (h:dM N (.slice zB) x):∃l,x=kd l/\l.length<=N:=by
 obtain⟨rows,rfl,p,q⟩:=Y0 h;obtain⟨l,rfl,-⟩:=oX (enc:=YS) (Q:=fun _=>True) (fun o j=>by obtain⟨v,u⟩:=MC (q o j);exact⟨v,u,Gs⟩);exact⟨l,rfl,by simpa using p⟩
abbrev vE:List CT:=[.int .i64,.int .i64,.int .i64,.slice tJ,.int .i64,.str,.str,.slice tJ,.slice zB]
def ML {N:Nat} {xs:List V} (h:mw N vE xs):∃s,xs=ed s:=by
 obtain⟨B,j⟩:=h
 match xs,B with
 |[x0,x1,x2,x3,x4,x5,x6,x7,x8],_=>
  obtain⟨D,h0,-⟩:=Yl (j 0 (by simp));obtain⟨E,h1,-⟩:=Yl (j 1 (by simp));obtain⟨H,o,-⟩:=Yl (j 2 (by simp));obtain⟨I,p,-⟩:=yV (j 3 (by simp));obtain⟨J,q,-⟩:=Yl (j 4 (by simp));obtain⟨L,u,-⟩:=YY (j 5 (by simp));obtain⟨M,w,-⟩:=YY (j 6 (by simp));obtain⟨O,y,-⟩:=yV (j 7 (by simp));obtain⟨P,z,-⟩:=MR (j 8 (by simp));simp[gv] at h0 h1 o p q u w y z;subst h0;subst h1;subst o;subst p;subst q;subst u;subst w;subst y;subst z;exact⟨⟨D,⟨E,H,I,J,L,M,O⟩,P⟩,rfl⟩
def CX {N:Nat} {x:V} (h:dM N (.slice vE) x):∃l,x=mO l/\l.length<=N:=by
 obtain⟨rows,rfl,p,q⟩:=Y0 h;obtain⟨l,rfl,-⟩:=oX (enc:=ed) (Q:=fun _=>True) (fun o j=>by obtain⟨v,u⟩:=ML (q o j);exact⟨v,u,Gs⟩);exact⟨l,rfl,by simpa using p⟩
abbrev iQ:List CT:=[.int .i64,.slice vE]
def MM {N:Nat} {xs:List V} (h:mw N iQ xs):∃s,xs=YV s:=by
 obtain⟨o,j⟩:=h
 match xs,o with
 |[x0,x1],_=>
  obtain⟨p,h0,-⟩:=Yl (j 0 (by simp));obtain⟨q,h1,-⟩:=CX (j 1 (by simp));simp[gv] at h0 h1;subst h0;subst h1;exact⟨⟨p,q⟩,rfl⟩
def jf {N:Nat} {x:V} (h:iy N (true,iQ) x):∃s:ek,x=.agg (YV s)/\s.owns.length<=N:=by
 obtain⟨xs,rfl,h⟩:=h;obtain⟨s,rfl⟩:=MM h;refine⟨s,rfl,?_⟩;have h1:=h.2 1 (by simp);have h1:dM N (.slice vE) (mO s.owns):=h1;obtain⟨l,o,p⟩:=CX h1;have j:=fp (fun v=>match v with|V.slice _ r=>r.length|_=>0) o;simp only[mO,Gf] at j;omega
end Sg
