/- StoreHears, where what it reads is of bulk at most 1048576; no other condition. -/
import Derived.Test.YtidacoblmebfcaaGreatDoorCards
import Derived.Test.YtidacoblmebfcaaGreatDoorTie
import Derived.ProofKit
import Derived.OpenShut
import Derived.Lib.LaidIn
import Derived.Lib.LaidTab
import Derived.Deep.DeepHandedRow
import Derived.Deep.DeepWitnessRowRef
import Derived.Test.YtidacoblmebfcaaGreatDoorRows
import Derived.Test.YtidacoblmebfcaaGreatDoorStoreHearsA5
import Derived.Test.YtidacoblmebfcaaGreatDoorStoreHearsJ
set_option linter.unusedSimpArgs false
set_option linter.unusedVariables false
set_option linter.constructorNameAsVariable false
set_option linter.defProp false
set_option maxRecDepth 100000
set_option maxHeartbeats 8000000
namespace Sg
open _root_.Go (IntKind BinOp UnOp)
variable {Pg:PgT}
@[go_sem] theorem YmR {k:IntKind} {n:Int} {b:Bool}:(V.tuple [.int k n,.bool b]).scalar=true:=rfl
def Kq {n:Int} {l:List aM} (h:eB n l=true):∃x,l[cY n l]?=some x/\x.id=n:=by
 unfold eB at h;split at h
 ·simp at h
 ·rename_i x j;exact⟨x,j,Gc h⟩
def rD (Pg:PgT):Prop:=Pg 307=some (.prim (some 0) (bJ 17))
def vS (h:rD Pg) (rows:List Eq) (j:rows.length<=aU):K' Pg 307 [.slice 17 rows]=some (.slice 17 rows):=by
 rw[tT h];simp[bJ,j]
def im:=HpC 304 F304<|HpA rD<|rF
def iO (h:im Pg) (c:aP) (s:aM) (y:fY c.shards) (E:1<=s.id/\s.id<=1099511627776):K' Pg 304 [.agg (Yq c),.agg (Yg s)]=some (.agg (Yq (ll c s))):=by
 have⟨h,p,u⟩:=h;have J:=y.2.1;have o:=vS p (c.shards.map Yg) (by simp[aU];omega);have j:=vU u c s.id y E;have H:=CD (n:=s.id) c.shards;simp only[Yq,Yw] at j;simp only[ll,Lz y.1];refine aA h rfl ?_;cases q:eB s.id c.shards with
 |true=>
  have⟨x,B,D⟩:=Kq q;have z:=(List.getElem?_eq_some_iff.1 B).1;have I:∀r,(c.shards.map Yg).set (cY s.id c.shards) r=(c.shards.map Yg).take (cY s.id c.shards)++r::(c.shards.map Yg).drop (cY s.id c.shards+1):=fun r=>Qs (by simpa using z);have hz:((c.shards.map Yg).take (cY s.id c.shards)).length+(((c.shards.map Yg).drop (cY s.id c.shards+1)).length+1)=c.shards.length:=by
   rw[GK,GP,Gi];omega
  simp only[go_sem,j,o,q,B,z,I,hz,Gz,re,nJ]
 |false=>
  have w:c.shards.length+1<=aU:=by simp only[aU];omega
  have hz:((c.shards.map Yg).take (cY s.id c.shards)).length+(((c.shards.map Yg).drop (cY s.id c.shards)).length+1)=c.shards.length+1:=by
   rw[GK,GP,Gi];omega
  simp only[go_sem,j,o,q,H,w,hz,Gz,re,nJ]
def rE:=HpC 308 F308<|HpA rD<|rF
def vT (h:rE Pg) (c:aP) (n:Int) (z:fY c.shards) (I:1<=n/\n<=1099511627776):K' Pg 308 [.agg (Yq c),iz n]=some (.agg (Yq ⟨fE c.shards n,c.top,c.dropped⟩)):=by
 have⟨h,o,p⟩:=h;have L:=z.2.1;have y:=vS o (c.shards.map Yg) (by simp[aU];omega);have j:=vU p c n z I;simp only[Yq,Yw] at j;rw[PB z.1];refine aA h rfl ?_;cases q:eB n c.shards with
 |true=>
  have⟨x,J,H⟩:=Kq q;have E:=(List.getElem?_eq_some_iff.1 J).1;have B:cY n c.shards+1<=c.shards.length:=E;have w:c.shards.length<=aU:=by simp only[aU];omega
  have u:IntKind.i64.wrap ((cY n c.shards:Int)+1)=((cY n c.shards+1:Nat):Int):=Yn E (by omega);have D:cY n c.shards<=cY n c.shards+1:=by omega
  have hz:((c.shards.map Yg).take (cY n c.shards)).length+((c.shards.map Yg).drop (cY n c.shards+1)).length=c.shards.length-1:=by
   rw[GK,GP,Gi];omega
  simp only[go_sem,j,y,q,u,B,w,D,hz,Gz,re,nJ]
 |false=>
  simp only[go_sem,j,q]
def mz:=HpC 306 F306 H6
def ot (h:mz Pg) (a b:aB):K' Pg 306 [.agg (Ye a),.agg (Ye b)]=some (.agg (Ye (later a b))):=by
 have⟨h,j⟩:=h;have k:=K6 j a b;simp only[Ye] at k;refine aA h rfl ?_;cases q:aV a b with
 |true=>
  have:later a b=b:=by simp only[aV,Gj] at q;simp[later,q]
  simp only[go_sem,k,q,this]
 |false=>
  have:later a b=a:=by simp only[aV,Gs] at q;simp[later,q]
  simp only[go_sem,k,q,this]
def zI:=HpC 311 F311 nL
def HS (h:zI Pg) (a b:ce):K' Pg 311 [.agg (YZ a),.agg (YZ b)]=some (EZ (Y6 a b)):=by
 have⟨h,j⟩:=h;have o:=om j a;have q:=om j b;simp only[YZ] at o q;refine aA h rfl ?_;cases p:Yz a with
 |false=>simp only[go_sem,o,p,Y6,kC]
 |true=>
 cases u:Yz b with
 |false=>simp only[go_sem,o,q,p,u,Y6,kC]
 |true=>
 cases c3:decide (a.hi=[]) with
 |true=>simp only[go_sem,o,q,p,u,c3,Y6,kC]
 |false=>cases w:decide (a.hi=b.lo)<;>simp only[go_sem,o,q,p,u,c3,w,Y6,kC]
@[go_sem] def LF (o:Option bz):V:=.tuple [.agg (dv (o.getD gz)),.bool o.isSome]
def vf:=HpC 312 F312<|HpA E7<|HpA kd<|nM
def Bw (h:vf Pg) (l:List aF) (k:mp) (t:aB) (D:Sm l):K' Pg 312 [Yf l,.str k,.agg (Ye t)]=some (LF (pI l k t)):=by
 have⟨h,z,q,u⟩:=h;have j:=kv q l D;simp only[Yf] at j;refine aA h rfl ?_;cases w:ck l with
 |false=>simp only[go_sem,j,w,pI,gz,Option.getD_none,Option.isSome_none]
 |true=>
 have o:=so u l k w;simp only[Yf] at o;cases y:fa k l with
 |false=>simp only[go_sem,j,o,w,y,pI,gz,Option.getD_none,Option.isSome_none]
 |true=>
  obtain⟨e,B,-⟩:=Ec y;have p:=NY z e.chain t (by have:=(D.at B).1;omega);simp only[Yd,Ye,p0] at p;simp only[dv] at p;simp only[go_sem,j,o,w,y,B,Yd,p,pI]
def tZ (s:aM):Bool:=CE s.ents&&(gi s.done&&(decide (s.span.lo.length<100)&&decide (s.span.hi.length<100)))
def ze:=HpC 252 F252<|HpA MB<|yQ
def ZJ {n:Nat}:decide ((n:Int)<100)=decide (n<100):=ltd (b:=100)
def Hs (h:ze Pg) (s:aM):K' Pg 252 [.agg (Yg s)]=some (.bool (tZ s)):=by
 have⟨h,u,p⟩:=h;have o:=Vz u s.done;have j:=Hf p s.ents;simp only[Yb,Yf] at o j;refine aA h rfl ?_;cases q:CE s.ents with
 |false=>simp only[go_sem,j,q,tZ]
 |true=>
 cases w:gi s.done with
 |false=>simp only[go_sem,j,o,q,w,tZ]
 |true=>cases c3:decide (s.span.lo.length<100)<;>simp only[go_sem,j,o,q,w,c3,tZ,ZJ]
def DZ (c:aP):Bool:=decide (c.shards.length<=12)&&c.shards.all tZ
def Qp {n:Nat}:decide ((12:Int)<(n:Int))=!decide (n<=12):=yt (a:=12)
def Fc:=HpC 238 F238 ze
def Vh (h:Fc Pg) (c:aP):K' Pg 238 [.agg (Yq c)]=some (.bool (DZ c)):=by
 have⟨h,p⟩:=h;have j:=fun s=>Hs p s;simp only[Yg,Yf,Yb] at j;refine aA h rfl ?_;cases u:decide (c.shards.length<=12) with
 |false=>simp only[go_sem,Qp,u,DZ]
 |true=>
 have D:=Gc u;have e:DZ c=c.shards.all tZ:=by simp only[DZ,u,Gy]
 rw[e];simp only[go_sem,Qp,u];unfold l238_0;refine bu (fun (i:Nat) S=>i<=c.shards.length/\S.ρ 1=.lref 1 0/\S.μ 1=some (Yq c,false)/\S.ρ 3=iz i/\(c.shards.drop i).all tZ=c.shards.all tZ) (fun i=>c.shards.length-i) 0 ?_ ?_
 ·simp[go_sem]
 ·intro i S ⟨hi,h1,y,w,o⟩;simp only[go_sem,h1,y,w];refine aY (fun h=>?_) (fun h=>?_)
  ·have h:=Yj h;have⟨x,B,z⟩:=aZ h;rw[z,List.all_cons] at o;simp only[go_sem,h1,y,w,B,j];cases q:tZ x with
   |false=>
    rw[q,Gm] at o;simp only[go_sem,<-o]
   |true=>
    rw[q,Gy] at o;simp only[go_sem,h1,y,w];exact⟨i+1,by omega,by omega,by rw[Yn h (by omega)],o⟩
  ·have h:=YC hi h;subst h;rw[GQ,List.all_nil] at o;simp only[go_sem,<-o]
def uW:=HpC 250 F250<|HpA ME<|uR
def Bk (h:uW Pg) (s:aM) (u:kz s):K' Pg 250 [.agg (Yg s),.agg (Yg s)]=some (.bool true):=by
 have⟨h,q,o⟩:=h;have p:=N6 q s.done (by have:=u.2.1;omega) u.2.2.1;have j:=Bc o s.ents u.1;simp only[Yb,Yf] at p j;refine aA h rfl ?_;simp only[go_sem,p,j]
def uV:=HpC 242 F242 uW
def Hr (h:uV Pg) (c:aP) (q:eG c):K' Pg 242 [.agg (Yq c),.agg (Yq c)]=some (.bool true):=by
 have⟨h,j⟩:=h;have z:=q.1;refine aA h rfl ?_;simp only[go_sem];unfold l242_0;refine bu (fun (i:Nat) S=>i<=c.shards.length/\S.ρ 2=.lref 2 0/\S.μ 2=some (Yq c,false)/\S.ρ 3=.lref 3 0/\S.μ 3=some (Yq c,false)/\S.ρ 5=iz i) (fun i=>c.shards.length-i) 0 ?_ ?_
 ·simp[go_sem]
 ·intro i S ⟨hi,o,m2,w,m3,p⟩;simp only[go_sem,o,m2,p];refine aY (fun h=>?_) (fun h=>?_)
  ·have h:=Yj h;have⟨x,u,y⟩:=aZ h;have k:=Bk j x (q.2 x (List.mem_of_getElem? u));simp only[Yg,Yf,Yb] at k;simp only[go_sem,o,m2,w,m3,p,u,k];exact⟨i+1,by omega,by omega,by rw[Yn h (by omega)]⟩
  ·simp only[go_sem]
def nP:=HpZ 286 F286
def jt (h:nP Pg) (e:Int):K' Pg 286 [iz e]=some (.agg (dV (aE e))):=by
 refine aA h rfl ?_;simp only[go_sem,aE]
def zC:=HpZ 288 F288
def HM (h:zC Pg) (r:Rq):K' Pg 288 [.agg (lu r)]=some (.bool (mr r)):=by
 refine aA h rfl ?_;cases j:decide (r.kind=1) with
 |true=>simp only[go_sem,j,mr]
 |false=>cases o:decide (r.kind=2)<;>simp only[go_sem,j,o,mr]
def uX:=HpC 290 F290 vf
def Bs (h:uX Pg) (c:aP) (s:aM) (k:mp) (p:Sm s.ents):K' Pg 290 [.agg (Yq c),.agg (Yg s),.str k]=some (.agg (dV (fy s k c.top))):=by
 have⟨h,o⟩:=h;have j:=Bw o s.ents k c.top p;simp only[Yf,Ye,LF] at j;refine aA h rfl ?_;unfold fy;cases q:pI s.ents k c.top with
 |none=>
  simp only[q,Option.getD_none,Option.isSome_none,gz,dv] at j;simp only[go_sem,j,aE]
 |some v=>
  simp only[q,Option.getD_some,Option.isSome_some,dv] at j;simp only[go_sem,j]
def kf:=HpC 247 F247<|HpA gH<|HpA ek<|jp
@[go_sem] def pH (o:Option aM):V:=.tuple [.agg (Yg (o.getD Yk)),.bool o.isSome]
def lm {s:aM} (h:1<=s.id):decide (s.id=0)=false:=Gp (by omega)
def kw (h:kf Pg) (c:aP) (n:Int) (H:eG c):K' Pg 247 [.agg (Yq c),iz n]=some (pH (YP c n)):=by
 have⟨h,y,z,B⟩:=h;have j:=ip y c H;have p:=i3 z 1 n;simp only[mn] at p;simp only[Yq,Yw] at j;refine aA h rfl ?_;cases w:Yy c with
 |false=>simp only[go_sem,j,w,YP,Yk,Option.getD_none,Option.isSome_none]
 |true=>
 cases D:Ym n with
 |false=>simp only[go_sem,j,p,w,D,YP,Yk,Option.getD_none,Option.isSome_none]
 |true=>
 have u:=lX w;have o:=ju B c n u (by simpa [Ym] using D);simp only[Yq,Yw] at o;cases q:Y3 c.shards n with
 |none=>
  simp only[q,Option.getD_none,Yk] at o;simp only[go_sem,j,p,o,w,D,q,YP,Yk,Option.getD_none,Option.isSome_none]
 |some s=>
  have E:=lm (u.2.2 s (Ys q).1).1;simp only[q,Option.getD_some] at o;simp only[go_sem,j,p,o,w,D,q,E,YP,Option.getD_some,Option.isSome_some]
def WG {s:bP} (h:uj s=true):sD s:=fun o j=>by have:=(Ku h).2.2 o j;omega
def fT (s:bP) (wall:Int) (m:bC):Bool:=ft s&&(iT m&&(!decide (wall<0)&&(!decide (1099511627776<wall)&&decide (m.to=s.id))))
def Km {m:bC} (h:iT m=true):1<=m.kind/\m.kind<=37:=by
 simp only[iT,Ge,GM,Gs] at h;obtain⟨⟨h1,j,-⟩,-⟩:=h;omega
def XH {m:bC} (h:iT m=true):m.mem.length<=8/\i5 m:=by
 simp only[iT,Ge,GM,Gs] at h;obtain⟨⟨-,-,-,-,a,b,c⟩,-⟩:=h;exact⟨by omega,by omega,by omega,by omega⟩
def tK:=HpC 413 F413<|HpA rH<|HpA rG<|z8
theorem BN (h:tK Pg) (s:bP) (wall:Int) (m:bC) (R:iK s) (j:K' Pg 408 [.agg (YT s)]=some (.bool (ft s))) (O:(Yp s m.n).rep.acks.length<=9000) (Q:(Yp s m.n).outs.length<=9000) (hm:i5 m) (T:35<=m.kind)
  (S:K' Pg 430 [.str m.text]=some (.bool (eS m.text))):K' Pg 413 [.agg (YT s),iz wall,.agg (di m)]=some (kS (if fT s wall m then nk s m else (s,[]))):=by
 have⟨h,L,E,H⟩:=h
 have o:=vV E m hm
 simp only[go_sem] at j o
 refine aA h rfl ?_
 have q:∀b,fT s wall m=b->b=false->(if fT s wall m then nk s m else (s,[]))=(s,[]):=fun b z D=>by rw[z,D];rfl
 cases I:ft s with
 |false=>
  rw[I] at j
  rw[q _ rfl (by simp only[fT,I,Gm])]
  simp only[F413,c413,go_sem,j,Gk]
 |true=>
 rw[I] at j
 cases B:iT m with
 |false=>
  rw[B] at o
  rw[q _ rfl (by simp only[fT,B,Gm,Gq])]
  simp only[F413,c413,go_sem,j,o,Gk]
 |true=>
 rw[B] at o
 cases u:decide (wall<0) with
 |true=>
  rw[q _ rfl (by simp only[fT,u,Gx,Gm,Gq])]
  simp only[F413,c413,go_sem,j,o,u,Gk]
 |false=>
 cases w:decide (1099511627776<wall) with
 |true=>
  rw[q _ rfl (by simp only[fT,w,Gx,Gm,Gq])]
  simp only[F413,c413,go_sem,j,o,u,w,Gk]
 |false=>
 cases y:decide (m.to=s.id) with
 |false=>
  rw[q _ rfl (by simp only[fT,y,Gq])]
  simp only[F413,c413,go_sem,j,o,u,w,y,Gk]
 |true=>
  have J:fT s wall m=true:=by simp only[fT,I,B,u,w,y];rfl
  rw[J,Gt rfl]
  have P:=Km B
  have p:=Ik H s m R O hm.2.2 Q (by omega) S
  simp only[go_sem] at p
  have M:m.kind=35\/m.kind=36\/m.kind=37:=by omega
  cases z:decide (m.kind=35) with
  |true=>simp only[F413,c413,go_sem,j,o,p,u,w,y,z]
  |false=>
  cases D:decide (m.kind=36) with
  |true=>simp only[F413,c413,go_sem,j,o,p,u,w,y,z,D]
  |false=>
   have N:decide (m.kind=37)=true:=by
    have:=Ga z;have:=Ga D;exact Gu (by omega)
   simp only[F413,c413,go_sem,j,o,p,u,w,y,z,D,N]
theorem VV {o:cr}:∀{l:List cr},(eZ l o).find? (ia o.cell)=some o
 |[]=>by simp[eZ,ia]
 |p::l=>by
  rw[eZ];split
  ·split
   ·simp[ia]
   ·simp[ia]
  ·rename_i h;have:ia o.cell p=false:=by simp only[ia,Gs];omega
   rw[List.find?_cons,this,VV]
theorem KA {s:bP} {c:Int}:(Yp s c).cell=c:=by
 cases h:(dB s c).isSome with
 |true=>exact (wD h).2
 |false=>
  unfold Yp;cases e:dB s c with
  |some o=>rw[e] at h;cases h
  |none=>rfl
theorem KF {o x:cr}:∀{l:List cr},x∈eZ l o->x=o\/x∈l
 |[],h=>by simpa [eZ] using h
 |p::l,h=>by
  rw[eZ] at h;split at h
  ·split at h
   ·rcases GH.1 h with h|h
    ·exact .inl h
    ·exact .inr (G2 _ h)
   ·rcases GH.1 h with h|h
    ·exact .inl h
    ·exact .inr h
  ·rcases GH.1 h with h|h
   ·exact .inr (by rw[h];exact G0 ..)
   ·rcases KF h with h|h
    ·exact .inl h
    ·exact .inr (G2 _ h)
theorem Ke {o:cr}:∀{l:List cr},(eZ l o).length<=l.length+1
 |[]=>by simp[eZ]
 |p::l=>by
  have:=Ke (o:=o) (l:=l);rw[eZ];split
  ·split<;>simp
  ·simp only[List.length_cons];omega
def Bd (k n t:Nat) (s:bP):Prop:=s.owns.length<=k/\∀o∈s.owns,o.rep.members.length<=n/\o.rep.acks.length<=n/\o.outs.length<=n/\o.rep.base.length<=t/\o.rep.text.length<=t/\∀m∈o.outs,i5 m
def Bd.ok {k n t:Nat} {s:bP} (h:Bd k n t s) (p:k<=10000) (q:n<=10000):iK s:=
 ⟨by have:=h.1;omega,fun o j=>by
  obtain⟨a,b,c,-,-,d⟩:=h.2 o j;exact⟨⟨by omega,by omega⟩,by omega,d⟩⟩
def Bd.find {k n t:Nat} {s:bP} (h:Bd k n t s) (c:Int):(Yp s c).rep.members.length<=n/\(Yp s c).rep.acks.length<=n/\(Yp s c).outs.length<=n/\(Yp s c).rep.base.length<=t/\(Yp s c).rep.text.length<=t/\∀m∈(Yp s c).outs,i5 m:=by
 cases e:(dB s c).isSome with
 |true=>exact h.2 _ (wD e).1
 |false=>
  unfold Yp;cases j:dB s c with
  |some o=>rw[j] at e;cases e
  |none=>simp[kO]
def WF {s:bP} (h:uj s=true):Bd 6 40 8192 s:=by
 have⟨h1,p,q⟩:=Ku h;exact⟨p,fun o j=>by
  have⟨a,b,c,d,e⟩:=q o j;exact⟨c,d,by omega,a,b,(h1.2 o j).2.2⟩⟩
def WJ {k n t:Nat} {s:bP} {m:bC} (h:Bd k n t s) (hm:m.mem.length<=n) (ht:m.text.length<=t):Bd (k+1) (n+1) t (nk s m).1:=by
 have hw:Bd (k+1) (n+1) t s:=⟨by have:=h.1;omega,fun o ho=>by
  have⟨a,b,c,d,e,f⟩:=h.2 o ho;exact⟨by omega,by omega,by omega,d,e,f⟩⟩
 unfold nk;split
 ·exact hw
 ·split
  ·exact hw
  ·have⟨a,b,c,d,e,f⟩:=h.find m.n;obtain⟨q,u,-,y,z⟩:=gb (r:=(Yp s m.n).rep) (w:=jW m);refine⟨GI Ke (by have:=h.1;omega),fun o ho=>?_⟩;rcases KF ho with rfl|ho
   ·have j:(jW m).members.length<=n:=hm;have p:(jW m).text.length<=t:=ht;refine⟨?_,?_,?_,?_,?_,?_⟩
    ·exact GI q (by omega)
    ·exact GI u (by omega)
    ·unfold jU;simp only;split
     ·omega
     ·simp
    ·show (Yx (Yp s m.n).rep (jW m)).1.base.length<=t
     rcases y with l|l|⟨l,-⟩<;>rw[l]<;>assumption
    ·show (Yx (Yp s m.n).rep (jW m)).1.text.length<=t
     rcases z with l|⟨l,-⟩<;>rw[l]<;>assumption
    ·unfold jU;simp only;split
     ·exact f
     ·intro m hm;cases hm
   ·exact hw.2 o ho
def wS (w:Int):Bool:=decide (0<=w)&&decide (w<=1099511627776)
def gA (a:aB) (w:Int):aB×Int:=
 if Ya a&&wS w then (if a.wall<w then (⟨w,0,a.node⟩,0) else if a.tick=1048576 then (⟨0,0,0⟩,6) else (⟨a.wall,a.tick+1,a.node⟩,0)) else (⟨0,0,0⟩,1)
def Oy {a:aB} (h:Ya a=true):(0<=a.wall/\a.wall<=1099511627776)/\(0<=a.tick/\a.tick<=1048576)/\0<=a.node/\a.node<=255:=by
 simp only[Ya,pC,Ge,Gj] at h;omega
def AD:=HpC 499 F499 lC
def IR (h:AD Pg) (a:aB) (w:Int):K' Pg 499 [.agg (Ye a),iz w]=some (.bool (Ya a&&wS w)):=by
 have⟨h,j⟩:=h;have k:=lh j a;simp only[go_sem] at k;refine aA h rfl ?_;cases o:Ya a with
 |false=>rw[o] at k;simp only[F499,c499,go_sem,k,Gm]
 |true=>
  rw[o] at k;cases p:decide (0<=w)<;>simp only[F499,c499,go_sem,k,wS,p,Gy]
def Ap:=HpC 474 F474 AD
def IC (h:Ap Pg) (a:aB) (w:Int):∃c:aB,K' Pg 474 [.agg (Ye a),iz w]=some (.tuple [.agg (Ye c),.agg (Ye (gA a w).1),iz (gA a w).2]):=by
 have⟨h,o⟩:=h;have k:=IR o a w;simp only[go_sem] at k;unfold gA;cases p:(Ya a&&wS w) with
 |false=>
  rw[p] at k;refine⟨⟨0,0,0⟩,aA h rfl ?_⟩;simp only[F474,c474,go_sem,k,Gl,Gv]
 |true=>
  rw[p] at k;simp only[Ge] at p;have⟨q,u,y⟩:=Oy p.1;simp only[Gw];cases j:decide (a.wall<w) with
  |true=>
   rw[Gt (Gc j)];refine⟨⟨w,0,a.node⟩,aA h rfl ?_⟩;simp only[F474,c474,go_sem,k,j]
  |false=>
   rw[Gn (Ga j)];cases c3:decide (a.tick=1048576) with
   |true=>
    rw[Gt (Gc c3)];refine⟨⟨0,0,0⟩,aA h rfl ?_⟩;simp only[F474,c474,go_sem,k,j,c3]
   |false=>
    rw[Gn (Ga c3)];have hw:IntKind.i64.wrap (a.tick+1)=a.tick+1:=bv (by omega) (by omega);refine⟨⟨a.wall,a.tick+1,a.node⟩,aA h rfl ?_⟩;simp only[F474,c474,go_sem,k,j,c3,hw]
def At:=HpZ 479 F479
def IG (h:At Pg) (w:Int):K' Pg 479 [iz w]=some (.bool (wS w)):=by
 refine aA h rfl ?_;cases j:decide (0<=w)<;>simp only[F479,c479,go_sem,j,wS]
def Ai:=HpC 449 F449<|HpA nN<|At
def Is (h:Ai Pg) (a:aB) (w:Int):K' Pg 449 [.agg (Ye a),iz w]=some (.tuple [.agg (Ye (gA a w).1),iz (gA a w).2]):=by
 have⟨h,y,q⟩:=h;have o:=mD y a;have j:=IG q w;simp only[go_sem] at o;refine aA h rfl ?_;unfold gA;cases u:Ya a with
 |false=>rw[u] at o;simp only[F449,c449,go_sem,o,Gm,Gl,Gv]
 |true=>
 rw[u] at o;cases z:wS w with
 |false=>rw[z] at j;simp only[F449,c449,go_sem,o,j,Gq,Gl,Gv]
 |true=>
 rw[z] at j;have⟨B,D,E⟩:=Oy u;simp only[GL,Gw];cases p:decide (a.wall<w) with
 |true=>
  rw[Gt (Gc p)];simp only[F449,c449,go_sem,o,j,p]
 |false=>
  rw[Gn (Ga p)];cases c3:decide (1048576<=a.tick) with
  |true=>
   rw[Gt (by have:=Gc c3;omega)];simp only[F449,c449,go_sem,o,j,p,c3]
  |false=>
   rw[Gn (by have:=Ga c3;omega)];have hw:IntKind.i64.wrap (a.tick+1)=a.tick+1:=bv (by omega) (by omega);simp only[F449,c449,go_sem,o,j,p,c3,hw]
def dC (id:Int) (m:bC) (a:eE):bC:={cX with kind:=2,from_:=id,to:=m.from_,n:=m.n,req:={dZ with client:=m.req.client,req:=m.req.req},ans:=a}
def vv:=HpZ 439 F439
def BW (h:vv Pg) (s:bP) (m:bC) (a:eE):K' Pg 439 [.agg (YT s),.agg (di m),.agg (dV a)]=some (.agg (di (dC s.id m a))):=by
 refine aA h rfl ?_;simp only[F439,c439,go_sem,dC,cX,dZ,dx,Gk]
def Ah:=HpZ 448 F448
def BX (h:Ah Pg) (s:bP) (m:bC) (a:eE):K' Pg 448 [.agg (YT s),.agg (di m),.agg (dV a)]=some (.agg (di (dC s.id m a))):=by
 refine aA h rfl ?_;simp only[F448,c448,go_sem,dC,cX,dZ,dx,Gk]
def de (s:bP) (o:cr) (c:aP) (outs:List bC):bP×List bC:=
 if (Yr o.rep (cB c)).2.2≠0 then (s,[])
 else (⟨s.id,eZ s.owns ⟨o.cell,(Yr o.rep (cB c)).1,if YI (Yr o.rep (cB c)).1 then outs else []⟩⟩,Y5 o.cell (Yr o.rep (cB c)).2.1++if YI (Yr o.rep (cB c)).1 then [] else outs)
def KD {r:bG} {t:mp} (hm:r.members.length<=10000):(Yr r t).1.members.length<=10000/\(Yr r t).1.acks.length<=max 1 r.acks.length/\(Yr r t).2.1.length<=10000/\wU (Yr r t).2.1:=by
 have z:Yt.members.length<=10000/\Yt.acks.length<=max 1 r.acks.length/\([]:List bI).length<=10000/\wU []:=⟨by simp[Yt],by simp[Yt],by simp,fun w hw=>by cases hw⟩;unfold Yr;split
 ·split
  ·split
   ·split
    ·exact z
    ·have⟨p,q,j,u,y,o⟩:=Cg ⟨r.id,r.view,r.members,r.n+1,r.base,t,[r.id]⟩;refine⟨by rw[j];exact hm,by rw[o];simp;omega,GI xK hm,Kh⟩
   ·exact z
  ·exact z
 ·exact z
def rR:=HpC 442 F442<|HpA vn<|HpA Mq<|HpA rN<|HpA vq<|rZ
theorem sx (h:rR Pg) (s:bP) (o:cr) (c:aP) (outs:List bC) (R:s.owns.length<=100000) (I:dw o.rep) (P:Yy c=true) (W:outs.length<=10000) :
  K' Pg 442 [.agg (YT s),.agg (eJ o),.agg (Yq c),jy outs]=some (kS (de s o c outs)):=by
 have⟨h,B,L,D,J,E⟩:=h
 have j:=BH B c (YU P)
 rw[Gt P] at j
 have y:=Vp L o.rep (cB c) I.ok I.1
 have⟨S,X,T,U⟩:=KD (t:=cB c) I.1
 have N:dw (Yr o.rep (cB c)).1:=⟨S,by have:=I.2;omega⟩
 have w:=vY J (Yr o.rep (cB c)).1 N.ok
 have q:=v7 D o.cell (Yr o.rep (cB c)).2.1 U (by omega)
 have u:=fun x=>wh E s ⟨o.cell,(Yr o.rep (cB c)).1,x⟩ R
 have M:(Y5 o.cell (Yr o.rep (cB c)).2.1).length<=10000:=by simpa [Y5] using T
 unfold de
 generalize cB c=Q at *
 generalize Yr o.rep Q=p at *
 have⟨r,wl,e⟩:=p
 simp only[uh] at y
 simp only at w q u M ⊢
 generalize Y5 o.cell wl=sl at *
 have H:sl.length+outs.length<=aU:=by unfold aU;omega
 simp only[go_sem] at j y w q u
 refine aA h rfl ?_
 cases z:decide (e=0) with
 |false=>
  rw[Gt (Ga z)]
  simp only[F442,c442,go_sem,j,y,z,Gk]
 |true=>
  rw[Gn (by simpa using Gc z)]
  cases O:YI r with
  |true=>
   rw[O] at w
   simp only[Gw,GD]
   simp only[F442,c442,go_sem,j,y,z,w,q,u,Gi]
  |false=>
   rw[O] at w
   have k:=u []
   simp only[Gk] at k
   simp only[Gl,Gv]
   simp only[F442,c442,go_sem,j,y,z,w,q,k,H,Gi,Gz,Gk,Gf]
theorem P9:tj=EI:=rfl
@[go_sem] def pZ (x:aP×eE):V:=.tuple [.agg (Yq x.1),.agg (dV x.2)]
def DW (P:St->Prop):Ex->St->Prop:=fun j S=>j=.norm/\P S
@[go_sem] theorem Ym6 {P:St->Prop} {S:St}:DW P .norm S=P S:=by simp[DW]
def V9 {s:aB} (h:Ya s=true):0<=s.wall/\s.wall<=1099511627776:=by
 simp only[Ya,pC,Ge,Gj] at h;omega
def zE:=HpC 291 F291<|HpA rm<|HpA uS<|HpA kc<|HpA yR<|HpA nP<|vf
def HO (h:zE Pg) (c:aP) (s:aM) (r:Rq) (wall:Int) (U:Sm s.ents) (X:ck s.ents=true) (ht:Ya r.at_=true) :
  K' Pg 291 [.agg (Yq c),.agg (Yg s),.agg (lu r),iz wall]=some (pZ (iv c s r wall)):=by
 have⟨h,N,O,D,E,y,H⟩:=h
 have u:=tU N r.at_ s.mark
 have w:=xE O c.top r.at_
 have I:=ku D s.span.hi r.hi
 have T:=jt y 13
 have S:=jt y 12
 have o:=Bw H s.ents r.key r.at_ U
 have j:=fun hi=>Hg E s.ents r.key hi r.at_ r.limit U
 simp only[X,Gw,Yf,ET,CW,P9,Ye] at j
 simp only[Yf,Ye,LF,dv] at u w o
 simp only[dV,YB,aE,Gk] at T S
 have hw:IntKind.i64.wrap (r.at_.wall-1000)=r.at_.wall-1000:=by have:=V9 ht;exact bv (by omega) (by omega)
 have P:decide (YD (Yu s.span.hi) (Yu r.hi)<0)=bQ s.span.hi r.hi:=rfl
 clear N O D E y H X ht U
 refine aA h rfl ?_
 clear h
 cases z:decide (Yc r.at_ s.mark<0) with
 |true=>
  have hm:iv c s r wall=(c,aE 13):=by simp only[iv,Gc z,Gw]
  rw[hm]
  simp only[go_sem,aE, *]
 |false=>
 have M:=Ga z
 cases B:decide (wall<r.at_.wall-1000) with
 |true=>
  have hm:iv c s r wall=(c,aE 12):=by simp only[iv,M,Gc B,Gw,Gv]
  rw[hm]
  simp only[go_sem,aE, *]
 |false=>
 have hm:iv c s r wall=(⟨c.shards,later c.top r.at_,c.dropped⟩,if r.kind=5 then ul s r else yh s r):=by simp only[iv,M,Ga B,Gv]
 rw[hm]
 cases c3:decide (r.kind=5) with
 |true=>
  rw[Gt (Gc c3)]
  unfold ul
  cases q:pI s.ents r.key r.at_ with
  |none=>
   simp only[q,Option.getD_none,Option.isSome_none,gz] at o
   simp only[go_sem,u,w,o,hw,z,B,c3]
  |some v=>
   simp only[q,Option.getD_some,Option.isSome_some] at o
   simp only[go_sem,u,w,o,hw,z,B,c3]
 |false=>
  rw[Gn (Ga c3)]
  unfold yh C6
  cases J:decide (s.span.hi=[]) with
  |true=>
   have L:j4 s r=false:=by simp[j4,J]
   simp only[go_sem,u,w,j,hw,z,B,c3,J,L]
  |false=>
  cases Q:decide (r.hi=[]) with
  |true=>
   have L:j4 s r=true:=by simp[j4,J,Q]
   simp only[L,Gw,Gy]
   have k:=j s.span.hi
   generalize lZ s.ents r.key s.span.hi r.at_ r.limit=p at k
   cases W:p.2.2<;>simp only[go_sem,u,w,k,hw,z,B,c3,J,Q,W]
  |false=>
   cases R:bQ s.span.hi r.hi with
   |true=>
    have L:j4 s r=true:=by simp[j4,J,R]
    simp only[L,Gw,Gy]
    have k:=j s.span.hi
    generalize lZ s.ents r.key s.span.hi r.at_ r.limit=p at k
    cases W:p.2.2<;>simp only[go_sem,u,w,I,P,k,hw,z,B,c3,J,Q,R,W]
   |false=>
    have L:j4 s r=false:=by simp[j4,J,Q,R]
    simp only[go_sem,u,w,I,P,j,hw,z,B,c3,J,Q,R,L]
def pW:Eq:=[iz 0,iz 0,iz 0,iz 0,.bool false,.str [],.slice 2 [],.str [],.bool false]
def pX:Eq:=[.slice 17 [],iz 0,iz 0,iz 0,iz 0]
structure gM (c:aP) (s':aM) (r:Rq) (aL:aB) (a:eE) (e:Int) (S:St):Prop where
 g4:S.ρ 4=.lref 4 0
 g5:S.ρ 5=.lref 5 0
 g6:S.ρ 6=.lref 6 0
 g7:S.ρ 7=.lref 7 0
 g8:S.ρ 8=.lref 8 0
 g9:S.ρ 9=.lref 9 0
 gB:S.ρ 13=.lref 13 0
 ic:S.ρ 14=iz e
 m4:S.μ 4=some (Yq c,false)
 m5:S.μ 5=some (Yg s',false)
 m6:S.μ 6=some (lu r,false)
 m7:S.μ 7=some (Ye aL,false)
 m8:S.μ 8=some (pX,false)
 m9:S.μ 9=some (pW,false)
 dR:S.μ 13=some (dV a,false)
def zD:=HpC 289 F289<|HpA rm<|HpA MC<|HpA Fj<|HpA Fk<|HpA uQ<|HpA nP<|HpA uX<|im
def ZC (z:uQ Pg) (c:aP) (s:aM) (r:Rq) (aL:aB) (o:eE) (R:Sm s.ents) (S:St) (hP:gM c s r aL ⟨0,aL,o.found,[],[],[],false⟩ 0 S) (jG:S.ρ 12=.lref 12 0) (fb:S.μ 12=some (dV o,false)) :
  Wp (K' Pg) LN S (DW (gM c {s with ents:=(Y0 o s r aL).1} r aL (dM o r aL) (Y0 o s r aL).2)):=by
 have⟨g4,g5,g6,g7,g8,g9,gB,ic,m4,m5,m6,m7,m8,m9,dR⟩:=hP
 have H:=Ba z s.ents r.key ⟨aL,false,r.value⟩ R
 have T:=Ba z s.ents r.key ⟨aL,true,[]⟩ R
 simp only[Yf,uq,dv] at H T
 unfold LN
 have swap:∀(s':aM) (a:eE) (e:Int) (S':St),(S'.ρ 4=.lref 4 0/\S'.ρ 5=.lref 5 0/\S'.ρ 6=.lref 6 0/\S'.ρ 7=.lref 7 0/\S'.ρ 8=.lref 8 0/\S'.ρ 9=.lref 9 0/\S'.ρ 13=.lref 13 0/\S'.ρ 14=iz e/\S'.μ 4=some (Yq c,false)/\S'.μ 5=some (Yg s',false)/\S'.μ 6=some (lu r,false)/\S'.μ 7=some (Ye aL,false)/\S'.μ 8=some (pX,false)/\S'.μ 9=some (pW,false)/\S'.μ 13=some (dV a,false))->gM c s' r aL a e S':=
  fun s' a e S' ⟨U,W,X,Y,Z,a6,a7,a8,a9,J,L,M,N,O,P⟩=>⟨U,W,X,Y,Z,a6,a7,a8,a9,J,L,M,N,O,P⟩
 have q:iJ o r=true->gM c {s with ents:=(Y0 o s r aL).1} r aL (dM o r aL) (Y0 o s r aL).2=gM c s r aL ⟨15,aL,o.found,o.val,[],[],false⟩ 0:=fun u=>by
  simp only[Y0,dM,u,Gw]
 have put:iJ o r=false->decide (r.kind=2)=false->gM c {s with ents:=(Y0 o s r aL).1} r aL (dM o r aL) (Y0 o s r aL).2=gM c {s with ents:=(ej s.ents r.key ⟨aL,false,r.value⟩).1} r aL ⟨0,aL,o.found,[],[],[],false⟩ (ej s.ents r.key ⟨aL,false,r.value⟩).2:=fun u E=>by
  simp only[Y0,dM,u,E,GR,Gw,Gl,Gv]
 have D:iJ o r=false->decide (r.kind=2)=true->o.found=true->gM c {s with ents:=(Y0 o s r aL).1} r aL (dM o r aL) (Y0 o s r aL).2=gM c {s with ents:=(ej s.ents r.key ⟨aL,true,[]⟩).1} r aL ⟨0,aL,o.found,[],[],[],false⟩ (ej s.ents r.key ⟨aL,true,[]⟩).2:=fun u E Q=>by
  simp only[Y0,dM,u,E,Q,Gx,Gw,Gl,Gv]
 have B:iJ o r=false->decide (r.kind=2)=true->o.found=false->gM c {s with ents:=(Y0 o s r aL).1} r aL (dM o r aL) (Y0 o s r aL).2=gM c s r aL ⟨0,aL,o.found,[],[],[],false⟩ 0:=fun u E Q=>by
  simp only[Y0,dM,u,E,Q,Gx,Gl,Gv]
 cases p:decide (r.kind=3) with
 |true=>
  have y:decide (r.kind=2)=false:=Gp (by have:=Gc p;omega)
  cases w:(o.found == r.had) with
  |false=>
   rw[q (by rw[iJ,p,w];rfl)]
   simp only[go_sem,g6,jG,gB,m6,fb,dR,p,w]
   exact swap _ _ _ _ (by simp only[go_sem,g4,g5,g6,g7,g8,g9,gB,ic,m4,m5,m6,m7,m8,m9])
  |true=>
  cases j:o.found with
  |false=>
   rw[put (by rw[iJ,w,j,p];rfl) y,j]
   simp only[dV] at fb dR
   rw[j] at w fb dR
   simp only[go_sem,g5,g6,g7,jG,m5,m6,m7,fb,p,w,y,H]
   exact swap _ _ _ _ (by simp only[go_sem,g4,g5,g6,g7,g8,g9,gB,m4,m6,m7,m8,m9,dR])
  |true=>
  cases I:decide (o.val=r.old) with
  |false=>
   rw[q (by rw[iJ,p,w,j,I];rfl),j]
   simp only[dV] at fb dR
   rw[j] at w fb dR
   simp only[go_sem,g6,jG,gB,m6,fb,dR,p,w,I]
   exact swap _ _ _ _ (by simp only[go_sem,g4,g5,g6,g7,g8,g9,gB,ic,m4,m5,m6,m7,m8,m9])
  |true=>
   rw[put (by rw[iJ,p,w,j,I];rfl) y,j]
   simp only[dV] at fb dR
   rw[j] at w fb dR
   simp only[go_sem,g5,g6,g7,jG,m5,m6,m7,fb,p,w,I,y,H]
   exact swap _ _ _ _ (by simp only[go_sem,g4,g5,g6,g7,g8,g9,gB,m4,m6,m7,m8,m9,dR])
 |false=>
  have u:iJ o r=false:=by rw[iJ,p];rfl
  cases y:decide (r.kind=2) with
  |false=>
   rw[put u y]
   simp only[go_sem,g5,g6,g7,m5,m6,m7,p,y,H]
   exact swap _ _ _ _ (by simp only[go_sem,g4,g5,g6,g7,g8,g9,gB,m4,m6,m7,m8,m9,dR])
  |true=>
  cases j:o.found with
  |false=>
   rw[B u y j,j]
   simp only[dV] at fb dR
   rw[j] at fb dR
   simp only[go_sem,g6,jG,m6,fb,p,y]
   exact swap _ _ _ _ (by simp only[go_sem,g4,g5,g6,g7,g8,g9,gB,ic,m4,m5,m6,m7,m8,m9,dR])
  |true=>
   rw[D u y j,j]
   simp only[dV] at fb dR
   rw[j] at fb dR
   simp only[go_sem,g5,g6,g7,jG,m5,m6,m7,fb,p,y,T]
   exact swap _ _ _ _ (by simp only[go_sem,g4,g5,g6,g7,g8,g9,gB,m4,m6,m7,m8,m9,dR])
def ZB (B:Fk Pg) (q:nP Pg) (u:im Pg) (c:aP) (s:aM) (r:Rq) (aL:aB) (a:eE) (e:Int) (J:fY c.shards) (L:1<=s.id/\s.id<=1099511627776) (M:s.done.length<=10000) (S:St) (I:gM c s r aL a e S) (z:aP×eE)
  (hz:z=if e≠0 then (c,aE e) else if (dQ s.done ⟨r.client,r.req,a⟩).2≠0 then (c,aE (dQ s.done ⟨r.client,r.req,a⟩).2) else (⟨br c.shards {s with done:=(dQ s.done ⟨r.client,r.req,a⟩).1},aL,c.dropped⟩,a)) :
  Wp (K' Pg) LJ S (fun D S=>(D=.norm\/D=.ret)/\jT F289 S=some (pZ z)):=by
 have⟨g4,g5,g6,g7,g8,g9,gB,ic,m4,m5,m6,m7,m8,m9,dR⟩:=I
 have o:=VC B s.done ⟨r.client,r.req,a⟩ (by omega)
 have E:=jt q e
 have j:=fun d=>iO u c {s with done:=d} J L
 simp only[Yb,ut,YK,YB] at o
 simp only[dV,YB,aE,Gk] at E
 simp only[pX,pW] at m8 m9
 unfold LJ
 cases w:decide (e=0) with
 |false=>
  rw[Gt (Ga w)] at hz
  rw[hz]
  simp only[go_sem,g4,g8,g9,ic,m4,m8,m9,w,E,aE]
 |true=>
 rw[Gn (by simpa using Gc w)] at hz
 generalize dQ s.done ⟨r.client,r.req,a⟩=p at o hz
 cases y:decide (p.2=0) with
 |false=>
  have H:=jt q p.2
  simp only[dV,YB,aE,Gk] at H
  rw[Gt (Ga y)] at hz
  rw[hz]
  simp only[go_sem,g4,g5,g6,g8,g9,gB,ic,m4,m5,m6,m8,m9,dR,w,y,o,H,aE]
 |true=>
  rw[Gn (by simpa using Gc y)] at hz
  have j:=j p.1
  simp only[Yq,Yw,Yg,Yf,Yb,ll] at j
  rw[hz]
  simp only[go_sem,g4,g5,g6,g7,g8,g9,gB,ic,m4,m5,m6,m7,m8,m9,dR,w,y,o,j]
def HN (h:zD Pg) (c:aP) (s:aM) (r:Rq) (aL:aB) (W:fY c.shards) (Q:kz s) (Y:1<=s.id/\s.id<=1099511627776) :
  K' Pg 289 [.agg (Yq c),.agg (Yg s),.agg (lu r),.agg (Ye aL)]=some (pZ (YO c s r aL)):=by
 have⟨h,M,N,O,P,B,j,D,E⟩:=h
 have X:=Q.2.1
 have u:=tU M aL c.top
 have q:=VA N s.done r.client r.req (by omega)
 have H:=N5 O s.done r.client (by omega)
 have p:=Bs D c s r.key Q.1
 have z:=jt j 10
 have T:=jt j 1
 simp only[Ye] at u
 simp only[Yb,C1,YK] at q H
 simp only[Yq,Yw,Yg,Yf,Yb] at p
 simp only[dV,YB,aE,Gk] at z T
 refine aA h rfl ?_
 simp only[F289]
 cases y:decide (li s.done r.client r.req=2) with
 |true=>
  have hm:YO c s r aL=(c,((oS s.done r.client).getD YR).ans):=by simp only[YO,Gc y,Gw]
  rw[hm]
  simp only[go_sem,q,H,y]
 |false=>
 have w:=Ga y
 cases I:decide (li s.done r.client r.req=3) with
 |true=>
  have hm:YO c s r aL=(c,aE 10):=by unfold YO;rw[Gn w,Gt (Gc I)]
  rw[hm]
  simp only[go_sem,q,y,I,z,aE]
 |false=>
 have J:=Ga I
 cases L:decide (Yc aL c.top<=0) with
 |true=>
  have hm:YO c s r aL=(c,aE 1):=by unfold YO;rw[Gn w,Gn J,Gt (Gc L)]
  rw[hm]
  simp only[go_sem,q,u,y,I,L,T,aE]
 |false=>
 have R:=Ga L
 have hm:YO c s r aL=if (Y0 (fy s r.key c.top) s r aL).2≠0 then (c,aE (Y0 (fy s r.key c.top) s r aL).2)
   else if (dQ s.done ⟨r.client,r.req,dM (fy s r.key c.top) r aL⟩).2≠0 then (c,aE (dQ s.done ⟨r.client,r.req,dM (fy s r.key c.top) r aL⟩).2)
   else (⟨br c.shards {s with ents:=(Y0 (fy s r.key c.top) s r aL).1,done:=(dQ s.done ⟨r.client,r.req,dM (fy s r.key c.top) r aL⟩).1},aL,c.dropped⟩,dM (fy s r.key c.top) r aL):=by
  simp only[YO,w,J,R,Gv]
 generalize fy s r.key c.top=o at p hm
 rw[c289]
 simp only[go_sem,q,u,y,I,L,p]
 refine (ZC B c s r aL o Q.1 _ ⟨?_,?_,?_,?_,?_,?_,?_,?_,?_,?_,?_,?_,?_,?_,?_⟩ ?_ ?_).mono ?_
 iterate 17 (simp only[go_sem,pX,pW])
 rintro Z S ⟨rfl,U⟩
 simp only[Nt,AX]
 exact ZB P j E c {s with ents:=(Y0 o s r aL).1} r aL (dM o r aL) (Y0 o s r aL).2 W Y X S U _ hm
@[go_sem] def ja (x:aP×Bool):V:=.tuple [.agg (Yq x.1),.bool x.2]
def YF {c:aP} {n:Int} {s:aM} (h:YP c n=some s):Yy c=true/\Ym n=true/\Y3 c.shards n=some s/\fY c.shards/\s.id=n/\1<=s.id/\s.id<=1099511627776/\s∈c.shards:=by
 unfold YP at h;split at h
 ·rename_i j;rw[Ge] at j;have o:=lX j.1;have hm:=(Ys h).1;exact⟨j.1,j.2,h,o,(Ys h).2,(o.2.2 s hm).1,(o.2.2 s hm).2,hm⟩
 ·cases h
def kE {c:aP} {n:Int} (h:Yy c=true) (j:Ym n=true):YP c n=Y3 c.shards n:=by simp only[YP,h,j,GL,Gw]
def Cr {c:aP} {n:Int} (h:Yy c=false):YP c n=none:=by simp only[YP,h,Gm,Gl,Gv]
def Cs {c:aP} {n:Int} (h:Ym n=false):YP c n=none:=by simp only[YP,h,Gq,Gl,Gv]
def jZ {a b:Int}:decide (a<=b)=!decide (b<a):=by by_cases h:b<a<;>simp[h]<;>omega
def zh:=HpC 256 F256<|HpA kf<|HpA ek<|im
def Hv (h:zh Pg) (c:aP) (n e l:Int) (D:eG c):K' Pg 256 [.agg (Yq c),iz n,iz e,iz l]=some (ja (jx c n e l)):=by
 have⟨h,o,p,u⟩:=h;have j:=kw o c n D;have z:=gq p 1 e l;simp only[mn] at z;simp only[Yq,Yw,pH] at j;clear o p;refine aA h rfl ?_;clear h;cases q:YP c n with
 |none=>
  have m:jx c n e l=(c,false):=by simp only[jx,q]
  rw[m];simp only[q,Option.getD_none,Option.isSome_none,Yk,Yg,Yf,Yb,Gk] at j;simp only[go_sem,j]
 |some s=>
 obtain⟨-,-,-,E,-,w,y,-⟩:=YF q;have B:=iO u c {s with hold:=l} E ⟨w,y⟩;have H:decide (l<=s.seen)=!decide (s.seen<l):=jZ;simp only[Yq,Yw,Yg,Yf,Yb] at B;simp only[q,Option.getD_some,Option.isSome_some,Yg,Yf,Yb] at j;simp only[jx,q];clear q D u E w y;cases I:Ym e with
 |false=>simp only[go_sem,GE, *]
 |true=>
 cases J:Ym l with
 |false=>simp only[go_sem,GE, *]
 |true=>
 cases c3:decide (s.epoch=e) with
 |false=>simp only[go_sem,GE, *]
 |true=>
 cases L:decide (s.phase=1) with
 |false=>simp only[go_sem,GE, *]
 |true=>
 cases M:decide (s.seen<l) with
 |false=>simp only[go_sem,GE, *]
 |true=>
 cases N:decide (s.hold=0) with
 |true=>simp only[go_sem,GE, *]
 |false=>
 cases O:decide (s.hold=l)<;>simp only[go_sem, *]
def zi:=HpC 257 F257<|HpA jo<|HpA iN<|HpA il<|jq
def Hw (h:zi Pg) (c:aP) (n e l:Int) (H:eG c):K' Pg 257 [.agg (Yq c),iz n,iz e,iz l]=some (ja (jx c n e l)):=by
 have⟨h,w,y,p,z⟩:=h;have o:=gI w c H;have j:=eY y c n H.1;have J:=cp p n;have N:=cp p e;have Q:=cp p l;simp only[Yq,Yw] at o j;clear w y p;refine aA h rfl ?_;clear h;cases u:Yy c with
 |false=>
  have m:jx c n e l=(c,false):=by simp only[jx,Cr u]
  rw[m];simp only[Yg,Yf,Yb] at j;simp only[go_sem,o,j,u]
 |true=>
 cases D:Ym n with
 |false=>
  have m:jx c n e l=(c,false):=by simp only[jx,Cs D]
  rw[m];simp only[Yg,Yf,Yb] at j;simp only[go_sem,o,j,J,u,D]
 |true=>
 cases q:Y3 c.shards n with
 |none=>
  have m:jx c n e l=(c,false):=by simp only[jx,kE u D,q]
  rw[m];simp only[q,Option.getD_none,Yk,Yg,Yf,Yb,Gk] at j;cases c3:Ym e with
  |false=>simp only[go_sem,o,j,J,N,u,D,c3]
  |true=>cases L:Ym l<;>simp only[go_sem,o,j,J,N,Q,u,D,c3,L]
 |some s=>
 obtain⟨-,-,-,M,-,E,I,-⟩:=YF ((kE u D).trans q);have B:=fX z c {s with hold:=l} false H.1;rw[oO M.1] at B;have O:=lm E;have P:decide (l<=s.seen)=!decide (s.seen<l):=jZ;simp only[Yq,Yw,Yg,Yf,Yb] at B;simp only[q,Option.getD_some,Yg,Yf,Yb] at j;simp only[jx,kE u D,q,ll];clear q H z M E I;cases c3:Ym e with
 |false=>simp only[go_sem,GE, *]
 |true=>
 cases L:Ym l with
 |false=>simp only[go_sem,GE, *]
 |true=>
 cases R:decide (s.epoch=e) with
 |false=>simp only[go_sem,GE, *]
 |true=>
 cases S:decide (s.phase=1) with
 |false=>simp only[go_sem,GE, *]
 |true=>
 cases T:decide (s.seen<l) with
 |false=>simp only[go_sem,GE, *]
 |true=>
 cases U:decide (s.hold=0) with
 |true=>simp only[go_sem,GE, *]
 |false=>
 cases W:decide (s.hold=l)<;>simp only[go_sem, *]
def zj:=HpC 258 F258<|HpA uS<|HpA lC<|HpA kf<|HpA ek<|im
def Hx (h:zj Pg) (c:aP) (n l:Int) (t:aB) (N:eG c):K' Pg 258 [.agg (Yq c),iz n,iz l,.agg (Ye t)]=some (ja (jV c n l t)):=by
 have⟨h,z,B,o,p,u⟩:=h;have j:=kw o c n N;have H:=i3 p 1 l;have L:=lh B t;have J:=xE z c.top t;simp only[mn] at H;simp only[Ye] at L J;simp only[Yq,Yw,pH] at j;clear o p B z;refine aA h rfl ?_;clear h;cases q:YP c n with
 |none=>
  have m:jV c n l t=(c,false):=by simp only[jV,q]
  rw[m];simp only[q,Option.getD_none,Option.isSome_none,Yk,Yg,Yf,Yb,Gk] at j;simp only[go_sem,j]
 |some s=>
 obtain⟨-,-,-,O,-,D,E,-⟩:=YF q;have I:=fun x=>iO u c {s with seen:=l,hold:=x} O ⟨D,E⟩;simp only[Yq,Yw,Yg,Yf,Yb,ll] at I;simp only[q,Option.getD_some,Option.isSome_some,Yg,Yf,Yb] at j;simp only[jV,q];clear q N u O D E;cases P:Ym l with
 |false=>simp only[go_sem,GE, *]
 |true=>
 cases Q:Ya t with
 |false=>simp only[go_sem,GE, *]
 |true=>
 cases c3:decide (l<=s.seen) with
 |true=>
  have w:=Gc c3;simp only[go_sem, *]
 |false=>
 have w:=Ga c3;cases M:decide (s.hold=l) with
 |true=>
  have y:=Gc M;simp only[w,y,Gw,Gv,GE];simp only[go_sem, *]
 |false=>
  have y:=Ga M;simp only[w,y,Gw,Gv,GE];simp only[go_sem, *]
def zk:=HpC 259 F259<|HpA nN<|HpA jo<|HpA iN<|HpA il<|HpA jq<|mz
def Hy (h:zk Pg) (c:aP) (n l:Int) (t:aB) (O:eG c):K' Pg 259 [.agg (Yq c),iz n,iz l,.agg (Ye t)]=some (ja (jV c n l t)):=by
 have⟨h,J,w,y,p,z,B⟩:=h;have o:=gI w c O;have j:=eY y c n O.1;have Q:=cp p n;have X:=cp p l;have M:=mD J t;have N:=ot B c.top t;simp only[Ye] at M N;simp only[Yq,Yw] at o j;clear w y p J B;refine aA h rfl ?_;clear h;cases u:Yy c with
 |false=>
  have m:jV c n l t=(c,false):=by simp only[jV,Cr u]
  rw[m];simp only[Yg,Yf,Yb] at j;simp only[go_sem,o,j,u]
 |true=>
 cases E:Ym n with
 |false=>
  have m:jV c n l t=(c,false):=by simp only[jV,Cs E]
  rw[m];simp only[Yg,Yf,Yb] at j;simp only[go_sem,o,j,Q,u,E]
 |true=>
 cases q:Y3 c.shards n with
 |none=>
  have m:jV c n l t=(c,false):=by simp only[jV,kE u E,q]
  rw[m];simp only[q,Option.getD_none,Yk,Yg,Yf,Yb,Gk] at j;cases c3:Ym l with
  |false=>simp only[go_sem,o,j,Q,X,u,E,c3]
  |true=>cases R:Ya t<;>simp only[go_sem,o,j,Q,X,M,u,E,c3,R]
 |some s=>
 obtain⟨-,-,-,U,-,L,P,-⟩:=YF ((kE u E).trans q);have D:=fun x=>fX z c {s with seen:=l,hold:=x} false O.1;have W:=fun x=>oO (s:={s with seen:=l,hold:=x}) U.1;simp only[W] at D;have Y:=lm L;simp only[Yq,Yw,Yg,Yf,Yb] at D;simp only[q,Option.getD_some,Yg,Yf,Yb] at j;simp only[jV,kE u E,q];clear q O z U L P W;cases c3:Ym l with
 |false=>simp only[go_sem,GE, *]
 |true=>
 cases R:Ya t with
 |false=>simp only[go_sem,GE, *]
 |true=>
 cases S:decide (l<=s.seen) with
 |true=>
  have H:=Gc S;simp only[go_sem, *]
 |false=>
 have H:=Ga S;cases T:decide (s.hold=l) with
 |true=>
  have I:=Gc T;simp only[H,I,Gw,Gv,GE];simp only[go_sem, *]
 |false=>
  have I:=Ga T;simp only[H,I,Gw,Gv,GE];simp only[go_sem, *]
def oN {c:aP} {n e:Int} {r:Rq} {aL:aB} {w:Int} (h:(Yy c&&(Ym n&&(Ym e&&(dq w&&(Ya aL&&df r)))))=false):fI c n e r aL w=(c,aE 1):=by
 simp only[fI,h,Gl,Gv]
def Qh {r:Rq} (h:df r=true):Ya r.at_=true:=by
 simp only[df,Ge] at h;exact h.2.2.2.2.2.2.2.2.1
def zc:=HpC 240 F240<|HpA lC<|HpA rp<|HpA gH<|HpA ek<|HpA zB<|HpA nP<|HpA jp<|HpA zC<|HpA zD<|HpA uX<|zE
theorem Hp (h:zc Pg) (c:aP) (n e:Int) (r:Rq) (aL:aB) (w:Int) (hc:eG c):K' Pg 240 [.agg (Yq c),iz n,iz e,.agg (lu r),.agg (Ye aL),iz w]=some (pZ (fI c n e r aL w)):=by
 have⟨h,ab,z,L,B,M,o,N,O,P,Q,R⟩:=h;have j:=ip L c hc;have S:=gq B 1 n e;have k0:=i3 B 0 w;have I:=lh ab aL;have D:=HL M r;have ac:=HM O r;have f1:=jt o 1;have aa:=jt o 10;have ae:=jt o 11;simp only[mn] at S;simp only[L6] at k0;simp only[Yq,Yw] at j;simp only[Ye] at I;simp only[lu] at D ac;simp only[dV,YB,aE,Gk] at f1 aa ae;refine aA h rfl ?_;clear h ab L B M o O;cases y:Yy c with
 |false=>
  rw[oN (by rw[y];rfl)];simp only[go_sem,aE,j,f1,y]
 |true=>
 cases J:(Ym n&&Ym e) with
 |false=>
  have ad:(Yy c&&(Ym n&&(Ym e&&(dq w&&(Ya aL&&df r)))))=false:=by rw[<-Bool.and_assoc (Ym n),J,Gm,Gq]
  rw[oN ad];rw[J] at S;simp only[go_sem,aE,j,S,f1,y]
 |true=>
 rw[J] at S;have E:Ym n=true:=by rw[Ge] at J;exact J.1
 have X:Ym e=true:=by rw[Ge] at J;exact J.2
 cases c3:dq w with
 |false=>
  rw[oN (by rw[c3];simp)];simp only[go_sem,aE,j,S,k0,f1,y,c3]
 |true=>
 cases Y:Ya aL with
 |false=>
  rw[oN (by rw[Y];simp)];simp only[go_sem,aE,j,S,k0,I,f1,y,c3,Y]
 |true=>
 cases Z:df r with
 |false=>
  rw[oN (by rw[Z];simp)];simp only[go_sem,aE,j,S,k0,I,D,f1,y,c3,Y,Z]
 |true=>
 have ho:=lX y;have hn:1<=n/\n<=1099511627776:=by simpa [Ym] using E
 have u:=ju N c n ho hn;simp only[Yq,Yw] at u;cases q:Y3 c.shards n with
 |none=>
  have m:fI c n e r aL w=(c,aE 10):=by simp only[fI,y,E,X,c3,Y,Z,q,GL,Gw]
  rw[m];have p:=sk z ⟨[],[]⟩ r.key;simp only[YZ] at p;simp only[q,Option.getD_none,Yk,Yg,Yf,Yb,Gk] at u;cases d1:decide (r.key=[])<;>simp only[go_sem,aE,j,S,k0,I,D,u,p,aa,y,c3,Y,Z,d1]
 |some s=>
 have hs:=ho.2.2 s (Ys q).1;have af:=lm hs.1;have H:=hc.2 s (Ys q).1;have p:=sk z s.span r.key;have T:=HN P c s r aL ho H hs;have U:=Bs Q c s r.key H.1;have W:=HO R c s r w H.1 (pw (((Yv.1 y).2.2.2.2 s (Ys q).1).2.1)).1 (Qh Z);have m:fI c n e r aL w=if !decide (s.epoch=e)||!iR s r then (c,aE 10)
   else if !decide (s.phase=1)||(mr r&&!decide (s.hold=0)) then (c,aE 11)
   else if mr r then YO c s r aL else if decide (r.kind=4)=true then (c,fy s r.key c.top) else iv c s r w:=by
  simp only[fI,y,E,X,c3,Y,Z,q,GL,Gw,Gj]
 rw[m];generalize YO c s r aL=x9 at T;generalize fy s r.key c.top=x0 at U;generalize iv c s r w=x1 at W;simp only[YZ] at p;simp only[Yq,Yw,Yg,Yf,Yb,lu,Ye,pZ,dV,YB] at T U W;simp only[q,Option.getD_some,Yg,Yf,Yb] at u;clear z N P Q R hc ho hn hs H q m J E X;cases d1:decide (s.epoch=e) with
 |false=>
  cases d2:decide (r.key=[]) with
  |false=>simp only[go_sem,aE, *]
  |true=>cases d3:decide (s.span.lo=[])<;>simp only[go_sem,aE, *]
 |true=>
 cases d2:decide (r.key=[]) with
 |false=>
  cases d4:dF s.span r.key with
  |false=>
   have hQ:iR s r=false:=by rw[iR,d2,d4];rfl
   simp only[go_sem,aE, *]
  |true=>
   have hQ:iR s r=true:=by rw[iR,d2,d4];rfl
   cases d5:decide (s.phase=1) with
   |false=>simp only[go_sem,aE, *]
   |true=>
   cases d6:mr r with
   |true=>cases d7:decide (s.hold=0)<;>simp only[go_sem,aE, *]
   |false=>
    cases d8:decide (r.kind=4) with
    |true=>
     simp only[go_sem,aE, *]
    |false=>
     simp only[go_sem,aE, *]
 |true=>
  cases d3:decide (s.span.lo=[]) with
  |true=>
   have hQ:iR s r=true:=by rw[iR,d2,d3];rfl
   cases d5:decide (s.phase=1) with
   |false=>simp only[go_sem,aE, *]
   |true=>
   cases d6:mr r with
   |true=>cases d7:decide (s.hold=0)<;>simp only[go_sem,aE, *]
   |false=>
    cases d8:decide (r.kind=4) with
    |true=>
     simp only[go_sem,aE, *]
    |false=>
     simp only[go_sem,aE, *]
  |false=>
  cases d4:dF s.span r.key with
  |false=>
   have hQ:iR s r=false:=by rw[iR,d2,d3,d4];rfl
   simp only[go_sem,aE, *]
  |true=>
   have hQ:iR s r=true:=by rw[iR,d2,d3,d4];rfl
   cases d5:decide (s.phase=1) with
   |false=>simp only[go_sem,aE, *]
   |true=>
   cases d6:mr r with
   |true=>cases d7:decide (s.hold=0)<;>simp only[go_sem,aE, *]
   |false=>
    cases d8:decide (r.kind=4) with
    |true=>
     simp only[go_sem,aE, *]
    |false=>
     simp only[go_sem,aE, *]
def zl:=HpC 261 F261<|HpA uS<|HpA lC<|gH
def Hz (h:zl Pg) (c:aP) (t:aB) (B:eG c):K' Pg 261 [.agg (Yq c),.agg (Ye t)]=some (.agg (Yq (pB c t))):=by
 have⟨h,u,w,o⟩:=h;have j:=ip o c B;have q:=lh w t;have p:=xE u c.top t;simp only[Ye] at q p;simp only[Yq,Yw] at j;refine aA h rfl ?_;cases y:Yy c with
 |false=>simp only[go_sem,j,y,pB]
 |true=>cases z:Ya t<;>simp only[go_sem,j,q,p,y,z,pB]
def zn:=HpC 263 F263<|HpA uU<|mz
def HB (h:zn Pg) (c:aP) (t:aB) (M:c.shards.length<=10000) (J:∀s∈c.shards,ck s.ents=true):K' Pg 263 [.agg (Yq c),.agg (Ye t)]=some (.agg (Yq ⟨c.shards.map (fe t),c.top,c.dropped⟩)):=by
 have⟨h,p,q⟩:=h;refine aA h rfl ?_;simp only[go_sem];unfold l263_0;refine bu (fun (i:Nat) S=>i<=c.shards.length/\S.ρ 2=.lref 2 0/\S.μ 2=some (Yq c,false)/\S.ρ 3=.lref 3 0/\S.μ 3=some (Ye t,false)/\S.ρ 4=.lref 4 0/\S.μ 4=some ([.slice 17 [],iz 0,iz 0,iz 0,iz 0],false)/\S.A 5=some (17,((c.shards.take i).map (fe t)).map Yg,.live)/\S.ρ 5=.own 5 17 i/\S.ρ 6=iz i/\S.μ 7=none) (fun i=>c.shards.length-i) 0 ?_ ?_
 ·simp[go_sem]
 ·intro i S ⟨hi,z,m2,I,m3,D,m4,y,E,H,m7⟩;simp only[go_sem,z,m2,H];refine aY (fun h=>?_) (fun h=>?_)
  ·have h:=Yj h;have⟨x,B,L⟩:=aZ h;have j:=Bi p x.ents t (J x (List.mem_of_getElem? B));have o:=ot q x.mark t;simp only[Yf,Ye] at j o;have u:IntKind.i64.wrap ((i:Int)+1)=((i+1:Nat):Int):=Yn h (by omega);have w:i+1<=aU:=by simp only[aU];omega
   have ht:(c.shards.take i).length=i:=by rw[GK];omega
   simp only[go_sem,z,m2,I,m3,D,m4,y,E,H,m7,B,j,o,w,ht];exact⟨i+1,by omega,by omega,by rw[G3,B];simp[fe,Yg,Yf,Yb],rfl,by rw[u]⟩
  ·have h:=YC hi h;subst h;rw[GB] at y;simp only[go_sem,z,m2,D,m4,y,E]
def zm:=HpC 262 F262<|HpA uS<|HpA lC<|HpA uT<|HpA gH<|rD
def mQ (t:aB) (l:List aM) (i:Nat):List aM:=(l.take i).map (fe t)++l.drop i
def W7 {c:aP} (h:Yy c=true) {s:aM} (j:s∈c.shards):bx s=true:=((Yv.1 h).2.2.2.2 s j).2.1
def Zk {t:aB} {l:List aM}:mQ t l l.length=l.map (fe t):=by simp[mQ]
def Zy {t:aB} {l:List aM} {i:Nat} {x:aM} (j:l[i]?=some x):(mQ t l i).set i (fe t x)=mQ t l (i+1):=by
 obtain⟨hi,rfl⟩:=List.getElem?_eq_some_iff.1 j;have o:((l.take i).map (fe t)).length=i:=by rw[Gi,GK];omega
 rw[mQ,mQ,List.drop_eq_getElem_cons hi,List.set_append_right _ _ (by omega),o,Nat.sub_self,List.set_cons_zero,G3,j];simp only[Option.toList_some,Gz,GA,Gk,GX,List.cons_append,List.nil_append]
def HA (h:zm Pg) (c:aP) (t:aB) (M:eG c):K' Pg 262 [.agg (Yq c),.agg (Ye t)]=some (.agg (Yq (kD c t))):=by
 have⟨h,P,Q,y,D,E⟩:=h;have j:=ip D c M;have q:=lh Q t;have L:=vS E (c.shards.map Yg) (by have:=M.1;simp[aU];omega);simp only[Ye] at q;simp only[Yq,Yw] at j;refine aA h rfl ?_;cases u:Yy c with
 |false=>simp only[go_sem,j,u,kD]
 |true=>
 cases O:Ya t with
 |false=>simp only[go_sem,j,q,u,O,kD]
 |true=>
 have e:kD c t=⟨c.shards.map (fe t),c.top,c.dropped⟩:=by simp only[kD,u,O,GL,Gw]
 rw[e];simp only[go_sem,j,q,L,u,O];unfold l262_0;refine bu (fun (i:Nat) S=>i<=c.shards.length/\S.ρ 2=.lref 2 0/\S.μ 2=some ([.own 18 17 c.shards.length,iz c.top.wall,iz c.top.tick,iz c.top.node,iz c.dropped],false)/\S.ρ 3=.lref 3 0/\S.μ 3=some (Ye t,false)/\S.ρ 4=.lref 4 0/\S.μ 4=some ([.slice 17 [],iz 0,iz 0,iz 0,iz 0],false)/\S.A 18=some (17,(mQ t c.shards i).map Yg,.live)/\S.ρ 21=.own 18 17 c.shards.length/\S.ρ 22=iz c.shards.length/\S.ρ 23=iz i/\S.μ 6=none) (fun i=>c.shards.length-i) 0 ?_ ?_
 ·simp only[go_sem,mQ,List.take_zero,tF,Gk,List.nil_append]
 ·intro i S ⟨hi,T,m2,W,m3,U,m4,p,w,z,B,m6⟩;simp only[go_sem,z,B];refine aY (fun h=>?_) (fun h=>?_)
  ·have h:=Yj h;have⟨x,N,Y⟩:=aZ h;have o:=Bh y x.ents t (M.2 x (List.mem_of_getElem? N)).1;have J:=xE P x.mark t;rw[(pw (W7 u (List.mem_of_getElem? N))).1,Gt rfl] at o;simp only[Yf,Ye] at o J;have H:IntKind.i64.wrap ((i:Int)+1)=((i+1:Nat):Int):=Yn h (by have:=M.1;omega);have R:(mQ t c.shards i)[i]?=some x:=by
    rw[mQ,List.getElem?_append_right (by simp;omega),Gi,GK,pn hi,Nat.sub_self,List.getElem?_drop];simpa using N
   have I:(mQ t c.shards i).length=c.shards.length:=by rw[mQ,Gf,Gi,GK,GP];omega
   have X:∀r,(((mQ t c.shards i).map Yg).set i r)[i]?=some r:=fun r=>by rw[List.getElem?_set_self];rw[Gi,I];exact h
   simp only[go_sem,T,m2,W,m3,U,m4,p,w,z,B,m6,R,h,o,J,I,X,List.set_set,qX,Gi];refine⟨i+1,by omega,by omega,?_,by rw[H]⟩;rw[<-Zy N,List.map_set]
   rfl
  ·have h:=YC hi h;subst h;rw[Zk] at p;simp only[go_sem,T,m2,U,m4,p,Gi,Gw]
def rC:=HpZ 302 F302
def su (h:rC Pg) (s:aM) (m:Int):K' Pg 302 [.agg (Yg s),iz m]=some (.bool (kG s m)):=by
 refine aA h rfl ?_;cases j:decide (s.phase=3)<;>simp only[go_sem,j,kG]
def nQ:=HpZ 303 F303
def sv (h:nQ Pg) (s:aM) (m:Int):K' Pg 303 [.agg (Yg s),iz m]=some (.bool (gP s m)):=by
 refine aA h rfl ?_;cases j:decide (s.phase=2)<;>simp only[go_sem,j,gP]
def up (s:aM) (p m:Int):Bool:=decide (0<s.id)&&(decide (s.phase=p)&&decide (s.move=m))
def va:=HpZ 305 F305
def iP (h:va Pg) (s:aM) (p m:Int):K' Pg 305 [.agg (Yg s),iz p,iz m]=some (.bool (up s p m)):=by
 refine aA h rfl ?_;cases j:decide (0<s.id) with
 |false=>simp only[go_sem,j,up]
 |true=>cases o:decide (s.phase=p)<;>simp only[go_sem,j,o,up]
def zp:=HpC 265 F265<|HpA kf<|HpA ek<|HpA nQ<|im
def HC (h:zp Pg) (c:aP) (n e m:Int) (H:eG c):K' Pg 265 [.agg (Yq c),iz n,iz e,iz m]=some (ja (YJ c n e m)):=by
 have⟨h,o,p,u,w⟩:=h;have j:=kw o c n H;have B:=gq p 1 e m;simp only[mn] at B;simp only[Yq,Yw,pH] at j;clear o p;refine aA h rfl ?_;clear h;cases q:YP c n with
 |none=>
  have m:YJ c n e m=(c,false):=by simp only[YJ,q]
  rw[m];simp only[q,Option.getD_none,Option.isSome_none,Yk,Yg,Yf,Yb,Gk] at j;simp only[go_sem,j]
 |some s=>
 obtain⟨-,-,-,I,-,y,z,-⟩:=YF q;have D:=sv u s m;have E:=iO w c {s with phase:=2,move:=m,top:=c.top} I ⟨y,z⟩;have J:decide (m<=s.closed)=!decide (s.closed<m):=jZ;simp only[Yg,Yf,Yb] at D;simp only[Yq,Yw,Yg,Yf,Yb] at E;simp only[q,Option.getD_some,Option.isSome_some,Yg,Yf,Yb] at j;simp only[YJ,q];clear q H u w I y z;cases L:Ym e with
 |false=>simp only[go_sem,GE, *]
 |true=>
 cases M:Ym m with
 |false=>simp only[go_sem,GE, *]
 |true=>
 cases c3:gP s m with
 |true=>simp only[go_sem,GE, *]
 |false=>
 cases N:decide (s.epoch=e) with
 |false=>simp only[go_sem,GE, *]
 |true=>
 cases O:decide (s.phase=1) with
 |false=>simp only[go_sem,GE, *]
 |true=>
 cases P:decide (s.hold=0) with
 |false=>simp only[go_sem,GE, *]
 |true=>
 cases Q:decide (s.closed<m)<;>simp only[go_sem, *]
def zt:=HpC 270 F270<|HpA kf<|HpA ek<|HpA nQ<|im
def HF (h:zt Pg) (c:aP) (n m:Int) (J:eG c):K' Pg 270 [.agg (Yq c),iz n,iz m]=some (ja (gU c n m)):=by
 have⟨h,o,u,w,y⟩:=h;have j:=kw o c n J;have H:=i3 u 1 m;simp only[mn] at H;simp only[Yq,Yw,pH] at j;clear o u;refine aA h rfl ?_;clear h;cases q:YP c n with
 |none=>
  have m:gU c n m=(c,false):=by simp only[gU,q]
  rw[m];simp only[q,Option.getD_none,Option.isSome_none,Yk,Yg,Yf,Yb,Gk] at j;simp only[go_sem,j]
 |some s=>
 obtain⟨-,-,-,L,-,D,E,-⟩:=YF q;have z:=sv w {s with closed:=m} m;have B:gP {s with closed:=m} m=gP s m:=rfl;have I:=fun p=>iO y c {s with closed:=m,phase:=p} L ⟨D,E⟩;rw[B] at z;simp only[Yg,Yf,Yb] at z;simp only[Yq,Yw,Yg,Yf,Yb] at I;simp only[q,Option.getD_some,Option.isSome_some,Yg,Yf,Yb] at j;simp only[gU,q];clear q J w y L D E B;cases O:Ym m with
 |false=>simp only[go_sem,GE, *]
 |true=>
 cases P:decide (m<=s.closed) with
 |true=>simp only[go_sem,jm, *]
 |false=>
 cases c3:decide (s.phase=2) with
 |false=>
  have N:gP s m=false:=by simp only[gP,c3,Gm]
  simp only[go_sem, *]
 |true=>
 cases M:decide (s.move=m) with
 |false=>simp only[go_sem, *]
 |true=>
  have N:gP s m=true:=by simp only[gP,c3,M,GL]
  simp only[go_sem, *]
def zr:=HpC 267 F267<|HpA gH<|HpA ek<|HpA jp<|HpA nQ<|rE
def HE (h:zr Pg) (c:aP) (n m:Int) (O:eG c):K' Pg 267 [.agg (Yq c),iz n,iz m]=some (ja (i6 c n m)):=by
 have⟨h,u,w,E,H,I⟩:=h;have j:=ip u c O;have o:=gq w 1 n m;simp only[mn] at o;simp only[Yq,Yw] at j;clear u w;refine aA h rfl ?_;clear h;cases B:Yy c with
 |false=>simp only[go_sem,j,B,i6]
 |true=>
 cases D:Ym n with
 |false=>simp only[go_sem,j,o,B,D,i6]
 |true=>
 cases c3:Ym m with
 |false=>simp only[go_sem,j,o,B,D,c3,i6]
 |true=>
 have L:=lX B;have M:1<=n/\n<=1099511627776:=by simpa [Ym] using D
 have p:=ju E c n L M;have z:=vT I c n L M;simp only[Yq,Yw] at p z;cases q:Y3 c.shards n with
 |none=>
  simp only[q,Option.getD_none,Yk,Yg,Yf,Yb,Gk] at p;simp only[go_sem,j,o,p,B,D,c3,q,i6]
 |some s=>
 have J:=lm (L.2.2 s (Ys q).1).1;have y:=sv H s m;simp only[Yg,Yf,Yb] at y;simp only[q,Option.getD_some,Yg,Yf,Yb] at p;cases N:gP s m<;>simp only[go_sem,j,o,p,y,z,B,D,c3,N,q,J,i6]
def uy {a b:Int}:(if a<b then b else a)=max a b:=by by_cases h:a<b<;>simp[h]<;>omega
def zq:=HpC 266 F266<|HpA kf<|HpA ek<|HpA rC<|im
def HD (h:zq Pg) (c:aP) (n m e:Int) (H:eG c):K' Pg 266 [.agg (Yq c),iz n,iz m,iz e]=some (ja (iL c n m e)):=by
 have⟨h,o,p,u,w⟩:=h;have j:=kw o c n H;have B:=gq p 1 m e;simp only[mn] at B;simp only[Yq,Yw,pH] at j;clear o p;refine aA h rfl ?_;clear h;cases q:YP c n with
 |none=>
  have m:iL c n m e=(c,false):=by simp only[iL,q]
  rw[m];simp only[q,Option.getD_none,Option.isSome_none,Yk,Yg,Yf,Yb,Gk] at j;simp only[go_sem,j]
 |some s=>
 obtain⟨-,-,-,I,-,y,z,-⟩:=YF q;have D:=su u s m;have E:=iO w ⟨c.shards,c.top,max c.dropped m⟩ {s with phase:=1,epoch:=e,closed:=m} I ⟨y,z⟩;have M:decide (e<=s.epoch)=!decide (s.epoch<e):=jZ;have N:(if c.dropped<m then m else c.dropped)=max c.dropped m:=uy;simp only[Yg,Yf,Yb] at D;simp only[Yq,Yw,Yg,Yf,Yb,ll] at E;simp only[q,Option.getD_some,Option.isSome_some,Yg,Yf,Yb] at j;simp only[iL,q];clear q H u w I y z;cases O:Ym m with
 |false=>simp only[go_sem,GE, *]
 |true=>
 cases P:Ym e with
 |false=>simp only[go_sem,GE, *]
 |true=>
 have tail:kG s m=true->True:=fun _=>GN;clear tail;cases c3:decide (s.phase=1) with
 |false=>
  cases J:kG s m with
  |false=>simp only[go_sem,GE, *]
  |true=>
  cases L:decide (s.epoch<e)<;>simp only[go_sem, *]
 |true=>
  have Q:kG s m=false:=by
   have:=Gc c3;simp[kG,this]
  cases J:decide (s.epoch=e) with
  |false=>simp only[go_sem, *]
  |true=>cases L:decide (s.closed=m)<;>simp only[go_sem, *]
def zu:=HpC 271 F271<|HpA gH<|HpA ek<|HpA jp<|HpA rC<|rE
theorem V7 {m:Int}:kG Yk m=false:=rfl
def HG (h:zu Pg) (c:aP) (n m:Int) (N:eG c):K' Pg 271 [.agg (Yq c),iz n,iz m]=some (ja (i7 c n m)):=by
 have⟨h,w,y,H,z,I⟩:=h;have j:=ip w c N;have p:=gq y 1 n m;simp only[mn] at p;simp only[Yq,Yw] at j;clear w y;refine aA h rfl ?_;clear h;cases D:Yy c with
 |false=>simp only[go_sem,j,D,i7]
 |true=>
 cases E:Ym n with
 |false=>simp only[go_sem,j,p,D,E,i7]
 |true=>
 cases c3:Ym m with
 |false=>simp only[go_sem,j,p,D,E,c3,i7]
 |true=>
 have L:=lX D;have J:1<=n/\n<=1099511627776:=by simpa [Ym] using E
 have u:=ju H c n L J;have B:=vT I c n L J;simp only[Yq,Yw] at u B;cases q:Y3 c.shards n with
 |none=>
  have o:=su z Yk m;rw[V7] at o;simp only[Yk,Yg,Yf,Yb,Gk] at o;simp only[q,Option.getD_none,Yk,Yg,Yf,Yb,Gk] at u;simp only[go_sem,j,p,u,o,D,E,c3,q,i7,uy]
 |some s=>
 have o:=su z s m;simp only[Yg,Yf,Yb] at o;simp only[q,Option.getD_some,Yg,Yf,Yb] at u;cases M:kG s m<;>simp only[go_sem,j,p,u,o,B,D,E,c3,M,q,i7,uy]
def O5 {c:aP} (h:Yy c=true) {s:aM} (j:s∈c.shards):bx s=true:=((Yv.1 h).2.2.2.2 s j).2.1
def Xl {s:aM} (h:bx s=true):0<=s.hold:=by
 simp only[bx,bE,dq,Ge,Gj] at h;omega
def EX {s:aM} {m:Int} (h:1<=s.id):up s 2 m=gP s m:=by
 have:decide (0<s.id)=true:=Gu (by omega);simp only[up,gP,this,Gy]
def LS {s:aM} {m:Int} (h:1<=s.id):up s 3 m=kG s m:=by
 have:decide (0<s.id)=true:=Gu (by omega);simp only[up,kG,this,Gy]
theorem LR {p m:Int}:up Yk p m=false:=rfl
def my:=HpC 269 F269<|HpA jo<|HpA iN<|HpA il<|HpA jq<|va
def Bm (h:my Pg) (c:aP) (n e m:Int) (M:eG c) :
   K' Pg 269 [.agg (Yq c), iz 0, iz n, iz e, iz m]=some (ja (YJ c n e m)):=by
  have⟨h, B, D, p, E, w⟩:=h
  have j:=gI B c M
  have u:=eY D c n M.1
  have N:=cp p n
  have R:=cp p e
  have P:=cp p m
  simp only [Yq, Yw] at j u
  clear B D p
  refine aA h rfl ?_
  clear h
  cases y:Yy c with
  | false =>
    have m:YJ c n e m=(c, false):=by simp only [YJ, Cr y]
    rw [m]
    simp only [go_sem, j, y]
  | true =>
  cases z:Ym n with
  | false =>
    have m:YJ c n e m=(c, false):=by simp only [YJ, Cs z]
    rw [m]
    simp only [go_sem, j, N, y, z]
  | true =>
  cases c3:Ym m with
  | false =>
    have m:YJ c n e m=(c, false):=by
      simp only [YJ];split
      · rfl
      · simp only [c3, Gq, Gl, Gv]
    rw [m]
    simp only [go_sem, j, N, P, y, z, c3]
  | true =>
  cases L:Ym e with
  | false =>
    have m:YJ c n e m=(c, false):=by
      simp only [YJ];split
      · rfl
      · simp only [L, Gm, Gl, Gv]
    rw [m]
    simp only [go_sem, j, N, P, R, y, z, c3, L]
  | true =>
  cases q:Y3 c.shards n with
  | none =>
    have o:=iP w Yk 2 m
    have e:YJ c n e m=(c, false):=by simp only [YJ, kE y z, q]
    rw [e]
    rw [LR] at o
    simp only [Yk, Yg, Yf, Yb, Gk] at o
    simp only [q, Option.getD_none, Yk, Yg, Yf, Yb, Gk] at u
    simp only [go_sem, j, u, o, N, R, P, y, z, c3, L]
  | some s =>
  obtain ⟨-, -, -, Q, -, J, O, H⟩:=YF ((kE y z).trans q)
  have I:=fX E c { s with phase:=2, move:=m, top:=c.top } false M.1
  rw [oO Q.1] at I
  have o:=iP w s 2 m
  rw [EX J] at o
  have S:=lm J
  have T:decide (m <= s.closed) = !decide (s.closed < m):=jZ
  have hh:decide (0 < s.hold) = !decide (s.hold=0):=by
    have:=Xl (O5 y H);by_cases h:s.hold=0 <;> simp [h];omega
  simp only [Yg, Yf, Yb] at o
  simp only [Yq, Yw, Yg, Yf, Yb] at I
  simp only [q, Option.getD_some, Yg, Yf, Yb] at u
  simp only [YJ, kE y z, q, ll, c3, L, GL, Gw]
  clear q M E w Q J O H
  cases U:gP s m with
  | true => simp only [go_sem, GE, *]
  | false =>
  cases W:decide (s.epoch=e) with
  | false => simp only [go_sem, GE, *]
  | true =>
  cases X:decide (s.phase=1) with
  | false => simp only [go_sem, GE, *]
  | true =>
  cases Y:decide (s.hold=0) with
  | false => simp only [go_sem, GE, *]
  | true =>
  cases Z:decide (s.closed < m) <;> simp only [go_sem, *]
def Bn (h:my Pg) (c:aP) (n e m:Int) (M:eG c) :
  K' Pg 269 [.agg (Yq c),iz 1,iz n,iz e,iz m]=some (ja (gU c n m)):=by
 have⟨h,y,z,o,B,D⟩:=h
 have j:=gI y c M
 have u:=eY z c n M.1
 have O:=cp o n
 have Y:=cp o e
 have S:=cp o m
 simp only[Yq,Yw] at j u
 clear y z o
 refine aA h rfl ?_
 clear h
 cases w:Yy c with
 |false=>
  have m:gU c n m=(c,false):=by simp only[gU,Cr w]
  rw[m]
  simp only[go_sem,j,w]
 |true=>
 cases I:Ym n with
 |false=>
  have m:gU c n m=(c,false):=by simp only[gU,Cs I]
  rw[m]
  simp only[go_sem,j,O,w,I]
 |true=>
 cases c3:Ym m with
 |false=>
  have m:gU c n m=(c,false):=by
   simp only[gU];split
   ·rfl
   ·simp only[c3,Gl,Gv]
  rw[m]
  simp only[go_sem,j,O,S,w,I,c3]
 |true=>
 cases q:Y3 c.shards n with
 |none=>
  have e:gU c n m=(c,false):=by simp only[gU,kE w I,q]
  rw[e]
  simp only[q,Option.getD_none,Yk,Yg,Yf,Yb,Gk] at u
  simp only[go_sem,j,u,O,S,w,I,c3]
 |some s=>
 obtain⟨-,-,-,Q,-,J,N,L⟩:=YF ((kE w I).trans q)
 have E:=fun p=>fX B c {s with closed:=m,phase:=p} false M.1
 have R:=fun p=>oO (s:={s with closed:=m,phase:=p}) Q.1
 simp only[R] at E
 have H:=iP D s 2 m
 rw[EX J] at H
 have W:=lm J
 simp only[Yg,Yf,Yb] at H
 simp only[Yq,Yw,Yg,Yf,Yb] at E
 simp only[q,Option.getD_some,Yg,Yf,Yb] at u
 simp only[gU,kE w I,q,ll,c3,Gw]
 clear q M B D Q J N L R
 cases X:decide (m<=s.closed) with
 |true=>simp only[go_sem,jm, *]
 |false=>
 cases P:decide (s.phase=2) with
 |false=>
  have U:gP s m=false:=by simp only[gP,P,Gm]
  simp only[go_sem, *]
 |true=>
 cases T:decide (s.move=m) with
 |false=>simp only[go_sem, *]
 |true=>
  have U:gP s m=true:=by simp only[gP,P,T,GL]
  simp only[go_sem, *]
def Bo (h:my Pg) (c:aP) (n e m:Int) (M:eG c) :
  K' Pg 269 [.agg (Yq c),iz 2,iz n,iz e,iz m]=some (ja (i6 c n m)):=by
 have⟨h,u,w,o,y,z⟩:=h
 have j:=gI u c M
 have p:=eY w c n M.1
 have O:=cp o n
 have T:=cp o e
 have P:=cp o m
 simp only[Yq,Yw] at j p
 clear u w o
 refine aA h rfl ?_
 clear h
 cases E:Yy c with
 |false=>
  have m:i6 c n m=(c,false):=by simp only[i6,E,Gm,Gl,Gv]
  rw[m]
  simp only[go_sem,j,E]
 |true=>
 cases I:Ym n with
 |false=>
  have m:i6 c n m=(c,false):=by simp only[i6,I,Gm,Gq,Gl,Gv]
  rw[m]
  simp only[go_sem,j,O,E,I]
 |true=>
 cases c3:Ym m with
 |false=>
  have m:i6 c n m=(c,false):=by simp only[i6,c3,Gq,Gl,Gv]
  rw[m]
  simp only[go_sem,j,O,P,E,I,c3]
 |true=>
 simp only[i6,E,I,c3,GL,Gw]
 cases q:Y3 c.shards n with
 |none=>
  simp only[q,Option.getD_none,Yk,Yg,Yf,Yb,Gk] at p
  simp only[go_sem,j,p,O,P,E,I,c3]
 |some s=>
 obtain⟨-,-,-,R,L,H,N,J⟩:=YF ((kE E I).trans q)
 have B:=fX y c s true M.1
 rw[yi,L] at B
 have D:=iP z s 2 m
 rw[EX H] at D
 have Q:=lm H
 simp only[Yg,Yf,Yb] at D
 simp only[Yq,Yw,Yg,Yf,Yb] at B
 simp only[q,Option.getD_some,Yg,Yf,Yb] at p
 clear q M y z R H N J L
 cases S:gP s m<;>simp only[go_sem, *]
def Bp (h:my Pg) (c:aP) (n e m:Int) (N:eG c) :
  K' Pg 269 [.agg (Yq c),iz 3,iz n,iz e,iz m]=some (ja (iL c n m e)):=by
 have⟨h,D,E,p,H,w⟩:=h
 have j:=gI D c N
 have u:=eY E c n N.1
 have O:=cp p n
 have W:=cp p e
 have R:=cp p m
 simp only[Yq,Yw] at j u
 clear D E p
 refine aA h rfl ?_
 clear h
 cases y:Yy c with
 |false=>
  have m:iL c n m e=(c,false):=by simp only[iL,Cr y]
  rw[m]
  simp only[go_sem,j,y]
 |true=>
 cases B:Ym n with
 |false=>
  have m:iL c n m e=(c,false):=by simp only[iL,Cs B]
  rw[m]
  simp only[go_sem,j,O,y,B]
 |true=>
 cases c3:Ym m with
 |false=>
  have m:iL c n m e=(c,false):=by
   simp only[iL];split
   ·rfl
   ·simp only[c3,Gm,Gl,Gv]
  rw[m]
  simp only[go_sem,j,O,R,y,B,c3]
 |true=>
 cases M:Ym e with
 |false=>
  have e:iL c n m e=(c,false):=by
   simp only[iL];split
   ·rfl
   ·simp only[M,Gq,Gl,Gv]
  rw[e]
  simp only[go_sem,j,O,R,W,y,B,c3,M]
 |true=>
 cases q:Y3 c.shards n with
 |none=>
  have o:=iP w Yk 3 m
  have e:iL c n m e=(c,false):=by simp only[iL,kE y B,q]
  rw[e]
  rw[LR] at o
  simp only[Yk,Yg,Yf,Yb,Gk] at o
  simp only[q,Option.getD_none,Yk,Yg,Yf,Yb,Gk] at u
  simp only[go_sem,j,u,o,O,W,R,y,B,c3,M]
 |some s=>
 obtain⟨-,-,-,T,Q,J,P,L⟩:=YF ((kE y B).trans q)
 have I:=fX H c {s with phase:=1,epoch:=e,closed:=m} false N.1
 rw[oO T.1] at I
 have o:=iP w s 3 m
 rw[LS J] at o
 have U:decide (0<s.id)=true:=Gu (by omega)
 have aa:decide (e<=s.epoch)=!decide (s.epoch<e):=jZ
 have z:max c.dropped m=if c.dropped<m then m else c.dropped:=uy.symm
 simp only[Yg,Yf,Yb] at o
 simp only[Yq,Yw,Yg,Yf,Yb] at I
 simp only[q,Option.getD_some,Yg,Yf,Yb] at u
 simp only[iL,kE y B,q,c3,M,GL,Gw]
 clear q N H w T J P L Q
 have go:∀b:Bool,decide (c.dropped<m)=b->(if c.dropped<m then m else c.dropped)=if b then m else c.dropped:=fun b hb=>by subst hb;by_cases h:c.dropped<m<;>simp[h]
 cases X:decide (s.phase=1) with
 |false=>
  cases Y:kG s m with
  |false=>simp only[go_sem,GE, *]
  |true=>
  cases Z:decide (s.epoch<e) with
  |false=>simp only[go_sem,GE, *]
  |true=>
  cases S:decide (c.dropped<m) with
  |false=>
   have hz:=go _ S
   simp only[hz] at z
   clear go hz
   simp only[Gl,Gv] at z
   simp only[go_sem, *]
  |true=>
   have hz:=go _ S
   simp only[hz] at z
   clear go hz
   simp only[Gw] at z
   simp only[go_sem, *]
 |true=>
  clear go
  have hr:kG s m=false:=by
   have:=Gc X;simp[kG,this]
  cases Y:decide (s.epoch=e) with
  |false=>simp only[go_sem, *]
  |true=>cases Z:decide (s.closed=m)<;>simp only[go_sem, *]
def Bq (h:my Pg) (c:aP) (n e m:Int) (M:eG c) :
  K' Pg 269 [.agg (Yq c),iz 4,iz n,iz e,iz m]=some (ja (i7 c n m)):=by
 have⟨h,y,z,p,B,w⟩:=h
 have o:=gI y c M
 have u:=eY z c n M.1
 have Q:=cp p n
 have U:=cp p e
 have R:=cp p m
 simp only[Yq,Yw] at o u
 clear y z p
 refine aA h rfl ?_
 clear h
 cases E:Yy c with
 |false=>
  have m:i7 c n m=(c,false):=by simp only[i7,E,Gm,Gl,Gv]
  rw[m]
  simp only[go_sem,o,E]
 |true=>
 cases H:Ym n with
 |false=>
  have m:i7 c n m=(c,false):=by simp only[i7,H,Gm,Gq,Gl,Gv]
  rw[m]
  simp only[go_sem,o,Q,E,H]
 |true=>
 cases c3:Ym m with
 |false=>
  have m:i7 c n m=(c,false):=by simp only[i7,c3,Gq,Gl,Gv]
  rw[m]
  simp only[go_sem,o,Q,R,E,H,c3]
 |true=>
 simp only[i7,E,H,c3,GL,Gw]
 have P:max c.dropped m=if decide (c.dropped<m) then m else c.dropped:=by rw[<-uy];by_cases h:c.dropped<m<;>simp[h]
 cases q:Y3 c.shards n with
 |none=>
  have j:=iP w Yk 3 m
  rw[LR] at j
  simp only[Yk,Yg,Yf,Yb,Gk] at j
  simp only[q,Option.getD_none,Yk,Yg,Yf,Yb,Gk] at u
  cases N:decide (c.dropped<m)<;>simp only[go_sem,o,u,j,Q,R,E,H,c3,N,P]
 |some s=>
 obtain⟨-,-,-,S,L,I,O,J⟩:=YF ((kE E H).trans q)
 have D:=fX B c s true M.1
 rw[yi,L] at D
 have j:=iP w s 3 m
 rw[LS I] at j
 simp only[Yg,Yf,Yb] at j
 simp only[Yq,Yw,Yg,Yf,Yb] at D
 simp only[q,Option.getD_some,Yg,Yf,Yb] at u
 clear q M B w S I O J L
 cases T:kG s m with
 |false=>cases N:decide (c.dropped<m)<;>simp only[go_sem, *]
 |true=>cases N:decide (c.dropped<m)<;>simp only[go_sem, *]
def WD {f:Nat} {F:F} {args:Eq} {P:V->Prop} (u:Pg f=some (.code F)) (w:args.length=F.np)
  (h:Wp (K' Pg) F.body (JC args) fun j S=>(j=.norm\/j=.ret)/\∃r,jT F S=some r/\P r):∃r,K' Pg f args=some r/\P r:=by
 have⟨m,j,S',h1,o,r,p,q⟩:=h
 exact⟨r,aA u w ⟨m,j,S',h1,o,p⟩,q⟩
def Bx (h:vh Pg) (l:List aM) (m:Int) (g:Nat) (f:Nat->Int) (Q:l.length<2^60)
  (H:∀i v,l[i]?=some v->K' Pg g [.agg (Yg v),iz m]=some (iz (f i))) :
  ∃r,K' Pg 319 [Yw l,iz m,.func g []]=some r/\∃k:Nat,r=.tuple [iz k,.bool (decide (k<l.length)&&decide (f k=0))]:=by
 refine WD h rfl ?_
 simp only[Yg,Yf,Yb] at H
 simp only[go_sem]
 unfold l319_0
 refine bu (fun (p:Nat×Nat) S=>p.1<=p.2/\p.2<=l.length/\S.ρ 0=Yw l/\S.ρ 1=iz m/\S.ρ 2=.func g []/\S.ρ 8=iz l.length/\S.ρ 9=iz p.1/\S.ρ 10=iz p.2) (fun p=>p.2-p.1) (0,l.length) ?_ ?_
 ·simp[go_sem]
 ·intro⟨i,j⟩ S ⟨I,z,h0,D,u,E,y,q⟩
  simp only at I z y q
  simp only[go_sem,y,q]
  refine aY (fun h=>?_) (fun h=>?_)
  ·simp only[Gj,GW] at h
   have J:IntKind.i64.wrap ((i:Int)+j)=(i:Int)+j:=bv (by omega) (by omega)
   have L:IntKind.u64.wrap ((i:Int)+j)=(i:Int)+j:=_root_.Go.IntWalk.u64_in _ ⟨by omega,by omega⟩
   have M:Int.fdiv ((i:Int)+j) 2=(((i+j) / 2:Nat):Int):=by
    rw[Dg _ (by omega)];omega
   have N:IntKind.i64.wrap ((((i+j) / 2:Nat):Int))=(((i+j) / 2:Nat):Int):=bv (by omega) (by omega)
   have O:IntKind.i64.wrap ((((i+j) / 2:Nat):Int)+1)=(((i+j) / 2+1:Nat):Int):=bv (by omega) (by omega)
   have⟨x,B,P⟩:=aZ (l:=l) (i:=(i+j) / 2) (by omega)
   have w:=H _ _ B
   simp only[go_sem,h0,D,u,y,q,J,L,M,N,B,w]
   refine aY (fun o=>?_) (fun o=>?_)
   ·simp only[go_sem,h0,D,u,E,q,O]
    exact⟨((i+j) / 2+1,j),by simp only;omega,by simp only;omega,z,rfl,rfl⟩
   ·simp only[go_sem,h0,D,u,E,y]
    exact⟨(i,(i+j) / 2),by simp only;omega,by simp only;omega,by simp only;omega,rfl,rfl⟩
  ·simp only[Gs,GW] at h
   simp only[go_sem,E,y]
   refine io (fun o=>?_) (fun o=>?_)
   ·simp only[Gj,GW] at o
    have⟨x,B,P⟩:=aZ o
    have w:=H _ _ B
    simp only[go_sem,h0,D,u,y,B,w,o,jS,GW]
    exact⟨_,rfl,i,by simp[o]⟩
   ·simp only[Gs,GW] at o
    simp only[go_sem,o,mu,GW]
    exact⟨_,rfl,i,by simp[o]⟩
def ZA {n:Int} (h1:-18446744073709551616<n) (j:n<18446744073709551616) (h:IntKind.i64.wrap n=0):n=0:=by
 unfold IntKind.wrap at h;simp only[IntKind.bits,IntKind.signed,Gy,Gj,show (2:Int)^64=18446744073709551616 from rfl,show (2:Int)^(64-1)=9223372036854775808 from rfl] at h;by_cases g:n%18446744073709551616>=9223372036854775808
 ·rw[Gt g] at h;omega
 ·rw[Gn g] at h;omega
def i64 (n:Int):Prop:=-9223372036854775808<=n/\n<=9223372036854775807
def Xx {l:List aM} {n:Int} (h:fY l) (j:¬(1<=n/\n<=1099511627776)):Y3 l n=none:=by
 cases q:Y3 l n with
 |none=>rfl
 |some s=>
  have:=h.2.2 s (Ys q).1;rw[(Ys q).2] at this;exact absurd this j
def Br (h:jp Pg) (c:aP) (n:Int) (w:fY c.shards) (y:i64 n):K' Pg 287 [.agg (Yq c),iz n]=some (.agg (Yg ((Y3 c.shards n).getD Yk))):=by
 by_cases z:1<=n/\n<=1099511627776
 ·exact ju h c n w z
 ·rw[Xx w z];have⟨h,p,q,u⟩:=h;have H:=w.2.1;obtain⟨r,k,j,rfl⟩:=Bx q c.shards n 320 (fun i=>match c.shards[i]? with|none=>1|some s=>IntKind.i64.wrap (s.id-n)) (by omega) (fun i v B=>by
   simp only[B];exact By u v n)
  have e:(decide (j<c.shards.length)&&decide ((match c.shards[j]? with|none=>1|some s=>IntKind.i64.wrap (s.id-n))=0))=false:=by
   cases D:c.shards[j]? with
   |none=>simp
   |some x=>
    have E:=w.2.2 x (List.mem_of_getElem? D);have:IntKind.i64.wrap (x.id-n)≠0:=fun h0=>by
     have:=ZA (by have:=y.1;have:=y.2;omega) (by have:=y.1;have:=y.2;omega) h0;exact z (by omega)
    simp[this]
  rw[e] at k;simp only[Yw] at k;have o:K' Pg 314 [.agg (Yq c),iz n]=some (.tuple [iz j,.bool false]):=by
   refine aA p rfl ?_;simp only[go_sem,k]
  simp only[Yq,Yw] at o;refine aA h rfl ?_;simp only[go_sem,o,Yk,Option.getD_none]
def zf:=HpC 253 F253<|HpA uS<|HpA nO<|HpA gH<|HpA ek<|HpA jp<|HpA u9<|HpA rC<|HpA nQ<|im
def pO {n:Nat}:decide ((n:Int)=8)=decide (n=8):=GO.2 (by omega)
def Ht (h:zf Pg) (c:aP) (s:aM) (m:Int) (hc:eG c) (hs:kz s) (hi:i64 s.id):K' Pg 253 [.agg (Yq c),.agg (Yg s),iz m]=some (ja (aO c s m)):=by
 have⟨h,X,M,N,O,P,Q,R,S,T⟩:=h;have j:=ip N c hc;have u:=i3 O 1 m;simp only[mn] at u;simp only[Yq,Yw] at j;refine aA h rfl ?_;cases D:Yy c with
 |false=>simp only[go_sem,j,D,aO]
 |true=>
 cases J:Ym m with
 |false=>simp only[go_sem,j,u,D,J,aO]
 |true=>
 have Z:=lX D;have p:=Br P c s.id Z hi;simp only[Yq,Yw] at p;cases q:Y3 c.shards s.id with
 |some o=>
  have Y:=lm (Z.2.2 o (Ys q).1).1;have H:=su R o m;simp only[Yg,Yf,Yb] at H;simp only[q,Option.getD_some,Yg,Yf,Yb] at p;simp only[go_sem,j,u,p,H,D,J,q,Y,aO]
 |none=>
 simp only[q,Option.getD_none,Yk,Yg,Yf,Yb,Gk] at p;have z:decide (m<=c.dropped)=!decide (c.dropped<m):=jZ;have w:=sr M s hs;have B:=sv S s m;simp only[Yg,Yf,Yb] at w B;cases c3:decide (c.dropped<m) with
 |false=>simp only[go_sem,j,u,p,D,J,c3,q,z,aO]
 |true=>
 cases W:decide (c.shards.length=8) with
 |true=>simp only[go_sem,j,u,p,D,J,c3,W,q,z,pO,aO]
 |false=>
 cases L:bx s with
 |false=>simp only[go_sem,j,u,p,w,D,J,c3,W,L,q,z,pO,aO]
 |true=>
 cases c6:gP s m with
 |false=>simp only[go_sem,j,u,p,w,B,D,J,c3,W,L,c6,q,z,pO,aO]
 |true=>
 have E:=Bv Q s s.top hs.1 (pw L).2;have y:=xX L;have I:=iO T c {s with phase:=3} Z ⟨y.1,y.2⟩;clear y;have U:=xE X c.top s.top;simp only[Yg,Yf,Yb,Ye] at E U;simp only[Yq,Yw,Yg,Yf,Yb,ll] at I;cases c7:cc s s.top<;>simp only[go_sem,j,u,p,w,B,E,I,U,D,J,c3,W,L,c6,c7,q,z,pO,aO]
def zg:=HpC 254 F254<|HpA rx<|HpA jo<|HpA iN<|HpA il<|HpA jq<|HpA uZ<|HpA va<|mz
def Qr {n:Nat} (h:n<=8):decide ((7:Int)<(n:Int))=decide (n=8):=GO.2 (by omega)
def Hu (h:zg Pg) (c:aP) (s:aM) (m:Int) (W:eG c) (hs:kz s):K' Pg 254 [.agg (Yq c),.agg (Yg s),iz m]=some (ja (aO c s m)):=by
 have⟨h,M,N,O,P,Q,R,D,S⟩:=h;have j:=gI N c W;have p:=eY O c s.id W.1;have J:=cp P m;simp only[Yq,Yw] at j p;refine aA h rfl ?_;cases B:Yy c with
 |false=>simp only[go_sem,j,B,aO]
 |true=>
 cases I:Ym m with
 |false=>simp only[go_sem,j,J,B,I,aO]
 |true=>
 have ho:=lX B;have Y:c.shards.length<=8:=(Yv.1 B).1;cases q:Y3 c.shards s.id with
 |some o=>
  have h1:=(ho.2.2 o (Ys q).1).1;have X:decide (0<o.id)=true:=Gu (by omega);have u:=iP D o 3 m;rw[LS h1] at u;simp only[Yg,Yf,Yb] at u;simp only[q,Option.getD_some,Yg,Yf,Yb] at p;simp only[go_sem,j,J,p,u,B,I,q,X,aO]
 |none=>
 simp only[q,Option.getD_none,Yk,Yg,Yf,Yb,Gk] at p;have y:decide (m<=c.dropped)=!decide (c.dropped<m):=jZ;have w:=vP M s hs;simp only[Yg,Yf,Yb] at w;have U:=Qr Y;cases c3:decide (c.dropped<m) with
 |false=>simp only[go_sem,j,J,p,B,I,c3,q,y,aO]
 |true=>
 cases T:decide (c.shards.length=8) with
 |true=>simp only[go_sem,j,J,p,B,I,c3,T,q,y,U,aO]
 |false=>
 cases L:bx s with
 |false=>simp only[go_sem,j,J,p,w,B,I,c3,T,L,q,y,U,aO]
 |true=>
 have u:=iP D s 2 m;rw[EX (xX L).1] at u;simp only[Yg,Yf,Yb] at u;cases Z:gP s m with
 |false=>simp only[go_sem,j,J,p,w,u,B,I,c3,T,L,Z,q,y,U,aO]
 |true=>
 have E:=Bu R s s.top hs.1 (pw L).1;have z:=fX Q c {s with phase:=3} false W.1;rw[oO ho.1] at z;have H:=ot S c.top s.top;simp only[Yg,Yf,Yb,Ye] at E H;simp only[Yq,Yw,Yg,Yf,Yb] at z;cases c7:cc s s.top<;>simp only[go_sem,j,J,p,w,u,E,z,H,B,I,c3,T,L,Z,c7,q,y,U,aO]
def Lj {l:List aM} {s:aM} (h:fY l) (o:l.length<=900) (j:1<=s.id/\s.id<=1099511627776):fY (br l s):=by
 refine⟨Li h.1,?_,fun x hx=>?_⟩
 ·have:=Oe (s:=s) (l:=l);omega
 ·rcases D9 hx with rfl|hx
  ·exact j
  ·exact h.2.2 x hx
def vd:=HpZ 309 F309
def xi (s:aM) (e:Int):Bool:=!decide (s.id=0)&&iu s e
def mE (h:vd Pg) (s:aM) (e:Int):K' Pg 309 [.agg (Yg s),iz e]=some (.bool (xi s e)):=by
 refine aA h rfl ?_;cases j:decide (s.id=0) with
 |true=>simp only[go_sem,j,xi]
 |false=>
 cases o:decide (s.epoch=e) with
 |false=>simp only[go_sem,j,o,xi,iu]
 |true=>cases c3:decide (s.phase=1)<;>simp only[go_sem,j,o,c3,xi,iu]
def ve:=HpZ 310 F310
def ph (s:aM):Bool:=decide (0<s.id)&&(decide (s.phase=1)&&decide (s.hold=0))
def mG (h:ve Pg) (s:aM):K' Pg 310 [.agg (Yg s)]=some (.bool (ph s)):=by
 refine aA h rfl ?_;cases j:decide (0<s.id) with
 |false=>simp only[go_sem,j,ph]
 |true=>cases o:decide (s.phase=1)<;>simp only[go_sem,j,o,ph]
def Lw {s:aM} {e:Int} (h:1<=s.id):xi s e=iu s e:=by simp only[xi,lm h,GR,Gy]
theorem KT {e:Int}:xi Yk e=false:=rfl
theorem Ln:ph Yk=false:=rfl
def CX {n:Int} (h:Ym n=true):1<=n/\n<=1099511627776:=by simpa [Ym] using h
def mZ (c:aP) (a:aM) (k:mp) (o x:Int):aP:=⟨br (br c.shards {a with ents:=(ma a.ents k).1,span:=(f7 a.span k).1,epoch:=x}) {a with id:=o,ents:=(ma a.ents k).2,span:=(f7 a.span k).2.1,epoch:=x},c.top,c.dropped⟩
def wB {c:aP} {n e:Int} {k:mp} {o x:Int} (h:(Yy c&&(Ym n&&(Ym e&&(Ym o&&Ym x))))=false):hJ c n e k o x=(c,false):=by
 simp only[hJ,h,Gl,Gv]
def zw:=HpC 273 F273<|HpA yJ<|HpA yT<|HpA gH<|HpA ek<|HpA jp<|HpA im<|vd
theorem HH (h:zw Pg) (c:aP) (n e:Int) (k:mp) (o x:Int) (Y:eG c):K' Pg 273 [.agg (Yq c),iz n,iz e,.str k,iz o,iz x]=some (ja (hJ c n e k o x)):=by
 have⟨h,D,E,O,P,u,w,y⟩:=h;have z:=ip O c Y;have q:=oq P 1 n e o x;simp only[mn] at q;simp only[Yq,Yw] at z;refine aA h rfl ?_;clear h O P;cases H:Yy c with
 |false=>
  rw[wB (by rw[H];rfl)];simp only[go_sem,z,H]
 |true=>
 cases I:(Ym n&&(Ym e&&(Ym o&&Ym x))) with
 |false=>
  rw[wB (by rw[H,I];rfl)];rw[I] at q;simp only[go_sem,z,q,H]
 |true=>
 rw[I] at q;have Q:=lX H;have h8:c.shards.length<=8:=(Yv.1 H).1;have B:=I;simp only[Ge] at B;have hn:=CX B.1;have M:=CX B.2.2.1;have Z:=ju u c n Q hn;have X:=ju u c o Q M;have j:=fun s=>Ha D s k;simp only[Yq,Yw] at Z X;simp only[YZ,EM] at j;have ae:decide (x<=e)=!decide (e<x):=jZ;cases N:Y3 c.shards n with
 |none=>
  have m:hJ c n e k o x=(c,false):=by simp only[hJ,H,I,N,GL,Gw]
  rw[m];have j:=j ⟨[],[]⟩;have p:=mE y Yk e;rw[KT] at p;simp only[Yk,Yg,Yf,Yb,Gk] at p;simp only[N,Option.getD_none,Yk,Yg,Yf,Yb,Gk] at Z;simp only[Yg,Yf,Yb] at X;simp only[go_sem,z,q,Z,X,j,p,H]
 |some a=>
 have S:=Q.2.2 a (Ys N).1;have ab:=lm S.1;have j:=j a.span;have p:=mE y a e;rw[Lw S.1] at p;have ad:decide (x<=a.closed)=!decide (a.closed<x):=jZ;simp only[Yg,Yf,Yb] at p;simp only[N,Option.getD_some,Yg,Yf,Yb] at Z;cases R:Y3 c.shards o with
 |some b=>
  have hb:=Q.2.2 b (Ys R).1;have ac:=lm hb.1;have m:hJ c n e k o x=(c,decide (a.epoch=x)&&(decide (a.span.hi=k)&&decide (b.epoch=x))):=by simp only[hJ,H,I,N,R,GL,Gw]
  rw[m];simp only[R,Option.getD_some,Yg,Yf,Yb] at X;clear D E u w y Y Q h8 I B hn M N R S hb m;have bL:∀b1,(decide (a.epoch=x)&&(decide (a.span.hi=k)&&decide (b.epoch=x)))=b1->True:=fun _ _=>GN;clear bL;cases d1:iu a e with
  |false=>
   cases J:decide (a.epoch=x) with
   |false=>simp only[go_sem, *]
   |true=>
   cases L:decide (a.span.hi=k) with
   |false=>simp only[go_sem, *]
   |true=>cases d4:decide (b.epoch=x)<;>simp only[go_sem, *]
  |true=>
  cases d5:decide (e<x) with
  |false=>
   cases J:decide (a.epoch=x) with
   |false=>simp only[go_sem, *]
   |true=>
   cases L:decide (a.span.hi=k) with
   |false=>simp only[go_sem, *]
   |true=>cases d4:decide (b.epoch=x)<;>simp only[go_sem, *]
  |true=>
  cases d6:decide (a.closed<x) with
  |false=>
   cases J:decide (a.epoch=x) with
   |false=>simp only[go_sem, *]
   |true=>
   cases L:decide (a.span.hi=k) with
   |false=>simp only[go_sem, *]
   |true=>cases d4:decide (b.epoch=x)<;>simp only[go_sem, *]
  |true=>
   cases J:decide (a.epoch=x) with
   |false=>simp only[go_sem, *]
   |true=>
   cases L:decide (a.span.hi=k) with
   |false=>simp only[go_sem, *]
   |true=>cases d4:decide (b.epoch=x)<;>simp only[go_sem, *]
 |none=>
 have m:hJ c n e k o x=if iu a e&&(decide (e<x)&&(decide (a.closed<x)&&(!decide (c.shards.length=8)&&decide ((f7 a.span k).2.2=0)))) then (mZ c a k o x,true) else (c,false):=by
  simp only[hJ,H,I,N,R,GL,Gw,mZ]
 rw[m];have T:=Hh E a.ents k (Y.2 a (Ys N).1).1;have U:=iO w c {a with ents:=(ma a.ents k).1,span:=(f7 a.span k).1,epoch:=x} Q S;have W:=iO w (ll c {a with ents:=(ma a.ents k).1,span:=(f7 a.span k).1,epoch:=x}) {a with id:=o,ents:=(ma a.ents k).2,span:=(f7 a.span k).2.1,epoch:=x} (Lj Q (by omega) S) M;simp only[Yf,Qw] at T;simp only[Yq,Yw,Yg,Yf,Yb,ll] at U W;simp only[R,Option.getD_none,Yk,Yg,Yf,Yb,Gk] at X;simp only[mZ];clear D E u w y Y Q h8 I B hn M N R S m;have aa:True:=GN;cases d1:iu a e with
 |false=>
  cases J:decide (a.epoch=x) with
  |false=>simp only[go_sem, *]
  |true=>cases L:decide (a.span.hi=k)<;>simp only[go_sem, *]
 |true=>
 cases d5:decide (e<x) with
 |false=>
  cases J:decide (a.epoch=x) with
  |false=>simp only[go_sem, *]
  |true=>cases L:decide (a.span.hi=k)<;>simp only[go_sem, *]
 |true=>
 cases d6:decide (a.closed<x) with
 |false=>
  cases J:decide (a.epoch=x) with
  |false=>simp only[go_sem, *]
  |true=>cases L:decide (a.span.hi=k)<;>simp only[go_sem, *]
 |true=>
 cases d7:decide (c.shards.length=8) with
 |true=>
  cases J:decide (a.epoch=x) with
  |false=>simp only[go_sem,pO, *]
  |true=>cases L:decide (a.span.hi=k)<;>simp only[go_sem,pO, *]
 |false=>
 cases d8:decide ((f7 a.span k).2.2=0) with
 |false=>
  cases J:decide (a.epoch=x) with
  |false=>simp only[go_sem,pO, *]
  |true=>cases L:decide (a.span.hi=k)<;>simp only[go_sem,pO, *]
 |true=>
  cases J:decide (a.epoch=x) with
  |false=>simp only[go_sem,pO, *]
  |true=>cases L:decide (a.span.hi=k)<;>simp only[go_sem,pO, *]
def Kp {l:List aF} {k:mp} (h:ck l=true):ma l k=(eI l k true,eI l k false):=by
 have j:gc none l=true:=by
  simp only[ck,Ge] at h;exact h.2
 have:=Xn (k:=k) j;rw[ma,Gt h,this.1,this.2]
def Lm {s:aM} {e:Int} (h:1<=s.id):(ph s&&decide (s.epoch=e))=iu s e:=by
 have:decide (0<s.id)=true:=Gu (by omega);simp only[ph,iu,this,Gy];cases decide (s.epoch=e)<;>simp
def zx:=HpC 274 F274<|HpA yK<|HpA yU<|HpA jo<|HpA iN<|HpA il<|HpA jq<|ve
theorem HI (h:zx Pg) (c:aP) (n e:Int) (k:mp) (o x:Int) (O:eG c) (hk:k.length<=10000):K' Pg 274 [.agg (Yq c),iz n,iz e,.str k,iz o,iz x]=some (ja (hJ c n e k o x)):=by
 have⟨h,H,y,L,z,u,B,D⟩:=h;have j:=gI L c O;have kn:=cp u n;have ke:=cp u e;have ko:=cp u o;have kx:=cp u x;simp only[Yq,Yw] at j;refine aA h rfl ?_;clear h L u;cases q:Yy c with
 |false=>
  rw[wB (by rw[q];rfl)];simp only[go_sem,j,q]
 |true=>
 cases E:Ym n with
 |false=>
  rw[wB (by rw[q,E];rfl)];simp only[go_sem,j,kn,q,E]
 |true=>
 cases c3:Ym e with
 |false=>
  rw[wB (by rw[q,E,c3];rfl)];simp only[go_sem,j,kn,ke,q,E,c3]
 |true=>
 cases J:Ym o with
 |false=>
  rw[wB (by rw[q,E,c3,J];rfl)];simp only[go_sem,j,kn,ke,ko,q,E,c3,J]
 |true=>
 cases X:Ym x with
 |false=>
  rw[wB (by rw[q,E,c3,J,X];rfl)];simp only[go_sem,j,kn,ke,ko,kx,q,E,c3,J,X]
 |true=>
 have Y:=lX q;have h8:c.shards.length<=8:=(Yv.1 q).1;have h7:=Qr h8;have ka:=eY z c n O.1;have kb:=eY z c o O.1;have p:=fun s=>Hb H s k;simp only[Yq,Yw] at ka kb;simp only[YZ,EM] at p;have ab:decide (x<=e)=!decide (e<x):=jZ;have Z:=CX J;cases I:Y3 c.shards n with
 |none=>
  have m:hJ c n e k o x=(c,false):=by simp only[hJ,q,E,c3,J,X,I,GL,Gw]
  rw[m];have p:=p ⟨[],[]⟩;have w:=mG D Yk;rw[Ln] at w;simp only[Yk,Yg,Yf,Yb,Gk] at w;simp only[I,Option.getD_none,Yk,Yg,Yf,Yb,Gk] at ka;simp only[Yg,Yf,Yb] at kb;simp only[go_sem,j,kn,ke,ko,kx,ka,kb,p,w,q,E,c3,J,X]
 |some a=>
 have ha:=Y.2.2 a (Ys I).1;have ac:decide (0<a.id)=true:=Gu (by omega);have p:=p a.span;have w:=mG D a;have S:=Lm (e:=e) ha.1;have aa:decide (x<=a.closed)=!decide (a.closed<x):=jZ;simp only[Yg,Yf,Yb] at w;simp only[I,Option.getD_some,Yg,Yf,Yb] at ka;cases W:Y3 c.shards o with
 |some b=>
  have hb:=Y.2.2 b (Ys W).1;have ad:decide (0<b.id)=true:=Gu (by omega);have m:hJ c n e k o x=(c,decide (a.epoch=x)&&(decide (a.span.hi=k)&&decide (b.epoch=x))):=by simp only[hJ,q,E,c3,J,X,I,W,GL,Gw]
  rw[m];simp only[W,Option.getD_some,Yg,Yf,Yb] at kb;clear H y z B D O Y h8 Z I W ha hb m S;cases d1:ph a with
  |false=>
   cases d2:decide (a.epoch=x) with
   |false=>simp only[go_sem, *]
   |true=>
   cases d4:decide (b.epoch=x) with
   |false=>simp only[go_sem, *]
   |true=>cases d3:decide (a.span.hi=k)<;>simp only[go_sem, *]
  |true=>
  cases d0:decide (a.epoch=e) with
  |false=>
   cases d2:decide (a.epoch=x) with
   |false=>simp only[go_sem, *]
   |true=>
   cases d4:decide (b.epoch=x) with
   |false=>simp only[go_sem, *]
   |true=>cases d3:decide (a.span.hi=k)<;>simp only[go_sem, *]
  |true=>
  cases d5:decide (e<x) with
  |false=>
   cases d2:decide (a.epoch=x) with
   |false=>simp only[go_sem, *]
   |true=>
   cases d4:decide (b.epoch=x) with
   |false=>simp only[go_sem, *]
   |true=>cases d3:decide (a.span.hi=k)<;>simp only[go_sem, *]
  |true=>
  cases d6:decide (a.closed<x) with
  |false=>
   cases d2:decide (a.epoch=x) with
   |false=>simp only[go_sem, *]
   |true=>
   cases d4:decide (b.epoch=x) with
   |false=>simp only[go_sem, *]
   |true=>cases d3:decide (a.span.hi=k)<;>simp only[go_sem, *]
  |true=>
   cases d2:decide (a.epoch=x) with
   |false=>simp only[go_sem, *]
   |true=>
   cases d4:decide (b.epoch=x) with
   |false=>simp only[go_sem, *]
   |true=>cases d3:decide (a.span.hi=k)<;>simp only[go_sem, *]
 |none=>
 have m:hJ c n e k o x=if iu a e&&(decide (e<x)&&(decide (a.closed<x)&&(!decide (c.shards.length=8)&&decide ((f7 a.span k).2.2=0)))) then (mZ c a k o x,true) else (c,false):=by
  simp only[hJ,q,E,c3,J,X,I,W,GL,Gw,mZ]
 rw[m,<-S];have Q:ck a.ents=true:=(pw (O5 q (Ys I).1)).1;have R:=(O.2 a (Ys I).1).1;have U:=Bg y a.ents k true R hk;have T:=Bg y a.ents k false R hk;have e1:(ma a.ents k).1=eI a.ents k true:=by rw[Kp Q]
 have e2:(ma a.ents k).2=eI a.ents k false:=by rw[Kp Q]
 have M:=fX B c {a with ents:=eI a.ents k true,span:=(f7 a.span k).1,epoch:=x} false O.1;rw[oO Y.1] at M;have P:fY (br c.shards {a with ents:=eI a.ents k true,span:=(f7 a.span k).1,epoch:=x}):=Lj Y (by omega) ha;have N:=fX B ⟨br c.shards {a with ents:=eI a.ents k true,span:=(f7 a.span k).1,epoch:=x},c.top,c.dropped⟩ {a with id:=o,ents:=eI a.ents k false,span:=(f7 a.span k).2.1,epoch:=x} false P.2.1;rw[oO P.1] at N;simp only[Yf] at U T;simp only[Yq,Yw,Yg,Yf,Yb] at M N;simp only[W,Option.getD_none,Yk,Yg,Yf,Yb,Gk] at kb;simp only[mZ,e1,e2];clear H y z B D O Y h8 Z I W ha m S Q R e1 e2 P hk;cases d1:ph a with
 |false=>simp only[go_sem, *]
 |true=>
 cases d0:decide (a.epoch=e) with
 |false=>simp only[go_sem, *]
 |true=>
 cases d5:decide (e<x) with
 |false=>simp only[go_sem, *]
 |true=>
 cases d6:decide (a.closed<x) with
 |false=>simp only[go_sem, *]
 |true=>
 cases d7:decide (c.shards.length=8) with
 |true=>simp only[go_sem, *]
 |false=>cases d8:decide ((f7 a.span k).2.2=0)<;>simp only[go_sem, *]
theorem ZP {s:aM}:∀{l:List aM},(∀y∈l,s.id<y.id)->br l s=s::l
 |[],_=>rfl
 |x::l,h=>by simp only[br,h x (.head _),Gw]
theorem PD {s:aM} {n:Int} (q:s.id≠n):∀{l:List aM},kN l->fE (br l s) n=br (fE l n) s
 |[],_=>by simp[fE,br,q]
 |x::l,hi=>by
  have u:=GT.1 hi;have w:=PD (s:=s) q u.2;have j:∀(y:aM) (r:List aM),fE (y::r) n=if y.id=n then fE r n else y::fE r n:=fun y r=>by
   simp only[fE,List.filter_cons];by_cases h:y.id=n<;>simp[h]
  by_cases h1:s.id<x.id
  ·rw[ZP (l:=fE (x::l) n) (fun y hy=>by
    have hy:=(G8.1 hy).1;rcases GH.1 hy with rfl|hy
    ·exact h1
    ·have:=u.1 y hy;omega)]
   simp only[br,h1,Gw];rw[j,Gn q]
  ·by_cases o:x.id=s.id
   ·rw[br,Gn h1,Gt o,j,Gn q,j,Gn (by omega),br,Gn h1,Gt o]
   ·simp only[br,h1,Gv,o];rw[j,j];by_cases p:x.id=n
    ·rw[Gt p,Gt p,w]
    ·rw[Gn p,Gn p,w];simp only[br,h1,Gv,o]
def Kk {a b:List aF} (h:(eA a b).2=0):ck (eA a b).1=true:=by
 unfold eA at h ⊢;split at h
 ·rename_i j;rw[Gt j];rw[Ge] at j;split at h
  ·simp at h
  ·rename_i o;rw[Gn o];split at h
   ·simp at h
   ·rename_i z;rw[Gn z];have p:=jv.1 j.1;have u:=jv.1 j.2;refine jv.2 ⟨by simp;omega,List.pairwise_append.2 ⟨p.2.1,u.2.1,?_⟩,fun e w=>?_⟩
    ·rw[<-O8 j.1 j.2] at o;intro x B y D;cases q:bQ x.key y.key with
     |true=>rfl
     |false=>exact absurd (by simp only[wH,List.any_eq_true];exact⟨x,B,y,D,by rw[q];rfl⟩) o
    ·rcases GS.1 w with h|h
     ·exact p.2.2 e h
     ·exact u.2.2 e h
 ·simp at h
def XF (k:mp):bQ k k=false:=by simp[bQ,tX]
def WR {s:ce}:(Y6 s s).2≠0:=by
 unfold Y6;split
 ·rename_i h;have h:=(Ge _ _▸h).1;by_cases q:s.hi=[]
  ·simp[q]
  ·by_cases j:s.hi=s.lo
   ·simp only[Yz,Ge,G1,Gj] at h;rcases h.2 with h|h
    ·exact absurd h q
    ·rw[j,XF] at h;cases h.2
   ·simp[q,j]
 ·simp
def wA {c:aP} {n o e x:Int} (h:(Yy c&&(Ym n&&(Ym o&&(Ym e&&Ym x))))=false):g0 c n o e x=(c,false):=by
 simp only[g0,h,Gl,Gv]
def iE (a b:aM) (x:Int):aM:={a with span:=(Y6 a.span b.span).1,done:=(YX a.done b.done).1,epoch:=x,move:=0,mark:=later a.mark b.mark,ents:=fS (eA a.ents b.ents).1 (later a.mark b.mark),seen:=max a.seen b.seen,closed:=max a.closed b.closed}
def zy:=HpC 275 F275<|HpA uS<|HpA MF<|HpA yV<|HpA uT<|HpA gH<|HpA ek<|HpA jp<|HpA im<|HpA rE<|HpA vd<|zI
theorem HJ (h:zy Pg) (c:aP) (n o e x:Int) (hc:eG c):K' Pg 275 [.agg (Yq c),iz n,iz o,iz e,iz x]=some (ja (g0 c n o e x)):=by
 have⟨h,Y,Z,H,I,J,L,z,M,N,w,O⟩:=h;have u:=ip J c hc;have p:=oq L 1 n o e x;simp only[mn] at p;simp only[Yq,Yw] at u;refine aA h rfl ?_;clear h J L;cases y:Yy c with
 |false=>
  rw[wA (by rw[y];rfl)];simp only[go_sem,u,y]
 |true=>
 cases E:(Ym n&&(Ym o&&(Ym e&&Ym x))) with
 |false=>
  rw[wA (by rw[y,E];rfl)];rw[E] at p;simp only[go_sem,u,p,y]
 |true=>
 rw[E] at p;have Q:=lX y;have h8:c.shards.length<=8:=(Yv.1 y).1;have D:=E;simp only[Ge] at D;have hn:=CX D.1;have R:=CX D.2.1;have X:=ju z c n Q hn;have U:=ju z c o Q R;simp only[Yq,Yw] at X U;cases P:Y3 c.shards n with
 |none=>
  have m:g0 c n o e x=(c,false):=by simp only[g0,y,E,P,GL,Gw]
  rw[m];have q:=mE w Yk e;rw[KT] at q;simp only[Yk,Yg,Yf,Yb,Gk] at q;simp only[P,Option.getD_none,Yk,Yg,Yf,Yb,Gk] at X;simp only[Yg,Yf,Yb] at U;simp only[go_sem,u,p,X,U,q,y]
 |some a=>
 have ha:=Q.2.2 a (Ys P).1;have aa:=lm ha.1;have q:=mE w a e;rw[Lw ha.1] at q;simp only[Yg,Yf,Yb] at q;simp only[P,Option.getD_some,Yg,Yf,Yb] at X;cases W:Y3 c.shards o with
 |none=>
  have m:g0 c n o e x=(c,decide (a.epoch=x)):=by simp only[g0,y,E,P,W,GL,Gw]
  rw[m];have j:=mE w Yk 0;rw[KT] at j;simp only[Yk,Yg,Yf,Yb,Gk] at j;simp only[W,Option.getD_none,Yk,Yg,Yf,Yb,Gk] at U;cases d2:decide (a.epoch=x) with
  |true=>simp only[go_sem,u,p,X,U,y,aa,d2]
  |false=>cases d1:iu a e<;>simp only[go_sem,u,p,X,U,q,j,y,aa,d1,d2]
 |some b=>
 have hb:=Q.2.2 b (Ys W).1;have ah:=lm hb.1;have S:=hc.2 a (Ys P).1;have T:=hc.2 b (Ys W).1;have j:=mE w b b.epoch;rw[Lw hb.1] at j;have l1:decide (x<=a.epoch)=!decide (a.epoch<x):=jZ;have l2:decide (x<=b.epoch)=!decide (b.epoch<x):=jZ;have l3:decide (x<=a.closed)=!decide (a.closed<x):=jZ;have ae:=HS O a.span b.span;have ab:=Hi H a.ents b.ents S.1 T.1;have ag:=VE Z a.done b.done S.2.1 T.2.1;have af:=xE Y a.mark b.mark;have m:g0 c n o e x=if iu a e&&(iu b b.epoch&&(decide (a.epoch<x)&&(decide (b.epoch<x)&&(decide (a.closed<x)&&(decide ((Y6 a.span b.span).2=0)&&(decide ((eA a.ents b.ents).2=0)&&decide ((YX a.done b.done).2=0))))))) then (⟨fE (br c.shards (iE a b x)) o,c.top,c.dropped⟩,true) else (c,false):=by
  simp only[g0,y,E,P,W,GL,Gw,iE]
 rw[m];have ac:=iO M c (iE a b x) Q ha;have ad:=vT N (ll c (iE a b x)) o (Lj Q (by omega) ha) R;have B:(eA a.ents b.ents).2=0->K' Pg 217 [Yf (eA a.ents b.ents).1,.agg (Ye (later a.mark b.mark))]=some (Yf (fS (eA a.ents b.ents).1 (later a.mark b.mark))):=fun hj=>by
  have hr:=Kk hj;have:=Bh I (eA a.ents b.ents).1 (later a.mark b.mark) (KO hr);rwa [Gt hr] at this
 simp only[Yg,Yf,Yb] at j;simp only[YZ,EZ] at ae;simp only[Yf,uq] at ab;simp only[Yb,ut] at ag;simp only[Ye] at af;simp only[Yf,Ye] at B;simp only[Yq,Yw,Yg,Yf,Yb,ll,iE] at ac ad;simp only[W,Option.getD_some,Yg,Yf,Yb] at U;clear Y Z H I z M N w O hc Q h8 E D hn R P W ha hb m S T;cases d1:iu a e with
 |false=>cases d0:decide (a.epoch=x)<;>simp only[go_sem, *]
 |true=>
 cases d2:iu b b.epoch with
 |false=>cases d0:decide (a.epoch=x)<;>simp only[go_sem, *]
 |true=>
 cases d3:decide (a.epoch<x) with
 |false=>cases d0:decide (a.epoch=x)<;>simp only[go_sem, *]
 |true=>
 have d0:decide (a.epoch=x)=false:=Gp (by have:=Gc d3;omega);cases d4:decide (b.epoch<x) with
 |false=>simp only[go_sem, *]
 |true=>
 cases d5:decide (a.closed<x) with
 |false=>simp only[go_sem, *]
 |true=>
 cases d6:decide ((Y6 a.span b.span).2=0) with
 |false=>simp only[go_sem, *]
 |true=>
 cases d7:decide ((eA a.ents b.ents).2=0) with
 |false=>simp only[go_sem, *]
 |true=>
 have B:=B (Gc d7);cases d8:decide ((YX a.done b.done).2=0) with
 |false=>simp only[go_sem, *]
 |true=>simp only[go_sem,iE,uy, *]
def Zs {a b d:Int} (p:0<=a/\a<=9) (q:0<=b/\b<=9) (u:0<=d/\d<=9):decide (IntKind.i64.wrap (IntKind.i64.wrap (a+b)+d)=0)=(decide (a=0)&&(decide (b=0)&&decide (d=0))):=by
 rw[bv (n:=a+b) (by omega) (by omega),bv (by omega) (by omega)];by_cases h1:a=0<;>by_cases j:b=0<;>by_cases o:d=0<;>simp[h1,j,o]<;>omega
def Zh {a b:ce}:0<=(Y6 a b).2/\(Y6 a b).2<=9:=by
 unfold Y6;split
 ·split<;>simp
 ·simp
def Zg {a b:List aF}:0<=(eA a b).2/\(eA a b).2<=9:=by
 unfold eA;split
 ·split
  ·simp
  ·split<;>simp
 ·simp
def XG {a b:List aH}:0<=(YX a b).2/\(YX a b).2<=9:=by
 unfold YX;split
 ·split<;>simp
 ·simp
def zz:=HpC 276 F276<|HpA MG<|HpA yL<|HpA yW<|HpA uU<|HpA jo<|HpA iN<|HpA il<|HpA jq<|HpA mz<|ve
theorem HK (h:zz Pg) (c:aP) (n o e x:Int) (Y:eG c):K' Pg 276 [.agg (Yq c),iz n,iz o,iz e,iz x]=some (ja (g0 c n o e x)):=by
 have⟨h,ac,Q,R,S,T,H,z,I,U,B⟩:=h;have j:=gI T c Y;have kn:=cp z n;have ke:=cp z e;have ko:=cp z o;have kx:=cp z x;simp only[Yq,Yw] at j;refine aA h rfl ?_;clear h T z;cases y:Yy c with
 |false=>
  rw[wA (by rw[y];rfl)];simp only[go_sem,j,y]
 |true=>
 cases D:Ym n with
 |false=>
  rw[wA (by rw[y,D];rfl)];simp only[go_sem,j,kn,y,D]
 |true=>
 cases c3:Ym o with
 |false=>
  rw[wA (by rw[y,D,c3];rfl)];simp only[go_sem,j,kn,ko,y,D,c3]
 |true=>
 cases L:Ym e with
 |false=>
  rw[wA (by rw[y,D,c3,L];rfl)];simp only[go_sem,j,kn,ke,ko,y,D,c3,L]
 |true=>
 cases P:Ym x with
 |false=>
  rw[wA (by rw[y,D,c3,L,P];rfl)];simp only[go_sem,j,kn,ke,ko,kx,y,D,c3,L,P]
 |true=>
 have ho:=lX y;have h8:c.shards.length<=8:=(Yv.1 y).1;have ka:=eY H c n Y.1;have kb:=eY H c o Y.1;simp only[Yq,Yw] at ka kb;cases M:Y3 c.shards n with
 |none=>
  have m:g0 c n o e x=(c,false):=by simp only[g0,y,D,c3,L,P,M,GL,Gw]
  rw[m];have w:=mG B Yk;rw[Ln] at w;simp only[Yk,Yg,Yf,Yb,Gk] at w;simp only[M,Option.getD_none,Yk,Yg,Yf,Yb,Gk] at ka;simp only[Yg,Yf,Yb] at kb;simp only[go_sem,j,kn,ke,ko,kx,ka,kb,w,y,D,c3,L,P]
 |some a=>
 have ha:=ho.2.2 a (Ys M).1;have ag:decide (0<a.id)=true:=Gu (by omega);have w:=mG B a;have ah:=Lm (e:=e) ha.1;simp only[Yg,Yf,Yb] at w;simp only[M,Option.getD_some,Yg,Yf,Yb] at ka;cases N:Y3 c.shards o with
 |none=>
  have m:g0 c n o e x=(c,decide (a.epoch=x)):=by simp only[g0,y,D,c3,L,P,M,N,GL,Gw]
  rw[m];have q:=mG B Yk;rw[Ln] at q;simp only[Yk,Yg,Yf,Yb,Gk] at q;simp only[N,Option.getD_none,Yk,Yg,Yf,Yb,Gk] at kb;cases d2:decide (a.epoch=x) with
  |true=>simp only[go_sem,j,kn,ke,ko,kx,ka,kb,y,D,c3,L,P,ag,d2]
  |false=>cases d1:ph a<;>simp only[go_sem,j,kn,ke,ko,kx,ka,kb,w,q,y,D,c3,L,P,ag,d1,d2]
 |some b=>
 have hb:=ho.2.2 b (Ys N).1;have am:=lm hb.1;have Z:=Y.2 a (Ys M).1;have aa:=Y.2 b (Ys N).1;have q:=mG B b;have ab:=Lm (e:=b.epoch) hb.1;simp only[jS,GE] at ab;have l1:decide (x<=a.epoch)=!decide (a.epoch<x):=jZ;have l2:decide (x<=b.epoch)=!decide (b.epoch<x):=jZ;have l3:decide (x<=a.closed)=!decide (a.closed<x):=jZ;have ai:=Hc Q a.span b.span;have aj:=Hj R a.ents b.ents Z.1 aa.1;have al:=VF ac a.done b.done Z.2.1 aa.2.1;have ak:=ot U a.mark b.mark;have p:=Zs (Zh (a:=a.span) (b:=b.span)) (Zg (a:=a.ents) (b:=b.ents)) (XG (a:=a.done) (b:=b.done));have m:g0 c n o e x=if iu a e&&(iu b b.epoch&&(decide (a.epoch<x)&&(decide (b.epoch<x)&&(decide (a.closed<x)&&(decide ((Y6 a.span b.span).2=0)&&(decide ((eA a.ents b.ents).2=0)&&decide ((YX a.done b.done).2=0))))))) then (⟨fE (br c.shards (iE a b x)) o,c.top,c.dropped⟩,true) else (c,false):=by
  simp only[g0,y,D,c3,L,P,M,N,GL,Gw,iE]
 rw[m,<-ah,<-ab];have ad:b.id=o:=(Ys N).2;have af:(Y6 a.span b.span).2=0->fE (br c.shards (iE a b x)) o=br (fE c.shards o) (iE a b x):=fun hj=>by
  refine PD (fun O=>?_) ho.1;have O:a.id=o:=O;rw[(Ys M).2] at O;subst O;rw[M] at N;cases N;exact WR hj
 have W:=fX I c b true Y.1;rw[yi,ad] at W;have ae:(fE c.shards o).length<=10000:=GI (List.length_filter_le _ _) (by omega);have u:=fX I ⟨fE c.shards o,c.top,c.dropped⟩ (iE a b x) false ae;rw[oO (PC ho.1)] at u;have J:(eA a.ents b.ents).2=0->K' Pg 218 [Yf (eA a.ents b.ents).1,.agg (Ye (later a.mark b.mark))]=some (Yf (fS (eA a.ents b.ents).1 (later a.mark b.mark))):=fun hj=>Bi S (eA a.ents b.ents).1 (later a.mark b.mark) (Kk hj);have X:max a.seen b.seen=if decide (a.seen<b.seen) then b.seen else a.seen:=by rw[<-uy];by_cases h:a.seen<b.seen<;>simp[h]
 have E:max a.closed b.closed=if decide (a.closed<b.closed) then b.closed else a.closed:=by rw[<-uy];by_cases h:a.closed<b.closed<;>simp[h]
 simp only[Yg,Yf,Yb] at q;simp only[YZ,EZ] at ai;simp only[Yf,uq] at aj;simp only[Yb,ut] at al;simp only[Ye] at ak;simp only[Yf,Ye] at J;simp only[Yq,Yw,Yg,Yf,Yb,iE] at W u;simp only[N,Option.getD_some,Yg,Yf,Yb] at kb;clear ac Q R S H I U B Y ho h8 M N ha hb m Z aa ah ab ad ae;cases d1:ph a with
 |false=>cases d0:decide (a.epoch=x)<;>simp only[go_sem, *]
 |true=>
 cases d2:ph b with
 |false=>cases d0:decide (a.epoch=x)<;>simp only[go_sem, *]
 |true=>
 cases d9:decide (a.epoch=e) with
 |false=>cases d0:decide (a.epoch=x)<;>simp only[go_sem, *]
 |true=>
 cases d3:decide (a.epoch<x) with
 |false=>cases d0:decide (a.epoch=x)<;>simp only[go_sem, *]
 |true=>
 have d0:decide (a.epoch=x)=false:=Gp (by have:=Gc d3;omega);cases d4:decide (b.epoch<x) with
 |false=>simp only[go_sem, *]
 |true=>
 cases d5:decide (a.closed<x) with
 |false=>simp only[go_sem, *]
 |true=>
 cases d6:decide ((Y6 a.span b.span).2=0) with
 |false=>
  rw[d6] at p;simp only[Gm] at p;simp only[go_sem, *]
 |true=>
 cases d7:decide ((eA a.ents b.ents).2=0) with
 |false=>
  rw[d6,d7] at p;simp only[Gm,Gy] at p;simp only[go_sem, *]
 |true=>
 have J:=J (Gc d7);cases d8:decide ((YX a.done b.done).2=0) with
 |false=>
  rw[d6,d7,d8] at p;simp only[Gq] at p;simp only[go_sem, *]
 |true=>
  rw[d6,d7,d8] at p;simp only[GL] at p;rw[af (Gc d6)];clear af;cases z1:decide (a.seen<b.seen) with
  |false=>
   rw[z1] at X;simp only[Gl,Gv] at X;cases z2:decide (a.closed<b.closed) with
   |false=>
    rw[z2] at E;simp only[Gl,Gv] at E;rw[X,E] at u;simp only[go_sem,iE, *]
   |true=>
    rw[z2] at E;simp only[Gw] at E;rw[X,E] at u;simp only[go_sem,iE, *]
  |true=>
   rw[z1] at X;simp only[Gw] at X;cases z2:decide (a.closed<b.closed) with
   |false=>
    rw[z2] at E;simp only[Gl,Gv] at E;rw[X,E] at u;simp only[go_sem,iE, *]
   |true=>
    rw[z2] at E;simp only[Gw] at E;rw[X,E] at u;simp only[go_sem,iE, *]
def rz:=HpZ 295 F295
def lG (h:rz Pg) (e:Int):K' Pg 295 [iz e]=some (.agg (dV (aE e))):=by
 refine aA h rfl ?_;simp only[go_sem,aE]
theorem Pv {t:aB}:cZ t []=none:=by
 unfold cZ;split
 ·have:bX t []=0:=Nat.le_zero.1 (xM t []);rw[Gt this]
 ·rfl
theorem PX {l:List aF} {k:mp} {t:aB} (j:ck l=true) (o:aS k=true):pI l k t=cZ t (fV k l):=by
 rw[(Qe j o).1];unfold pI cU;rw[Gt j];cases q:fa k l with
 |false=>simp only[Gl,Gv,Pv]
 |true=>
  simp only[Gw];cases l[cw k l]? with
  |none=>simp only[Pv]
  |some e=>rfl
def Xw {s:aM} {r:Rq} (o:ck s.ents=true) (j:aS r.key=true):ul s r=⟨0,r.at_,(gR r.at_ (fV r.key s.ents)).isSome,(gR r.at_ (fV r.key s.ents)).getD [],[],[],false⟩:=by
 unfold ul;rw[PX o j,Ow,Og];cases cZ r.at_ (fV r.key s.ents)<;>rfl
def Qd {l:List aF} {k:mp} (o:Sm l):(fV k l).length<=10000:=by
 unfold fV;split
 ·rename_i e j;exact (o.2 e (List.mem_of_find?_eq_some j)).1
 ·simp
def EO {r:Rq} (h:df r=true):r.hi.length<=16/\r.key.length<=16/\(r.kind≠6->aS r.key=true):=by
 simp only[df,Ge,G1,Gj] at h;have h1:=h.2.2.2.2.2.2.2.2.2.1;have h2:=h.2.2.2.2.2.2.2.2.2.2;have o:∀k,aS k=true->k.length<=16:=fun k q=>by
  simp only[aS,Ge,Gj] at q;exact q.2.2
 refine⟨?_,?_,fun j=>?_⟩
 ·rcases h1 with h1|h1
  ·rw[h1];simp
  ·exact o _ h1
 ·by_cases p:r.kind=6
  ·rw[Gt p] at h2;simp only[Ge,G1,Gj] at h2;rcases h2.1 with h2|h2
   ·rw[h2];simp
   ·exact o _ h2
  ·rw[Gn p] at h2;exact o _ h2
 ·rw[Gn j] at h2;exact h2
def gO {k:mp}:decide (((k.length:Int))=0)=decide (k=[]):=by cases k<;>simp;omega
def Y8 {k:mp}:decide ((0:Int)<(k.length:Int))=!decide (k=[]):=by cases k<;>simp
def zG:=HpC 296 F296<|HpA H6<|HpA E9<|HpA j9<|HpA yS<|HpA rv<|HpA rz<|mz
theorem HQ (h:zG Pg) (c:aP) (s:aM) (r:Rq) (w:Int) (Q:kz s) (hr:ck s.ents=true) (hq:df r=true) (hw:dq w=true) :
  K' Pg 296 [.agg (Yq c),.agg (Yg s),.agg (lu r),iz w]=some (pZ (iv c s r w)):=by
 have⟨h,h6,Y,H,y,I,z,J⟩:=h
 have S:=K6 h6 r.at_ s.mark
 have ac:=lG z 13
 have X:=lG z 12
 have q:=ot J c.top r.at_
 have M:=vO I s.ents r.key (by have:=Q.1.1;omega)
 have R:=NZ Y (fV r.key s.ents) r.at_ (by have:=Qd (k:=r.key) Q.1;omega)
 have⟨B,T,N⟩:=EO hq
 have L:=ks H s.span.hi r.hi (by have:=Q.2.2.2.2;omega) (by omega)
 have j:=Bf y s.ents r.key s.span.hi r.at_ r.limit Q.1 (by omega) Q.2.2.2.2
 have o:=Bf y s.ents r.key r.hi r.at_ r.limit Q.1 (by omega) (by omega)
 simp only[aV,Ye] at S q R
 simp only[dV,YB,aE,Gk] at ac X
 simp only[Yf,Yd] at M R
 simp only[Yf,ET,CW,P9,Ye] at j o
 have u:IntKind.i64.wrap (w+1000)=w+1000:=by
  simp only[dq,Ge,Gj] at hw;exact bv (by omega) (by omega)
 have Z:decide (YD (Yu s.span.hi) (Yu r.hi)<0)=bQ s.span.hi r.hi:=rfl
 have hg:aS r.key=true->ul s r=⟨0,r.at_,(gR r.at_ (fV r.key s.ents)).isSome,(gR r.at_ (fV r.key s.ents)).getD [],[],[],false⟩:=Xw hr
 clear h6 Y H y I z J Q hr hq hw
 refine aA h rfl ?_
 clear h
 cases D:decide (Yc r.at_ s.mark<0) with
 |true=>
  have hm:iv c s r w=(c,aE 13):=by simp only[iv,Gc D,Gw]
  rw[hm]
  simp only[go_sem,aE, *]
 |false=>
 have W:=Ga D
 cases E:decide (w+1000<r.at_.wall) with
 |true=>
  have hm:iv c s r w=(c,aE 12):=by
   have:w<r.at_.wall-1000:=by have:=Gc E;omega
   simp only[iv,W,this,Gw,Gv]
  rw[hm]
  simp only[go_sem,aE,S,u,X,D,E]
 |false=>
 have aa:¬w<r.at_.wall-1000:=by have:=Ga E;omega
 have hm:iv c s r w=(⟨c.shards,later c.top r.at_,c.dropped⟩,if r.kind=5 then ul s r else yh s r):=by simp only[iv,W,aa,Gv]
 rw[hm]
 cases c3:decide (r.kind=5) with
 |true=>
  have ab:=Gc c3
  rw[Gt ab,hg (N (by omega))]
  simp only[go_sem,S,u,q,M,R,D,E,c3]
 |false=>
  rw[Gn (Ga c3)]
  unfold yh C6
  cases B:decide (s.span.hi=[]) with
  |true=>
   have P:j4 s r=false:=by simp[j4,B]
   simp only[P,Gl,Gv,Gm]
   generalize lZ s.ents r.key r.hi r.at_ r.limit=p at o
   cases U:p.2.2<;>simp only[go_sem,S,u,q,o,Y8,D,E,c3,B,U]
  |false=>
  cases T:decide (r.hi=[]) with
  |true=>
   have P:j4 s r=true:=by simp[j4,B,T]
   have O:decide (s.span.hi=r.hi)=false:=Gp (fun e=>Ga B (e.trans (Gc T)))
   simp only[P,Gw,Gy]
   generalize lZ s.ents r.key s.span.hi r.at_ r.limit=p at j
   cases U:p.2.2<;>simp only[go_sem,S,u,q,j,Y8,gO,D,E,c3,B,T,U,O]
  |false=>
   cases N:bQ s.span.hi r.hi with
   |true=>
    have P:j4 s r=true:=by simp[j4,B,N]
    have O:decide (s.span.hi=r.hi)=false:=Gp (fun e=>by rw[e,CB] at N;cases N)
    simp only[P,Gw,Gy]
    generalize lZ s.ents r.key s.span.hi r.at_ r.limit=p at j
    cases U:p.2.2<;>simp only[go_sem,S,u,q,L,Z,j,Y8,gO,D,E,c3,B,T,N,U,O]
   |false=>
    have P:j4 s r=false:=by simp[j4,B,T,N]
    simp only[P,Gl,Gv,Gm]
    generalize lZ s.ents r.key r.hi r.at_ r.limit=p at o
    cases U:p.2.2<;>simp only[go_sem,S,u,q,L,Z,o,Y8,gO,D,E,c3,B,T,N,U]
structure gK (c:aP) (s':aM) (r:Rq) (aL:aB) (a:eE) (e:Int) (S:St):Prop where
 g6:S.ρ 6=.lref 6 0
 g9:S.ρ 9=.lref 9 0
 me:S.ρ 10=.lref 10 0
 jG:S.ρ 12=.lref 12 0
 gB:S.ρ 13=.lref 13 0
 ic:S.ρ 14=.lref 14 0
 mV:S.ρ 21=.lref 21 0
 uv:S.ρ 22=iz e
 m6:S.μ 6=some (Yq c,false)
 m9:S.μ 9=some (lu r,false)
 dD:S.μ 10=some (Ye aL,false)
 fb:S.μ 12=some (pX,false)
 dR:S.μ 13=some (pW,false)
 j0:S.μ 14=some (Yg s',false)
 iU:S.μ 21=some (dV a,false)
 p9:S.μ 23=none
def LL (D:rq Pg) (c:aP) (s:aM) (r:Rq) (aL:aB) (o:eE) (v:bz) (W:Sm s.ents) (E:r.key.length<=10000) (hv:v.val=o.val) (S:St) (hP:gK c s r aL ⟨0,aL,o.found,[],[],[],false⟩ 0 S) (H:S.ρ 15=.lref 15 0) (B:S.μ 15=some (dv v,false)) (j:S.ρ 17=.bool o.found) :
  Wp (K' Pg) LM S (DW (gK c {s with ents:=(Y0 o s r aL).1} r aL (dM o r aL) (Y0 o s r aL).2)):=by
 have⟨g6,g9,me,jG,gB,ic,mV,uv,m6,m9,dD,fb,dR,j0,iU,p9⟩:=hP
 have L:=Bb D s.ents r.key ⟨aL,false,r.value⟩ W E
 have X:=Bb D s.ents r.key ⟨aL,true,[]⟩ W E
 simp only[Yf,uq,dv] at L X
 simp only[dv,hv] at B
 unfold LM
 have swap:∀(s':aM) (a:eE) (e:Int) (S':St),(S'.ρ 6=.lref 6 0/\S'.ρ 9=.lref 9 0/\S'.ρ 10=.lref 10 0/\S'.ρ 12=.lref 12 0/\S'.ρ 13=.lref 13 0/\S'.ρ 14=.lref 14 0/\S'.ρ 21=.lref 21 0/\S'.ρ 22=iz e/\S'.μ 6=some (Yq c,false)/\S'.μ 9=some (lu r,false)/\S'.μ 10=some (Ye aL,false)/\S'.μ 12=some (pX,false)/\S'.μ 13=some (pW,false)/\S'.μ 14=some (Yg s',false)/\S'.μ 21=some (dV a,false)/\S'.μ 23=none)->gK c s' r aL a e S':=
  fun s' a e S' ⟨Y,Z,a2,a3,a4,a5,a6,a7,a8,a9,N,O,P,Q,R,T⟩=>⟨Y,Z,a2,a3,a4,a5,a6,a7,a8,a9,N,O,P,Q,R,T⟩
 have u:iJ o r=true->gK c {s with ents:=(Y0 o s r aL).1} r aL (dM o r aL) (Y0 o s r aL).2=gK c s r aL ⟨15,aL,o.found,o.val,[],[],false⟩ 0:=fun w=>by
  simp only[Y0,dM,w,Gw]
 have put:iJ o r=false->decide (r.kind=2)=false->gK c {s with ents:=(Y0 o s r aL).1} r aL (dM o r aL) (Y0 o s r aL).2=gK c {s with ents:=(ej s.ents r.key ⟨aL,false,r.value⟩).1} r aL ⟨0,aL,o.found,[],[],[],false⟩ (ej s.ents r.key ⟨aL,false,r.value⟩).2:=fun w E=>by
  simp only[Y0,dM,w,E,GR,Gw,Gl,Gv]
 have J:iJ o r=false->decide (r.kind=2)=true->o.found=true->gK c {s with ents:=(Y0 o s r aL).1} r aL (dM o r aL) (Y0 o s r aL).2=gK c {s with ents:=(ej s.ents r.key ⟨aL,true,[]⟩).1} r aL ⟨0,aL,o.found,[],[],[],false⟩ (ej s.ents r.key ⟨aL,true,[]⟩).2:=fun w E U=>by
  simp only[Y0,dM,w,E,U,Gx,Gw,Gl,Gv]
 have I:iJ o r=false->decide (r.kind=2)=true->o.found=false->gK c {s with ents:=(Y0 o s r aL).1} r aL (dM o r aL) (Y0 o s r aL).2=gK c s r aL ⟨0,aL,o.found,[],[],[],false⟩ 0:=fun w E U=>by
  simp only[Y0,dM,w,E,U,Gx,Gl,Gv]
 cases q:decide (r.kind=3) with
 |true=>
  have z:decide (r.kind=2)=false:=Gp (by have:=Gc q;omega)
  cases y:(o.found == r.had) with
  |false=>
   rw[u (by rw[iJ,q,y];rfl)]
   simp only[go_sem,g9,H,j,mV,m9,B,iU,q,y]
   exact swap _ _ _ _ (by simp only[go_sem,g6,g9,me,jG,gB,ic,mV,uv,m6,m9,dD,fb,dR,j0,p9])
  |true=>
  cases p:o.found with
  |false=>
   rw[put (by rw[iJ,y,p,q];rfl) z,p]
   simp only[dV] at iU
   rw[p] at y j iU
   simp only[go_sem,g9,me,ic,j,m9,dD,j0,q,y,z,L]
   exact swap _ _ _ _ (by simp only[go_sem,g6,g9,me,jG,gB,ic,mV,m6,m9,dD,fb,dR,iU,p9])
  |true=>
  cases M:decide (o.val=r.old) with
  |false=>
   rw[u (by rw[iJ,q,y,p,M];rfl),p]
   simp only[dV] at iU
   rw[p] at y j iU
   simp only[go_sem,g9,H,j,mV,m9,B,iU,q,y,M]
   exact swap _ _ _ _ (by simp only[go_sem,g6,g9,me,jG,gB,ic,mV,uv,m6,m9,dD,fb,dR,j0,p9])
  |true=>
   rw[put (by rw[iJ,q,y,p,M];rfl) z,p]
   simp only[dV] at iU
   rw[p] at y j iU
   simp only[go_sem,g9,me,ic,H,j,m9,dD,j0,B,q,y,M,z,L]
   exact swap _ _ _ _ (by simp only[go_sem,g6,g9,me,jG,gB,ic,mV,m6,m9,dD,fb,dR,iU,p9])
 |false=>
  have w:iJ o r=false:=by rw[iJ,q];rfl
  cases z:decide (r.kind=2) with
  |false=>
   rw[put w z]
   simp only[go_sem,g9,me,ic,m9,dD,j0,q,z,L]
   exact swap _ _ _ _ (by simp only[go_sem,g6,g9,me,jG,gB,ic,mV,m6,m9,dD,fb,dR,iU,p9])
  |true=>
  cases p:o.found with
  |false=>
   rw[I w z p,p]
   simp only[dV] at iU
   rw[p] at j iU
   simp only[go_sem,g9,j,m9,q,z]
   exact swap _ _ _ _ (by simp only[go_sem,g6,g9,me,jG,gB,ic,mV,uv,m6,m9,dD,fb,dR,j0,iU,p9])
  |true=>
   rw[J w z p,p]
   simp only[dV] at iU
   rw[p] at j iU
   simp only[go_sem,g9,me,ic,j,m9,dD,j0,q,z,X]
   exact swap _ _ _ _ (by simp only[go_sem,g6,g9,me,jG,gB,ic,mV,m6,m9,dD,fb,dR,iU,p9])
def LK (B:Fl Pg) (q:rz Pg) (u:jq Pg) (c:aP) (s:aM) (r:Rq) (aL:aB) (a:eE) (e:Int) (J:kN c.shards) (L:c.shards.length<=10000) (N:s.done.length<=10000) (S:St) (I:gK c s r aL a e S) (z:aP×eE)
  (hz:z=if e≠0 then (c,aE e) else if (dQ s.done ⟨r.client,r.req,a⟩).2≠0 then (c,aE (dQ s.done ⟨r.client,r.req,a⟩).2) else (⟨br c.shards {s with done:=(dQ s.done ⟨r.client,r.req,a⟩).1},aL,c.dropped⟩,a)) :
  Wp (K' Pg) LI S (fun D S=>(D=.norm\/D=.ret)/\jT F241 S=some (pZ z)):=by
 have⟨g6,g9,me,jG,gB,ic,mV,uv,m6,m9,dD,fb,dR,j0,iU,p9⟩:=I
 have o:=VD B s.done ⟨r.client,r.req,a⟩ (by omega)
 have E:=lG q e
 have j:=fun d=>fX u c {s with done:=d} false L
 have M:=fun d=>oO (s:={s with done:=d}) J
 simp only[M] at j
 simp only[Yb,ut,YK,YB] at o
 simp only[dV,YB,aE,Gk] at E
 simp only[pX,pW] at fb dR
 unfold LI
 cases w:decide (e=0) with
 |false=>
  rw[Gt (Ga w)] at hz
  rw[hz]
  simp only[go_sem,g6,jG,gB,uv,m6,fb,dR,w,E,aE]
 |true=>
 rw[Gn (by simpa using Gc w)] at hz
 generalize dQ s.done ⟨r.client,r.req,a⟩=p at o hz
 cases y:decide (p.2=0) with
 |false=>
  have H:=lG q p.2
  simp only[dV,YB,aE,Gk] at H
  rw[Gt (Ga y)] at hz
  rw[hz]
  simp only[go_sem,g6,g9,jG,gB,ic,mV,uv,m6,m9,fb,dR,j0,iU,w,y,o,H,aE]
 |true=>
  rw[Gn (by simpa using Gc y)] at hz
  have j:=j p.1
  simp only[Yq,Yw,Yg,Yf,Yb] at j
  rw[hz]
  simp only[go_sem,g6,g9,me,jG,gB,ic,mV,uv,m6,m9,dD,fb,dR,j0,iU,p9,w,y,o,j]
def ZQ {t:List aH} {c:Int}:eV t c=match Yo t c with|some d=>d.req|none=>0:=by
 induction t with
 |nil=>rfl
 |cons d l j=>
  simp only[eV,Yo];by_cases h:d.client=c
  ·simp only[h,Gw]
  ·simp only[h,Gv,j]
def WS {t:List aH} {c q:Int} (u:YA t=true) (p:Ym c=true) (o:Ym q=true) :
  decide (li t c q=2)=decide (q=eV t c)/\decide (li t c q=3)=decide (q<eV t c):=by
 have h1:1<=q:=by
  have:1<=q/\q<=1099511627776:=by simpa [Ym] using o
  exact this.1
 unfold li
 rw[u,p,o,ZQ]
 simp only[GL,Gw]
 cases Yo t c with
 |none=>exact⟨GO.2 (by simp;omega),GO.2 (by simp;omega)⟩
 |some d=>
  simp only
  by_cases h:d.req<q
  ·simp only[h,Gw]
   exact⟨GO.2 (by simp;omega),GO.2 (by simp;omega)⟩
  ·by_cases j:q=d.req
   ·simp[j]
   ·simp only[h,j,Gv]
    exact⟨GO.2 (by simp),GO.2 (by simp;omega)⟩
def ZH {s:ce} {k:mp} (o:Yz s=true) (j:aS k=true):dF s k=(jf s.lo k&&(decide (s.hi=[])||bQ k s.hi)):=by
 rw[dF,o,j,Gy,Gy]
def Zb {s:ce}:dF s []=false:=by
 have:aS []=false:=by decide
 rw[dF,this,Gm,Gq]
def OJ {s:aM} {k:mp} {t:aB} (o:ck s.ents=true) (j:aS k=true) :
  fy s k t=⟨0,((cZ t (fV k s.ents)).getD gz).at_,(cZ t (fV k s.ents)).isSome&&!((cZ t (fV k s.ents)).getD gz).gone,((cZ t (fV k s.ents)).getD gz).val,[],[],false⟩:=by
 unfold fy
 rw[PX o j]
 cases cZ t (fV k s.ents)<;>rfl
def Qj {r:Rq} (h:df r=true):mr r=decide (r.kind<4):=by
 simp only[df,Ge,Gj] at h;have h1:=h.2.2.1;rw[Bool.eq_iff_iff];simp only[mr,G1,Gj];omega
def ZW {r:Rq} (h:df r=true):Ym r.client=true/\Ym r.req=true:=by
 simp only[df,Ge] at h;exact⟨h.1,h.2.1⟩
def ZV {r:Rq} (h:df r=true) (p:r.key≠[]):aS r.key=true:=by
 by_cases o:r.kind=6
 ·simp only[df,Ge,G1,Gj] at h;have j:=h.2.2.2.2.2.2.2.2.2.2;rw[Gt o] at j;simp only[Ge,G1,Gj] at j;rcases j.1 with h|h
  ·exact absurd h p
  ·exact h
 ·exact (EO h).2.2 o
def zd:=HpC 241 F241<|HpA H6<|HpA Dh<|HpA nN<|HpA MD<|HpA Fl<|HpA Dp<|HpA ro<|HpA rq<|HpA rv<|HpA jo<|HpA iN<|HpA il<|HpA ry<|HpA zF<|HpA rz<|HpA zG<|jq
theorem Hq (h:zd Pg) (c:aP) (n e:Int) (r:Rq) (aL:aB) (w:Int) (hc:eG c):K' Pg 241 [.agg (Yq c),iz n,iz e,.agg (lu r),.agg (Ye aL),iz w]=some (pZ (fI c n e r aL w)):=by
 have⟨h,h6,ay,az,a0,ar,a1,ak,ad,al,am,an,ae,ao,ap,ab,aq,af⟩:=h;have j:=gI am c hc;have Q:=cp ae n;have T:=cp ae e;have X:=vR ao w;have E:=mD az aL;have u:=HP ap r;have f1:=lG ab 1;have ac:=lG ab 10;have aj:=lG ab 11;simp only[Yq,Yw] at j;simp only[Ye] at E;simp only[lu] at u;simp only[dV,YB,aE,Gk] at f1 ac aj;refine aA h rfl ?_;clear h az am ae ao ap;simp only[F241];cases L:Yy c with
 |false=>
  rw[oN (by rw[L];rfl)];simp only[go_sem,aE,j,f1,L]
 |true=>
 cases N:Ym n with
 |false=>
  rw[oN (by rw[N];simp)];simp only[go_sem,aE,j,Q,f1,L,N]
 |true=>
 cases c3:Ym e with
 |false=>
  rw[oN (by rw[c3];simp)];simp only[go_sem,aE,j,Q,T,f1,L,N,c3]
 |true=>
 cases O:dq w with
 |false=>
  rw[oN (by rw[O];simp)];simp only[go_sem,aE,j,Q,T,X,f1,L,N,c3,O]
 |true=>
 cases P:Ya aL with
 |false=>
  rw[oN (by rw[P];simp)];simp only[go_sem,aE,j,Q,T,X,E,f1,L,N,c3,O,P]
 |true=>
 cases M:df r with
 |false=>
  rw[oN (by rw[M];simp)];simp only[go_sem,aE,j,Q,T,X,E,u,f1,L,N,c3,O,P,M]
 |true=>
 have p:=eY an c n hc.1;simp only[Yq,Yw] at p;cases q:Y3 c.shards n with
 |none=>
  have m:fI c n e r aL w=(c,aE 10):=by simp only[fI,L,N,c3,O,P,M,q,GL,Gw]
  rw[m];simp only[q,Option.getD_none,Yk,Yg,Yf,Yb,Gk] at p;simp only[go_sem,aE,j,Q,T,X,E,u,p,ac,L,N,c3,O,P,M]
 |some s=>
 have ho:=lX L;have hs:=ho.2.2 s (Ys q).1;have H:=lm hs.1;have Z:=hc.2 s (Ys q).1;have hr:=((Yv.1 L).2.2.2.2 s (Ys q).1).2.1;have hx:=(pw hr).1;have ah:=hr;simp only[bx,bE,dq,Ge,Gj] at ah;have a4:Yz s.span=true:=ah.1.2.2.2.2.2.2.2.2.1;have a2:YA s.done=true:=ah.1.2.2.2.2.2.2.2.2.2.2.2.2;have hh:decide (0<s.hold)=!decide (s.hold=0):=by
  have:=ah.1.2.2.1;by_cases h:s.hold=0<;>simp[h];omega
 have⟨l1,l2,l3⟩:=EO M;have J:=Qj M;have⟨n1,n2⟩:=ZW M;have⟨j2,j3⟩:=WS a2 n1 n2;have B:=vN ak r.key s.span.lo s.span.hi (by omega) (by have:=Z.2.2.2.1;omega) (by have:=Z.2.2.2.2;omega);have D:=vO al s.ents r.key (by have:=Z.1.1;omega);have y:=F1 ay (fV r.key s.ents) c.top (by have:=Qd (k:=r.key) Z.1;omega);have R:=HQ aq c s r w Z hx M O;have aa:=DV a1 s.done r.client (by have:=Z.2.1;omega);have ai:=VB a0 s.done r.client (by have:=Z.2.1;omega);have k6:=K6 h6 c.top aL;have m:fI c n e r aL w=if !decide (s.epoch=e)||!iR s r then (c,aE 10)
   else if !decide (s.phase=1)||(mr r&&!decide (s.hold=0)) then (c,aE 11)
   else if mr r then YO c s r aL else if decide (r.kind=4)=true then (c,fy s r.key c.top) else iv c s r w:=by
  simp only[fI,L,N,c3,O,P,M,q,GL,Gw,Gj]
 rw[m];simp only[q,Option.getD_some,Yg,Yf,Yb] at p;simp only[Yf,Yd] at D;simp only[Yd,Ye,p0,dv] at y;simp only[Yq,Yw,Yg,Yf,Yb,lu] at R;simp only[Yb,C1,YK] at aa ai;simp only[Ye] at k6;clear h6 ay a0 a1 ak al an aq m ah;cases d1:decide (s.epoch=e) with
 |false=>simp only[go_sem,aE,j,Q,T,X,E,u,p,ac,H,L,N,c3,O,P,M,d1]
 |true=>
 cases W:decide (r.key=[]) with
 |true=>
  have a3:dF s.span r.key=false:=by rw[Gc W];exact Zb
  have hQ:iR s r=decide (s.span.lo=[]):=by rw[iR,W,a3];simp
  have h6:r.kind=6:=by
   by_cases h:r.kind=6
   ·exact h
   ·have:=l3 h;rw[Gc W] at this;exact absurd this (by decide)
  have e4:decide (r.kind<4)=false:=Gp (by omega);have e5:decide (r.kind=4)=false:=Gp (by omega);have e6:decide (4<r.kind)=true:=Gu (by omega);cases dl:decide (s.span.lo=[]) with
  |false=>simp only[go_sem,aE,Y8,gO,j,Q,T,X,E,u,p,ac,H,L,N,c3,O,P,M,d1,W,hQ,dl]
  |true=>
  cases d5:decide (s.phase=1) with
  |false=>simp only[go_sem,aE,Y8,gO,j,Q,T,X,E,u,p,aj,H,L,N,c3,O,P,M,d1,W,hQ,dl,d5]
  |true=>
   generalize iv c s r w=x1 at R;simp only[pZ,Yq,Yw,dV,YB] at R;generalize cZ c.top (fV r.key s.ents)=o at y;cases o with
   |none=>
    simp only[Option.getD_none,Option.isSome_none,gz] at y;simp only[go_sem,aE,Y8,gO,j,Q,T,X,E,u,p,D,y,R,H,L,N,c3,O,P,M,d1,W,hQ,dl,d5,e4,e5,e6,J]
   |some v=>
    simp only[Option.getD_some,Option.isSome_some] at y;cases vg:v.gone<;>simp only[go_sem,aE,Y8,gO,j,Q,T,X,E,u,p,D,y,R,H,L,N,c3,O,P,M,d1,W,hQ,dl,d5,e4,e5,e6,J,vg]
 |false=>
 have av:=ZV M (Ga W);have hQ:iR s r=(jf s.span.lo r.key&&(decide (s.span.hi=[])||bQ r.key s.span.hi)):=by rw[iR,W,ZH a4 av];simp
 generalize hb:(jf s.span.lo r.key&&(decide (s.span.hi=[])||bQ r.key s.span.hi))=b at hQ B;cases b with
 |false=>simp only[go_sem,aE,Y8,j,Q,T,X,E,u,p,B,ac,H,L,N,c3,O,P,M,d1,W,hQ]
 |true=>
 cases d5:decide (s.phase=1) with
 |false=>simp only[go_sem,aE,Y8,gO,j,Q,T,X,E,u,p,B,aj,H,L,N,c3,O,P,M,d1,W,hQ,d5]
 |true=>
 cases d6:decide (r.kind<4) with
 |false=>
  cases d8:decide (r.kind=4) with
  |true=>
   rw[OJ hx av];generalize cZ c.top (fV r.key s.ents)=o at y;cases o with
   |none=>
    simp only[Option.getD_none,Option.isSome_none,gz] at y;simp only[go_sem,aE,gz,Option.getD_none,Option.isSome_none,Y8,gO,j,Q,T,X,E,u,p,B,D,y,H,L,N,c3,O,P,M,d1,W,hQ,d5,d6,d8,J]
   |some v=>
    simp only[Option.getD_some,Option.isSome_some] at y;simp only[go_sem,aE,Option.getD_some,Option.isSome_some,Y8,gO,j,Q,T,X,E,u,p,B,D,y,H,L,N,c3,O,P,M,d1,W,hQ,d5,d6,d8,J]
  |false=>
   have e6:decide (4<r.kind)=true:=Gu (by have:=Ga d6;have:=Ga d8;omega);generalize iv c s r w=x1 at R;simp only[pZ,Yq,Yw,dV,YB] at R;generalize cZ c.top (fV r.key s.ents)=o at y;cases o with
   |none=>
    simp only[Option.getD_none,Option.isSome_none,gz] at y;simp only[go_sem,aE,Y8,gO,j,Q,T,X,E,u,p,B,D,y,R,H,L,N,c3,O,P,M,d1,W,hQ,d5,d6,d8,e6,J]
   |some v=>
    simp only[Option.getD_some,Option.isSome_some] at y;cases vg:v.gone<;>simp only[go_sem,aE,Y8,gO,j,Q,T,X,E,u,p,B,D,y,R,H,L,N,c3,O,P,M,d1,W,hQ,d5,d6,d8,e6,J,vg]
 |true=>
 have e4:decide (r.kind=4)=false:=Gp (by have:=Gc d6;omega);have e6:decide (4<r.kind)=false:=Gp (by have:=Gc d6;omega);cases d7:decide (s.hold=0) with
 |false=>simp only[go_sem,aE,Y8,gO,j,Q,T,X,E,u,p,B,aj,H,hh,L,N,c3,O,P,M,d1,W,hQ,d5,d6,d7,J]
 |true=>
 have ax:oS s.done r.client=Yo s.done r.client:=by rw[oS,Gt a2]
 have Y:=OJ (s:=s) (k:=r.key) (t:=c.top) hx av;have au:r.key.length<=10000:=by omega
 simp only[YB] at ai;simp only[aV] at k6;generalize cZ c.top (fV r.key s.ents)=ov at y Y;cases ov with
 |none=>
  simp only[Option.getD_none,Option.isSome_none,gz] at y;simp only[Option.getD_none,Option.isSome_none,gz,Gm] at Y;cases q9:decide (r.req=eV s.done r.client) with
  |true=>
   have mw:YO c s r aL=(c,((Yo s.done r.client).getD YR).ans):=by
    unfold YO;rw[Gt (Gc (j2.trans q9)),ax]
   rw[mw];simp only[go_sem,aE,Y8,gO,j,Q,T,X,E,u,p,B,D,y,aa,ai,H,hh,L,N,c3,O,P,M,d1,W,hQ,d5,d6,d7,e4,e6,J,q9]
  |false=>
  cases I:decide (r.req<eV s.done r.client) with
  |true=>
   have mw:YO c s r aL=(c,aE 10):=by
    unfold YO;rw[Gn (Ga (j2.trans q9)),Gt (Gc (j3.trans I))]
   rw[mw];simp only[go_sem,aE,Y8,gO,j,Q,T,X,E,u,p,B,D,y,aa,ac,H,hh,L,N,c3,O,P,M,d1,W,hQ,d5,d6,d7,e4,e6,J,q9,I]
  |false=>
  cases U:decide (Yc c.top aL<0) with
  |false=>
   have mw:YO c s r aL=(c,aE 1):=by
    unfold YO;rw[Gn (Ga (j2.trans q9)),Gn (Ga (j3.trans I)),Gt (pz.1 (by have:=Ga U;omega))]
   rw[mw];simp only[go_sem,aE,Y8,gO,j,Q,T,X,E,u,p,B,D,y,aa,k6,f1,H,hh,L,N,c3,O,P,M,d1,W,hQ,d5,d6,d7,e4,e6,J,q9,I,U]
  |true=>
   have ag:¬Yc aL c.top<=0:=fun h=>by
    have:=pz.2 h;have:=Gc U;omega
   have hm:YO c s r aL=if (Y0 ⟨0,⟨0,0,0⟩,false,[],[],[],false⟩ s r aL).2≠0 then (c,aE (Y0 ⟨0,⟨0,0,0⟩,false,[],[],[],false⟩ s r aL).2)
     else if (dQ s.done ⟨r.client,r.req,dM ⟨0,⟨0,0,0⟩,false,[],[],[],false⟩ r aL⟩).2≠0 then (c,aE (dQ s.done ⟨r.client,r.req,dM ⟨0,⟨0,0,0⟩,false,[],[],[],false⟩ r aL⟩).2)
     else (⟨br c.shards {s with ents:=(Y0 ⟨0,⟨0,0,0⟩,false,[],[],[],false⟩ s r aL).1,done:=(dQ s.done ⟨r.client,r.req,dM ⟨0,⟨0,0,0⟩,false,[],[],[],false⟩ r aL⟩).1},aL,c.dropped⟩,dM ⟨0,⟨0,0,0⟩,false,[],[],[],false⟩ r aL):=by
    unfold YO;rw[Gn (Ga (j2.trans q9)),Gn (Ga (j3.trans I)),Gn ag,Y]
   clear Y;rw[c241];generalize YO c s r aL=z at hm;simp only[go_sem,aE,Y8,gO,j,Q,T,X,E,u,p,B,D,y,aa,k6,H,hh,L,N,c3,O,P,M,d1,W,hQ,d5,d6,d7,e4,e6,J,q9,I,U];refine (LL ad c s r aL ⟨0,⟨0,0,0⟩,false,[],[],[],false⟩ ⟨⟨0,0,0⟩,false,[]⟩ Z.1 au rfl _ ⟨?_,?_,?_,?_,?_,?_,?_,?_,?_,?_,?_,?_,?_,?_,?_,?_⟩ ?_ ?_ ?_).mono ?_
   iterate 19 (simp only[go_sem,pX,pW])
   rintro ex S ⟨rfl,hP⟩;simp only[AX];exact LK ar ab af c {s with ents:=(Y0 ⟨0,⟨0,0,0⟩,false,[],[],[],false⟩ s r aL).1} r aL (dM ⟨0,⟨0,0,0⟩,false,[],[],[],false⟩ r aL) (Y0 ⟨0,⟨0,0,0⟩,false,[],[],[],false⟩ s r aL).2 ho.1 hc.1 Z.2.1 S hP _ hm
 |some v=>
  simp only[Option.getD_some,Option.isSome_some] at y;simp only[Option.getD_some,Option.isSome_some,Gy] at Y;cases vg:v.gone with
  |false=>
   rw[vg] at Y y;simp only[GR] at Y;cases q9:decide (r.req=eV s.done r.client) with
   |true=>
    have mw:YO c s r aL=(c,((Yo s.done r.client).getD YR).ans):=by
     unfold YO;rw[Gt (Gc (j2.trans q9)),ax]
    rw[mw];simp only[go_sem,aE,Y8,gO,j,Q,T,X,E,u,p,B,D,y,aa,ai,H,hh,L,N,c3,O,P,M,d1,W,hQ,d5,d6,d7,e4,e6,J,q9]
   |false=>
   cases I:decide (r.req<eV s.done r.client) with
   |true=>
    have mw:YO c s r aL=(c,aE 10):=by
     unfold YO;rw[Gn (Ga (j2.trans q9)),Gt (Gc (j3.trans I))]
    rw[mw];simp only[go_sem,aE,Y8,gO,j,Q,T,X,E,u,p,B,D,y,aa,ac,H,hh,L,N,c3,O,P,M,d1,W,hQ,d5,d6,d7,e4,e6,J,q9,I]
   |false=>
   cases U:decide (Yc c.top aL<0) with
   |false=>
    have mw:YO c s r aL=(c,aE 1):=by
     unfold YO;rw[Gn (Ga (j2.trans q9)),Gn (Ga (j3.trans I)),Gt (pz.1 (by have:=Ga U;omega))]
    rw[mw];simp only[go_sem,aE,Y8,gO,j,Q,T,X,E,u,p,B,D,y,aa,k6,f1,H,hh,L,N,c3,O,P,M,d1,W,hQ,d5,d6,d7,e4,e6,J,q9,I,U]
   |true=>
    have ag:¬Yc aL c.top<=0:=fun h=>by
     have:=pz.2 h;have:=Gc U;omega
    have hm:YO c s r aL=if (Y0 ⟨0,v.at_,true,v.val,[],[],false⟩ s r aL).2≠0 then (c,aE (Y0 ⟨0,v.at_,true,v.val,[],[],false⟩ s r aL).2)
      else if (dQ s.done ⟨r.client,r.req,dM ⟨0,v.at_,true,v.val,[],[],false⟩ r aL⟩).2≠0 then (c,aE (dQ s.done ⟨r.client,r.req,dM ⟨0,v.at_,true,v.val,[],[],false⟩ r aL⟩).2)
      else (⟨br c.shards {s with ents:=(Y0 ⟨0,v.at_,true,v.val,[],[],false⟩ s r aL).1,done:=(dQ s.done ⟨r.client,r.req,dM ⟨0,v.at_,true,v.val,[],[],false⟩ r aL⟩).1},aL,c.dropped⟩,dM ⟨0,v.at_,true,v.val,[],[],false⟩ r aL):=by
     unfold YO;rw[Gn (Ga (j2.trans q9)),Gn (Ga (j3.trans I)),Gn ag,Y]
    clear Y;rw[c241];generalize YO c s r aL=z at hm;simp only[go_sem,aE,Y8,gO,j,Q,T,X,E,u,p,B,D,y,aa,k6,H,hh,L,N,c3,O,P,M,d1,W,hQ,d5,d6,d7,e4,e6,J,q9,I,U];refine (LL ad c s r aL ⟨0,v.at_,true,v.val,[],[],false⟩ ⟨v.at_,false,v.val⟩ Z.1 au rfl _ ⟨?_,?_,?_,?_,?_,?_,?_,?_,?_,?_,?_,?_,?_,?_,?_,?_⟩ ?_ ?_ ?_).mono ?_
    iterate 19 (simp only[go_sem,pX,pW])
    rintro ex S ⟨rfl,hP⟩;simp only[AX];exact LK ar ab af c {s with ents:=(Y0 ⟨0,v.at_,true,v.val,[],[],false⟩ s r aL).1} r aL (dM ⟨0,v.at_,true,v.val,[],[],false⟩ r aL) (Y0 ⟨0,v.at_,true,v.val,[],[],false⟩ s r aL).2 ho.1 hc.1 Z.2.1 S hP _ hm
  |true=>
   rw[vg] at Y y;simp only[Gx] at Y;cases q9:decide (r.req=eV s.done r.client) with
   |true=>
    have mw:YO c s r aL=(c,((Yo s.done r.client).getD YR).ans):=by
     unfold YO;rw[Gt (Gc (j2.trans q9)),ax]
    rw[mw];simp only[go_sem,aE,Y8,gO,j,Q,T,X,E,u,p,B,D,y,aa,ai,H,hh,L,N,c3,O,P,M,d1,W,hQ,d5,d6,d7,e4,e6,J,q9]
   |false=>
   cases I:decide (r.req<eV s.done r.client) with
   |true=>
    have mw:YO c s r aL=(c,aE 10):=by
     unfold YO;rw[Gn (Ga (j2.trans q9)),Gt (Gc (j3.trans I))]
    rw[mw];simp only[go_sem,aE,Y8,gO,j,Q,T,X,E,u,p,B,D,y,aa,ac,H,hh,L,N,c3,O,P,M,d1,W,hQ,d5,d6,d7,e4,e6,J,q9,I]
   |false=>
   cases U:decide (Yc c.top aL<0) with
   |false=>
    have mw:YO c s r aL=(c,aE 1):=by
     unfold YO;rw[Gn (Ga (j2.trans q9)),Gn (Ga (j3.trans I)),Gt (pz.1 (by have:=Ga U;omega))]
    rw[mw];simp only[go_sem,aE,Y8,gO,j,Q,T,X,E,u,p,B,D,y,aa,k6,f1,H,hh,L,N,c3,O,P,M,d1,W,hQ,d5,d6,d7,e4,e6,J,q9,I,U]
   |true=>
    have ag:¬Yc aL c.top<=0:=fun h=>by
     have:=pz.2 h;have:=Gc U;omega
    have hm:YO c s r aL=if (Y0 ⟨0,v.at_,false,v.val,[],[],false⟩ s r aL).2≠0 then (c,aE (Y0 ⟨0,v.at_,false,v.val,[],[],false⟩ s r aL).2)
      else if (dQ s.done ⟨r.client,r.req,dM ⟨0,v.at_,false,v.val,[],[],false⟩ r aL⟩).2≠0 then (c,aE (dQ s.done ⟨r.client,r.req,dM ⟨0,v.at_,false,v.val,[],[],false⟩ r aL⟩).2)
      else (⟨br c.shards {s with ents:=(Y0 ⟨0,v.at_,false,v.val,[],[],false⟩ s r aL).1,done:=(dQ s.done ⟨r.client,r.req,dM ⟨0,v.at_,false,v.val,[],[],false⟩ r aL⟩).1},aL,c.dropped⟩,dM ⟨0,v.at_,false,v.val,[],[],false⟩ r aL):=by
     unfold YO;rw[Gn (Ga (j2.trans q9)),Gn (Ga (j3.trans I)),Gn ag,Y]
    clear Y;rw[c241];generalize YO c s r aL=z at hm;simp only[go_sem,aE,Y8,gO,j,Q,T,X,E,u,p,B,D,y,aa,k6,H,hh,L,N,c3,O,P,M,d1,W,hQ,d5,d6,d7,e4,e6,J,q9,I,U];refine (LL ad c s r aL ⟨0,v.at_,false,v.val,[],[],false⟩ ⟨v.at_,true,v.val⟩ Z.1 au rfl _ ⟨?_,?_,?_,?_,?_,?_,?_,?_,?_,?_,?_,?_,?_,?_,?_,?_⟩ ?_ ?_ ?_).mono ?_
    iterate 19 (simp only[go_sem,pX,pW])
    rintro ex S ⟨rfl,hP⟩;simp only[AX];exact LK ar ab af c {s with ents:=(Y0 ⟨0,v.at_,false,v.val,[],[],false⟩ s r aL).1} r aL (dM ⟨0,v.at_,false,v.val,[],[],false⟩ r aL) (Y0 ⟨0,v.at_,false,v.val,[],[],false⟩ s r aL).2 ho.1 hc.1 Z.2.1 S hP _ hm
def mK {a:aB}:Yc a a=0:=by rw[xN];simp
def PA {a b c:aB} (h1:Yc a b<=0) (p:Yc b c<=0):Yc a c<=0:=by
 have j:¬0<Yc a b:=by omega
 have o:¬0<Yc b c:=by omega
 have:¬0<Yc a c:=by
  rw[wG] at j o ⊢;omega
 omega
def ud {a b:aB}:Yc a (later a b)<=0/\Yc b (later a b)<=0:=by
 unfold later;split
 ·rename_i h;exact⟨by omega,by rw[mK];omega⟩
 ·rename_i h;exact⟨by rw[mK];omega,pz.1 (by omega)⟩
def xH {a b:aB} (j:Ya a=true) (o:Ya b=true):Ya (later a b)=true:=by
 unfold later;split<;>assumption
def wz {s:aM} {t t':aB} (h:cc s t=true) (ht:Yc t t'<=0):cc s t'=true:=by
 simp only[cc,GG] at h ⊢;intro e j;have:=h e j;cases q:e.chain.getLast? with
 |none=>rfl
 |some v=>
  rw[q] at this;simp only[Gj] at this ⊢;exact PA this ht
theorem Ks {s:aM}:∀{l:List aM},Y3 (br l s) s.id=some s
 |[]=>by simp[br,Y3]
 |x::l=>by
  have o:=Ks (s:=s) (l:=l);by_cases h1:s.id<x.id
  ·rw[br,Gt h1];simp[Y3]
  ·by_cases j:x.id=s.id
   ·rw[br,Gn h1,Gt j];simp[Y3]
   ·rw[br,Gn h1,Gn j];simp only[Y3,List.find?_cons,j,mu] at o ⊢;exact o
def xP {s:aM} {l:List aM} (hi:kN l):(br l s).length=if (Y3 l s.id).isSome then l.length else l.length+1:=by
 have p:=CD (n:=s.id) l;rw[Lz hi,Lf hi];cases q:eB s.id l with
 |true=>
  obtain⟨x,j,-⟩:=Kq q;have o:=(List.getElem?_eq_some_iff.1 j).1;simp only[Gw,j,Option.isSome_some,Gf,List.length_cons,GK,GP];omega
 |false=>
  simp only[Gl,Gv,Option.isSome_none,Gf,List.length_cons,GK,GP];omega
def wC {c:aP} {s:aM} {t:aB} {d:Int} (h:Yy c=true) (o:bx s=true) (hu:cc s t=true) (ht:Ya t=true) (j:Yc c.top t<=0) (u:dq d=true)
  (w:(br c.shards s).length<=8):Yy ⟨br c.shards s,t,d⟩=true:=by
 obtain⟨-,-,-,p,q⟩:=Yv.1 h
 refine Yv.2 ⟨w,ht,u,Li p,fun x hx=>?_⟩
 rcases D9 hx with rfl|hx
 ·exact⟨by have:=(xX o).1;omega,o,hu⟩
 ·have:=q x hx
  exact⟨this.1,this.2.1,wz this.2.2 j⟩
def KU {a b:Int} (j:dq a=true) (o:Ym b=true):dq (max a b)=true:=by
 simp only[dq,Ym,Ge,Gj] at j o ⊢;omega
def Wy {s:aM} {p:Int} (h:bx s=true) (h1:1<=p) (j:p<=3):bx {s with phase:=p}=true:=by
 simp only[bx,bE,Ge,Gj] at h ⊢;simp_all
def VW {s:aM} {e m:Int} (h:bx s=true) (h1:Ym e=true) (j:Ym m=true):bx {s with phase:=1,epoch:=e,closed:=m}=true:=by
 have hm:dq m=true:=by simp only[dq,Ym,Ge,Gj] at j ⊢;omega
 simp only[bx,bE,Ge,Gj] at h ⊢;simp_all
def jN {c:aP} {s:aM} {m:Int} (D:Yy c=true->Ym m=true->Y3 c.shards s.id=none) :
  ((aO c s m).2=false->(aO c s m).1=c)/\
  ((aO c s m).2=true->Ym m=true/\Yy (aO c s m).1=true/\Y3 (aO c s m).1.shards s.id=some {s with phase:=3}/\0<=Yc (aO c s m).1.top s.top):=by
 unfold aO
 split
 ·rename_i p
  rw[Ge] at p
  rw[D p.1 p.2]
  simp only
  split
  ·rename_i w
   simp only[Ge,GM,Gj,Gs] at w
   have⟨y,z,o,B,q⟩:=w
   have j:=Yv.1 p.1
   refine⟨fun h=>(by simp at h),fun _=>⟨p.2,?_,Ks (s:={s with phase:=3}),?_⟩⟩
   ·have u:Ya s.top=true:=by
     simp only[bx,bE,Ge] at o;exact o.1.2.2.2.2.2.2.2.2.2.2.2.1
    refine wC p.1 (Wy o (by omega) (by omega)) (wz (s:={s with phase:=3}) (t:=s.top) q ud.2) (xH j.2.1 u) ud.1 j.2.2.1 ?_
    rw[xP j.2.2.2.1]
    split
    ·omega
    ·have:=j.1;omega
   ·exact pz.2 ud.2
  ·exact⟨fun _=>rfl,fun h=>by simp at h⟩
 ·exact⟨fun _=>rfl,fun h=>by simp at h⟩
def dU (c d:aP):Prop:=Yy d=true/\Yc c.top d.top<=0
def YL {c:aP} (h:Yy c=true):dU c c:=⟨h,by rw[mK];omega⟩
def eN {c:aP} {s s':aM} {t:aB} {d:Int} (h:Yy c=true) (hg:Y3 c.shards s.id=some s) (LX:s'.id=s.id) (hs:bx s'=true) (he:s'.ents=s.ents)
  (ht:Ya t=true) (nz:Yc c.top t<=0) (hd:dq d=true):dU c ⟨br c.shards s',t,d⟩:=by
 have jK:=Yv.1 h
 have hu:=(jK.2.2.2.2 s (Ys hg).1).2.2
 refine⟨wC h hs (by have:=wz hu nz;simpa only [cc,he] using this) ht nz hd ?_,nz⟩
 rw[xP jK.2.2.2.1,LX,hg]
 exact jK.1
def WV {c:aP} {n e l:Int} (h:Yy c=true):dU c (jx c n e l).1:=by
 unfold jx;cases q:YP c n with
 |none=>exact YL h
 |some s=>
  obtain⟨-,-,u,-,o,-,-,hm⟩:=YF q;have j:=Yv.1 h;simp only;split
  ·rename_i p;rw[Ge] at p;rw[<-o] at u;have y:dq l=true:=by
    have:=(Ge _ _▸p.1).2;simp only[dq,Ym,Ge,Gj] at this ⊢;omega
   have w:=(j.2.2.2.2 s hm).2.1;refine eN (s':={s with hold:=l}) h u rfl ?_ rfl j.2.1 (by rw[mK];omega) j.2.2.1;simp only[bx,bE,Ge,Gj] at w ⊢;simp_all
  ·exact YL h
def Ov {c:aP} {t:aB} (h:Yy c=true):dU c (pB c t):=by
 unfold pB;split
 ·rename_i p;rw[Ge] at p;have j:=Yv.1 h;exact⟨Yv.2 ⟨j.1,xH j.2.1 p.2,j.2.2.1,j.2.2.2.1,fun s o=>⟨(j.2.2.2.2 s o).1,(j.2.2.2.2 s o).2.1,wz (j.2.2.2.2 s o).2.2 ud.1⟩⟩,ud.1⟩
 ·exact YL h
def KP {c:aP} {n d:Int} (h:Yy c=true) (o:dq d=true):dU c ⟨fE c.shards n,c.top,d⟩:=by
 have j:=Yv.1 h;exact⟨Yv.2 ⟨GI (List.length_filter_le _ _) j.1,j.2.1,o,PC j.2.2.2.1,fun s p=>j.2.2.2.2 s (G8.1 p).1⟩,by rw[mK];omega⟩
def V2 {c:aP} {n m:Int} (h:Yy c=true):dU c (i6 c n m).1:=by
 have j:=Yv.1 h;unfold i6;split
 ·cases q:Y3 c.shards n with
  |none=>exact YL h
  |some s=>
   simp only;split
   ·exact KP h j.2.2.1
   ·exact YL h
 ·exact YL h
def Lg {n:Int} (h:Ym n=true):dq n=true:=by
 simp only[dq,Ym,Ge,Gj] at h ⊢;omega
theorem Ph:dq 0=true:=rfl
def Xk {s:aM} {l x:Int} (j:bx s=true) (o:dq l=true) (p:dq x=true):bx {s with seen:=l,hold:=x}=true:=by
 simp only[bx,bE,Ge,Gj] at j ⊢;simp_all
def Wx {s:aM} (j:bx s=true):dq s.hold=true:=by
 simp only[bx,bE,Ge] at j;exact j.1.2.2.1
def WU {c:aP} {n l:Int} {t:aB} (h:Yy c=true):dU c (jV c n l t).1:=by
 unfold jV;cases q:YP c n with
 |none=>exact YL h
 |some s=>
  obtain⟨-,-,u,-,p,-,-,hm⟩:=YF q;have j:=Yv.1 h;have w:=(j.2.2.2.2 s hm).2.1;rw[<-p] at u;simp only;split
  ·rename_i o;rw[Ge] at o;split
   ·exact YL h
   ·refine eN (s':={s with seen:=l,hold:=if s.hold=l then 0 else s.hold}) h u rfl (Xk w (Lg o.1) ?_) rfl (xH j.2.1 o.2) ud.1 j.2.2.1;split
    ·exact Ph
    ·exact Wx w
  ·exact YL h
def V8 {s:aM} {m:Int} {t:aB} (j:bx s=true) (hm:dq m=true) (ht:Ya t=true):bx {s with phase:=2,move:=m,top:=t}=true:=by
 simp only[bx,bE,Ge,Gj] at j ⊢;simp_all
def Kf {c:aP} {n e m:Int} (h:Yy c=true):dU c (YJ c n e m).1:=by
 unfold YJ;cases q:YP c n with
 |none=>exact YL h
 |some s=>
  obtain⟨-,-,u,-,o,-,-,hm⟩:=YF q;have j:=Yv.1 h;have w:=(j.2.2.2.2 s hm).2.1;rw[<-o] at u;simp only;split
  ·rename_i p;rw[Ge] at p;split
   ·exact YL h
   ·split
    ·exact eN (s':={s with phase:=2,move:=m,top:=c.top}) h u rfl (V8 w (Lg p.2) j.2.1) rfl j.2.1 (by rw[mK];omega) j.2.2.1
    ·exact YL h
  ·exact YL h
def Xm {s:aM} {m p:Int} (j:bx s=true) (hm:dq m=true) (h1:1<=p) (o:p<=3):bx {s with closed:=m,phase:=p}=true:=by
 simp only[bx,bE,Ge,Gj] at j ⊢;simp_all
def ZY {s:aM} (j:bx s=true):1<=s.phase/\s.phase<=3:=by
 simp only[bx,bE,Ge,Gj] at j;exact⟨j.1.2.2.2.2.2.2.1,j.1.2.2.2.2.2.2.2.1⟩
def Kz {c:aP} {n m:Int} (h:Yy c=true):dU c (gU c n m).1:=by
 unfold gU;cases q:YP c n with
 |none=>exact YL h
 |some s=>
  obtain⟨-,-,p,-,o,-,-,hm⟩:=YF q;have j:=Yv.1 h;have u:=(j.2.2.2.2 s hm).2.1;have y:=ZY u;rw[<-o] at p;simp only;split
  ·rename_i w;split
   ·exact YL h
   ·exact eN (s':={s with closed:=m,phase:=if gP s m then 1 else s.phase}) h p rfl (Xm u (Lg w) (by split<;>omega) (by split<;>omega)) rfl j.2.1 (by rw[mK];omega) j.2.2.1
  ·exact YL h
def Wk {c:aP} {n m e:Int} (h:Yy c=true):dU c (iL c n m e).1:=by
 unfold iL;cases q:YP c n with
 |none=>exact YL h
 |some s=>
  obtain⟨-,-,u,-,p,-,-,hm⟩:=YF q;have j:=Yv.1 h;have w:=(j.2.2.2.2 s hm).2.1;rw[<-p] at u;simp only;split
  ·rename_i o;rw[Ge] at o;split
   ·exact YL h
   ·split
    ·exact eN (s':={s with phase:=1,epoch:=e,closed:=m}) h u rfl (VW w o.2 o.1) rfl j.2.1 (by rw[mK];omega) (KU j.2.2.1 o.1)
    ·exact YL h
  ·exact YL h
def WT {c:aP} {n m:Int} (h:Yy c=true):dU c (i7 c n m).1:=by
 have j:=Yv.1 h;unfold i7;split
 ·rename_i o;simp only[Ge] at o;have p:dU c ⟨c.shards,c.top,max c.dropped m⟩:=⟨Yv.2 ⟨j.1,j.2.1,KU j.2.2.1 o.2.2,j.2.2.2.1,j.2.2.2.2⟩,by rw[mK];omega⟩;cases q:Y3 c.shards n with
  |none=>exact p
  |some s=>
   simp only;split
   ·exact KP h (KU j.2.2.1 o.2.2)
   ·exact p
 ·exact YL h
def WO {α:Type} {l:List α} {i:Nat} (h:l.drop i≠[]):(l.drop i).getLast?=l.getLast?:=by
 have hi:i<l.length:=by
  rcases GF i l.length with h'|h'
  ·exact h'
  ·exact absurd (List.drop_eq_nil_of_le h') h
 rw[List.getLast?_drop,Gn (by omega)]
def D8 {t:aB} {e x:aF} (h:lw t e=some x):x.key=e.key/\x.chain.getLast?=e.chain.getLast?:=by
 unfold lw at h;split at h
 ·cases h
 ·rename_i j;simp only[Gb] at h;subst h;refine⟨rfl,?_⟩;simp only[Gj] at j;simp only;unfold YY at j ⊢;split
  ·rename_i o;rw[Gt o] at j;exact WO j
  ·rename_i o;rw[Gn o] at j;exact absurd rfl j
def Wz {s:aM} {t:aB} (j:bx s=true) (ht:Ya t=true):bx (fe t s)=true:=by
 have y:=Od (s:=t) (pw j).1;have u:((fS s.ents t).all fun e=>dF s.span e.key)=true:=by
  rw[GG];intro x q;have⟨e,o,p⟩:=List.mem_filterMap.1 q;rw[(D8 p).1];simp only[bx,Ge,GG] at j;exact j.2 e o
 have hm:Ya s.mark=true:=by
  simp only[bx,bE,Ge] at j;exact j.1.2.2.2.2.2.2.2.2.2.2.1
 have w:=xH hm ht;simp only[bx,bE,fe,Ge,Gj] at j ⊢;simp_all
def Wb {s:aM} {t u:aB} (h:cc s u=true):cc (fe t s) u=true:=by
 simp only[cc,GG,fe] at h ⊢;intro x p;have⟨e,j,o⟩:=List.mem_filterMap.1 p;rw[(D8 o).2];exact h e j
def Ou {c:aP} {t:aB} (h:Yy c=true):dU c (kD c t):=by
 have j:=Yv.1 h;unfold kD;split
 ·rename_i o;rw[Ge] at o;refine⟨Yv.2 ⟨by simpa using j.1,j.2.1,j.2.2.1,List.pairwise_map.2 j.2.2.2.1,fun x q=>?_⟩,by rw[mK];omega⟩;obtain⟨s,p,rfl⟩:=nH.1 q;have:=j.2.2.2.2 s p;exact⟨this.1,Wz this.2.1 o.2,Wb this.2.2⟩
 ·exact YL h
def WW {c:aP} {s:aM} {r:Rq} {w:Int} (h:Yy c=true) (p:Ya r.at_=true):dU c (iv c s r w).1:=by
 have j:=Yv.1 h;unfold iv;split
 ·exact YL h
 ·split
  ·exact YL h
  ·exact⟨Yv.2 ⟨j.1,xH j.2.1 p,j.2.2.1,j.2.2.2.1,fun s o=>⟨(j.2.2.2.2 s o).1,(j.2.2.2.2 s o).2.1,wz (j.2.2.2.2 s o).2.2 ud.1⟩⟩,ud.1⟩
def xR {s:aM} (h:bx s=true):Yz s.span=true/\ck s.ents=true/\Ya s.mark=true/\YA s.done=true/\∀e∈s.ents,dF s.span e.key=true:=by
 simp only[bx,bE,Ge,GG] at h;exact⟨h.1.2.2.2.2.2.2.2.2.1,h.1.2.2.2.2.2.2.2.2.2.1,h.1.2.2.2.2.2.2.2.2.2.2.1,h.1.2.2.2.2.2.2.2.2.2.2.2.2,h.2⟩
def Zi {c d e:aP} (h1:dU c d) (j:dU d e):dU c e:=⟨j.1,PA h1.2 j.2⟩
def WK {l:List aF} {k:mp} (z:ck l=true) (L:aS k=true) {j:Nat} {e:aF} (y:cw k l+(if fa k l then 1 else 0)<=j) (w:l[j]?=some e):bQ k e.key=true:=by
 have D:=(jv.1 z).2.1;have p:∀{i:Nat} {x:aF},i<j->l[i]?=some x->bQ x.key e.key=true:=fun {i x} hi o=>by
  have⟨h1,u⟩:=List.getElem?_eq_some_iff.1 o;have⟨H,I⟩:=List.getElem?_eq_some_iff.1 w;have:=yE.1 D i j h1 H hi;rwa [u,I] at this
 cases c:fa k l with
 |true=>
  rw[c] at y;simp only[Gw] at y;have⟨x,o,B⟩:=Kr z L c;rw[<-B];exact p (by omega) o
 |false=>
  rw[c] at y;simp only[Gl,Gv,Nat.add_zero] at y;have E:∀{x:aF},bQ x.key k=false->¬YD (Yu x.key) (Yu k)<0:=fun {x} h q=>by
   rw[oM.2 q] at h;cases h
  rcases GF (cw k l) j with hl|hl
  ·have J:=(List.getElem?_eq_some_iff.1 w).1;obtain⟨x,o,-⟩:=aZ (l:=l) (i:=cw k l) (by omega);have h1:=E (yb (ye z) (GC _) o);have u:=p hl o;rw[oM] at u ⊢;exact sN (PL h1) u
  ·obtain rfl:j=cw k l:=by omega
   have h1:=E (yb (ye z) (GC _) w);simp only[fa,w,Gs] at c;rw[oM];exact X0 (by omega)
def OC {l:List aF} {k:mp} {e:aF} (q:e∈l.take (cw k l)):bQ e.key k=true:=by
 have⟨j,p⟩:=List.mem_iff_getElem?.1 q;have o:j<cw k l:=by
  rcases GF j (cw k l) with h|h
  ·exact h
  ·rw[List.getElem?_take,Gn (by omega)] at p;cases p
 rw[List.getElem?_take_of_lt o] at p;exact CC o p
def Oo {l:List aF} {k:mp} (u:ck l=true) (q:aS k=true) {e:aF} (p:e∈l.drop (cw k l+if fa k l then 1 else 0)):bQ k e.key=true:=by
 have⟨j,o⟩:=List.mem_iff_getElem?.1 p;rw[List.getElem?_drop] at o;exact WK u q (by omega) o
def KE {l:List aF} {k:mp} {c:List bz} {x:aF} (h:x∈jC l k c):x=⟨k,c⟩\/x∈l:=by
 rcases GS.1 h with h|h
 ·exact .inr (xn h)
 ·rcases GH.1 h with h|h
  ·exact .inl h
  ·exact .inr (tH h)
def Wt {l:List aF} {k:mp} {c:List bz} (u:ck l=true) (p:aS k=true) (H:c≠[]) (o:Yh c=true)
  (B:fa k l=true\/l.length≠64):ck (jC l k c)=true:=by
 have⟨h1,z,E⟩:=jv.1 u
 refine jv.2 ⟨?_,?_,fun e he=>?_⟩
 ·have I:=wE (k:=k) l
  simp only[jC,Gf,GK,List.length_cons,GP]
  cases q:fa k l with
  |true=>
   obtain⟨x,j,-⟩:=Ec q
   have:=(List.getElem?_eq_some_iff.1 j).1
   simp only[Gw]
   omega
  |false=>
   rw[q] at B
   simp only[Gl,Gv,false_or] at B ⊢
   omega
 ·refine List.pairwise_append.2 ⟨z.sublist (List.take_sublist _ _),GT.2 ⟨fun y hy=>Oo u p hy,z.sublist (List.drop_sublist _ _)⟩,fun x j y hy=>?_⟩
  rcases GH.1 hy with rfl|hy
  ·exact OC j
  ·have D:=OC j
   have w:=Oo u p hy
   rw[oM] at D w ⊢
   exact sN (by omega) w
 ·rcases KE he with rfl|he
  ·exact oK.2 ⟨p,H,o⟩
  ·exact E e he
def Zo {l:List aF} {k:mp} {v:bz} (h:(ej l k v).2=0) :
  ck l=true/\aS k=true/\(ej l k v).1=jC l k (cU k l++[v])/\Yh (cU k l)=true/\Yh (cU k l++[v])=true/\ck (ej l k v).1=true:=by
 unfold ej at h ⊢
 by_cases h1:(ck l&&aS k)=true
 ·rw[Gt h1] at h ⊢
  rw[Ge] at h1
  by_cases j:(bZ (cU k l) v).2=0
  ·rw[Gt j] at h ⊢
   by_cases o:(!fa k l&&decide (l.length=64))=true
   ·rw[Gt o] at h;simp at h
   ·rw[Gn o]
    have⟨p,u,w,g4⟩:=Wc j
    rw[p]
    refine⟨h1.1,h1.2,rfl,u,g4,Wt h1.1 h1.2 (by simp) g4 ?_⟩
    cases q:fa k l with
    |true=>exact .inl rfl
    |false=>
     rw[q] at o
     exact .inr fun e=>o (by simp[e])
  ·rw[Gn j] at h
   exact absurd h j
 ·rw[Gn h1] at h;simp at h
theorem Xv {o:eE} {s:aM} {r:Rq} {aL:aB} (h:(Y0 o s r aL).2=0) (q:ck s.ents=true) :
  ((Y0 o s r aL).1=s.ents)\/(∃v:bz,v.at_=aL/\(Y0 o s r aL).1=(ej s.ents r.key v).1/\(ej s.ents r.key v).2=0):=by
 unfold Y0 at h ⊢
 split
 ·exact .inl rfl
 ·rename_i h1
  rw[Gn h1] at h
  split
  ·rename_i j
   rw[Gt j] at h
   exact .inr ⟨_,rfl,rfl,h⟩
  ·rename_i j
   rw[Gn j] at h
   split
   ·rename_i p
    rw[Gt p] at h
    exact .inr ⟨_,rfl,rfl,h⟩
   ·exact .inl rfl
def OP {s:aM} {l:List aF} {t:List aH} (o:bx s=true) (p:ck l=true) (j:∀e∈l,dF s.span e.key=true) (ht:YA t=true):bx {s with ents:=l,done:=t}=true:=by
 have j:(l.all fun e=>dF s.span e.key)=true:=GG.2 j;simp only[bx,bE,Ge,Gj] at o ⊢;simp_all
def lT {c:aP} {s:aM} {r:Rq} {aL:aB}:(YO c s r aL).1=c\/
  ((YO c s r aL).2=dM (fy s r.key c.top) r aL/\0<Yc aL c.top/\(Y0 (fy s r.key c.top) s r aL).2=0/\(dQ s.done ⟨r.client,r.req,dM (fy s r.key c.top) r aL⟩).2=0/\
  (YO c s r aL).1=⟨br c.shards {s with ents:=(Y0 (fy s r.key c.top) s r aL).1,done:=(dQ s.done ⟨r.client,r.req,dM (fy s r.key c.top) r aL⟩).1},aL,c.dropped⟩):=by
 unfold YO
 split
 ·exact .inl rfl
 ·split
  ·exact .inl rfl
  ·split
   ·exact .inl rfl
   ·rename_i h
    split
    ·exact .inl rfl
    ·rename_i h1
     split
     ·exact .inl rfl
     ·rename_i h2
      exact .inr ⟨rfl,by omega,Decidable.not_not.1 h1,Decidable.not_not.1 h2,rfl⟩
def W9 {a b:aB} (h:0<Yc a b):Yc b a<0:=by
 rw[wG] at h;rw[mN];omega
def Wm {c:aP} {s:aM} {r:Rq} {aL:aB} {n:Int} (h:Yy c=true) (B:Y3 c.shards n=some s) (ht:Ya aL=true) (J:dF s.span r.key=true):dU c (YO c s r aL).1:=by
 rcases lT (c:=c) (s:=s) (r:=r) (aL:=aL) with e|⟨-,h1,E,H,e⟩
 ·rw[e];exact YL h
 ·rw[e];have o:=Yv.1 h;have hm:=Ys B;have q:=o.2.2.2.2 s hm.1;have u:=xR q.2.1;obtain⟨-,-,I,z,-⟩:=Wu H;rw[I];have j:Yc c.top aL<=0:=by have:=W9 h1;omega
  have p:∀x:aM,x.id=s.id->(br c.shards x).length<=8:=fun x hx=>by
   rw[xP o.2.2.2.1,hx,hm.2,B];exact o.1
  rcases Xv E u.2.1 with w|⟨v,L,w,D⟩
  ·rw[w];exact⟨wC h (OP q.2.1 u.2.1 u.2.2.2.2 z) (by have:=wz q.2.2 j;simpa only [cc] using this) ht j o.2.2.1 (p _ rfl),j⟩
  ·rw[w];obtain⟨-,-,y,-,g5,g6⟩:=Zo D;refine⟨wC h (OP q.2.1 g6 (fun x hx=>?_) z) ?_ ht j o.2.2.1 (p _ rfl),j⟩
   ·rw[y] at hx;rcases KE hx with rfl|hx
    ·exact J
    ·exact u.2.2.2.2 x hx
   ·have hu:=wz q.2.2 j;simp only[cc,GG] at hu ⊢;intro x hx;rw[y] at hx;rcases KE hx with rfl|hx
    ·simp[L,mK]
    ·exact hu x hx
def XB {s:aM} {r:Rq} (o:iR s r=true) (j:aS r.key=true):dF s.span r.key=true:=by
 have:=(ir j).2;simpa [iR,this] using o
def PI {c:aP} {n e:Int} {r:Rq} {aL:aB} {w:Int} (h:Yy c=true):dU c (fI c n e r aL w).1:=by
 unfold fI;split
 ·rename_i u;simp only[Ge] at u;obtain⟨-,z,y,hw,ht,p⟩:=u;cases q:Y3 c.shards n with
  |none=>exact YL h
  |some s=>
   simp only;split
   ·exact YL h
   ·rename_i j;split
    ·exact YL h
    ·split
     ·rename_i hw;have j:iR s r=true:=by
       cases q:iR s r with
       |true=>rfl
       |false=>rw[q] at j;simp at j
      have o:=Qj p;rw[hw] at o;have o:r.kind<4:=Gc o.symm;exact Wm h q ht (XB j ((EO p).2.2 (by omega)))
     ·split
      ·exact YL h
      ·exact WW h (Qh p)
 ·exact YL h
def P4 {a:aM} {l:List aF} {j:ce} {x o:Int} (q:bx a=true) (u:ck l=true) (y:Yz j=true) (p:∀e∈l,dF j e.key=true) (z:Ym x=true) (w:Ym o=true) :
  bx {a with id:=o,ents:=l,span:=j,epoch:=x}=true:=by
 have p:(l.all fun e=>dF j e.key)=true:=GG.2 p
 simp only[bx,bE,Ge,Gj] at q ⊢
 simp_all
def t8 {s:ce} {k:mp}:dF s k=true↔Yz s=true/\aS k=true/\YD (Yu s.lo) (Yu k)<=0/\(s.hi=[]\/YD (Yu k) (Yu s.hi)<0):=by
 simp only[dF,jf,bQ,Ge,G1,Gj]
def O9 {s:ce} {k:mp} (h:(f7 s k).2.2=0):f7 s k=(⟨s.lo,k⟩,⟨k,s.hi⟩,0)/\Yz ⟨s.lo,k⟩=true/\Yz ⟨k,s.hi⟩=true/\aS k=true/\dF s k=true:=by
 unfold f7 at h ⊢;by_cases h1:(Yz s&&aS k)=true
 ·rw[Gt h1] at h ⊢;rw[Ge] at h1;by_cases j:(decide (k=s.lo)||!dF s k)=true
  ·rw[Gt j] at h;simp at h
  ·rw[Gn j];have e:=PF h1.1 h1.2;have o:(decide (k=s.lo)||!dF s k)=false:=by simpa using j
   rw[o] at e;simp only[GR,Ge] at e;refine⟨rfl,e.1,e.2,h1.2,?_⟩;simp only[xo] at o;simpa using o.2
 ·rw[Gn h1] at h;simp at h
def Xo {s:ce} {l:List aF} {k:mp} (q:∀e∈l,dF s e.key=true) (u:Yz ⟨s.lo,k⟩=true):∀e∈eI l k true,dF ⟨s.lo,k⟩ e.key=true:=fun e p=>by
 have⟨h1,j⟩:=G8.1 p;have o:=t8.1 (q e h1);have j:bQ e.key k=true:=by simpa using j
 exact t8.2 ⟨u,o.2.1,o.2.2.1,.inr (oM.1 j)⟩
def WB {s:ce} {l:List aF} {k:mp} (u:∀e∈l,dF s e.key=true) (w:Yz ⟨k,s.hi⟩=true):∀e∈eI l k false,dF ⟨k,s.hi⟩ e.key=true:=fun e p=>by
 have⟨h1,j⟩:=G8.1 p;have o:=t8.1 (u e h1);have j:bQ e.key k=false:=by simpa using j
 exact t8.2 ⟨w,o.2.1,PL (fun q=>by rw[oM.2 q] at j;cases j),o.2.2.2⟩
def O3 {s s':aM} {t:aB} (h:cc s t=true) (o:∀e∈s'.ents,e∈s.ents):cc s' t=true:=by
 simp only[cc,GG] at h ⊢;exact fun e j=>h e (o e j)
theorem lS {c:aP} {n e:Int} {k:mp} {o x:Int}:(hJ c n e k o x).1=c\/∃a,Yy c=true/\Ym o=true/\Ym x=true/\Y3 c.shards n=some a/\Y3 c.shards o=none/\iu a e=true/\c.shards.length≠8/\(f7 a.span k).2.2=0/\
  (hJ c n e k o x).1=⟨br (br c.shards {a with ents:=eI a.ents k true,span:=⟨a.span.lo,k⟩,epoch:=x}) {a with id:=o,ents:=eI a.ents k false,span:=⟨k,a.span.hi⟩,epoch:=x},c.top,c.dropped⟩:=by
 unfold hJ
 split
 ·rename_i hc
  simp only[Ge] at hc
  have⟨h,hn,he,ho,hx⟩:=hc
  cases q:Y3 c.shards n with
  |none=>exact .inl rfl
  |some a=>
   cases q2:Y3 c.shards o with
   |some b=>exact .inl rfl
   |none=>
    simp only
    split
    ·rename_i hd
     simp only[Ge,GM,Gj,Gs] at hd
     have⟨d1,d2,d3,d4,d5⟩:=hd
     refine .inr ⟨a,h,ho,hx,by first|rfl|exact q|trivial,by first|rfl|trivial,d1,d4,d5,?_⟩
     have hm:=Ys q
     have hr:=(xR ((Yv.1 h).2.2.2.2 a hm.1).2.1).2.1
     rw[(O9 d5).1,Kp hr]
    ·exact .inl rfl
 ·exact .inl rfl
def Wl {c:aP} {n e:Int} {k:mp} {o x:Int} (h:Yy c=true):dU c (hJ c n e k o x).1:=by
 rcases lS (c:=c) (n:=n) (e:=e) (k:=k) (o:=o) (x:=x) with e|⟨a,-,I,D,q,P,-,O,h0,e⟩
 ·rw[e];exact YL h
 ·rw[e];have j:=Yv.1 h;have hm:=Ys q;have u:=j.2.2.2.2 a hm.1;have y:=xR u.2.1;obtain⟨-,s1,H,-,-⟩:=O9 h0;have B:Ym a.id=true:=by
   have:=xX u.2.1;simp only[Ym,Ge,Gj];exact this
  have J:ck (eI a.ents k true)=true:=Ps y.2.1 uJ;have L:ck (eI a.ents k false)=true:=Ps y.2.1 uJ;have N:=P4 (o:=a.id) u.2.1 J s1 (Xo y.2.2.2.2 s1) D B;have r2:=P4 (o:=o) u.2.1 L H (WB y.2.2.2.2 H) D I;have p:Yc c.top c.top<=0:=by rw[mK];omega
  have w:(br c.shards {a with ents:=eI a.ents k true,span:=⟨a.span.lo,k⟩,epoch:=x}).length=c.shards.length:=by
   rw[xP j.2.2.2.1];simp only[hm.2,q,Option.isSome_some,Gw]
  have E:Yy ⟨br c.shards {a with ents:=eI a.ents k true,span:=⟨a.span.lo,k⟩,epoch:=x},c.top,c.dropped⟩=true:=
   wC h N (O3 u.2.2 fun e z=>(G8.1 z).1) j.2.1 p j.2.2.1 (by rw[w];exact j.1)
  have M:=wC (s:={a with id:=o,ents:=eI a.ents k false,span:=⟨k,a.span.hi⟩,epoch:=x}) (t:=c.top) (d:=c.dropped) E r2 (O3 u.2.2 fun e z=>(G8.1 z).1) j.2.1 p j.2.2.1 (by
   rw[xP (Yv.1 E).2.2.2.1];simp only;rw[w];have:=j.1;split<;>omega)
  exact⟨M,p⟩
def Ot {a b:List aF} (h:(eA a b).2=0):(eA a b).1=a++b:=by
 unfold eA at h ⊢;split at h
 ·rename_i h1;rw[Gt h1];split at h
  ·simp at h
  ·rename_i j;rw[Gn j];split at h
   ·simp at h
   ·rename_i o;rw[Gn o]
 ·simp at h
def Wi {a b:ce} (h:(Y6 a b).2=0):(Y6 a b).1=⟨a.lo,b.hi⟩/\a.hi≠[]/\a.hi=b.lo:=by
 unfold Y6 at h ⊢;split at h
 ·rename_i h1;rw[Gt h1];split at h
  ·simp at h
  ·rename_i o;rw[Gn o];have j:(decide (a.hi=[])||!decide (a.hi=b.lo))=false:=by simpa using o
   simp only[xo,uH,Gj,Gs] at j;exact⟨rfl,j.1,j.2⟩
 ·simp at h
def Er {s:ce} (h:Yz s=true):s.hi=[]\/YD (Yu s.lo) (Yu s.hi)<0:=(Jb h).imp id And.right
def OI {a b:ce} (j:Yz a=true) (o:Yz b=true) (h1:a.hi≠[]) (p:a.hi=b.lo):Yz ⟨a.lo,b.hi⟩=true:=by
 rw[Ki (Kd j) ((Jb o).imp id And.left),VL];rcases Er o with h|h
 ·exact .inl h
 ·rcases Er j with h'|h'
  ·exact absurd h' h1
  ·rw[p] at h';exact .inr (sN (by omega) h)
def XD {a b:ce} {k:mp} (q:Yz a=true) (u:Yz b=true) (h1:a.hi≠[]) (p:a.hi=b.lo) (h:dF a k=true\/dF b k=true):dF ⟨a.lo,b.hi⟩ k=true:=by
 have w:=OI q u h1 p;rcases h with h|h
 ·obtain⟨-,j,o,g3⟩:=t8.1 h;refine t8.2 ⟨w,j,o,?_⟩;rcases Er u with h'|h'
  ·exact .inl h'
  ·rcases g3 with g3|g3
   ·exact absurd g3 h1
   ·rw[p] at g3;exact .inr (sN (by omega) h')
 ·obtain⟨-,j,o,g3⟩:=t8.1 h;refine t8.2 ⟨w,j,?_,g3⟩;rcases Er q with h'|h'
  ·exact absurd h' h1
  ·rw[p] at h';have:=Oi h' o
   show YD (Yu a.lo) (Yu k)<=0
   omega
theorem lP {c:aP} {n o e x:Int}:(g0 c n o e x).1=c\/∃a b,Yy c=true/\Ym x=true/\Y3 c.shards n=some a/\Y3 c.shards o=some b/\iu a e=true/\iu b b.epoch=true/\(Y6 a.span b.span).2=0/\(eA a.ents b.ents).2=0/\(YX a.done b.done).2=0/\
  (g0 c n o e x).1=⟨fE (br c.shards (iE a b x)) o,c.top,c.dropped⟩:=by
 unfold g0
 split
 ·rename_i hc
  simp only[Ge] at hc
  have⟨h,hn,ho,he,hx⟩:=hc
  cases q:Y3 c.shards n with
  |none=>exact .inl rfl
  |some a=>
   cases q2:Y3 c.shards o with
   |none=>exact .inl rfl
   |some b=>
    simp only
    split
    ·rename_i hd
     simp only[Ge,Gj] at hd
     have⟨d1,d2,d3,d4,d5,d6,d7,d8⟩:=hd
     exact .inr ⟨a,b,h,hx,rfl,rfl,d1,d2,d6,d7,d8,rfl⟩
    ·exact .inl rfl
 ·exact .inl rfl
def XV {a b:aM} {x:Int} (j:bx a=true) (o:bx b=true) (Q:Ym x=true) (h1:(Y6 a.span b.span).2=0) (D:(eA a.ents b.ents).2=0) (L:(YX a.done b.done).2=0):bx (iE a b x)=true:=by
 have u:=xR j;have w:=xR o;have⟨s1,I,s3⟩:=Wi h1;have J:=Ot D;have T:=Kk D;obtain⟨-,-,S,m2⟩:=VS L;have N:=xH u.2.2.1 w.2.2.1;have B:=OI u.1 w.1 I s3;have hi:=Od (s:=later a.mark b.mark) T;have E:((fS (eA a.ents b.ents).1 (later a.mark b.mark)).all fun e=>dF (Y6 a.span b.span).1 e.key)=true:=by
  rw[GG];intro y R;have⟨z,hz,M⟩:=List.mem_filterMap.1 R;rw[(D8 M).1,s1];rw[J] at hz;refine XD u.1 w.1 I s3 ?_;rcases GS.1 hz with hz|hz
  ·exact .inl (u.2.2.2.2 z hz)
  ·exact .inr (w.2.2.2.2 z hz)
 have H:∀{p q:Int},dq p=true->dq q=true->dq (max p q)=true:=fun {p q} O P=>by
  simp only[dq,Ge,Gj] at O P ⊢;omega
 rw[s1] at E;rw[<-S] at m2;simp only[bx,bE,Ge,Gj] at j o ⊢;simp only[iE,s1];exact⟨⟨j.1.1,Q,j.1.2.2.1,H j.1.2.2.2.1 o.1.2.2.2.1,Ph,H j.1.2.2.2.2.2.1 o.1.2.2.2.2.2.1,j.1.2.2.2.2.2.2.1,j.1.2.2.2.2.2.2.2.1,B,hi,N,j.1.2.2.2.2.2.2.2.2.2.2.2.1,m2⟩,E⟩
def Wj {c:aP} {n o e x:Int} (h:Yy c=true):dU c (g0 c n o e x).1:=by
 rcases lP (c:=c) (n:=n) (o:=o) (e:=e) (x:=x) with e|⟨a,b,-,M,q,P,-,-,h1,w,J,e⟩
 ·rw[e];exact YL h
 ·rw[e];have j:=Yv.1 h;have E:=Ys q;have O:=Ys P;have B:=j.2.2.2.2 a E.1;have D:=j.2.2.2.2 b O.1;have p:Yc c.top c.top<=0:=by rw[mK];omega
  have hu:cc (iE a b x) c.top=true:=by
   have H:=B.2.2;have I:=D.2.2;simp only[cc,GG,iE] at H I ⊢;intro y N;have⟨z,hz,L⟩:=List.mem_filterMap.1 N;rw[(D8 L).2];rw[Ot w] at hz;rcases GS.1 hz with hz|hz
   ·exact H z hz
   ·exact I z hz
  have u:Yy ⟨br c.shards (iE a b x),c.top,c.dropped⟩=true:=
   wC h (XV B.2.1 D.2.1 M h1 w J) hu j.2.1 p j.2.2.1 (by
    rw[xP j.2.2.2.1];simp only[iE,E.2,q,Option.isSome_some,Gw];exact j.1)
  exact Zi ⟨u,p⟩ (KP u (Yv.1 u).2.2.1)
def sV (id:Int) (m:bC) (b:Bool):bC:={cX with kind:=34,from_:=id,n:=m.n,epoch:=m.epoch,of_:=if b then 0 else 1}
def yf (s:bP) (m:bC):bP×List bC:=
 if (dB s m.n).isSome then
  (if (Y4 (Yp s m.n).rep m.epoch m.mem).2.2≠0 then (s,[])
  else (⟨s.id,eZ s.owns ⟨(Yp s m.n).cell,(Y4 (Yp s m.n).rep m.epoch m.mem).1,[]⟩⟩,Y5 m.n (Y4 (Yp s m.n).rep m.epoch m.mem).2.1++[sV s.id m (YI (Y4 (Yp s m.n).rep m.epoch m.mem).1)]))
 else (s,[])
def KQ {r:bG} {v:Int} {l:List Int} (o:r.members.length<=10000) (j:l.length<=10000):(Y4 r v l).1.members.length<=10000/\(Y4 r v l).1.acks.length<=max 1 r.acks.length/\(Y4 r v l).2.1.length<=10000/\wU (Y4 r v l).2.1:=by
 have z:Yt.members.length<=10000/\Yt.acks.length<=max 1 r.acks.length/\([]:List bI).length<=10000/\wU []:=⟨by simp[Yt],by simp[Yt],by simp,fun w hw=>by cases hw⟩;unfold Y4;split
 ·split
  ·exact⟨o,pm _ _,GI xK o,Kh⟩
  ·split
   ·exact z
   ·split
    ·exact z
    ·exact⟨j,by simp[YH];omega,GI xK j,Kh⟩
 ·exact z
def Aa:=HpC 438 F438<|HpA rM<|HpA Ms<|HpA vq<|HpA rZ<|rN
theorem Il (h:Aa Pg) (s:bP) (m:bC) (N:iK s) (hm:m.mem.length<=10000):K' Pg 438 [.agg (YT s),.agg (di m)]=some (kS (yf s m)):=by
 have⟨h,D,M,L,H,E⟩:=h;have j:=vZ D s m.n (by have:=N.1;omega);have⟨J,U,W⟩:=Cw (c:=m.n) N;have y:=Vr M (Yp s m.n).rep m.epoch m.mem J.ok J.1 hm;have⟨Q,T,R,S⟩:=KQ (v:=m.epoch) J.1 hm;have I:dw (Y4 (Yp s m.n).rep m.epoch m.mem).1:=⟨Q,by have:=J.2;omega⟩;have w:=vY L _ I.ok;have q:=v7 E m.n _ S (by omega);have u:=wh H s ⟨(Yp s m.n).cell,(Y4 (Yp s m.n).rep m.epoch m.mem).1,[]⟩ (by have:=N.1;omega);have O:(Y5 m.n (Y4 (Yp s m.n).rep m.epoch m.mem).2.1).length<=10000:=by simpa [Y5] using R
 unfold yf;clear Q T R S I;generalize Y4 (Yp s m.n).rep m.epoch m.mem=p at *
 have⟨r,wl,e⟩:=p;simp only[uh] at y;simp only at w q u O ⊢;generalize Y5 m.n wl=sl at *
 generalize Yp s m.n=o at *
 generalize (dB s m.n).isSome=ok at *
 have z:sl.length+1<=aU:=by unfold aU;omega
 simp only[go_sem,Gk] at j y w q u;refine aA h rfl ?_;cases ok with
 |false=>
  rw[Gn (by simp)];simp only[F438,c438,go_sem,j,Gk]
 |true=>
 rw[Gt rfl];cases B:decide (e=0) with
 |false=>
  rw[Gt (Ga B)];simp only[F438,c438,go_sem,j,y,B,Gk]
 |true=>
  rw[Gn (by simpa using Gc B)];cases P:YI r with
  |true=>
   rw[P] at w;simp only[F438,c438,go_sem,j,y,B,w,q,u,z,Gi,Gz,GA,Gk,Gf,sV,cX,dZ,cI,dx,Gw]
  |false=>
   rw[P] at w;simp only[F438,c438,go_sem,j,y,B,w,q,u,z,Gi,Gz,GA,Gk,Gf,sV,cX,dZ,cI,dx,Gl,Gv]
def dG (s:bP) (c:aP):aB:=⟨c.top.wall,c.top.tick,s.id⟩
def yr (s:bP) (o:cr) (c:aP) (wall:Int) (m:bC):bP×List bC:=
 if (gA (dG s c) wall).2≠0 then (s,[dC s.id m {cI with err:=(gA (dG s c) wall).2}])
 else if (fI c m.shard m.epoch m.req (gA (dG s c) wall).1 wall).2.err≠0/\(fI c m.shard m.epoch m.req (gA (dG s c) wall).1 wall).2.err≠15 then (s,[dC s.id m (fI c m.shard m.epoch m.req (gA (dG s c) wall).1 wall).2])
 else de s o (fI c m.shard m.epoch m.req (gA (dG s c) wall).1 wall).1 [dC s.id m (fI c m.shard m.epoch m.req (gA (dG s c) wall).1 wall).2]
def Ab:=HpC 440 F440<|HpA Ap<|HpA vv<|HpA zc<|rR
theorem Im (h:Ab Pg) (s:bP) (o:cr) (c:aP) (wall:Int) (m:bC) (Q:s.owns.length<=100000) (O:dw o.rep) (L:Yy c=true) :
  K' Pg 440 [.agg (YT s),.agg (eJ o),.agg (Yq c),iz wall,.agg (di m)]=some (kS (yr s o c wall m)):=by
 have⟨h,J,H,E,I⟩:=h
 have⟨z,j⟩:=IC J (dG s c) wall
 have q:=Hp E c m.shard m.epoch m.req (gA (dG s c) wall).1 wall (YU L)
 have w:=fun a=>BW H s m a
 have M:Yy (fI c m.shard m.epoch m.req (gA (dG s c) wall).1 wall).1=true:=(PI L).1
 have u:=sx I s o (fI c m.shard m.epoch m.req (gA (dG s c) wall).1 wall).1 [dC s.id m (fI c m.shard m.epoch m.req (gA (dG s c) wall).1 wall).2] Q O M (by simp)
 unfold yr
 clear M
 generalize fI c m.shard m.epoch m.req (gA (dG s c) wall).1 wall=N at *
 generalize gA (dG s c) wall=np at *
 have⟨d,a⟩:=N
 have⟨aL,e⟩:=np
 simp only[dG] at j
 simp only at q u ⊢
 have y:=w {cI with err:=e}
 have p:=w a
 clear w
 generalize P:de s o d [dC s.id m a]=R at *
 have⟨s1,S⟩:=R
 simp only[go_sem,cI,dx,Gk,GA] at j q y p u
 refine aA h rfl ?_
 cases B:decide (e=0) with
 |false=>
  rw[Gt (Ga B)]
  simp only[F440,c440,go_sem,j,B,y,cI,dx,GA,Gk]
 |true=>
  rw[Gn (by simpa using Gc B)]
  cases D:decide (a.err=0) with
  |true=>
   rw[Gn (by simp[Gc D])]
   simp only[F440,c440,go_sem,j,B,q,D,p,u]
  |false=>
   cases c3:decide (a.err=15) with
   |true=>
    rw[Gn (by simp[Gc c3])]
    simp only[F440,c440,go_sem,j,B,q,D,c3,p,u]
   |false=>
    rw[Gt ⟨Ga D,Ga c3⟩]
    simp only[F440,c440,go_sem,j,B,q,D,c3,p,GA,Gk]
def frz (x:aM):Bool:=decide (x.phase=2)
def Ar:=HpZ 477 F477
def IE (h:Ar Pg) (x:aM):K' Pg 477 [.agg (Yg x)]=some (.bool (frz x)):=by
 refine aA h rfl ?_;simp only[F477,c477,go_sem,frz]
def Aq:=HpC 476 F476 AF
def ID (h:Aq Pg) (l:List aM) (g:Nat) (aN:Eq) (p:aM->Bool) (q:l.length<2^60) (o:∀x∈l,K' Pg g (.agg (Yg x)::aN)=some (.bool (p x))) :
  K' Pg 476 [.slice 17 (l.map Yg),.func g aN]=some (.bool (l.any p)):=by
 have⟨h,j⟩:=h
 have k:=IU j l g aN p q o
 refine aA h rfl ?_
 simp only[F476,c476,go_sem,k,KN]
def yg (s:bP) (o:cr) (c:aP) (m:bC):bP×List bC:=
 if c.shards.any frz then (s,[]) else if cB (kD c m.at_)=o.rep.base then (s,[]) else de s o (kD c m.at_) []
def Ad:=HpC 443 F443<|HpA Aq<|HpA Ar<|HpA zm<|HpA vn<|rR
theorem Io (h:Ad Pg) (s:bP) (o:cr) (c:aP) (m:bC) (O:s.owns.length<=100000) (M:dw o.rep) (I:Yy c=true) :
  K' Pg 443 [.agg (YT s),.agg (eJ o),.agg (Yq c),.agg (di m)]=some (kS (yg s o c m)):=by
 have⟨h,B,D,w,y,z⟩:=h
 have j:=ID B c.shards 477 [] frz (by have:=(YU I).1;omega) fun x _=>IE D x
 have q:=HA w c m.at_ (YU I)
 have H:Yy (kD c m.at_)=true:=(Ou I).1
 have p:=BH y (kD c m.at_) (YU H)
 rw[Gt H] at p
 have u:=sx z s o (kD c m.at_) [] O M H (by simp)
 unfold yg
 clear H
 generalize kD c m.at_=d at *
 generalize N:de s o d []=P at *
 have⟨s1,Q⟩:=P
 generalize cB d=L at *
 simp only[go_sem,Gk] at j q p u
 refine aA h rfl ?_
 cases J:c.shards.any frz with
 |true=>
  rw[J] at j
  rw[Gt rfl]
  simp only[F443,c443,go_sem,j,Gk]
 |false=>
  rw[J] at j
  rw[Gn (by simp)]
  cases E:decide (L=o.rep.base) with
  |true=>
   rw[Gt (Gc E)]
   simp only[F443,c443,go_sem,j,q,p,E,Gk]
  |false=>
   rw[Gn (Ga E)]
   simp only[F443,c443,go_sem,j,q,p,E,u]
def lc:Nat->mp->List mp
 |0,t=>[t]
 |n+1,t=>if t.length<=64 then [t] else t.take 64::lc n (t.drop 64)
def ji (t:mp):List mp:=lc t.length t
theorem PN:∀(n m:Nat) (t:mp),t.length<=n->t.length<=m->lc n t=lc m t
 |0,0,_,_,_=>rfl
 |0,m+1,t,h,_=>by have:t=[]:=GJ (by omega);subst this;rfl
 |n+1,0,t,_,h=>by have:t=[]:=GJ (by omega);subst this;rfl
 |n+1,m+1,t,h1,h2=>by
  rw[lc,lc];split
  ·rfl
  ·rw[PN n m (t.drop 64) (by rw[GP];omega) (by rw[GP];omega)]
def Ew {t:mp} (h:t.length<=64):ji t=[t]:=by
 unfold ji;cases t.length with
 |zero=>rfl
 |succ n=>rw[lc,Gt h]
def Lx {t:mp} (h:64<t.length):ji t=t.take 64::ji (t.drop 64):=by
 unfold ji;cases e:t.length with
 |zero=>omega
 |succ n=>
  rw[lc,Gn (by omega),PN n (t.drop 64).length (t.drop 64) (by rw[GP];omega) (GC _)]
def PO:∀(n:Nat) {t:mp},t.length<=n->(ji t).length<=n+1:=by
 intro n
 induction n with
 |zero=>intro t h;rw[Ew (by omega)];simp
 |succ n j=>
  intro t h;by_cases h1:t.length<=64
  ·rw[Ew h1];simp
  ·rw[Lx (by omega),List.length_cons];have:=j (t:=t.drop 64) (by rw[GP];omega);omega
def gX (t:mp) (i:Nat):List mp:=if i<t.length then ji (t.drop i) else []
def ZM {t:mp} {i:Nat} (h:i<t.length):gX t i=((t.take (if i+64<t.length then i+64 else t.length)).drop i)::gX t (i+64):=by
 unfold gX;rw[Gt h];by_cases h1:i+64<t.length
 ·rw[Gt h1,Gt h1,Lx (by rw[GP];omega),List.drop_drop,List.drop_take]
  congr 2
  omega
 ·rw[Gn h1,Gn h1,Ew (by rw[GP];omega),GB]
def Xd {t:mp} {i:Nat}:(gX t i).length<=t.length+1:=by
 unfold gX;split
 ·exact GI (PO _ (GC _)) (by rw[GP];omega)
 ·simp
def uk (l:List mp):V:=.slice 1 (l.map fun t=>[.str t])
def vz:=HpC 475 F475 AE
def B4 (h:vz Pg) (x:aM) (O:kz x):K' Pg 475 [.agg (Yg x)]=some (uk (if bx x=true then ji (cW x) else [])):=by
 have⟨h,w⟩:=h;have j:=IS w x O;have N:∃(t:mp) (e:Int),K' Pg 500 [.agg (Yg x)]=some (.tuple [.str t,iz e])/\t.length<=2^20/\(if bx x=true then ji (cW x) else [])=gX t 0:=by
  cases o:bx x with
  |true=>
   rw[Gt o] at j;have hw:=(wQ o).2;refine⟨cW x,0,j,by omega,?_⟩;unfold gX;rw[Gt rfl,Gt (G6 Nat.zero_lt_one (EA _ (wK o))),tF]
  |false=>
   rw[Gn (by rw[o];simp)] at j;exact⟨[],1,j,by simp,by simp[gX]⟩
 have⟨t,e,k,P,L⟩:=N;rw[L];clear L j;have M:=Xd (t:=t) (i:=0);simp only[go_sem] at k;refine aA h rfl ?_;simp only[F475,c475,go_sem,k];unfold l475_0;refine bu (fun (p:Nat×List mp) S=>S.ρ 3=.str t/\S.ρ 5=.own 5 1 p.2.length/\S.A 5=some (1,p.2.map fun t=>[.str t],.live)/\S.ρ 6=iz p.1/\p.2++gX t p.1=gX t 0) (fun p=>t.length-p.1) (0,[]) ?_ ?_
 ·simp[go_sem]
 ·intro p S ⟨s3,s5,B,s6,q⟩;have⟨i,cf⟩:=p;simp only at s5 B s6 q;cases o:decide ((i:Int)<(t.length:Int)) with
  |false=>
   have D:¬i<t.length:=by have:=Ga o;omega
   rw[show gX t i=[] by unfold gX;rw[Gn D],GD] at q;rw[<-q];simp only[go_sem,s3,s5,B,s6,o,Gi,uk]
  |true=>
   have H:=Yj o;rw[ZM H] at q;have J:cf.length+1<=t.length+1:=by
    have:=gp List.length q;simp only[Gf,List.length_cons] at this;omega
   have y:IntKind.i64.wrap ((i:Int)+64)=((i+64:Nat):Int):=by rw[bv (by omega) (by omega)];omega
   have I:(if ((i+64:Nat):Int)<(t.length:Int) then ((i+64:Nat):Int) else (t.length:Int))=((if i+64<t.length then i+64 else t.length:Nat):Int):=by
    by_cases h1:i+64<t.length
    ·rw[Gt h1,Gt (by omega)]
    ·rw[Gn h1,Gn (by omega)]
   have E:i<=(if i+64<t.length then i+64 else t.length)/\(if i+64<t.length then i+64 else t.length)<=t.length:=by split<;>omega
   generalize (if i+64<t.length then i+64 else t.length)=u at *
   have z:cf.length+1<=aU:=by unfold aU;omega
   simp only[go_sem,s3,s5,B,s6,o,y,I,E,z,Gi,Gl,Gv];exact⟨(i+64,cf++[(t.take u).drop i]),by simp only;omega,by simp only[Gf,List.length_cons,List.length_nil],by simp only[Gz,GA,Gk],rfl,by simp only;rw[<-q];simp⟩
def vA:=HpC 480 F480 rV
def B5 (h:vA Pg) (x:aM) (N:bx x=true):K' Pg 480 [.agg (Yg x)]=some (uk (ji (cW x))):=by
 have⟨h,w⟩:=h;have hw:=(wQ N).2;have k:=wg w x N (by omega);generalize cW x=t at *
 have M:=PO t.length (t:=t) (GC _);simp only[go_sem] at k;refine aA h rfl ?_;simp only[F480,c480,go_sem,k];unfold l480_0;refine bu (fun (p:mp×List mp) S=>S.ρ 3=.str p.1/\S.ρ 4=.own 4 1 p.2.length/\S.A 4=some (1,p.2.map fun t=>[.str t],.live)/\p.1.length<=t.length/\p.2++ji p.1=ji t) (fun p=>p.1.length) (t,[]) ?_ ?_
 ·simp[go_sem]
 ·intro p S ⟨s3,L,B,H,q⟩;have⟨u,cf⟩:=p;simp only at s3 L B H q;cases z:decide ((64:Int)<(u.length:Int)) with
  |false=>
   have E:u.length<=64:=by have:=Ga z;omega
   rw[Ew E] at q;have j:=gp List.length q;simp only[Gf,List.length_cons,List.length_nil] at j;rw[<-q];have o:cf.length+1<=aU:=by unfold aU;omega
   simp only[go_sem,s3,L,B,z,o,Gi,uk,Gz,GA,Gk,Gf]
  |true=>
   have I:64<u.length:=by have:=Gc z;omega
   rw[Lx I] at q;have j:=gp List.length q;simp only[Gf,List.length_cons] at j;have o:cf.length+1<=aU:=by unfold aU;omega
   have D:64<=u.length:=by omega
   have y:∀d,dp (some (.int .i64 64)) d=some 64:=fun d=>rfl;have J:u.take u.length=u:=GB;simp only[go_sem,s3,L,B,z,o,y,D,J,tF,Gi];exact⟨(u.drop 64,cf++[u.take 64]),by simp only[GP];omega,rfl,by simp only[Gf,List.length_cons,List.length_nil],by simp only[Gz,GA,Gk],by simp only[GP];omega,by rw[<-q];simp⟩
def wM (id:Int) (m:bC) (n:Int) (t:mp):bC:={cX with kind:=15,from_:=id,n:=m.n,shard:=m.shard,move:=m.move,of_:=m.of_,epoch:=n,text:=t}
def CJ (id:Int) (m:bC) (x:aM):List bC:=
 if decide (x.phase=2)&&decide (x.move=m.move) then (match (ji (cW x))[m.of_.toNat]? with|some t=>[wM id m (ji (cW x)).length t]|none=>[]) else []
def sQ (id:Int) (c:aP) (m:bC):List bC:=match YP c m.shard with
 |none=>[]
 |some x=>CJ id m x
def Za {c:aP} {n:Int} {x:aM} (h:YP c n=some x):bx x=true/\Yy c=true:=by
 obtain⟨j,-,-,-,-,-,-,hm⟩:=YF h;exact⟨(Yv.1 j).2.2.2.2 x hm |>.2.1,j⟩
def Ac:=HpC 441 F441<|HpA kf<|vz
theorem In (h:Ac Pg) (s:bP) (c:aP) (m:bC) (H:Yy c=true) (hm:0<=m.of_) :
  K' Pg 441 [.agg (YT s),.agg (Yq c),.agg (di m)]=some (jy (sQ s.id c m)):=by
 have⟨h,p,u⟩:=h
 have j:=kw p c m.shard (YU H)
 unfold sQ
 refine aA h rfl ?_
 cases q:YP c m.shard with
 |none=>
  rw[q] at j
  simp only[pH,Option.getD_none,Option.isSome_none] at j
  simp only[go_sem,Yk,Gk] at j
  simp only[F441,c441,go_sem,j,Gk]
 |some x=>
  rw[q] at j
  simp only[pH,Option.getD_some,Option.isSome_some] at j
  obtain⟨J,-⟩:=Za q
  have E:x∈c.shards:=(YF q).2.2.2.2.2.2.2
  have o:=B4 u x ((YU H).2 x E)
  rw[Gt J] at o
  simp only[uk] at o
  simp only[go_sem] at j o
  simp only
  unfold CJ
  cases w:decide (x.phase=2) with
  |false=>
   rw[Gm,Gn (by simp)]
   simp only[F441,c441,go_sem,j,w,Gk]
  |true=>
  cases y:decide (x.move=m.move) with
  |false=>
   rw[Gq,Gn (by simp)]
   simp only[F441,c441,go_sem,j,w,y,Gk]
  |true=>
   rw[GE,Gt rfl]
   generalize ji (cW x)=l at *
   obtain⟨k,I⟩:∃k:Nat,m.of_=(k:Int):=⟨m.of_.toNat,by omega⟩
   have B:m.of_.toNat=k:=by omega
   rw[B]
   cases c3:decide ((l.length:Int)<=(k:Int)) with
   |true=>
    have z:l.length<=k:=by have:=Gc c3;omega
    rw[List.getElem?_eq_none z]
    simp only[F441,c441,go_sem,j,w,y,o,I,c3,Gi,Gk]
   |false=>
    have D:k<l.length:=by have:=Ga c3;omega
    obtain⟨t,ht,-⟩:=aZ D
    rw[ht]
    simp only[F441,c441,go_sem,j,w,y,o,I,c3,ht,Gi,GA,Gk,wM,cX,dZ,cI,dx]
def ch (m:bC) (k:Int):bC:={cX with kind:=k,shard:=m.shard,move:=m.move}
def LO (x:aM):Int:=((if bx x=true then ji (cW x) else []).length:Nat)
def eD (c:aP) (m:bC):aP×bC×Bool:=
 if m.kind=8 then ((jx c m.shard m.epoch m.lease).1,{cX with kind:=9,shard:=m.shard,lease:=m.lease,at_:=(jx c m.shard m.epoch m.lease).1.top},(jx c m.shard m.epoch m.lease).2)
 else if m.kind=10 then ((jV c m.shard m.lease m.at_).1,{cX with kind:=11,shard:=m.shard,lease:=m.lease},(jV c m.shard m.lease m.at_).2)
 else if m.kind=12 then ((YJ c m.shard m.epoch m.move).1,{ch m 13 with of_:=LO ((YP (YJ c m.shard m.epoch m.move).1 m.shard).getD Yk)},(YJ c m.shard m.epoch m.move).2)
 else if m.kind=16 then (match mR m.text with
  |some x=>((aO c x m.move).1,{ch m 17 with shard:=x.id},(aO c x m.move).2)
  |none=>(c,ch m 0,false))
 else if m.kind=18 then ((iL c m.shard m.move m.epoch).1,ch m 19,(iL c m.shard m.move m.epoch).2)
 else if m.kind=20 then ((i6 c m.shard m.move).1,ch m 21,(i6 c m.shard m.move).2)
 else if m.kind=22 then ((gU c m.shard m.move).1,{ch m 23 with epoch:=((YP (gU c m.shard m.move).1 m.shard).getD Yk).epoch},(gU c m.shard m.move).2)
 else if m.kind=24 then ((i7 c m.shard m.move).1,ch m 25,(i7 c m.shard m.move).2)
 else if m.kind=26 then ((hJ c m.shard m.epoch m.text m.of_ m.move).1,ch m 27,(hJ c m.shard m.epoch m.text m.of_ m.move).2)
 else if m.kind=28 then ((g0 c m.shard m.of_ m.epoch m.move).1,ch m 29,(g0 c m.shard m.of_ m.epoch m.move).2)
 else (c,ch m 0,false)
@[go_sem] def Qo (x:aP×bC×Bool):V:=.tuple [.agg (Yq x.1),.agg (di x.2.1),.bool x.2.2]
def V3 {c:aP} {s:aM} {m:Int} (h:Yy c=true):Yy (aO c s m).1=true:=by
 cases j:Y3 c.shards s.id with
 |none=>
  have⟨h1,p⟩:=jN (c:=c) (s:=s) (m:=m) fun _ _=>j;cases e:(aO c s m).2 with
  |false=>rw[h1 e];exact h
  |true=>exact (p e).2.1
 |some o=>
  unfold aO;split
  ·rw[j];exact h
  ·exact h
def OX {t:mp} {x:aM} (h:mR t=some x):bx x=true/\t=cW x:=by
 have:=La.1 h;exact⟨this.2,this.1⟩
def XU {x:aM} (h:bx x=true):i64 x.id:=by
 simp only[bx,bE,Ym,Ge,Gj] at h;have:=h.1.1;unfold i64;omega
def Zw:kz Yk:=by
 refine⟨⟨by simp[Yk],fun e o=>(by cases o)⟩,by simp[Yk],fun d j=>(by cases j),by simp[Yk],by simp[Yk]⟩
def We {c:aP} {n:Int} (j:Yy c=true):kz ((YP c n).getD Yk):=by
 cases q:YP c n with
 |none=>exact Zw
 |some x=>exact (YU j).2 x (YF q).2.2.2.2.2.2.2
def Ae:=HpC 444 F444<|HpA kf<|HpA zf<|HpA zh<|HpA zj<|HpA zp<|HpA zq<|HpA zr<|HpA zt<|HpA zu<|HpA zw<|HpA zy<|HpA vz<|As
theorem Ip (h:Ae Pg) (s:bP) (c:aP) (m:bC) (hc:Yy c=true) (ht:m.text.length<=10000) :
  K' Pg 444 [.agg (YT s),.agg (Yq c),.agg (di m)]=some (Qo (eD c m)):=by
 have⟨h,L,N,O,P,Q,R,S,T,U,W,X,Y,Z⟩:=h
 have sm:=YU hc
 refine aA h rfl ?_
 cases B:decide (m.kind=8) with
 |true=>
  unfold eD
  rw[Gt (Gc B)]
  have w:=Hv O c m.shard m.epoch m.lease sm
  generalize jx c m.shard m.epoch m.lease=p at *
  have⟨d,b⟩:=p
  simp only[go_sem] at w
  simp only[F444,c444,go_sem,B,w,cX,dZ,cI,dx,Gk]
 |false=>
 cases j:decide (m.kind=10) with
 |true=>
  unfold eD
  rw[Gn (Ga B),Gt (Gc j)]
  have w:=Hx P c m.shard m.lease m.at_ sm
  generalize jV c m.shard m.lease m.at_=p at *
  have⟨d,b⟩:=p
  simp only[go_sem] at w
  simp only[F444,c444,go_sem,B,j,w,cX,dZ,cI,dx,Gk]
 |false=>
 cases o:decide (m.kind=12) with
 |true=>
  unfold eD
  rw[Gn (Ga B),Gn (Ga j),Gt (Gc o)]
  have M:Yy (YJ c m.shard m.epoch m.move).1=true:=(Kf hc).1
  have w:=HC Q c m.shard m.epoch m.move sm
  have I:=kw L (YJ c m.shard m.epoch m.move).1 m.shard (YU M)
  have k3:=B4 Y ((YP (YJ c m.shard m.epoch m.move).1 m.shard).getD Yk) (We M)
  clear M
  generalize YJ c m.shard m.epoch m.move=p at *
  have⟨d,b⟩:=p
  simp only[pH] at I
  simp only at I k3 ⊢
  generalize (YP d m.shard).isSome=ok at *
  generalize (YP d m.shard).getD Yk=x at *
  unfold LO
  generalize (if bx x=true then ji (cW x) else [])=pl at *
  simp only[uk] at k3
  simp only[go_sem] at w I k3
  simp only[F444,c444,go_sem,B,j,o,w,I,k3,Gi,ch,cX,dZ,cI,dx,Gk]
 |false=>
 cases u:decide (m.kind=16) with
 |true=>
  unfold eD
  rw[Gn (Ga B),Gn (Ga j),Gn (Ga o),Gt (Gc u)]
  have w:=IF Z m.text ht
  cases q:mR m.text with
  |none=>
   rw[q] at w
   simp only[wN,iY] at w
   simp only[F444,c444,go_sem,B,j,o,u,w,ch,cX,dZ,cI,dx,Gk]
  |some x=>
   rw[q] at w
   simp only[wN] at w
   have⟨hx,aa⟩:=OX q
   have I:=Ht N c x m.move sm (CI (wK hx) (by rw[<-aa];exact ht)) (XU hx)
   simp only
   generalize aO c x m.move=p at *
   have⟨d,b⟩:=p
   simp only[go_sem] at w I
   simp only[F444,c444,go_sem,B,j,o,u,w,I,ch,cX,dZ,cI,dx,Gk]
 |false=>
 cases y:decide (m.kind=18) with
 |true=>
  unfold eD
  rw[Gn (Ga B),Gn (Ga j),Gn (Ga o),Gn (Ga u),Gt (Gc y)]
  have w:=HD R c m.shard m.move m.epoch sm
  generalize iL c m.shard m.move m.epoch=p at *
  have⟨d,b⟩:=p
  simp only[go_sem] at w
  simp only[F444,c444,go_sem,B,j,o,u,y,w,ch,cX,dZ,cI,dx,Gk]
 |false=>
 cases z:decide (m.kind=20) with
 |true=>
  unfold eD
  rw[Gn (Ga B),Gn (Ga j),Gn (Ga o),Gn (Ga u),Gn (Ga y),Gt (Gc z)]
  have w:=HE S c m.shard m.move sm
  generalize i6 c m.shard m.move=p at *
  have⟨d,b⟩:=p
  simp only[go_sem] at w
  simp only[F444,c444,go_sem,B,j,o,u,y,z,w,ch,cX,dZ,cI,dx,Gk]
 |false=>
 cases D:decide (m.kind=22) with
 |true=>
  unfold eD
  rw[Gn (Ga B),Gn (Ga j),Gn (Ga o),Gn (Ga u),Gn (Ga y),Gn (Ga z),Gt (Gc D)]
  have M:Yy (gU c m.shard m.move).1=true:=(Kz hc).1
  have w:=HF T c m.shard m.move sm
  have I:=kw L (gU c m.shard m.move).1 m.shard (YU M)
  clear M
  generalize gU c m.shard m.move=p at *
  have⟨d,b⟩:=p
  simp only[pH] at I
  simp only at I ⊢
  generalize (YP d m.shard).isSome=ok at *
  generalize (YP d m.shard).getD Yk=x at *
  simp only[go_sem] at w I
  simp only[F444,c444,go_sem,B,j,o,u,y,z,D,w,I,ch,cX,dZ,cI,dx,Gk]
 |false=>
 cases E:decide (m.kind=24) with
 |true=>
  unfold eD
  rw[Gn (Ga B),Gn (Ga j),Gn (Ga o),Gn (Ga u),Gn (Ga y),Gn (Ga z),Gn (Ga D),Gt (Gc E)]
  have w:=HG U c m.shard m.move sm
  generalize i7 c m.shard m.move=p at *
  have⟨d,b⟩:=p
  simp only[go_sem] at w
  simp only[F444,c444,go_sem,B,j,o,u,y,z,D,E,w,ch,cX,dZ,cI,dx,Gk]
 |false=>
 cases H:decide (m.kind=26) with
 |true=>
  unfold eD
  rw[Gn (Ga B),Gn (Ga j),Gn (Ga o),Gn (Ga u),Gn (Ga y),Gn (Ga z),Gn (Ga D),Gn (Ga E),Gt (Gc H)]
  have w:=HH W c m.shard m.epoch m.text m.of_ m.move sm
  generalize hJ c m.shard m.epoch m.text m.of_ m.move=p at *
  have⟨d,b⟩:=p
  simp only[go_sem] at w
  simp only[F444,c444,go_sem,B,j,o,u,y,z,D,E,H,w,ch,cX,dZ,cI,dx,Gk]
 |false=>
 cases J:decide (m.kind=28) with
 |true=>
  unfold eD
  rw[Gn (Ga B),Gn (Ga j),Gn (Ga o),Gn (Ga u),Gn (Ga y),Gn (Ga z),Gn (Ga D),Gn (Ga E),Gn (Ga H),Gt (Gc J)]
  have w:=HJ X c m.shard m.of_ m.epoch m.move sm
  generalize g0 c m.shard m.of_ m.epoch m.move=p at *
  have⟨d,b⟩:=p
  simp only[go_sem] at w
  simp only[F444,c444,go_sem,B,j,o,u,y,z,D,E,H,J,w,ch,cX,dZ,cI,dx,Gk]
 |false=>
 unfold eD
 rw[Gn (Ga B),Gn (Ga j),Gn (Ga o),Gn (Ga u),Gn (Ga y),Gn (Ga z),Gn (Ga D),Gn (Ga E),Gn (Ga H),Gn (Ga J)]
 simp only[F444,c444,go_sem,B,j,o,u,y,z,D,E,H,J,ch,cX,dZ,cI,dx,Gk]
def mb (id:Int) (m:bC) (t:aB):bC:={cX with kind:=31,from_:=id,n:=m.n,at_:=t}
def Ez (s:bP) (o:cr) (c:aP) (m:bC):bP×List bC:=
 if Yc m.at_ c.top<=0 then (s,[mb s.id m c.top]) else de s o (pB c m.at_) [mb s.id m m.at_]
def pV (id:Int) (m x:bC):bC:={x with from_:=id,n:=m.n}
def EK (s:bP) (o:cr) (c:aP) (m:bC):bP×List bC:=
 if (eD c m).2.2 then de s o (eD c m).1 [pV s.id m (eD c m).2.1] else (s,[])
def eK (s:bP) (o:cr) (c:aP) (wall:Int) (m:bC):bP×List bC:=
 if m.kind=1 then yr s o c wall m else if m.kind=14 then (s,sQ s.id c m) else if m.kind=30 then Ez s o c m else if m.kind=32 then yg s o c m else EK s o c m
def ED (s:bP) (wall:Int) (m:bC):bP×List bC:=
 if ((dB s m.n).isSome&&Yl (Yp s m.n).rep) then (if YI (Yp s m.n).rep then (s,[]) else (match gG (Yp s m.n).rep.base with
  |some c=>eK s (Yp s m.n) c wall m
  |none=>(s,[])))
 else (s,if m.kind=1 then [dC s.id m {cI with err:=10}] else [])
def wO (s:bP) (wall:Int) (m:bC):bP×List bC:=
 if 35<=m.kind then nk s m else if m.kind=33 then yf s m else ED s wall m
def OU {c:aP} {m:bC} (h:Yy c=true):Yy (eD c m).1=true:=by
 unfold eD;split
 ·exact (WV h).1
 split
 ·exact (WU h).1
 split
 ·exact (Kf h).1
 split
 ·cases mR m.text with
  |none=>exact h
  |some x=>exact V3 h
 split
 ·exact (Wk h).1
 split
 ·exact (V2 h).1
 split
 ·exact (Kz h).1
 split
 ·exact (WT h).1
 split
 ·exact (Wl h).1
 split
 ·exact (Wj h).1
 ·exact h
def tM (Pg:PgT):Prop:=Ab Pg/\Ac Pg/\rm Pg/\zl Pg/\rR Pg/\Ad Pg/\Ae Pg
theorem I5 (h:tM Pg) {s:bP} {o:cr} {c:aP} {wall:Int} {m:bC} {S:St} (P:s.owns.length<=100000) (O:dw o.rep) (E:Yy c=true) (W:0<=m.of_) (ht:m.text.length<=10000)
  (s1:S.ρ 1=iz wall) (s3:S.ρ 3=.lref 3 0) (m3:S.μ 3=some (YT s,false)) (s5:S.ρ 5=.lref 5 0) (m5:S.μ 5=some (di m,false)) (s6:S.ρ 6=.lref 6 0) (m6:S.μ 6=some ([.int .i64 0,.slice 9 []],false)) (Q:S.ρ 8=.lref 8 0) (m8:S.μ 8=some (eJ o,false))
  (q:S.ρ 10=.lref 10 0) (dD:S.μ 10=some (Yq c,false)) (fb:S.μ 12=none) (dR:S.μ 13=none) :
  Wp (K' Pg) sS S fun T S=>(T=.norm\/T=.ret)/\jT F413 S=some (kS (eK s o c wall m)):=by
 have⟨J,L,R,I,z,M,N⟩:=h
 simp only[go_sem] at m3 m5 m8 dD
 unfold eK
 cases w:decide (m.kind=1) with
 |true=>
  rw[Gt (Gc w)]
  have k:=Im J s o c wall m P O E
  generalize yr s o c wall m=p at *
  have⟨s',l⟩:=p
  simp only[go_sem] at k
  simp only[sS,F413,go_sem,s1,s3,m3,s5,m5,s6,m6,Q,m8,q,dD,w,k]
 |false=>
 rw[Gn (Ga w)]
 cases y:decide (m.kind=14) with
 |true=>
  rw[Gt (Gc y)]
  have k:=In L s c m E W
  generalize sQ s.id c m=l at *
  simp only[go_sem] at k
  simp only[sS,F413,go_sem,s3,m3,s5,m5,s6,m6,q,dD,w,y,k]
 |false=>
 rw[Gn (Ga y)]
 cases D:decide (m.kind=30) with
 |true=>
  rw[Gt (Gc D)]
  have H:=tU R m.at_ c.top
  have B:=Hz I c m.at_ (YU E)
  have j:=sx z s o (pB c m.at_) [mb s.id m m.at_] P O (Ov E).1 (by simp)
  unfold Ez
  generalize pB c m.at_=d at *
  generalize X:de s o d [mb s.id m m.at_]=p at *
  have⟨s',l⟩:=p
  simp only[go_sem,mb,cX,dZ,cI,dx,GA,Gk] at H B j
  cases u:decide (Yc m.at_ c.top<=0) with
  |true=>
   rw[Gt (Gc u)]
   simp only[sS,F413,go_sem,s3,m3,s5,m5,s6,m6,q,dD,w,y,D,u,H,mb,cX,dZ,cI,dx,GA,Gk]
  |false=>
   rw[Gn (Ga u)]
   simp only[sS,F413,go_sem,s3,m3,s5,m5,s6,m6,Q,m8,q,dD,w,y,D,u,H,B,j]
 |false=>
 rw[Gn (Ga D)]
 cases u:decide (m.kind=32) with
 |true=>
  rw[Gt (Gc u)]
  have k:=Io M s o c m P O E
  generalize yg s o c m=p at *
  have⟨s',l⟩:=p
  simp only[go_sem] at k
  simp only[sS,F413,go_sem,s3,m3,s5,m5,s6,m6,Q,m8,q,dD,w,y,D,u,k]
 |false=>
 rw[Gn (Ga u)]
 have k:=Ip N s c m E ht
 have U:=OU (m:=m) E
 unfold EK
 generalize eD c m=p at *
 have⟨d,out,ok⟩:=p
 simp only at U ⊢
 have j:=sx z s o d [pV s.id m out] P O U (by simp)
 generalize X:de s o d [pV s.id m out]=p at *
 have⟨s',l⟩:=p
 simp only[go_sem,pV,GA,Gk] at k j
 cases ok with
 |false=>simp only[sS,F413,go_sem,s3,m3,s5,m5,s6,m6,q,dD,fb,dR,w,y,D,u,k,Gl,Gv,Gk]
 |true=>simp only[sS,F413,go_sem,s3,m3,s5,m5,s6,m6,Q,m8,q,dD,fb,dR,w,y,D,u,k,j,Gw]
def zX (Pg:PgT):Prop:=tK Pg/\Aa Pg/\rM Pg/\Dj Pg/\vv Pg/\vq Pg/\nU Pg/\tM Pg
def Em {m:bC} (h:iT m=true):0<=m.of_/\0<=m.shard/\m.shard<=1099511627776:=by
 rw[Eu] at h;simp only[kI,YV,uu,Ge,GM,xo,Gs] at h;omega
theorem BM (h:zX Pg) (s:bP) (wall:Int) (m:bC) (hs:iK s) (j:K' Pg 408 [.agg (YT s)]=some (.bool (ft s))) (ha:(Yp s m.n).rep.acks.length<=9000) (ho:(Yp s m.n).outs.length<=9000) (hm:i5 m) (ht:m.text.length<=10000)
  (kt:35<=m.kind->K' Pg 430 [.str m.text]=some (.bool (eS m.text))) (kb:∀o∈s.owns,eS o.rep.base=true->K' Pg 428 [.str o.rep.base]=some (pN (gG o.rep.base))) :
  K' Pg 413 [.agg (YT s),iz wall,.agg (di m)]=some (kS (if fT s wall m then wO s wall m else (s,[]))):=by
 have⟨hw,Z,Y,ab,aa,ac,aj,ah⟩:=h
 unfold wO
 by_cases hk:35<=m.kind
 ·rw[Gt hk]
  exact BN hw s wall m hs j ha ho hm hk (kt hk)
 rw[Gn hk]
 have⟨h,ai,X,ak⟩:=hw
 have u:=vV X m hm
 simp only[go_sem] at j u
 refine aA h rfl ?_
 have O:∀(x:bP×List bC) b,fT s wall m=b->b=false->(if fT s wall m then x else (s,[]))=(s,[]):=fun x b J L=>by rw[J,L];rfl
 have hF:F413.body=c413:=rfl
 rw[hF,c413]
 cases U:ft s with
 |false=>
  rw[U] at j
  rw[O _ _ rfl (by simp only[fT,U,Gm])]
  simp only[F413,go_sem,j,Gk]
 |true=>
 rw[U] at j
 cases W:iT m with
 |false=>
  rw[W] at u
  rw[O _ _ rfl (by simp only[fT,W,Gm,Gq])]
  simp only[F413,go_sem,j,u,Gk]
 |true=>
 rw[W] at u
 cases H:decide (wall<0) with
 |true=>
  rw[O _ _ rfl (by simp only[fT,H,Gx,Gm,Gq])]
  simp only[F413,go_sem,j,u,H,Gk]
 |false=>
 cases I:decide (1099511627776<wall) with
 |true=>
  rw[O _ _ rfl (by simp only[fT,I,Gx,Gm,Gq])]
  simp only[F413,go_sem,j,u,H,I,Gk]
 |false=>
 cases P:decide (m.to=s.id) with
 |false=>
  rw[O _ _ rfl (by simp only[fT,P,Gq])]
  simp only[F413,go_sem,j,u,H,I,P,Gk]
 |true=>
 have ae:fT s wall m=true:=by simp only[fT,U,W,H,I,P];rfl
 rw[ae,Gt rfl]
 have z:decide (m.kind=35)=false:=Gp (by omega)
 have B:decide (m.kind=36)=false:=Gp (by omega)
 have D:decide (m.kind=37)=false:=Gp (by omega)
 cases J:decide (m.kind=33) with
 |true=>
  rw[Gt (Gc J)]
  have R:=Il Z s m hs hm.2.2
  generalize yf s m=p at *
  have⟨s',l⟩:=p
  simp only[go_sem] at R
  simp only[F413,go_sem,j,u,H,I,P,z,B,D,J,R]
 |false=>
 rw[Gn (Ga J)]
 have w:=vZ Y s m.n (by have:=hs.1;omega)
 have⟨o1,o2,o3⟩:=Cw (c:=m.n) hs
 have y:=H2 ab (Yp s m.n).rep o1.ok
 have M:=vY ac (Yp s m.n).rep o1.ok
 have N:=BW aa s m {cI with err:=10}
 have ag:s.owns.length<=100000:=by have:=hs.1;omega
 have Q:(dB s m.n).isSome=true->Yp s m.n∈s.owns:=fun hi=>(wD hi).1
 have af:=Cf U
 have ad:=(Em W).1
 unfold ED
 generalize Yp s m.n=o at *
 generalize (dB s m.n).isSome=ok at *
 simp only[go_sem,cI,dx,Gk] at w y M N
 cases ok with
 |false=>
  rw[Gn (by simp)]
  cases L:decide (m.kind=1) with
  |true=>
   rw[Gt (Gc L)]
   simp only[F413,go_sem,j,u,H,I,P,z,B,D,J,w,L,N,cI,dx,GA,Gk]
  |false=>
   rw[Gn (Ga L)]
   simp only[F413,go_sem,j,u,H,I,P,z,B,D,J,w,L,Gk]
 |true=>
 obtain⟨r1,r2,-⟩:=af o (Q rfl)
 rw[r1] at y
 cases dl:Yl o.rep with
 |false=>
  rw[dl] at y
  rw[Gn (by simp)]
  simp only[Gq] at y
  cases L:decide (m.kind=1) with
  |true=>
   rw[Gt (Gc L)]
   simp only[F413,go_sem,j,u,H,I,P,z,B,D,J,w,y,L,N,cI,dx,GA,Gk]
  |false=>
   rw[Gn (Ga L)]
   simp only[F413,go_sem,j,u,H,I,P,z,B,D,J,w,y,L,Gk]
 |true=>
 rw[dl] at y
 rw[GL,Gt rfl]
 simp only[GL] at y
 cases db:YI o.rep with
 |true=>
  rw[db] at M
  rw[Gt rfl]
  simp only[F413,go_sem,j,u,H,I,P,z,B,D,J,w,y,M,Gk]
 |false=>
 rw[db] at M
 rw[Gn (by simp)]
 have E:=kb o (Q rfl) r2
 have T:=r2
 simp only[eS] at T
 cases q:gG o.rep.base with
 |none=>rw[q] at T;cases T
 |some c=>
  rw[q] at E
  have hc:=(xQ.1 q).2
  have tl:=fun {S:St}=>I5 (S:=S) (s:=s) (o:=o) (c:=c) (wall:=wall) (m:=m) ah ag o1 hc ad ht
  simp only[pN] at E
  simp only[go_sem] at E
  simp only[F413,go_sem,j,u,H,I,P,z,B,D,J,w,y,M,E]
  exact tl (by simp only[go_sem]) (by simp only[go_sem]) (by simp only[go_sem]) (by simp only[go_sem]) (by simp only[go_sem]) (by simp only[go_sem]) (by simp only[go_sem]) (by simp only[go_sem]) (by simp only[go_sem]) (by simp only[go_sem]) (by simp only[go_sem]) (by simp only[go_sem]) (by simp only[go_sem])
def Be (h:uR Pg) (l j:List aF) (O:Sm l) (L:l≠j):K' Pg 202 [Yf l,Yf j]=some (.bool false):=by
 have⟨h,Q⟩:=h;have P:=O.len;refine aA h rfl ?_;cases B:decide ((l.length:Int)=(j.length:Int)) with
 |false=>simp only[F202,c202,go_sem,B,Gi]
 |true=>
 have I:l.length=j.length:=by have:=Gc B;omega
 simp only[F202,c202,go_sem,B,Gi];unfold l202_0;refine bu (fun (i:Nat) S=>i<=l.length/\S.ρ 0=Yf l/\S.ρ 1=Yf j/\S.ρ 5=iz i/\l.take i=j.take i) (fun i=>l.length-i) 0 ?_ ?_
 ·simp[go_sem]
 ·intro i S ⟨hi,h0,h1,E,M⟩;cases o:decide ((i:Int)<(l.length:Int)) with
  |false=>
   have H:i=l.length:=by have:=Ga o;omega
   rw[H,GB,I,GB] at M;exact absurd M L
  |true=>
   have J:=Yj o;obtain⟨x,q,-⟩:=aZ J;obtain⟨y,z,-⟩:=aZ (l:=j) (i:=i) (by omega);have u:=K8 Q x.chain y.chain (by have:=O.at q;omega);have p:=inc64q (i:=i) (by omega)
   simp only[Yd] at u;cases w:decide (x.key=y.key) with
   |false=>simp only[go_sem,h0,h1,E,o,q,z,w,Gi]
   |true=>
   cases D:decide (x.chain=y.chain) with
   |false=>
    rw[D] at u;simp only[go_sem,h0,h1,E,o,q,z,Yd,w,u,Gi]
   |true=>
    rw[D] at u;have N:x=y:=by
     cases x;cases y;simp only[aF.mk.injEq];exact⟨Gc w,Gc D⟩
    simp only[go_sem,h0,h1,E,o,q,z,Yd,w,u,p,Gi];exact⟨i+1,by omega,by omega,rfl,by rw[YW q,YW z,M,N]⟩
def Z3 {a b:aB} (h:a≠b):(decide (a.wall=b.wall)&&(decide (a.tick=b.tick)&&decide (a.node=b.node)))=false:=by
 have⟨o,p,w⟩:=a;have⟨q,u,y⟩:=b;simp only[ne_eq,aB.mk.injEq,not_and] at h;simp only[Bool.and_eq_false_iff,Gs];by_cases h1:o=q
 ·by_cases j:p=u
  ·exact .inr (.inr (h h1 j))
  ·exact .inr (.inl j)
 ·exact .inl h1
def Bl (h:uW Pg) (s:aM) (e:List aF) (t:aB) (q:kz s) (w:¬(s.ents=e/\s.mark=t)):K' Pg 250 [.agg (Yg s),.agg (Yg {s with ents:=e,mark:=t})]=some (.bool false):=by
 have⟨h,u,o⟩:=h;have p:=N6 u s.done (by have:=q.2.1;omega) q.2.2.1;have j:∃b,K' Pg 202 [Yf s.ents,Yf e]=some (.bool b)/\(b=false\/s.mark≠t):=by
  by_cases y:s.ents=e
  ·subst y;exact⟨true,Bc o s.ents q.1,.inr fun hm=>w ⟨rfl,hm⟩⟩
  ·exact⟨false,Be o _ _ q.1 y,.inl rfl⟩
 have⟨b,j,z⟩:=j;simp only[Yb,Yf] at p j;refine aA h rfl ?_;cases b with
 |false=>simp only[F250,c250,go_sem,p,j]
 |true=>
  have:=Z3 (z.resolve_left (by simp));simp only[F250,c250,go_sem,p,j,this]
def Bj (h:uV Pg) (c:aP) (t:aB) (N:eG c) (H:c.shards≠c.shards.map (fe t)):K' Pg 242 [.agg (Yq c),.agg (Yq ⟨c.shards.map (fe t),c.top,c.dropped⟩)]=some (.bool false):=by
 have⟨h,j⟩:=h;have P:=N.1;refine aA h rfl ?_;simp only[F242,c242,go_sem,Gi];unfold l242_0;refine bu (fun (i:Nat) S=>i<=c.shards.length/\S.ρ 2=.lref 2 0/\S.μ 2=some (Yq c,false)/\S.ρ 3=.lref 3 0/\S.μ 3=some (Yq ⟨c.shards.map (fe t),c.top,c.dropped⟩,false)/\S.ρ 5=iz i/\c.shards.take i=(c.shards.take i).map (fe t)) (fun i=>c.shards.length-i) 0 ?_ ?_
 ·simp[go_sem]
 ·intro i S ⟨hi,J,m2,L,m3,M,I⟩;simp only[go_sem] at m2 m3;cases y:decide ((i:Int)<(c.shards.length:Int)) with
  |false=>
   have D:i=c.shards.length:=by have:=Ga y;omega
   rw[D,GB] at I;exact absurd I H
  |true=>
   have E:=Yj y;obtain⟨x,o,-⟩:=aZ E;have p:=inc64q (i:=i) (by omega)
   have q:=N.2 x (List.mem_of_getElem? o);by_cases O:x.ents=(fe t x).ents/\x.mark=(fe t x).mark
   ·have u:fe t x=x:=by
     have⟨z,B⟩:=O;unfold fe at z B ⊢;simp only at z B;rw[<-z,<-B]
    have k:=Bk j x q;simp only[Yg,Yf,Yb] at k;have w:((c.shards.map (fe t)).map Yg)[i]?=some (Yg x):=by simp[o,u]
    simp only[Yg,Yf,Yb] at w;simp only[go_sem,J,m2,L,m3,M,y,o,w,k,p,Gi];exact⟨i+1,by omega,by omega,rfl,by rw[YW o,Gz,<-I];simp[u]⟩
   ·have k:=Bl j x (fe t x).ents (fe t x).mark q O;have w:((c.shards.map (fe t)).map Yg)[i]?=some (Yg {x with ents:=(fe t x).ents,mark:=(fe t x).mark}):=by simp[o,fe]
    simp only[Yg,Yf,Yb] at k w;simp only[go_sem,J,m2,L,m3,M,y,o,w,k,Gi]
def kJ (s:bP) (o:cr) (c:Int):List cr:=if o.cell=c then [o] else match dB s c with
 |some x=>[x]
 |none=>[]
def jA (s:bP) (o:cr):Nat->List cr
 |0=>[]
 |n+1=>jA s o n++kJ s o ((n:Int)+1)
def fD:Int->List cr->Prop
 |_,[]=>True
 |co,o::l=>co<o.cell/\o.cell<=3/\fD o.cell l
theorem Pi:∀{id co:Int} {l:List cr},jB id co l=true->fD co l
 |id,co,[],_=>GN
 |id,co,x::l,h=>by
  simp only[jB,fg,b8,fZ,Ge,GM,Gs,Gj] at h;exact⟨by omega,by omega,Pi h.2⟩
def PH {s:bP} (h:ft s=true):fD 0 s.owns:=by
 simp only[ft,Ge] at h;exact Pi h.1
def WY {s:bP} {o:cr} (h:fD 0 s.owns) (y:fZ o.cell=true):jA s o 3=eZ s.owns o:=by
 simp only[fZ,Ge,Gj] at y;have⟨id,l⟩:=s;simp only at h;have w:o.cell=1\/o.cell=2\/o.cell=3:=by omega
 have B:∀{a:cr} {l:List cr},fD 3 (a::l)->False:=fun h=>by simp only[fD] at h;omega
 have u:jA ⟨id,l⟩ o 3=kJ ⟨id,l⟩ o 1++kJ ⟨id,l⟩ o 2++kJ ⟨id,l⟩ o 3:=by
  simp[jA]
 rw[u];clear u
 match l,h with
 |[],_=>rcases w with q|q|q<;>simp[kJ,dB,eZ,q]
 |[a],h=>
  simp only[fD] at h;have j:a.cell=1\/a.cell=2\/a.cell=3:=by omega
  rcases w with q|q|q<;>rcases j with qa|qa|qa<;>simp[kJ,dB,eZ,ia,q,qa]
 |[a,b],h=>
  simp only[fD] at h;have j:(a.cell=1/\b.cell=2)\/(a.cell=1/\b.cell=3)\/(a.cell=2/\b.cell=3):=by omega
  rcases w with q|q|q<;>rcases j with⟨qa,p⟩|⟨qa,p⟩|⟨qa,p⟩<;>simp[kJ,dB,eZ,ia,q,qa,p]
 |[a,b,d],h=>
  simp only[fD] at h;have j:a.cell=1/\b.cell=2/\d.cell=3:=by omega
  have⟨qa,p,z⟩:=j;rcases w with q|q|q<;>simp[kJ,dB,eZ,ia,q,qa,p,z]
 |a::b::d::e::l,h=>
  simp only[fD] at h;omega
def rS:=HpC 447 F447 rI
def Xe {s:bP} {o:cr} {c:Int}:(kJ s o c).length<=1:=by
 unfold kJ;split
 ·simp
 ·split<;>simp
theorem OL {s:bP} {o:cr}:∀{n:Nat},(jA s o n).length<=n
 |0=>by simp[jA]
 |n+1=>by
  have:=OL (s:=s) (o:=o) (n:=n);have:=Xe (s:=s) (o:=o) (c:=(n:Int)+1);simp only[jA,Gf];omega
def wd (h:rS Pg) (s:bP) (o:cr) (U:s.owns.length<2^60) (Y:fD 0 s.owns) (R:fZ o.cell=true):K' Pg 447 [.agg (YT s),.agg (eJ o)]=some (.agg (YT ⟨s.id,eZ s.owns o⟩)):=by
 have⟨h,J⟩:=h;rw[<-WY Y R];refine aA h rfl ?_;simp only[F447,c447,go_sem];unfold l447_0;refine bu (fun (i:Nat) S=>i<=3/\S.ρ 2=.lref 2 0/\S.μ 2=some (YT s,false)/\S.ρ 3=.lref 3 0/\S.μ 3=some (eJ o,false)/\S.ρ 4=.lref 4 0/\S.μ 4=some ([.int .i64 0,.slice 9 []],false)/\S.ρ 5=.own 5 9 (jA s o i).length/\S.A 5=some (9,(jA s o i).map eJ,.live)/\S.ρ 6=iz ((i:Int)+1)) (fun i=>3-i) 0 ?_ ?_
 ·simp[go_sem,jA]
 ·intro i S ⟨hi,M,m2,s3,m3,N,m4,s5,H,s6⟩;have y:=m2;have z:=m3;simp only[go_sem] at y z;cases E:decide (((i:Int)+1)<=3) with
  |false=>
   have P:i=3:=by have:=Ga E;omega
   have D:jA s o i=jA s o 3:=by rw[P]
   rw[D] at s5 H;generalize jA s o 3=g at *
   simp only[go_sem,M,y,s3,z,N,m4,s5,H,s6,E,Gi]
  |true=>
   have W:i<3:=by have:=Gc E;omega
   have w:IntKind.i64.wrap ((i:Int)+1+1)=((i+1:Nat):Int)+1:=by rw[bv (by omega) (by omega)];omega
   have X:=OL (s:=s) (o:=o) (n:=i);have B:(jA s o i).length+1<=aU:=by unfold aU;omega
   have q:jA s o (i+1)=jA s o i++kJ s o ((i:Int)+1):=rfl;cases I:decide (((i:Int)+1)=o.cell) with
   |true=>
    have D:kJ s o ((i:Int)+1)=[o]:=by unfold kJ;rw[Gt (Gc I).symm]
    rw[D] at q;generalize jA s o i=g at *
    simp only[go_sem,M,y,s3,z,N,m4,s5,H,s6,E,I,w,B,Gi];exact⟨i+1,by omega,by omega,by rw[q,Gf];rfl,by rw[q,Gz];rfl,rfl⟩
   |false=>
    have L:¬o.cell=(i:Int)+1:=fun e=>Ga I e.symm;have u:=vX J s ((i:Int)+1) U;simp only[go_sem] at u;rcases dI (p:=ia ((i:Int)+1)) (l:=s.owns) (i:=0) with⟨h1,O,Q⟩|⟨j,x,h1,O,Q,Z⟩
    ·have D:kJ s o ((i:Int)+1)=[]:=by unfold kJ dB;rw[Gn L,O]
     rw[D,GD] at q;rw[h1] at u;generalize jA s o i=g at *
     simp only[go_sem,M,y,s3,z,N,m4,s5,H,s6,E,I,u,w,Gi];exact⟨i+1,by omega,by omega,by rw[q],by rw[q],rfl⟩
    ·have D:kJ s o ((i:Int)+1)=[x]:=by unfold kJ dB;rw[Gn L,Q]
     rw[D] at q;rw[h1,j8] at u;have T:decide ((0:Int)<=(j:Int))=true:=Gu (by omega);generalize jA s o i=g at *
     simp only[go_sem,M,y,s3,z,N,m4,s5,H,s6,E,I,u,T,O,w,B,Gi];exact⟨i+1,by omega,by omega,by rw[q,Gf];rfl,by rw[q,Gz];rfl,rfl⟩
def lQ {r:bG} {t:mp} (he:(Yr r t).2.2=0):aT (Yr r t).1=true:=by
 revert he
 unfold Yr;split
 ·rename_i hr;split
  ·rename_i hl;split
   ·rename_i ha;split
    ·intro h;simp at h
    ·rename_i hn;intro _;have hp:=(wt r).1 hr;have⟨i1,i2⟩:=hp.id;have LX:r.id∈r.members:=hp.inn (fun e=>by rw[(Kb r)] at hl;rw[e] at hl;simp at hl);have lO:bW [r.id]:=by
      have:=KB (l:=[]) (a:=r.id) wv (by simp) (by simp) ⟨i1,i2⟩;simpa using this
     refine (wt _).2 (pc ⟨hp.id,hp.view,⟨by have:=hp.n;simp only;omega,by have:=hp.n;simp only;omega⟩,hp.sm,lO,fun a ha=>?_,hp.inn,fun _=>⟨by simp,fun _=>rfl⟩,fun hf=>?_⟩ hl)
     ·have:a=r.id:=by simpa using ha
      subst this;exact LX
     ·have yv:Yl r=false:=hf;rw[hl] at yv;cases yv
   ·intro h;simp at h
  ·intro h;simp at h
 ·intro h;simp at h
def Wo {r:bG} {v:Int} {l:List Int} (E:(Y4 r v l).2.2=0):aT (Y4 r v l).1=true:=by
 revert E
 unfold Y4;split
 ·rename_i H;have⟨w,B,y,g4,g5⟩:=H;split
  ·intro _;exact w
  ·split
   ·intro h;simp at h
   ·split
    ·intro h;simp at h
    ·rename_i I N;intro _;have p:=(wt r).1 w;have⟨L,M⟩:=p.id;have J:v=r.view+1:=by
      by_cases q:v=r.view+1
      ·exact q
      ·exact absurd (.inl q) I
     have o:bW [r.id]:=by
      have:=KB (l:=[]) (a:=r.id) wv (by simp) (by simp) ⟨L,M⟩;simpa using this
     have j:r.id∈l:=List.mem_of_mem_head? (by rw[y];simp);have u:Yl (YH r v l)=true:=(Kb _).2 y;refine (wt _).2 ⟨p.id,⟨by simp only[YH];omega,by simp only[YH];omega⟩,⟨by have:=p.n;simp only[YH];omega,by have:=p.n;simp only[YH];omega⟩,B,o,fun a D=>?_,fun _=>j,fun _=>⟨by simp[YH],fun _=>rfl⟩,fun z=>by rw[u] at z;cases z⟩;have:a=r.id:=by simpa [YH] using D
     subst this;exact j
 ·intro h;simp at h
def Co {r:bG} (h:aT r=true):wL r=YI r:=by rw[Ci,h,Gy]
def Aj:=HpC 450 F450<|HpA vu<|HpA Mr<|HpA rP<|HpA nT<|rS
theorem sy (h:Aj Pg) (s:bP) (o:cr) (c:aP) (outs:List bC) (Z:s.owns.length<=100000) (J:dw o.rep) (T:Yy c=true) (Y:outs.length<=10000) (O:fD 0 s.owns) (M:fZ o.cell=true) :
  K' Pg 450 [.agg (YT s),.agg (eJ o),.agg (Yq c),jy outs]=some (kS (de s o c outs)):=by
 have⟨h,B,L,E,D,H⟩:=h
 have q:=BS B c T
 have y:=Vq L o.rep (cB c) J.ok J.1
 have⟨U,l2,W,X⟩:=KD (t:=cB c) J.1
 have P:dw (Yr o.rep (cB c)).1:=⟨U,by have:=J.2;omega⟩
 have j:=mH D (Yr o.rep (cB c)).1 P
 have u:=wc E o.cell (Yr o.rep (cB c)).2.1 X (by omega)
 have w:=fun x=>wd H s ⟨o.cell,(Yr o.rep (cB c)).1,x⟩ (by omega) O M
 have N:(Y5 o.cell (Yr o.rep (cB c)).2.1).length<=10000:=by simpa [Y5] using W
 have R:=lQ (r:=o.rep) (t:=cB c)
 unfold de
 generalize cB c=S at *
 generalize Yr o.rep S=p at *
 have⟨r,wl,e⟩:=p
 simp only[uh] at y
 simp only at j u w N R ⊢
 generalize Y5 o.cell wl=sl at *
 have I:sl.length+outs.length<=aU:=by unfold aU;omega
 simp only[go_sem] at q y j u w
 refine aA h rfl ?_
 cases z:decide (e=0) with
 |false=>
  rw[Gt (Ga z)]
  simp only[F450,c450,go_sem,q,y,z,Gk]
 |true=>
  rw[Gn (by simpa using Gc z)]
  rw[Co (R (Gc z))] at j
  cases Q:YI r with
  |true=>
   rw[Q] at j
   simp only[Gw,GD]
   simp only[F450,c450,go_sem,q,y,z,j,u,w,Gi]
  |false=>
   rw[Q] at j
   have k:=w []
   simp only[Gk] at k
   simp only[Gl,Gv]
   simp only[F450,c450,go_sem,q,y,z,j,u,k,I,Gi,Gz,Gk,Gf]
def Xy {c:aP} {n:Int} (j:Yy c=true) (p:n<=0):Y3 c.shards n=none:=by
 cases q:Y3 c.shards n with
 |none=>rfl
 |some x=>
  have⟨h1,o⟩:=Ys q;have:=(lX j).2.2 x h1;omega
def KL {c:aP} {n:Int} (j:Yy c=true) (o:n<=1099511627776):YP c n=Y3 c.shards n:=by
 unfold YP;rw[j,Gy];cases q:Ym n with
 |true=>rfl
 |false=>
  rw[Gn (by simp),Xy j];simp only[Ym,Bool.and_eq_false_iff,Gs] at q;omega
def Ak:=HpC 451 F451<|HpA iN<|vA
theorem Iu (h:Ak Pg) (s:bP) (c:aP) (m:bC) (B:Yy c=true) (hm:0<=m.of_) (L:m.shard<=1099511627776) :
  K' Pg 451 [.agg (YT s),.agg (Yq c),.agg (di m)]=some (jy (sQ s.id c m)):=by
 have⟨h,u,w⟩:=h
 have j:=eY u c m.shard (YU B).1
 unfold sQ
 rw[KL B L]
 refine aA h rfl ?_
 cases q:Y3 c.shards m.shard with
 |none=>
  rw[q] at j
  simp only[Option.getD_none] at j
  simp only[go_sem,Yk,Gk] at j
  simp only[F451,c451,go_sem,j,Gk]
 |some x=>
  rw[q] at j
  simp only[Option.getD_some] at j
  have⟨y,N⟩:=Ys q
  have M:=((Yv.1 B).2.2.2.2 x y).2.1
  have p:decide (x.id=0)=false:=Gp (by have:=(lX B).2.2 x y;omega)
  have o:=B5 w x M
  simp only[uk] at o
  simp only[go_sem] at j o
  simp only
  unfold CJ
  cases z:decide (x.phase=2) with
  |false=>
   rw[Gm,Gn (by simp)]
   simp only[F451,c451,go_sem,j,p,z,Gk]
  |true=>
  cases D:decide (x.move=m.move) with
  |false=>
   rw[Gq,Gn (by simp)]
   simp only[F451,c451,go_sem,j,p,z,D,Gk]
  |true=>
   rw[GE,Gt rfl]
   generalize ji (cW x)=l at *
   obtain⟨k,J⟩:∃k:Nat,m.of_=(k:Int):=⟨m.of_.toNat,by omega⟩
   have H:m.of_.toNat=k:=by omega
   rw[H]
   cases c3:decide ((l.length:Int)<=(k:Int)) with
   |true=>
    have E:l.length<=k:=by have:=Gc c3;omega
    rw[List.getElem?_eq_none E]
    simp only[F451,c451,go_sem,j,p,z,D,o,J,c3,Gi,Gk]
   |false=>
    have I:k<l.length:=by have:=Ga c3;omega
    obtain⟨t,ht,-⟩:=aZ I
    rw[ht]
    simp only[F451,c451,go_sem,j,p,z,D,o,J,c3,ht,Gi,GA,Gk,wM,cX,dZ,cI,dx]
def XT {id c:Int} (h:1<=id/\id<=255):RP (kO id c).rep:=
 ⟨h,by simp[kO],by simp[kO],wv,wv,fun a j=>by simp[kO] at j,fun hm=>absurd rfl hm,fun o=>by simp[kO,Yl] at o,fun _=>⟨rfl,rfl⟩⟩
def Oq {s:bP} {c:Int} (h:ft s=true):aT (Yp s c).rep=true:=by
 cases e:(dB s c).isSome with
 |true=>exact (Cf h _ (wD e).1).1
 |false=>
  have j:tq s.id=true:=by simp only[ft,Ge] at h;exact h.2
  simp only[tq,Ge,Gj] at j;unfold Yp;cases p:dB s c with
  |some o=>rw[p] at e;cases e
  |none=>exact (wt _).2 (XT (by omega))
def Wg {r:bG} {w:bI} (h:aT r=true):aT (Yx r w).1=true:=(wt _).2 (Zc ((wt _).1 h))
def I8 {s:bP} {m:bC} {o:cr} {r:bG} {wl:List bI} {S:St} (hol:(Y5 m.n wl).length<=1) (yw:o.outs.length<=9000) (Qz:aT r=true)
  (iC:K' Pg 426 [.agg (YN r)]=some (.bool (wL r))) (uw:K' Pg 38 [.agg (YN r)]=some (.bool (Yl r))) (kW:K' Pg 433 [iz m.n,mL wl]=some (jy (Y5 m.n wl)))
  (gf:K' Pg 447 [.agg (YT s),.agg (eJ (jU o r))]=some (.agg (YT ⟨s.id,eZ s.owns (jU o r)⟩)))
  (s2:S.ρ 2=.lref 2 0) (m2:S.μ 2=some (YT s,false)) (s3:S.ρ 3=.lref 3 0) (m3:S.μ 3=some (di m,false)) (s4:S.ρ 4=.lref 4 0) (m4:S.μ 4=some ([.int .i64 0,.slice 9 []],false)) (s9:S.ρ 9=.lref 9 0) (m9:S.μ 9=some (eJ o,false))
  (nB:S.ρ 10=.bool (YI o.rep)) (E4:S.ρ 11=.lref 11 0) (m11:S.μ 11=some (YN r,false)) (E5:S.ρ 12=mL wl) (a91:S.A 91=none) :
  Wp (K' Pg) wR S fun ex S=>(ex=.norm\/ex=.ret)/\jT F446 S=some (kS (⟨s.id,eZ s.owns (jU o r)⟩,Y5 m.n wl++oR o r)):=by
 have hlim:(Y5 m.n wl).length+o.outs.length<=aU:=by unfold aU;omega
 generalize Y5 m.n wl=sl at *
 rw[Co Qz] at iC
 unfold jU oR
 unfold jU at gf
 simp only[go_sem] at m2 m3 m9 m11
 rw[Qz]
 cases b2:YI r with
 |true=>
  rw[b2] at iC gf
  simp only[Gx,Gm,Gq,Gl,Gv,Gw,GD] at gf ⊢
  simp only[go_sem] at iC uw kW gf
  cases b1:YI o.rep<;>rw[b1] at nB<;>simp only[wR,F446,go_sem,s2,m2,s3,m3,s4,m4,s9,m9,nB,E4,m11,E5,a91,iC,kW,gf,Gi]
 |false=>
  rw[b2] at iC gf
  simp only[GR,Gy,Gl,Gv] at gf ⊢
  cases b1:YI o.rep with
  |false=>
   rw[b1] at nB
   simp only[Gm,Gl,Gv,GD]
   simp only[go_sem,Gk] at iC uw kW gf
   simp only[wR,F446,go_sem,s2,m2,s3,m3,s4,m4,s9,m9,nB,E4,m11,E5,a91,iC,kW,gf,Gi]
  |true=>
   rw[b1] at nB
   cases b3:Yl r with
   |false=>
    rw[b3] at uw
    simp only[Gq,Gl,Gv,GD]
    simp only[go_sem,Gk] at iC uw kW gf
    simp only[wR,F446,go_sem,s2,m2,s3,m3,s4,m4,s9,m9,nB,E4,m11,E5,a91,iC,uw,kW,gf,Gi]
   |true=>
    rw[b3] at uw
    simp only[GL,Gw]
    simp only[go_sem,Gk] at iC uw kW gf
    simp only[wR,F446,go_sem,s2,m2,s3,m3,s4,m4,s9,m9,nB,E4,m11,E5,a91,iC,uw,kW,gf,hlim,Gi,Gz,Gf]
def Ag:=HpC 446 F446<|HpA rI<|HpA rK<|HpA nT<|HpA Mv<|HpA rP<|HpA tJ<|rS
theorem Ir (h:Ag Pg) (s:bP) (m:bC) (hs:iK s) (hr:ft s=true) (ha:(Yp s m.n).rep.acks.length<=9000) (hm:m.mem.length<=10000) (ho:(Yp s m.n).outs.length<=9000) (hk:0<=m.kind/\m.kind<=1000) (ht:m.text.length<=10000) :
  K' Pg 446 [.agg (YT s),.agg (di m)]=some (kS (nk s m)):=by
 have⟨h,aa,ab,Q,ak,ac,aj,ad⟩:=h
 have y:=vX aa s m.n (by have:=hs.1;omega)
 have H:=sw ab m.text ht
 have⟨o1,o2,o3⟩:=Cw (c:=m.n) hs
 have u:=mH Q (Yp s m.n).rep o1
 rw[Co (Oq hr)] at u
 have E:IntKind.i64.wrap (m.kind-34)=m.kind-34:=bv (by omega) (by omega)
 have B:K' Pg 58 [.agg (YN (Yp s m.n).rep),.agg (nm (jW m))]=some (ur (ef s m)):=Vu ak (Yp s m.n).rep (jW m) o1.ok o1.2 hm
 obtain⟨l1,l2,-⟩:=gb (r:=(Yp s m.n).rep) (w:=jW m)
 have⟨q1,q2⟩:=D4 (r:=(Yp s m.n).rep) (w:=jW m)
 have ai:dw (ef s m).1:=⟨GI l1 (Nat.max_le.2 ⟨o1.1,hm⟩),by unfold ef;omega⟩
 have af:aT (ef s m).1=true:=Wg (Oq hr)
 have L:=mH Q (ef s m).1 ai
 have ag:=vW aj (ef s m).1
 have R:=wc ac m.n (ef s m).2 (fun w hw=>by have:=(q2 w hw).1;omega) (by unfold ef;omega)
 have am:(dB s m.n).isSome=true->fZ m.n=true:=fun hi=>by
  have:=(Cf hr _ (wD hi).1).2.2.2.1;rwa [(wD hi).2] at this
 have T:fZ m.n=true->_:=fun hq=>wd ad s (jU (Yp s m.n) (ef s m).1) (by have:=hs.1;omega) (PH hr) (by show fZ (Yp s m.n).cell=true;rw[KA];exact hq)
 have an:(Y5 m.n (ef s m).2).length<=1:=by simp only[Y5,Gi];unfold ef;exact q1
 have M:=fun {S:St} (hq:fZ m.n=true)=>I8 (S:=S) (s:=s) (m:=m) (o:=Yp s m.n) (r:=(ef s m).1) (wl:=(ef s m).2) an ho af L ag R (T hq)
 have hn:nk s m=if o9 s m then (s,[]) else if !(dB s m.n).isSome&&decide ((ef s m).1.view=0) then (s,[]) else (⟨s.id,eZ s.owns (jU (Yp s m.n) (ef s m).1)⟩,Y5 m.n (ef s m).2++oR (Yp s m.n) (ef s m).1):=rfl
 rw[hn]
 unfold o9
 clear hn R T ag L ai q1 q2 l1 l2 af
 generalize ef s m=J at *
 have⟨r,wl⟩:=J
 simp only[jW,ur] at B
 obtain⟨cb,al,z⟩:∃cb:Eq,jY (gG m.text)=.tuple [.agg cb,.bool (eS m.text)]/\cb.length=5:=by
  unfold eS jY;cases gG m.text<;>exact⟨_,rfl,rfl⟩
 rw[al] at H
 have O:∀{S:St} {s:Nat},na S s 0 cb (some ([.slice 17 [],.int .i64 0,.int .i64 0,.int .i64 0,.int .i64 0],false))=some ⟨S.ρ,aI S.μ s (some (cb,false)),S.A⟩:=by
  intro S s;rw[DN];unfold JZ;simp[z]
 simp only[go_sem] at y u B
 have hF:F446.body=c446:=rfl
 refine aA h rfl ?_
 rw[hF,c446]
 have dn:(fZ m.n=false/\(decide (m.n<1)=true\/decide (m.n<1)=false/\decide (3<m.n)=true))\/(fZ m.n=true/\decide (m.n<1)=false/\decide (3<m.n)=false):=by
  unfold fZ;by_cases h1:m.n<1
  ·exact .inl ⟨by rw[Gp (show ¬1<=m.n by omega)];rfl,.inl (Gu h1)⟩
  ·by_cases P:3<m.n
   ·exact .inl ⟨by rw[Gp (show ¬m.n<=3 by omega),Gq],.inr ⟨Gp h1,Gu P⟩⟩
   ·exact .inr ⟨by rw[Gu (show 1<=m.n by omega),Gu (show m.n<=3 by omega)];rfl,Gp h1,Gp P⟩
 rcases dn with⟨Y,D⟩|⟨Y,D,N⟩
 ·have ao:(dB s m.n).isSome=false:=by
   cases q:(dB s m.n).isSome with
   |false=>rfl
   |true=>rw[am q] at Y;cases Y
  rw[ao,Y]
  simp only[GR,GL,jm,Gw]
  rcases D with D|⟨D,N⟩
  ·simp only[F446,go_sem,y,H,O,z,D,Gk]
  ·simp only[F446,go_sem,y,H,O,z,D,N,Gk]
 ·rw[Y]
  have M:=fun {S:St}=>M (S:=S) Y
  simp only[Gx,Gq,G7]
  have ah:(decide (m.kind=35)&&!eS m.text)=false->Wp (K' Pg) (.seq (.region false r446_0) (.seq (.region false r446_1) (.seq (.region false r446_2) (.seq (.seq (.region false r446_3) (.cond (.g 40) (.seq (.region false r446_4) (.ret)) (.skip))) (.seq (.region false r446_5) (.seq (.seq (.region false r446_6) (.cond (.g 49) (.region false r446_7) (.skip))) (.seq (.region false r446_8) (.seq (.region false r446_9) (.seq (.seq (.region false r446_10) (.cond (.g 86) (.seq (.region false r446_11) (.ret)) (.skip))) wR))))))))) (JC [.agg (YT s),.agg (di m)]) fun ex S=>(ex=.norm\/ex=.ret)/\jT F446 S=some (kS (if !(dB s m.n).isSome&&decide (r.view=0) then (s,[]) else (⟨s.id,eZ s.owns (jU (Yp s m.n) r)⟩,Y5 m.n wl++oR (Yp s m.n) r))):=by
   intro J;rcases dI (p:=ia m.n) (l:=s.owns) (i:=0) with⟨h1,P,h3⟩|⟨j,x,h1,P,h3,h4⟩
   ·have W:Yp s m.n=kO s.id m.n:=by unfold Yp dB;rw[P];rfl
    have X:(dB s m.n).isSome=false:=by unfold dB;rw[P];rfl
    rw[h1] at y;rw[X];rw[W] at u B M ⊢;simp only[kO,Gk] at u B;have M:=fun {S:St}=>M (S:=S);simp only[GR,Gy];cases I:decide (m.kind=35) with
    |false=>
     cases Z:decide (r.view=0) with
     |true=>
      rw[Gt rfl];simp only[F446,go_sem,y,H,O,z,D,N,I,u,E,B,Z,Gk]
     |false=>
      rw[Gn (by simp)];simp only[F446,go_sem,y,H,O,z,D,N,I,u,E,B,Z,Gk];exact M (by simp only[go_sem]) (by simp only[go_sem]) (by simp only[go_sem]) (by simp only[go_sem]) (by simp only[go_sem]) (by simp only[go_sem]) (by simp only[go_sem]) (by simp only[go_sem,kO,Gk]) (by simp only[go_sem,kO]) (by simp only[go_sem]) (by simp only[go_sem]) (by simp only[go_sem]) rfl
    |true=>
     have U:eS m.text=true:=by rw[I,Gy] at J;simpa using J
     rw[U] at H;cases Z:decide (r.view=0) with
     |true=>
      rw[Gt rfl];simp only[F446,go_sem,y,H,O,z,D,N,I,u,E,B,Z,Gk]
     |false=>
      rw[Gn (by simp)];simp only[F446,go_sem,y,H,O,z,D,N,I,u,E,B,Z,Gk];exact M (by simp only[go_sem]) (by simp only[go_sem]) (by simp only[go_sem]) (by simp only[go_sem]) (by simp only[go_sem]) (by simp only[go_sem]) (by simp only[go_sem]) (by simp only[go_sem,kO,Gk]) (by simp only[go_sem,kO]) (by simp only[go_sem]) (by simp only[go_sem]) (by simp only[go_sem]) rfl
   ·have W:Yp s m.n=x:=by unfold Yp dB;rw[h3];rfl
    have X:(dB s m.n).isSome=true:=by unfold dB;rw[h3];rfl
    rw[h1,j8] at y;rw[X];rw[W] at u B M ⊢;have hj:decide ((0:Int)<=(j:Int))=true:=Gu (by omega);have ae:decide ((j:Int)<0)=false:=Gp (by omega);simp only[Gx,Gm,Gl,Gv];cases I:decide (m.kind=35) with
    |false=>
     simp only[F446,go_sem,y,H,O,z,D,N,I,hj,ae,P,u,E,B];exact M (by simp only[go_sem]) (by simp only[go_sem]) (by simp only[go_sem]) (by simp only[go_sem]) (by simp only[go_sem]) (by simp only[go_sem]) (by simp only[go_sem]) (by simp only[go_sem]) (by simp only[go_sem]) (by simp only[go_sem]) (by simp only[go_sem]) (by simp only[go_sem]) rfl
    |true=>
     have U:eS m.text=true:=by rw[I,Gy] at J;simpa using J
     rw[U] at H;simp only[F446,go_sem,y,H,O,z,D,N,I,hj,ae,P,u,E,B];exact M (by simp only[go_sem]) (by simp only[go_sem]) (by simp only[go_sem]) (by simp only[go_sem]) (by simp only[go_sem]) (by simp only[go_sem]) (by simp only[go_sem]) (by simp only[go_sem]) (by simp only[go_sem]) (by simp only[go_sem]) (by simp only[go_sem]) (by simp only[go_sem]) rfl
  cases J:(decide (m.kind=35)&&!eS m.text) with
  |false=>
   rw[Gn (by simp)]
   exact ah J
  |true=>
   rw[Gt rfl]
   rw[Ge,GM] at J
   rw[J.2] at H
   have I:=J.1
   simp only[F446,go_sem,y,H,O,z,D,N,I,Gk]
def Wf {c:aP} {n e m:Int} (h:(YJ c n e m).2=true):∃x,Y3 (YJ c n e m).1.shards n=some x:=by
 revert h
 unfold YJ;cases q:YP c n with
 |none=>intro h;simp at h
 |some p=>
  obtain⟨-,-,o,-,j,-⟩:=YF q;subst j;simp only;split
  ·split
   ·intro _;exact⟨_,o⟩
   ·split
    ·intro _;exact⟨_,Ks (s:={p with phase:=2,move:=m,top:=c.top}) (l:=c.shards)⟩
    ·intro h;simp at h
  ·intro h;simp at h
def LU (p q:aP×bC×Bool):Prop:=p.2.2=q.2.2/\(q.2.2=true->p=q)
def pG {p:aP×bC×Bool}:LU p p:=⟨rfl,fun _=>rfl⟩
def LE {c d:aP} {a b:bC}:LU (c,a,false) (d,b,false):=⟨rfl,fun h=>by cases h⟩
def Al:=HpC 452 F452<|HpA iN<|HpA zg<|HpA zi<|HpA zk<|HpA my<|HpA zx<|HpA zz<|HpA vA<|Au
theorem Iv (h:Al Pg) (c:aP) (m:bC) (Y:Yy c=true) (ht:m.text.length<=10000) (hn:m.shard<=1099511627776) (hk:0<=m.kind/\m.kind<=1000) :
  ∃p,K' Pg 452 [.agg (Yq c),.agg (di m)]=some (Qo p)/\LU p (eD c m):=by
 have⟨h,M,O,P,Q,H,R,S,T,U⟩:=h
 have sm:=YU Y
 have hw:IntKind.i64.wrap (m.kind+1)=m.kind+1:=bv (by omega) (by omega)
 cases B:decide (m.kind=8) with
 |true=>
  have hw:IntKind.i64.wrap (m.kind+1)=9:=by rw[Gc B];rfl
  unfold eD
  rw[Gt (Gc B)]
  refine⟨_,?_,pG⟩
  refine aA h rfl ?_
  have w:=Hw P c m.shard m.epoch m.lease sm
  generalize jx c m.shard m.epoch m.lease=p at *
  have⟨d,b⟩:=p
  simp only[go_sem] at w
  simp only[F452,c452,go_sem,B,hw,w,ch,cX,dZ,cI,dx,Gk]
 |false=>
 cases j:decide (m.kind=10) with
 |true=>
  have hw:IntKind.i64.wrap (m.kind+1)=11:=by rw[Gc j];rfl
  unfold eD
  rw[Gn (Ga B),Gt (Gc j)]
  refine⟨_,?_,pG⟩
  refine aA h rfl ?_
  have w:=Hy Q c m.shard m.lease m.at_ sm
  generalize jV c m.shard m.lease m.at_=p at *
  have⟨d,b⟩:=p
  simp only[go_sem] at w
  simp only[F452,c452,go_sem,B,j,hw,w,ch,cX,dZ,cI,dx,Gk]
 |false=>
 cases o:decide (m.kind=12) with
 |true=>
  have hw:IntKind.i64.wrap (m.kind+1)=13:=by rw[Gc o];rfl
  unfold eD
  rw[Gn (Ga B),Gn (Ga j),Gt (Gc o)]
  have N:Yy (YJ c m.shard m.epoch m.move).1=true:=(Kf Y).1
  have w:=Bm H c m.shard m.epoch m.move sm
  have J:=eY M (YJ c m.shard m.epoch m.move).1 m.shard (YU N).1
  have hf:=KL (n:=m.shard) N hn
  have hg:=Wf (c:=c) (n:=m.shard) (e:=m.epoch) (m:=m.move)
  generalize YJ c m.shard m.epoch m.move=p at *
  have⟨d,b⟩:=p
  simp only at N J hf hg ⊢
  cases b with
  |false=>
   refine⟨(d,ch m 13,false),?_,LE⟩
   refine aA h rfl ?_
   simp only[go_sem] at w J
   simp only[F452,c452,go_sem,B,j,o,hw,w,ch,cX,dZ,cI,dx,Gk]
  |true=>
   have⟨x,X⟩:=hg rfl
   have W:bx x=true:=((Yv.1 N).2.2.2.2 x (Ys X).1).2.1
   have k3:=B5 T x W
   rw[hf,X]
   rw[X] at J
   simp only[Option.getD_some] at J
   refine⟨_,?_,pG⟩
   unfold LO
   rw[Option.getD_some,Gt W]
   simp only[uk] at k3
   generalize ji (cW x)=pl at *
   refine aA h rfl ?_
   simp only[go_sem] at w J k3
   simp only[F452,c452,go_sem,B,j,o,hw,w,J,k3,Gi,ch,cX,dZ,cI,dx,Gk]
 |false=>
 cases u:decide (m.kind=16) with
 |true=>
  have hw:IntKind.i64.wrap (m.kind+1)=17:=by rw[Gc u];rfl
  unfold eD
  rw[Gn (Ga B),Gn (Ga j),Gn (Ga o),Gt (Gc u)]
  have w:=IH U m.text ht
  cases q:mR m.text with
  |none=>
   rw[q] at w
   simp only[wI,iY] at w
   refine⟨(c,{ch m 17 with shard:=0},false),?_,LE⟩
   refine aA h rfl ?_
   simp only[F452,c452,go_sem,B,j,o,u,hw,w,ch,cX,dZ,cI,dx,Gk]
  |some x=>
   rw[q] at w
   simp only[wI] at w
   have⟨X,Z⟩:=OX q
   have J:=Hu O c x m.move sm (CI (wK X) (by rw[<-Z];exact ht))
   simp only
   generalize aO c x m.move=p at *
   have⟨d,b⟩:=p
   refine⟨_,?_,pG⟩
   refine aA h rfl ?_
   simp only[go_sem] at w J
   simp only[F452,c452,go_sem,B,j,o,u,hw,w,J,ch,cX,dZ,cI,dx,Gk]
 |false=>
 cases y:decide (m.kind=18) with
 |true=>
  have hw:IntKind.i64.wrap (m.kind+1)=19:=by rw[Gc y];rfl
  unfold eD
  rw[Gn (Ga B),Gn (Ga j),Gn (Ga o),Gn (Ga u),Gt (Gc y)]
  refine⟨_,?_,pG⟩
  refine aA h rfl ?_
  have w:=Bp H c m.shard m.epoch m.move sm
  generalize iL c m.shard m.move m.epoch=p at *
  have⟨d,b⟩:=p
  simp only[go_sem] at w
  simp only[F452,c452,go_sem,B,j,o,u,y,hw,w,ch,cX,dZ,cI,dx,Gk]
 |false=>
 cases z:decide (m.kind=20) with
 |true=>
  have hw:IntKind.i64.wrap (m.kind+1)=21:=by rw[Gc z];rfl
  unfold eD
  rw[Gn (Ga B),Gn (Ga j),Gn (Ga o),Gn (Ga u),Gn (Ga y),Gt (Gc z)]
  refine⟨_,?_,pG⟩
  refine aA h rfl ?_
  have w:=Bo H c m.shard 0 m.move sm
  generalize i6 c m.shard m.move=p at *
  have⟨d,b⟩:=p
  simp only[go_sem] at w
  simp only[F452,c452,go_sem,B,j,o,u,y,z,hw,w,ch,cX,dZ,cI,dx,Gk]
 |false=>
 cases D:decide (m.kind=22) with
 |true=>
  have hw:IntKind.i64.wrap (m.kind+1)=23:=by rw[Gc D];rfl
  unfold eD
  rw[Gn (Ga B),Gn (Ga j),Gn (Ga o),Gn (Ga u),Gn (Ga y),Gn (Ga z),Gt (Gc D)]
  have N:Yy (gU c m.shard m.move).1=true:=(Kz Y).1
  have w:=Bn H c m.shard 0 m.move sm
  have J:=eY M (gU c m.shard m.move).1 m.shard (YU N).1
  rw[KL (n:=m.shard) N hn]
  generalize gU c m.shard m.move=p at *
  have⟨d,b⟩:=p
  simp only at J ⊢
  generalize (Y3 d.shards m.shard).getD Yk=x at *
  refine⟨_,?_,pG⟩
  refine aA h rfl ?_
  simp only[go_sem] at w J
  simp only[F452,c452,go_sem,B,j,o,u,y,z,D,hw,w,J,ch,cX,dZ,cI,dx,Gk]
 |false=>
 cases E:decide (m.kind=24) with
 |true=>
  have hw:IntKind.i64.wrap (m.kind+1)=25:=by rw[Gc E];rfl
  unfold eD
  rw[Gn (Ga B),Gn (Ga j),Gn (Ga o),Gn (Ga u),Gn (Ga y),Gn (Ga z),Gn (Ga D),Gt (Gc E)]
  refine⟨_,?_,pG⟩
  refine aA h rfl ?_
  have w:=Bq H c m.shard 0 m.move sm
  generalize i7 c m.shard m.move=p at *
  have⟨d,b⟩:=p
  simp only[go_sem] at w
  simp only[F452,c452,go_sem,B,j,o,u,y,z,D,E,hw,w,ch,cX,dZ,cI,dx,Gk]
 |false=>
 cases I:decide (m.kind=26) with
 |true=>
  have hw:IntKind.i64.wrap (m.kind+1)=27:=by rw[Gc I];rfl
  unfold eD
  rw[Gn (Ga B),Gn (Ga j),Gn (Ga o),Gn (Ga u),Gn (Ga y),Gn (Ga z),Gn (Ga D),Gn (Ga E),Gt (Gc I)]
  refine⟨_,?_,pG⟩
  refine aA h rfl ?_
  have w:=HI R c m.shard m.epoch m.text m.of_ m.move sm ht
  generalize hJ c m.shard m.epoch m.text m.of_ m.move=p at *
  have⟨d,b⟩:=p
  simp only[go_sem] at w
  simp only[F452,c452,go_sem,B,j,o,u,y,z,D,E,I,hw,w,ch,cX,dZ,cI,dx,Gk]
 |false=>
 cases L:decide (m.kind=28) with
 |true=>
  have hw:IntKind.i64.wrap (m.kind+1)=29:=by rw[Gc L];rfl
  unfold eD
  rw[Gn (Ga B),Gn (Ga j),Gn (Ga o),Gn (Ga u),Gn (Ga y),Gn (Ga z),Gn (Ga D),Gn (Ga E),Gn (Ga I),Gt (Gc L)]
  refine⟨_,?_,pG⟩
  refine aA h rfl ?_
  have w:=HK S c m.shard m.of_ m.epoch m.move sm
  generalize g0 c m.shard m.of_ m.epoch m.move=p at *
  have⟨d,b⟩:=p
  simp only[go_sem] at w
  simp only[F452,c452,go_sem,B,j,o,u,y,z,D,E,I,L,hw,w,ch,cX,dZ,cI,dx,Gk]
 |false=>
 unfold eD
 rw[Gn (Ga B),Gn (Ga j),Gn (Ga o),Gn (Ga u),Gn (Ga y),Gn (Ga z),Gn (Ga D),Gn (Ga E),Gn (Ga I),Gn (Ga L)]
 refine⟨(c,ch m (m.kind+1),false),?_,LE⟩
 refine aA h rfl ?_
 simp only[F452,c452,go_sem,hw,B,j,o,u,y,z,D,E,I,L,ch,cX,dZ,cI,dx,Gk]
structure oG (S:St) (s:bP) (o:cr) (c:aP) (wall:Int) (m:bC):Prop where
 s1:S.ρ 1=iz wall
 s3:S.ρ 3=.lref 3 0
 m3:S.μ 3=some (YT s,false)
 s5:S.ρ 5=.lref 5 0
 m5:S.μ 5=some (di m,false)
 s6:S.ρ 6=.lref 6 0
 m6:S.μ 6=some ([.int .i64 0,.slice 9 []],false)
 iW:S.ρ 13=.lref 13 0
 dR:S.μ 13=some (eJ o,false)
 iX:S.ρ 14=.lref 14 0
 j0:S.μ 14=some (Yq c,false)
 qI:S.μ 16=none
 qL:S.μ 18=none
 qM:S.μ 19=none
 uz:S.μ 20=none
 uA:S.μ 22=none
 uB:S.μ 23=none
 uC:S.μ 24=none
def tL (Pg:PgT):Prop:=zn Pg/\uV Pg/\Aj Pg/\Al Pg
theorem Ws {c:aP} {t:aB} (j:Yy c=true) (ht:Ya t=true):kD c t=⟨c.shards.map (fe t),c.top,c.dropped⟩:=by
 unfold kD;rw[j,ht]
 rfl
def Wq {c:aP} (j:Yy c=true):∀s∈c.shards,ck s.ents=true:=fun s o=>(pw ((Yv.1 j).2.2.2.2 s o).2.1).1
theorem X1 {c d:aP} (o:Yy c=true) (p:Yy d=true):cB d=cB c↔c=d:=by
 constructor
 ·intro h;have h1:=xQ.2 ⟨rfl,o⟩;have j:=xQ.2 ⟨rfl,p⟩;rw[h,h1] at j;exact Option.some.inj j
 ·rintro rfl;rfl
theorem I9 (h:tL Pg) {s:bP} {o:cr} {c:aP} {wall:Int} {m:bC} {S:St} (hs:s.owns.length<=100000) (ho:dw o.rep) (I:Yy c=true) (W:iT m=true) (ht:m.text.length<=10000) (X:fD 0 s.owns) (U:fZ o.cell=true) (hb:o.rep.base=cB c)
  (e1:¬m.kind=1) (e2:¬m.kind=14) (e3:¬m.kind=30) (hS:oG S s o c wall m) :
  Wp (K' Pg) CO S fun ex S=>(ex=.norm\/ex=.ret)/\jT F415 S=some (kS (eK s o c wall m)):=by
 have⟨Q,M,N,R⟩:=h
 have⟨s1,s3,m3,s5,m5,s6,m6,iW,dR,iX,j0,qI,qL,qM,uz,uA,uB,uC⟩:=hS
 have u:=m3
 have w:=m5
 have j:=dR
 have q:=j0
 simp only[go_sem] at u w j q
 unfold eK
 rw[Gn e1,Gn e2,Gn e3]
 cases P:decide (m.kind=32) with
 |true=>
  rw[Gt (Gc P)]
  have ac:Ya m.at_=true:=by
   rw[Eu] at W;simp only[Ge] at W;exact W.2.2.2.2.1
  have E:=HB Q c m.at_ (YU I).1 (Wq I)
  have hd:Yy (kD c m.at_)=true:=(Ou I).1
  have y:=sy N s o (kD c m.at_) [] hs ho hd (by simp) X U
  unfold yg
  rw[hb]
  have hj:=X1 I hd
  rw[Ws I ac] at hj y hd ⊢
  have ad:=(YU I).1
  simp only[CO,F415,go_sem,s1,s3,u,s5,w,s6,m6,iW,j,iX,q,P]
  unfold l415_0
  refine bu (fun (i:Nat) S=>i<=c.shards.length/\oG S s o c wall m/\S.ρ 21=iz i/\(c.shards.drop i).any frz=c.shards.any frz) (fun i=>c.shards.length-i) 0 ?_ ?_
  ·simp only[nj]
   refine⟨GY _,?_,by simp only[go_sem],rfl⟩
   constructor<;>simp only[go_sem,s1,s3,u,s5,w,s6,m6,iW,j,iX,q,qI,qL,qM,uz,uA,uB,uC]
  ·intro i S ⟨hi,hS,L,B⟩
   have⟨s1,s3,m3,s5,m5,s6,m6,iW,dR,iX,j0,qI,qL,qM,uz,uA,uB,uC⟩:=hS
   have u:=m3
   have w:=m5
   have j:=dR
   have q:=j0
   simp only[go_sem] at u w j q
   cases O:decide ((i:Int)<(c.shards.length:Int)) with
   |false=>
    have aa:i=c.shards.length:=by have:=Ga O;omega
    subst aa
    rw[GQ] at B
    rw[Gn (by rw[<-B];simp)]
    by_cases z:c.shards=c.shards.map (fe m.at_)
    ·have Z:c=⟨c.shards.map (fe m.at_),c.top,c.dropped⟩:=by rw[<-z]
     rw[Gt (hj.2 Z)]
     have D:=Hr M c (YU I)
     rw[<-z] at E
     simp only[go_sem] at E D
     simp only[go_sem,s1,s3,u,s5,w,s6,m6,iW,j,iX,q,uA,L,O,E,D,Gi,Gk]
    ·rw[Gn fun e=>z (by have:=gp aP.shards (hj.1 e);simpa using this)]
     have D:=Bj M c m.at_ (YU I) z
     generalize hp:de s o ⟨c.shards.map (fe m.at_),c.top,c.dropped⟩ []=p at *
     generalize c.shards.map (fe m.at_)=sh at *
     have⟨s',l⟩:=p
     simp only[go_sem,Gk] at E D y
     simp only[go_sem,s1,s3,u,s5,w,s6,m6,iW,j,iX,q,uA,L,O,E,D,y,Gi,Gk]
   |true=>
    have ab:=Yj O
    have⟨x,hx,hdr⟩:=aZ ab
    have T:=inc64q (i:=i) (by omega)
    rw[hdr,List.any_cons] at B
    cases Y:decide (x.phase=2) with
    |true=>
     rw[Gt (by rw[<-B];simp only[frz,Y,jm])]
     simp only[go_sem,s1,s3,u,s5,w,s6,m6,iW,j,iX,q,L,O,hx,Y,Gi,Gk]
    |false=>
     simp only[go_sem,s1,s3,u,s5,w,s6,m6,iW,j,iX,q,L,O,hx,Y,T,Gi]
     refine⟨i+1,by omega,by omega,?_,rfl,by rw[<-B];simp only[frz,Y,G7]⟩
     constructor<;>simp only[go_sem,s1,s3,u,s5,w,s6,m6,iW,j,iX,q,qI,qL,qM,uz,uA,uB,uC]
 |false=>
 rw[Gn (Ga P)]
 have ae:=Km W
 have⟨p,H,q1,q2⟩:=Iv R c m I ht (Em W).2.2 (by omega)
 have hk:=OU (m:=m) I
 unfold EK
 cases J:(eD c m).2.2 with
 |false=>
  rw[J] at q1
  have⟨d,out,ok⟩:=p
  simp only at q1
  subst q1
  simp only[go_sem] at H
  simp only[CO,F415,go_sem,s1,s3,u,s5,w,s6,m6,iW,j,iX,q,uB,uC,P,H,Gl,Gv,Gk]
 |true=>
  have q2:=q2 J
  subst q2
  generalize eD c m=p at *
  have⟨d,out,ok⟩:=p
  simp only at hk J ⊢
  subst J
  have y:=sy N s o d [pV s.id m out] hs ho hk (by simp) X U
  generalize hp:de s o d [pV s.id m out]=p at *
  have⟨s',l⟩:=p
  simp only[go_sem,pV,GA,Gk] at H y
  simp only[CO,F415,go_sem,s1,s3,u,s5,w,s6,m6,iW,j,iX,q,uB,uC,P,H,y,Gw]
def tN (Pg:PgT):Prop:=Ai Pg/\Ah Pg/\zd Pg/\Ak Pg/\H6 Pg/\tL Pg
def V6 {c:aP} {t:aB} (o:Yy c=true) (ht:Ya t=true) (j:aV c.top t=true):pB c t=⟨c.shards,t,c.dropped⟩:=by
 unfold pB later;rw[o,ht];simp only[aV,Gj] at j;rw[GL,Gt rfl,Gt j]
def OB {a b:aB}:aV a b=!decide (Yc b a<=0):=by
 simp only[aV];have:=pz (a:=a) (b:=b);by_cases h:Yc b a<=0<;>simp[h]<;>omega
theorem I6 (h:tN Pg) {s:bP} {o:cr} {c:aP} {wall:Int} {m:bC} {S:St} (hs:s.owns.length<=100000) (ho:dw o.rep) (P:Yy c=true) (Q:iT m=true) (ht:m.text.length<=10000) (O:fD 0 s.owns) (N:fZ o.cell=true) (hb:o.rep.base=cB c)
  (hS:oG S s o c wall m) :
  Wp (K' Pg) pJ S fun ex S=>(ex=.norm\/ex=.ret)/\jT F415 S=some (kS (eK s o c wall m)):=by
 have⟨X,W,U,Y,h6,h7⟩:=h
 have L:=h7.2.2.1
 have um:=fun {S:St}=>I9 (S:=S) (wall:=wall) h7 hs ho P Q ht O N hb
 have⟨s1,s3,m3,s5,m5,s6,m6,iW,dR,iX,j0,qI,qL,qM,uz,uA,uB,uC⟩:=hS
 have w:=m3
 have y:=m5
 have j:=dR
 have q:=j0
 simp only[go_sem] at w y j q
 cases H:decide (m.kind=1) with
 |true=>
  unfold eK
  rw[Gt (Gc H)]
  have z:=Is X (dG s c) wall
  have D:=Hq U c m.shard m.epoch m.req (gA (dG s c) wall).1 wall (YU P)
  have I:=fun a=>BX W s m a
  have hk:Yy (fI c m.shard m.epoch m.req (gA (dG s c) wall).1 wall).1=true:=(PI P).1
  have u:=sy L s o (fI c m.shard m.epoch m.req (gA (dG s c) wall).1 wall).1 [dC s.id m (fI c m.shard m.epoch m.req (gA (dG s c) wall).1 wall).2] hs ho hk (by simp) O N
  unfold yr
  clear hk um
  generalize fI c m.shard m.epoch m.req (gA (dG s c) wall).1 wall=da at *
  generalize gA (dG s c) wall=np at *
  have⟨d,a⟩:=da
  have⟨aL,e⟩:=np
  simp only[dG] at z
  simp only at D u ⊢
  have J:=I {cI with err:=e}
  have B:=I a
  clear I
  generalize ab:de s o d [dC s.id m a]=pp at *
  have⟨ac,l1⟩:=pp
  simp only[go_sem,cI,dx,Gk,GA] at z D J B u
  cases E:decide (e=0) with
  |false=>
   rw[Gt (Ga E)]
   simp only[pJ,F415,go_sem,s1,s3,w,s5,y,s6,m6,iW,j,iX,q,qI,qL,qM,H,z,E,J,cI,dx,GA,Gk]
  |true=>
   rw[Gn (by simpa using Gc E)]
   cases R:decide (a.err=0) with
   |true=>
    rw[Gn (by simp[Gc R])]
    simp only[pJ,F415,go_sem,s1,s3,w,s5,y,s6,m6,iW,j,iX,q,qI,qL,qM,H,z,E,D,R,B,u]
   |false=>
    cases c3:decide (a.err=15) with
    |true=>
     rw[Gn (by simp[Gc c3])]
     simp only[pJ,F415,go_sem,s1,s3,w,s5,y,s6,m6,iW,j,iX,q,qI,qL,qM,H,z,E,D,R,c3,B,u]
    |false=>
     rw[Gt ⟨Ga R,Ga c3⟩]
     simp only[pJ,F415,go_sem,s1,s3,w,s5,y,s6,m6,iW,j,iX,q,qI,qL,qM,H,z,E,D,R,c3,B,GA,Gk]
 |false=>
 cases M:decide (m.kind=14) with
 |true=>
  unfold eK
  rw[Gn (Ga H),Gt (Gc M)]
  have k:=Iu Y s c m P (Em Q).1 (Em Q).2.2
  generalize sQ s.id c m=l at *
  simp only[go_sem] at k
  simp only[pJ,F415,go_sem,s1,s3,w,s5,y,s6,m6,iW,j,iX,q,H,M,k]
 |false=>
 cases T:decide (m.kind=30) with
 |true=>
  unfold eK
  rw[Gn (Ga H),Gn (Ga M),Gt (Gc T)]
  have aa:Ya m.at_=true:=by
   rw[Eu] at Q;simp only[Ge] at Q;exact Q.2.2.2.2.1
  have k6:=K6 h6 c.top m.at_
  unfold Ez
  simp only[go_sem] at k6
  cases E:aV c.top m.at_ with
  |false=>
   rw[E] at k6
   rw[Gt (by rw[OB] at E;simpa using E)]
   simp only[pJ,F415,go_sem,s1,s3,w,s5,y,s6,m6,iW,j,iX,q,uz,H,M,T,k6,mb,cX,dZ,cI,dx,GA,Gk]
  |true=>
   rw[E] at k6
   rw[Gn (by rw[OB] at E;simpa using E)]
   have Z:=(Ov (t:=m.at_) P).1
   rw[V6 P aa E] at Z ⊢
   have u:=sy L s o ⟨c.shards,m.at_,c.dropped⟩ [mb s.id m m.at_] hs ho Z (by simp) O N
   generalize hp:de s o ⟨c.shards,m.at_,c.dropped⟩ [mb s.id m m.at_]=p at *
   have⟨s',l⟩:=p
   simp only[go_sem,mb,cX,dZ,cI,dx,GA,Gk] at u
   simp only[pJ,F415,go_sem,s1,s3,w,s5,y,s6,m6,iW,j,iX,q,uz,H,M,T,k6,u]
 |false=>
  simp only[pJ,F415,go_sem,s1,s3,w,s5,y,s6,m6,iW,j,iX,q,H,M,T]
  refine um (Ga H) (Ga M) (Ga T) ?_
  constructor<;>simp only[go_sem,s1,s3,w,s5,y,s6,m6,iW,j,iX,q,qI,qL,qM,uz,uA,uB,uC]
def zY:=HpC 415 F415<|HpA rI<|HpA Ag<|HpA Mt<|HpA nT<|HpA rS<|HpA rP<|HpA tJ<|HpA rK<|tN
theorem If (h:zY Pg) (s:bP) (wall:Int) (m:bC) (hs:iK s) (an:sD s) (hr:ft s=true) (hq:iT m=true) (ht:m.text.length<=10000) (ha:(Yp s m.n).rep.acks.length<=9000) (ho:(Yp s m.n).outs.length<=9000) :
  K' Pg 415 [.agg (YT s),iz wall,.agg (di m)]=some (kS (wO s wall m)):=by
 have⟨h,aa,ad,al,Q,ae,ac,ak,ab,ai⟩:=h
 have af:=ai.2.1
 have u:=vX aa s m.n (by have:=hs.1;omega)
 have ao:=Km hq
 have ap:=XH hq
 unfold wO
 refine aA h rfl ?_
 have hF:F415.body=c415:=rfl
 rw[hF,c415]
 cases J:decide (35<=m.kind) with
 |true=>
  rw[Gt (Gc J)]
  have U:=Ir ad s m hs hr ha (by omega) ho (by omega) ht
  generalize nk s m=p at *
  have⟨s',l⟩:=p
  simp only[go_sem] at u U
  simp only[F415,go_sem,u,J,U]
 |false=>
 rw[Gn (Ga J)]
 have X:s.owns.length<=100000:=by have:=hs.1;omega
 have ah:=PH hr
 cases M:decide (m.kind=33) with
 |true=>
  rw[Gt (Gc M)]
  unfold yf
  rcases dI (p:=ia m.n) (l:=s.owns) (i:=0) with⟨h1,B,W⟩|⟨j,x,h1,B,W,h4⟩
  ·have y:(dB s m.n).isSome=false:=by unfold dB;rw[B];rfl
   rw[h1] at u
   rw[y,Gn (by simp)]
   simp only[go_sem] at u
   simp only[F415,go_sem,u,J,M,Gk]
  ·have P:Yp s m.n=x:=by unfold Yp dB;rw[W];rfl
   have y:(dB s m.n).isSome=true:=by unfold dB;rw[W];rfl
   rw[h1,j8] at u
   rw[y,Gt rfl,KA,P]
   have L:=List.mem_of_getElem? B
   obtain⟨r1,r2,r3,r4,-⟩:=Cf hr x L
   have am:fZ m.n=true:=by rw[<-P,KA] at r4;exact r4
   have⟨Y,o2,o3⟩:=hs.2 x L
   have R:decide ((j:Int)<0)=false:=Gp (by omega)
   have N:=Vs al x.rep m.epoch m.mem Y.ok Y.1 (by omega)
   have⟨l1,l2,l3,l4⟩:=KQ (r:=x.rep) (v:=m.epoch) (l:=m.mem) Y.1 (by omega)
   have aj:dw (Y4 x.rep m.epoch m.mem).1:=⟨l1,by have:=Y.2;omega⟩
   have w:=mH Q _ aj
   have E:=wc ac m.n _ l4 (by omega)
   have H:=wd ae s ⟨m.n,(Y4 x.rep m.epoch m.mem).1,[]⟩ (by omega) ah am
   have X:(Y5 m.n (Y4 x.rep m.epoch m.mem).2.1).length<=10000:=by simpa [Y5] using l3
   have ag:=Wo (r:=x.rep) (v:=m.epoch) (l:=m.mem)
   clear l1 l2 l3 l4 aj
   generalize Y4 x.rep m.epoch m.mem=p at *
   have⟨r,wl,e⟩:=p
   simp only[uh] at N
   simp only at w E H X ag ⊢
   generalize Y5 m.n wl=sl at *
   have T:sl.length+1<=aU:=by unfold aU;omega
   simp only[go_sem,Gk] at u N w E H
   cases c1:decide (e=0) with
   |false=>
    rw[Gt (Ga c1)]
    simp only[F415,go_sem,u,J,M,R,B,N,c1,Gk]
   |true=>
    rw[Gn (by simpa using Gc c1)]
    rw[Co (ag (Gc c1))] at w
    cases c2:YI r with
    |true=>
     rw[c2] at w
     simp only[F415,go_sem,u,J,M,R,B,N,c1,w,E,H,T,Gi,Gz,GA,Gk,Gf,sV,cX,dZ,cI,dx,Gw]
    |false=>
     rw[c2] at w
     simp only[F415,go_sem,u,J,M,R,B,N,c1,w,E,H,T,Gi,Gz,GA,Gk,Gf,sV,cX,dZ,cI,dx,Gl,Gv]
 |false=>
 rw[Gn (Ga M)]
 have I:=BX af s m {cI with err:=10}
 unfold ED
 rcases dI (p:=ia m.n) (l:=s.owns) (i:=0) with⟨h1,B,W⟩|⟨j,x,h1,B,W,h4⟩
 ·have y:(dB s m.n).isSome=false:=by unfold dB;rw[B];rfl
  rw[h1] at u
  rw[y,Gn (by simp)]
  simp only[go_sem,cI,dx,Gk] at u I
  cases O:decide (m.kind=1) with
  |true=>
   rw[Gt (Gc O)]
   simp only[F415,go_sem,u,J,M,O,I,cI,dx,GA,Gk]
  |false=>
   rw[Gn (Ga O)]
   simp only[F415,go_sem,u,J,M,O,Gk]
 ·have P:Yp s m.n=x:=by unfold Yp dB;rw[W];rfl
  have y:(dB s m.n).isSome=true:=by unfold dB;rw[W];rfl
  rw[h1,j8] at u
  rw[y,P,Gy]
  have L:=List.mem_of_getElem? B
  obtain⟨r1,r2,r3,r4,-⟩:=Cf hr x L
  have⟨Y,o2,o3⟩:=hs.2 x L
  have R:decide ((j:Int)<0)=false:=Gp (by omega)
  have z:=vW ak x.rep
  have w:=mH Q x.rep Y
  rw[Co r1] at w
  have D:=sw ab x.rep.base (an x L).1
  simp only[go_sem,cI,dx,Gk] at u I z w
  cases dl:Yl x.rep with
  |false=>
   rw[dl] at z
   rw[Gn (by simp)]
   cases O:decide (m.kind=1) with
   |true=>
    rw[Gt (Gc O)]
    simp only[F415,go_sem,u,J,M,R,B,z,O,I,cI,dx,GA,Gk]
   |false=>
    rw[Gn (Ga O)]
    simp only[F415,go_sem,u,J,M,R,B,z,O,Gk]
  |true=>
  rw[dl] at z
  rw[Gt rfl]
  cases db:YI x.rep with
  |true=>
   rw[db] at w
   rw[Gt rfl]
   simp only[F415,go_sem,u,J,M,R,B,z,w,Gk]
  |false=>
  rw[db] at w
  rw[Gn (by simp)]
  have Z:=r2
  simp only[eS] at Z
  cases q:gG x.rep.base with
  |none=>rw[q] at Z;cases Z
  |some c=>
   rw[q] at D
   have⟨hb,hc⟩:=xQ.1 q
   have tl:=fun {S:St}=>I6 (S:=S) (s:=s) (o:=x) (c:=c) (wall:=wall) (m:=m) ai X Y hc hq ht ah r4 hb
   simp only[jY] at D
   simp only[go_sem] at D
   simp only[F415,go_sem,u,J,M,R,B,z,w,D]
   refine tl ?_
   constructor<;>simp only[go_sem]
theorem Pw {c:Int} {d:aH}:∀{t:List aH},Yo t c=some d->d∈t
 |[],h=>by simp[Yo] at h
 |x::l,h=>by
  simp only[Yo] at h;split at h
  ·cases h;exact .head _
  ·exact .tail _ (Pw h)
def Ze {t:List aH} {c:Int} (h:YA t=true):((oS t c).getD YR).ans.items=[]:=by
 unfold oS;rw[Gt h];cases q:Yo t c with
 |none=>rfl
 |some d=>
  simp only[YA,Ge] at h;have:=wy h.1 d (Pw q);simp only[cm,nn,Ge,Gj] at this;exact this.2.2.2.2.2.2.1
def Zd {l:List aF} {lo hi:mp} {s:aB} {n:Int}:(lZ l lo hi s n).1.length<=n.toNat:=by
 unfold lZ wV;split
 ·assumption
 ·simp only[GK];omega
def Xt {c:aP} {n e:Int} {r:Rq} {aL:aB} {w:Int}:(fI c n e r aL w).2.items.length<=8:=by
 have j:∀e,(aE e).items.length<=8:=fun e=>by simp[aE]
 unfold fI;split
 ·rename_i p;simp only[Ge] at p;obtain⟨p,-,-,-,-,z⟩:=p;cases q:Y3 c.shards n with
  |none=>exact j _
  |some s=>
   have B:=((Yv.1 p).2.2.2.2 s (Ys q).1).2.1;have D:0<=r.limit/\r.limit<=8:=by
    simp only[df,Ge,Gj] at z;omega
   have u:(fy s r.key c.top).items.length<=8:=by
    unfold fy;split<;>simp[aE]
   simp only;split
   ·exact j _
   ·split
    ·exact j _
    ·split
     ·have y:∀o,(dM o r aL).items.length<=8:=fun o=>by unfold dM;split<;>simp
      unfold YO;split
      ·rw[Ze (xR B).2.2.2.1];simp
      ·split
       ·exact j _
       ·split
        ·exact j _
        ·split
         ·exact j _
         ·split
          ·exact j _
          ·exact y _
     ·split
      ·exact u
      ·unfold iv;split
       ·exact j _
       ·split
        ·exact j _
        ·simp only;split
         ·unfold ul;split<;>simp
         ·have E:=Zd (l:=s.ents) (lo:=r.key) (hi:=C6 s r) (s:=r.at_) (n:=r.limit);unfold yh;simp only;split<;>(simp only;omega)
 ·exact j _
def Ll {c:Int} {l:List bI} {n:Nat} (o:n<=10000) (h:∀w∈l,w.members.length<=n):∀x∈Y5 c l,i5 x:=fun x j=>by
 simp only[Y5,nH] at j;obtain⟨w,hw,rfl⟩:=j;have:=h w hw;refine⟨by simp[ym,cX,cI],by simp[ym,cX],?_⟩;simp only[ym];omega
def K1 {r:bG}:∀w∈YM r,w.members.length<=r.members.length:=fun w hw=>by rw[VX hw];exact GC _
def i4 (p:bP×List bC):Prop:=iK p.1/\p.2.length<=10000/\∀x∈p.2,i5 x
def sI {s:bP} (h:iK s):i4 (s,[]):=⟨h,by simp,fun x j=>by cases j⟩
def PW {s:bP} {o:cr} (h:iK s) (p:s.owns.length<=9999) (j:yl o):iK ⟨s.id,eZ s.owns o⟩:=by
 refine⟨by have:=Ke (o:=o) (l:=s.owns);simp only;omega,fun x hx=>?_⟩;rcases KF hx with rfl|hx
 ·exact j
 ·exact h.2 x hx
def Ev {s:bP} {x:bC} (h:iK s) (j:i5 x):i4 (s,[x]):=⟨h,by simp,fun y o=>by
 have:y=x:=by simpa using o
 subst this;exact j⟩
def Ei {id:Int} {m:bC} {a:eE} (h:a.items.length<=10000):i5 (dC id m a):=⟨by simpa [dC] using h,by simp[dC,cX],by simp[dC,cX]⟩
def PT {s:bP} {o:cr} {c:aP} {outs:List bC} (h:iK s) (z:s.owns.length<=9999) (B:yl o) (p:outs.length<=1) (q:∀x∈outs,i5 x) (hm:o.rep.members.length<=9000) (E:o.rep.acks.length<=9000):i4 (de s o c outs):=by
 have⟨D,H,I,J⟩:=KD (t:=cB c) B.1.1;unfold de;split
 ·exact sI h
 ·have hw:∀w∈(Yr o.rep (cB c)).2.1,w.members.length<=o.rep.members.length:=by
   unfold Yr;split
   ·split
    ·split
     ·split
      ·intro w hw;cases hw
      ·exact K1
     ·intro w hw;cases hw
    ·intro w hw;cases hw
   ·intro w hw;cases hw
  have y:(Yr o.rep (cB c)).2.1.length<=9000:=by
   unfold Yr;split
   ·split
    ·split
     ·split
      ·simp
      ·exact GI xK hm
     ·simp
    ·simp
   ·simp
  have u:∀(b:Bool),(if b then outs else []).length<=1/\∀x∈(if b then outs else []),i5 x:=fun b=>by
   cases b with
   |false=>exact⟨by simp,fun x hx=>by cases hx⟩
   |true=>exact⟨p,q⟩
  have j:∀(b:Bool),(if b then [] else outs).length<=1/\∀x∈(if b then [] else outs),i5 x:=fun b=>by
   cases b with
   |true=>exact⟨by simp,fun x hx=>by cases hx⟩
   |false=>exact⟨p,q⟩
  refine⟨PW h z ⟨⟨D,by simp only;omega⟩,by have:=(u (YI (Yr o.rep (cB c)).1)).1;simp only;omega,(u (YI (Yr o.rep (cB c)).1)).2⟩,?_,fun x hx=>?_⟩
  ·have:=(j (YI (Yr o.rep (cB c)).1)).1;simp only[Gf,Y5,Gi];omega
  ·rcases GS.1 hx with hx|hx
   ·exact Ll (by omega) hw x hx
   ·exact (j _).2 x hx
def XX {c:aP} {m:bC}:(eD c m).2.1.ans=cI/\(eD c m).2.1.places=[]/\(eD c m).2.1.mem=[]:=by
 have z:∀k,(ch m k).ans=cI/\(ch m k).places=[]/\(ch m k).mem=[]:=fun k=>⟨rfl,rfl,rfl⟩;unfold eD;split
 ·exact⟨rfl,rfl,rfl⟩
 split
 ·exact⟨rfl,rfl,rfl⟩
 split
 ·exact⟨rfl,rfl,rfl⟩
 split
 ·cases mR m.text<;>exact⟨rfl,rfl,rfl⟩
 split
 ·exact z _
 split
 ·exact z _
 split
 ·exact⟨rfl,rfl,rfl⟩
 split
 ·exact z _
 split
 ·exact z _
 split
 ·exact z _
 ·exact z _
def W8 {s:bP} {o:cr} {c:aP} {wall:Int} {m:bC} (h:iK s) (z:s.owns.length<=9999) (B:yl o) (hm:o.rep.members.length<=9000) (u:o.rep.acks.length<=9000):i4 (eK s o c wall m):=by
 have q:∀(d:aP) (x:bC),i5 x->i4 (de s o d [x]):=fun d x j=>PT h z B (by simp) (fun y p=>by
  have:y=x:=by simpa using p
  subst this;exact j) hm u
 have sl:∀t,i5 (mb s.id m t):=fun t=>⟨by simp[mb,cX,cI],by simp[mb,cX],by simp[mb,cX]⟩;unfold eK;split
 ·unfold yr;split
  ·exact Ev h (Ei (by simp[cI]))
  ·have:=Xt (c:=c) (n:=m.shard) (e:=m.epoch) (r:=m.req) (aL:=(gA (dG s c) wall).1) (w:=wall);split
   ·exact Ev h (Ei (by omega))
   ·exact q _ _ (Ei (by omega))
 split
 ·refine⟨h,?_,?_⟩
  ·unfold sQ;cases YP c m.shard with
   |none=>simp
   |some x=>
    simp only;unfold CJ;split
    ·split<;>simp
    ·simp
  ·unfold sQ;cases YP c m.shard with
   |none=>intro x j;cases j
   |some x=>
    simp only;unfold CJ;split
    ·split
     ·rename_i t _;intro y p;have:y=wM s.id m (ji (cW x)).length t:=by simpa using p
      subst this;exact⟨by simp[wM,cX,cI],by simp[wM,cX],by simp[wM,cX]⟩
     ·intro x j;cases j
    ·intro x j;cases j
 split
 ·unfold Ez;split
  ·exact Ev h (sl _)
  ·exact q _ _ (sl _)
 split
 ·unfold yg;split
  ·exact sI h
  ·split
   ·exact sI h
   ·exact PT h z B (by simp) (fun x j=>by cases j) hm u
 ·unfold EK;split
  ·have⟨D,E,H⟩:=XX (c:=c) (m:=m);exact q _ _ ⟨by simp[pV,D,cI],by simp[pV,E],by simp[pV,H]⟩
  ·exact sI h
def XC {k n t:Nat} {s:bP} {wall:Int} {m:bC} (j:Bd k n t s) (y:k<=9000) (J:n<=4000) (hm:m.mem.length<=4000) (ht:m.text.length<=t):i4 (wO s wall m):=by
 have h:iK s:=j.ok (by omega) (by omega);have I:s.owns.length<=9000:=GI j.1 y;obtain⟨D,E,p,-,-,q⟩:=j.find m.n;have u:yl (Yp s m.n):=Cw h;unfold wO;split
 ·have hw:=WJ (k:=k) (n:=max n 4000) (t:=t) (s:=s) (m:=m) ⟨j.1,fun o z=>by
   have⟨a,b,c,d,e,f⟩:=j.2 o z;exact⟨by omega,by omega,by omega,d,e,f⟩⟩ (by omega) ht
  refine⟨hw.ok (by omega) (by omega),?_,?_⟩
  ·unfold nk;split
   ·simp
   ·split
    ·simp
    ·have:=(D4 (r:=(Yp s m.n).rep) (w:=jW m)).1;have H:(oR (Yp s m.n) (ef s m).1).length<=n:=by
      unfold oR;split
      ·exact p
      ·simp
     simp only[Gf,Y5,Gi];unfold ef at *
     omega
  ·unfold nk;split
   ·intro x hx;cases hx
   ·split
    ·intro x hx;cases hx
    ·intro x hx;rcases GS.1 hx with hx|hx
     ·refine Ll (n:=0) (by omega) (fun w hw=>?_) x hx;rw[((D4 (r:=(Yp s m.n).rep) (w:=jW m)).2 w hw).2];simp
     ·unfold oR at hx;split at hx
      ·exact q x hx
      ·cases hx
 ·split
  ·unfold yf;split
   ·split
    ·exact sI h
    ·have⟨B,L,M,N⟩:=KQ (r:=(Yp s m.n).rep) (v:=m.epoch) (l:=m.mem) (by omega) (by omega);have hw:(∀w∈(Y4 (Yp s m.n).rep m.epoch m.mem).2.1,w.members.length<=4000)/\(Y4 (Yp s m.n).rep m.epoch m.mem).2.1.length<=4000:=by
      unfold Y4;split
      ·split
       ·exact⟨fun w hw=>GI (K1 w hw) (by omega),GI xK (by omega)⟩
       ·split
        ·exact⟨fun w hw=>(by cases hw),by simp⟩
        ·split
         ·exact⟨fun w hw=>(by cases hw),by simp⟩
         ·exact⟨fun w hw=>GI (K1 w hw) (by simpa [YH] using hm),GI xK (by simpa [YH] using hm)⟩
      ·exact⟨fun w hw=>(by cases hw),by simp⟩
     refine⟨PW h (by omega) ⟨⟨B,by simp only;omega⟩,by simp,fun x hx=>by cases hx⟩,?_,fun x hx=>?_⟩
     ·simp only[Gf,Y5,Gi,List.length_cons,List.length_nil];omega
     ·rcases GS.1 hx with hx|hx
      ·exact Ll (by omega) hw.1 x hx
      ·have:x=sV s.id m (YI (Y4 (Yp s m.n).rep m.epoch m.mem).1):=by simpa using hx
       subst this;exact⟨by simp[sV,cX,cI],by simp[sV,cX],by simp[sV,cX]⟩
   ·exact sI h
  ·unfold ED;split
   ·split
    ·exact sI h
    ·split
     ·exact W8 h (by omega) u (by omega) (by omega)
     ·exact sI h
   ·split
    ·exact Ev h (Ei (by simp[cI]))
    ·exact sI h
def zW:=HpC 412 F412<|HpA zT<|HpA zV<|HpA vi<|HpA vm<|HpA zX<|HpA vp<|HpA vt<|HpA zU<|HpA zY<|vj
theorem Ie (h:zW Pg) (s:bP) (wall:Int) (m:bC) (hl:s.owns.length<=1048576):K' Pg 412 [.agg (YT s),iz wall,.agg (di m)]=some (.bool true):=by
 have⟨h,N,ac,Z,ab,H,ad,ae,O,af,aa⟩:=h;have w:=BE N s hl;have j:=Ia ac s;have q:=Bz Z m;have z:=H9 ab;simp only[go_sem] at w j q;refine aA h rfl ?_;cases U:uj s with
 |false=>
  rw[U] at j;simp only[F412,c412,go_sem,w,j,z]
 |true=>
 rw[U] at j;cases c2:pe m with
 |false=>
  rw[c2] at q;simp only[F412,c412,go_sem,w,j,q,z]
 |true=>
 rw[c2] at q;have⟨I,ao,aq⟩:=Ku U;have M:=WG U;have ai:=WF U;obtain⟨an,-⟩:=Pu c2;obtain⟨ap,am⟩:m.mem.length<=40/\m.text.length<=8192:=by simp only[pe,Ge,Gj] at c2;omega
 have P:rH Pg:=H.1.2.1;have ag:nU Pg:=H.2.2.2.2.2.2.1;have ah:rO Pg:=P.2.2.2.1;have aj:=Ic P s I M;obtain⟨f1,f2,f3,-⟩:=ai.find m.n;have E:=BM H s wall m I aj (by omega) (by omega) an (by omega) (fun _=>wa ah m.text (by omega)) (fun o ho _=>BT ag _ (M o ho).1);have y:=Ib ad s I M;have B:=BO ae m;have D:=BG O s I;simp only[go_sem] at y B D;have bad:fT s wall m=false->K' Pg 413 [.agg (YT s),iz wall,.agg (di m)]=some (kS (s,[])):=fun hb=>by rw[E,hb];rfl
 cases W:ft s with
 |false=>
  have k:=bad (by simp only[fT,W,Gm]);rw[W] at y;simp only[go_sem,Gk] at k;simp only[F412,c412,go_sem,w,j,q,k,y,D,z]
 |true=>
 rw[W] at y;cases X:iT m with
 |false=>
  have k:=bad (by simp only[fT,X,Gm,Gq]);rw[X] at B;simp only[go_sem,Gk] at k;simp only[F412,c412,go_sem,w,j,q,k,y,B,D,z]
 |true=>
 rw[X] at B;cases T:decide (wall<0) with
 |true=>
  have k:=bad (by simp only[fT,T,Gx,Gm,Gq]);simp only[go_sem,Gk] at k;simp only[F412,c412,go_sem,w,j,q,k,y,B,T,D,z]
 |false=>
 cases Y:decide (1099511627776<wall) with
 |true=>
  have k:=bad (by simp only[fT,Y,Gx,Gm,Gq]);simp only[go_sem,Gk] at k;simp only[F412,c412,go_sem,w,j,q,k,y,B,T,Y,D,z]
 |false=>
 cases d5:decide (m.to=s.id) with
 |false=>
  have k:=bad (by simp only[fT,d5,Gq]);simp only[go_sem,Gk] at k;simp only[F412,c412,go_sem,w,j,q,k,y,B,T,Y,d5,D,z]
 |true=>
  have hk:fT s wall m=true:=by simp only[fT,W,X,T,Y,d5];rfl
  rw[hk,Gt rfl] at E;have R:=If af s wall m I M W X (by omega) (by omega) (by omega);have⟨S,ak,al⟩:=XC (wall:=wall) (m:=m) ai (by omega) (by omega) (by omega) am;generalize wO s wall m=p at *
  have⟨u,l⟩:=p;simp only at S ak al;have J:=BE N u (by have:=S.1;omega);have L:=BG O u S;have Q:=BB aa l ak al;simp only[go_sem] at E R J L Q;simp only[F412,c412,go_sem,w,j,q,E,y,B,T,Y,d5,R,J,L,Q,z]
end Sg
namespace Sg
open _root_.Go
variable {N:Nat}
def Y7 {k:IntKind} {x:V} (h:eo N (.int k) x):∃n,x=.int k n/\(Lit.int k n).wf=true:=by cases h;exact⟨_,rfl,by assumption⟩
def Kt {x:V} (h:eo N .bool x):∃b,x=.bool b:=by cases h;exact⟨_,rfl⟩
def mM {x:V} (h:eo N .str x):∃s,x=.str s/\s.length<=N:=by cases h;exact⟨_,rfl,by assumption⟩
def Cu {r:List CT} {x:V} (h:eo N (.slice r) x):∃rows:List Eq,x=.slice r.length rows/\rows.length<=N/\∀jQ∈rows,tP N r jQ:=by
 cases h with
 |slice r rows u hz h=>
  refine⟨rows,rfl,u,fun jQ o=>?_⟩;obtain⟨i,hi,rfl⟩:=List.getElem_of_mem o;have p:gr rows i=rows[i]:=by simp[gr,hi]
  exact⟨by rw[<-p];exact hz i hi,fun j q=>by rw[<-p];exact h i j hi q⟩
theorem xW {α:Type} {enc:α->Eq} {Q:α->Prop}:∀{rows:List Eq},(∀jQ∈rows,∃a,jQ=enc a/\Q a)->∃l:List α,rows=l.map enc/\∀a∈l,Q a
 |[],_=>⟨[],rfl,fun a j=>by simp at j⟩
 |jQ::rows,h=>by
  obtain⟨a,rfl,j⟩:=h jQ (by simp);obtain⟨l,rfl,o⟩:=xW (rows:=rows) (fun r p=>h r (by simp[p]));exact⟨a::l,rfl,fun b hb=>by
   rcases GH.1 hb with rfl|hb
   ·exact j
   ·exact o b hb⟩
def sY {x:V} (h:iZ N (false,[.int .i64]) x):∃n,x=iz n/\(Lit.int .i64 n).wf=true:=by
 have⟨c,j,h⟩:=h;simp only[qZ,and_true] at j;subst j;exact Y7 h
abbrev CS:List CT:=[.int .i64]
def XP {N:Nat} {xs:Eq} (h:tP N CS xs):∃s,xs=Qx s:=by
 have⟨o,j⟩:=h
 match xs,o with
 |[x0],_=>
  obtain⟨p,h0,-⟩:=Y7 (j 0 (by simp));simp[gv] at h0;subst h0;exact⟨p,rfl⟩
def KM {N:Nat} {x:V} (h:eo N (.slice CS) x):∃l,x=Yi l/\l.length<=N:=by
 obtain⟨rows,rfl,p,q⟩:=Cu h;obtain⟨l,rfl,-⟩:=xW (enc:=Qx) (Q:=fun _=>True) (fun o j=>by have⟨v,u⟩:=XP (q o j);exact⟨v,u,GN⟩);exact⟨l,rfl,by simpa using p⟩
abbrev LP:List CT:=[.str,.str,.int .i64,.int .i64,.int .i64]
def XQ {N:Nat} {xs:Eq} (h:tP N LP xs):∃s,xs=C2 s:=by
 have⟨u,j⟩:=h
 match xs,u with
 |[x0,x1,x2,x3,x4],_=>
  obtain⟨w,h0,-⟩:=mM (j 0 (by simp));obtain⟨y,h1,-⟩:=mM (j 1 (by simp));obtain⟨z,o,-⟩:=Y7 (j 2 (by simp));obtain⟨B,p,-⟩:=Y7 (j 3 (by simp));obtain⟨D,q,-⟩:=Y7 (j 4 (by simp));simp[gv] at h0 h1 o p q;subst h0;subst h1;subst o;subst p;subst q;exact⟨⟨⟨w,y⟩,z,B,D⟩,rfl⟩
def XA {N:Nat} {x:V} (h:eo N (.slice LP) x):∃l,x=kF l/\l.length<=N:=by
 obtain⟨rows,rfl,p,q⟩:=Cu h;obtain⟨l,rfl,-⟩:=xW (enc:=C2) (Q:=fun _=>True) (fun o j=>by have⟨v,u⟩:=XQ (q o j);exact⟨v,u,GN⟩);exact⟨l,rfl,by simpa using p⟩
abbrev LC:List CT:=[.str,.str]
def Xg {N:Nat} {xs:Eq} (h:tP N LC xs):∃s,xs=EI s:=by
 have⟨o,j⟩:=h
 match xs,o with
 |[x0,x1],_=>
  obtain⟨p,h0,-⟩:=mM (j 0 (by simp));obtain⟨q,h1,-⟩:=mM (j 1 (by simp));simp[gv] at h0 h1;subst h0;subst h1;exact⟨⟨p,q⟩,rfl⟩
def WP {N:Nat} {x:V} (h:eo N (.slice LC) x):∃l,x=YB l/\l.length<=N:=by
 obtain⟨rows,rfl,p,q⟩:=Cu h;obtain⟨l,rfl,-⟩:=xW (enc:=EI) (Q:=fun _=>True) (fun o j=>by have⟨v,u⟩:=Xg (q o j);exact⟨v,u,GN⟩);exact⟨l,rfl,by simpa using p⟩
abbrev jk:List CT:=[.int .i64,.int .i64,.int .i64,.int .i64,.int .i64,.int .i64,.int .i64,.int .i64,.int .i64,.int .i64,.int .i64,.int .i64,.str,.int .i64,.int .i64,.int .i64,.str,.str,.bool,.str,.int .i64,.int .i64,.int .i64,.str,.int .i64,.int .i64,.int .i64,.int .i64,.int .i64,.bool,.str,.slice LC,.str,.bool,.slice LP,.slice CS]
def Pl {N:Nat} {xs:Eq} (h:tP N jk xs):∃s,xs=di s:=by
 have⟨hl,j⟩:=h
 match xs,hl with
 |x0::x1::x2::x3::x4::x5::x6::x7::x8::x9::x10::x11::x12::x13::x14::x15::x16::x17::x18::x19::x20::x21::x22::x23::x24::x25::x26::x27::x28::x29::x30::x31::x32::x33::x34::x35::[],_=>
  obtain⟨y0,h0,-⟩:=Y7 (j 0 (by simp));obtain⟨y1,h1,-⟩:=Y7 (j 1 (by simp));obtain⟨y2,h2,-⟩:=Y7 (j 2 (by simp));obtain⟨y3,h3,-⟩:=Y7 (j 3 (by simp));obtain⟨y4,h4,-⟩:=Y7 (j 4 (by simp));obtain⟨y5,h5,-⟩:=Y7 (j 5 (by simp));obtain⟨y6,h6,-⟩:=Y7 (j 6 (by simp));obtain⟨y7,h7,-⟩:=Y7 (j 7 (by simp));obtain⟨y8,h8,-⟩:=Y7 (j 8 (by simp));obtain⟨y9,h9,-⟩:=Y7 (j 9 (by simp));obtain⟨aa,o,-⟩:=Y7 (j 10 (by simp));obtain⟨ab,p,-⟩:=Y7 (j 11 (by simp));obtain⟨ac,q,-⟩:=mM (j 12 (by simp));obtain⟨ad,u,-⟩:=Y7 (j 13 (by simp));obtain⟨ae,w,-⟩:=Y7 (j 14 (by simp));obtain⟨af,y,-⟩:=Y7 (j 15 (by simp));obtain⟨ag,z,-⟩:=mM (j 16 (by simp));obtain⟨ah,B,-⟩:=mM (j 17 (by simp));have⟨ai,D⟩:=Kt (j 18 (by simp));obtain⟨aj,E,-⟩:=mM (j 19 (by simp));obtain⟨ak,H,-⟩:=Y7 (j 20 (by simp));obtain⟨al,I,-⟩:=Y7 (j 21 (by simp));obtain⟨am,J,-⟩:=Y7 (j 22 (by simp));obtain⟨an,L,-⟩:=mM (j 23 (by simp));obtain⟨ao,M,-⟩:=Y7 (j 24 (by simp));obtain⟨ap,O,-⟩:=Y7 (j 25 (by simp));obtain⟨aq,P,-⟩:=Y7 (j 26 (by simp));obtain⟨ar,Q,-⟩:=Y7 (j 27 (by simp));obtain⟨au,R,-⟩:=Y7 (j 28 (by simp));have⟨av,S⟩:=Kt (j 29 (by simp));obtain⟨ax,T,-⟩:=mM (j 30 (by simp));obtain⟨ay,U,-⟩:=WP (j 31 (by simp));obtain⟨az,W,-⟩:=mM (j 32 (by simp));have⟨a0,X⟩:=Kt (j 33 (by simp));obtain⟨a1,Y,-⟩:=XA (j 34 (by simp));obtain⟨a2,Z,-⟩:=KM (j 35 (by simp));simp[gv] at h0 h1 h2 h3 h4 h5 h6 h7 h8 h9 o p q u w y z B D E H I J L M O P Q R S T U W X Y Z;subst h0;subst h1;subst h2;subst h3;subst h4;subst h5;subst h6;subst h7;subst h8;subst h9;subst o;subst p;subst q;subst u;subst w;subst y;subst z;subst B;subst D;subst E;subst H;subst I;subst J;subst L;subst M;subst O;subst P;subst Q;subst R;subst S;subst T;subst U;subst W;subst X;subst Y;subst Z;exact⟨⟨y0,y1,y2,y3,y4,y5,y6,y7,y8,⟨y9,aa,ab⟩,ac,⟨ad,ae,af,ag,ah,ai,aj,⟨ak,al,am⟩,an,ao⟩,⟨ap,⟨aq,ar,au⟩,av,ax,ay,az,a0⟩,a1,a2⟩,rfl⟩
def WQ {N:Nat} {x:V} (h:eo N (.slice jk) x):∃l,x=jy l/\l.length<=N:=by
 obtain⟨rows,rfl,p,q⟩:=Cu h;obtain⟨l,rfl,-⟩:=xW (enc:=di) (Q:=fun _=>True) (fun o j=>by have⟨v,u⟩:=Pl (q o j);exact⟨v,u,GN⟩);exact⟨l,rfl,by simpa using p⟩
def oW {N:Nat} {x:V} (h:iZ N (true,jk) x):∃s,x=.agg (di s):=by
 obtain⟨xs,rfl,h⟩:=h;obtain⟨s,rfl⟩:=Pl h;exact⟨s,rfl⟩
abbrev EJ:List CT:=[.int .i64,.int .i64,.int .i64,.slice CS,.int .i64,.str,.str,.slice CS,.slice jk]
def Xh {N:Nat} {xs:Eq} (h:tP N EJ xs):∃s,xs=eJ s:=by
 have⟨B,j⟩:=h
 match xs,B with
 |[x0,x1,x2,x3,x4,x5,x6,x7,x8],_=>
  obtain⟨D,h0,-⟩:=Y7 (j 0 (by simp));obtain⟨E,h1,-⟩:=Y7 (j 1 (by simp));obtain⟨H,o,-⟩:=Y7 (j 2 (by simp));obtain⟨I,p,-⟩:=KM (j 3 (by simp));obtain⟨J,q,-⟩:=Y7 (j 4 (by simp));obtain⟨L,u,-⟩:=mM (j 5 (by simp));obtain⟨M,w,-⟩:=mM (j 6 (by simp));obtain⟨O,y,-⟩:=KM (j 7 (by simp));obtain⟨P,z,-⟩:=WQ (j 8 (by simp));simp[gv] at h0 h1 o p q u w y z;subst h0;subst h1;subst o;subst p;subst q;subst u;subst w;subst y;subst z;exact⟨⟨D,⟨E,H,I,J,L,M,O⟩,P⟩,rfl⟩
def OG {N:Nat} {x:V} (h:eo N (.slice EJ) x):∃l,x=CQ l/\l.length<=N:=by
 obtain⟨rows,rfl,p,q⟩:=Cu h;obtain⟨l,rfl,-⟩:=xW (enc:=eJ) (Q:=fun _=>True) (fun o j=>by have⟨v,u⟩:=Xh (q o j);exact⟨v,u,GN⟩);exact⟨l,rfl,by simpa using p⟩
abbrev mq:List CT:=[.int .i64,.slice EJ]
def Xi {N:Nat} {xs:Eq} (h:tP N mq xs):∃s,xs=YT s:=by
 have⟨o,j⟩:=h
 match xs,o with
 |[x0,x1],_=>
  obtain⟨p,h0,-⟩:=Y7 (j 0 (by simp));obtain⟨q,h1,-⟩:=OG (j 1 (by simp));simp[gv] at h0 h1;subst h0;subst h1;exact⟨⟨p,q⟩,rfl⟩
def mS {N:Nat} {x:V} (h:iZ N (true,mq) x):∃s:bP,x=.agg (YT s)/\s.owns.length<=N:=by
 obtain⟨xs,rfl,h⟩:=h;obtain⟨s,rfl⟩:=Xi h;refine⟨s,rfl,?_⟩;have h1:=h.2 1 (by simp);have h1:eo N (.slice EJ) (CQ s.owns):=h1;have⟨l,o,p⟩:=OG h1;have j:=gp (fun v=>match v with|V.slice _ r=>r.length|_=>0) o;simp only[CQ,Gi] at j;omega
end Sg
namespace Sg
open _root_.Go _root_.Go.Proofs
def t400:vm (look storeTab):=bw rfl (bw rfl (bw rfl (bw rfl (bw rfl (bw rfl (bw rfl (bw rfl (bw rfl (bw rfl (bw rfl (bw rfl (bw rfl (bw rfl (bw rfl (bw rfl (bw rfl (bw rfl (bw rfl (bw rfl (bw rfl (bw rfl (bw rfl (bw rfl (bw rfl (bw rfl (bw rfl (bw rfl (bw rfl (bw rfl (bw rfl (bw rfl (bw rfl (bw rfl (bw rfl (bw rfl (bw rfl (bw rfl (bw rfl (bw rfl (bw rfl (bw rfl (bw rfl (bw rfl (bw rfl (bw rfl (bw rfl (bw rfl (bw rfl (bw rfl (bw rfl (bw rfl (bw rfl (bw rfl (bw rfl (bw rfl (bw rfl (bw rfl (bw rfl (bw rfl (bw rfl (bw rfl (bw rfl (bw rfl (bw rfl (bw rfl (bw rfl (bw rfl (bw rfl (bw rfl (bw rfl (bw rfl (bw rfl (bw rfl (bw rfl (bw rfl (bw rfl (bw rfl (bw rfl (bw rfl (bw rfl (bw rfl (bw rfl (bw rfl (bw rfl (bw rfl (bw rfl (bw rfl (bw rfl (bw rfl (bw rfl (bw rfl (bw rfl (bw rfl (bw rfl (bw rfl (bw rfl (bw rfl (bw rfl (bw rfl (bw rfl (bw rfl (bw rfl (bw rfl (bw rfl (bw rfl (bw rfl (bw rfl (bw rfl (bw rfl (bw rfl (bw rfl (bw rfl (bw rfl (bw rfl (bw rfl (bw rfl (bw rfl (fun _ h=>by cases h))))))))))))))))))))))))))))))))))))))))))))))))))))))))))))))))))))))))))))))))))))))))))))))))))))))))))))))))))))))
def t412:zW (look storeTab):=by repeat' first|exact rfl|exact t400|apply And.intro
def all_ctr (f:Nat) (args:Eq) (r:V) (h:K' (look storeTab) f args=some r):jR Tryz.prog (cxU storeFm) (aR (look storeTab) f) f args r:=by
 have⟨n,hn⟩:=eF.1 h;refine nb (by kernel_rfl) okAll (fun f own p hp=>?_) (fun f z p hlt hp=>?_) (fun f z p hp=>?_) n f args r hn
 ·have hm:=dO hp;simp only[storeTab,storeT0,storeT1,storeT2,storeT3,storeT4,storeT5,storeT6,storeT7,storeT8,storeT9,storeT10,storeT11,storeT12,storeT13,storeT14,storeT15,storeT16,storeT17,storeT18,storeT19,storeT20,storeT21,storeT22,storeT23,storeT24,List.mem_append,or_assoc,List.mem_cons,Prod.mk.injEq,reduceCtorEq,and_false,false_and,false_or,Fn.prim.injEq,Option.some.injEq,List.not_mem_nil,or_false] at hm;rcases hm with⟨rfl,hz,rfl⟩|⟨rfl,hz,rfl⟩|⟨rfl,hz,rfl⟩|⟨rfl,hz,rfl⟩|⟨rfl,hz,rfl⟩|⟨rfl,hz,rfl⟩|⟨rfl,hz,rfl⟩|⟨rfl,hz,rfl⟩|⟨rfl,hz,rfl⟩|⟨rfl,hz,rfl⟩|⟨rfl,hz,rfl⟩|⟨rfl,hz,rfl⟩|⟨rfl,hz,rfl⟩
  ·subst hz;exact dH (zero:=[.int .i64 0]) (by kernel_rfl) okClone69
  ·subst hz;exact dH (zero:=[.int .i64 0,.int .i64 0,.int .i64 0,.slice 1 [],.int .i64 0,.str [],.str [],.slice 1 [],.slice 36 []]) (by kernel_rfl) okClone497
  ·intro args r h;simp[noQ] at h
  ·subst hz;exact dH (zero:=[.int .i64 0,.int .i64 0,.str [],.str [],.int .i64 0,.slice 2 [],.int .i64 0,.int .i64 0,.int .i64 0,.int .i64 0,.int .i64 0,.int .i64 0,.slice 11 [],.int .i64 0,.int .i64 0,.int .i64 0,.int .i64 0]) (by kernel_rfl) okClone307
  ·subst hz;exact keyCt _ 170 rfl
  ·intro args r h;simp[noQ] at h
  ·intro args r h;simp[noQ] at h
  ·subst hz;exact decCt _ 190 rfl
  ·intro args r h;simp[noQ] at h
  ·subst hz;exact dH (zero:=[.int .i64 0,.int .i64 0,.int .i64 0,.int .i64 0,.int .i64 0,.int .i64 0,.bool false,.str [],.slice 2 [],.str [],.bool false]) (by kernel_rfl) okClone102
  ·intro args r h;simp[noQ] at h
  ·subst hz;exact dH (zero:=[.int .i64 0,.int .i64 0,.int .i64 0,.bool false,.str []]) (by kernel_rfl) okClone23
  ·subst hz;exact dH (zero:=[.str [],.slice 5 []]) (by kernel_rfl) okClone227
 ·have hm:=dO hp;simp only[storeTab,storeT0,storeT1,storeT2,storeT3,storeT4,storeT5,storeT6,storeT7,storeT8,storeT9,storeT10,storeT11,storeT12,storeT13,storeT14,storeT15,storeT16,storeT17,storeT18,storeT19,storeT20,storeT21,storeT22,storeT23,storeT24,List.mem_append,or_assoc,List.mem_cons,Prod.mk.injEq,reduceCtorEq,and_false,false_and,false_or,Fn.prim.injEq,Option.some.injEq,List.not_mem_nil,or_false] at hm;rcases hm with⟨rfl,hz,rfl⟩|⟨rfl,hz,rfl⟩|⟨rfl,hz,rfl⟩|⟨rfl,hz,rfl⟩|⟨rfl,hz,rfl⟩|⟨rfl,hz,rfl⟩|⟨rfl,hz,rfl⟩|⟨rfl,hz,rfl⟩|⟨rfl,hz,rfl⟩|⟨rfl,hz,rfl⟩|⟨rfl,hz,rfl⟩
  ·omega
  ·omega
  ·obtain rfl:z=9:=by omega
   exact⟨_,_,insC159⟩
  ·omega
  ·obtain rfl:z=17:=by omega
   exact⟨_,_,insC246⟩
  ·omega
  ·obtain rfl:z=2:=by omega
   exact⟨_,_,insC281⟩
  ·omega
  ·obtain rfl:z=11:=by omega
   exact⟨_,_,insC283⟩
  ·omega
  ·omega
 ·have hm:=dO hp;simp only[storeTab,storeT0,storeT1,storeT2,storeT3,storeT4,storeT5,storeT6,storeT7,storeT8,storeT9,storeT10,storeT11,storeT12,storeT13,storeT14,storeT15,storeT16,storeT17,storeT18,storeT19,storeT20,storeT21,storeT22,storeT23,storeT24,List.mem_append,or_assoc,List.mem_cons,Prod.mk.injEq,reduceCtorEq,and_false,false_and,false_or,Fn.prim.injEq,Option.some.injEq,List.not_mem_nil,or_false] at hm;rcases hm with⟨rfl,hz,rfl⟩|⟨rfl,hz,rfl⟩|⟨rfl,hz,rfl⟩|⟨rfl,hz,rfl⟩|⟨rfl,hz,rfl⟩|⟨rfl,hz,rfl⟩|⟨rfl,hz,rfl⟩|⟨rfl,hz,rfl⟩|⟨rfl,hz,rfl⟩|⟨rfl,hz,rfl⟩|⟨rfl,hz,rfl⟩
  ·omega
  ·omega
  ·omega
  ·omega
  ·omega
  ·obtain rfl:z=17:=by omega
   exact delC247
  ·omega
  ·omega
  ·omega
  ·omega
  ·omega
end Sg
namespace Go.Proofs.YtidacoblmebfcaaGreatDoor
open Sg Go.RowKit
def own:ownKnob Tryz.prog.godebug=none:=by kernel_rfl
def laid:laidOutB Tryz.prog=true:=by kernel_rfl
def storeHears_ctr (xs:Eq) (h:ik 1048576 [(true,mq),(false,[.int .i64]),(true,jk)] xs):jR Tryz.prog (cxU storeFm) (aR (Sg.look storeTab) 412) 412 xs (.bool true):=by
 match xs,h with
 |[x0,x1,x2],h=>
  obtain⟨h0,h1,h2,-⟩:=h;obtain⟨a0,rfl,c0⟩:=mS h0;obtain⟨a1,rfl,w1⟩:=sY h1;obtain⟨a2,rfl⟩:=oW h2;exact all_ctr _ _ _ (Ie t412 a0 a1 a2 c0)
def bulk_one {H:Type} (x:DataW H):1<=Rows.uptoBulk x:=by
 cases x with
 |lit l=>cases l<;>simp[Rows.uptoBulk]
 |nil=>simp[Rows.uptoBulk]
 |ptr _=>simp[Rows.uptoBulk]
 |slice _ _=>simp[Rows.uptoBulk]
 |agg _=>simp[Rows.uptoBulk]
 |iface _ _=>simp[Rows.uptoBulk]
 |map _=>simp[Rows.uptoBulk]
 |held _=>simp[Rows.uptoBulk]
def bulk_ok {H:Type}:BK (H:=H) Rows.uptoBulk Rows.uptoBulkAll where
 str b:=by simp[Rows.uptoBulk]
 slice e s:=by simp[Rows.uptoBulk]
 agg p:=by simp[Rows.uptoBulk]
 cons d l:=by simp[Rows.uptoBulkAll]
 one d:=bulk_one d
def fit_of {H:Type} {l:List (DataW H)} (h:Rows.uptoSmall H l=true):∀d∈l,pk 1048576 Rows.uptoBulk Rows.uptoBulkAll d:=fun _ hd=>
 .inr ⟨bulk_ok,Nat.le_trans (bulk_ok.part hd) (of_decide_eq_true h)⟩
noncomputable def laidWorld (os:Os):World:=
 let w0:=World.holding Tryz.prog os ⟨#[],#[],[]⟩
 let put (h:Array Obj) (g:Nat) (cs:Array Value):Array Obj:=h.modify g fun
  |.cells _ t frozen=>.cells cs t frozen
  |o=>o
 let h1:=put w0.heap 0 (Lib.firstTab.map fun z=>Value.int .u8 z).toArray
 let h2:=put h1 1 ((List.range 16).flatMap fun i=>[Value.int .u8 (Lib.accLo i),Value.int .u8 (Lib.accHi i)]).toArray
 {w0 with heap:=h2}
def tabs_of {W:World} (hL:laidMetH Tryz.prog Rows.storeHearsUptoRow.laid W):Lib.Utf8Tabs 0 1 W:=
 utf8Tabs_of_reads (ρ:=renU) {lays197 with} ⟨by kernel_rfl,by kernel_rfl,by kernel_rfl,by kernel_rfl,by kernel_rfl,by kernel_rfl,by kernel_rfl⟩
  ((show Go.Pinned.utf8First=Lib.firstData by kernel_rfl)▸Lib.laidMet.reads hL (.tail _ (.head _))) ((show Rows.laid_unicode_utf8_acceptRanges=Lib.acceptData by kernel_rfl)▸Lib.laidMet.reads hL (.head _))
def size_of {W:World} (h:Lib.Utf8Tabs 0 1 W):2<=W.heap.size:=by
 have lt:∀g o v,W.cell? ⟨g,o,none⟩=some v->g<W.heap.size:=fun g o v e=>by
  rcases Nat.lt_or_ge g W.heap.size with h|h
  ·exact h
  ·simp[World.cell?,Array.getElem?_eq_none h] at e
 have h1:=lt _ _ _ (h.1 0 (by decide));have h2:=lt _ _ _ (h.2 0 (by decide)).1;omega
def laid_met (os:Os) (args:Array Value):laidMet Tryz.prog Rows.storeHearsUptoRow.laid ((laidWorld os).forCall (fun _ _=>0) ⟨#[],args,[]⟩).memory:=
 (LaidIn.of_run (l:=Rows.storeHearsUptoRow.laid) [1,0] 8 (by kernel_rfl) (by kernel_rfl) (by kernel_rfl) (by kernel_rfl)).met
abbrev storeHears_wits:Array Value:=#[Value.agg #[.int .i64 0,.slice none 0 0],Value.int .i64 0,Value.agg #[.int .i64 0,.int .i64 0,.int .i64 0,.int .i64 0,.int .i64 0,.int .i64 0,.int .i64 0,.int .i64 0,.int .i64 0,.int .i64 0,.int .i64 0,.int .i64 0,.string ⟨#[]⟩,.int .i64 0,.int .i64 0,.int .i64 0,.string ⟨#[]⟩,.string ⟨#[]⟩,.bool false,.string ⟨#[]⟩,.int .i64 0,.int .i64 0,.int .i64 0,.string ⟨#[]⟩,.int .i64 0,.int .i64 0,.int .i64 0,.int .i64 0,.int .i64 0,.bool false,.string ⟨#[]⟩,.slice none 0 0,.string ⟨#[]⟩,.bool false,.slice none 0 0,.slice none 0 0]]
set_option maxRecDepth 100000 in
theorem storeHears_reads (os:Os) {H:Type} (enc:TypeId×Value->H) :
  (Rows.OpenSpec.upto Rows.storeHearsSpec).preRow enc Tryz.prog Tryz.f3 Rows.storeHearsUptoRow.domain false Rows.storeHearsUptoRow.laid ((laidWorld os).forCall (fun _ _=>0) ⟨#[],storeHears_wits,[]⟩).memory storeHears_wits:=by
 have hw:(DataW.whole enc Tryz.prog ((laidWorld os).forCall (fun _ _=>0) ⟨#[],storeHears_wits,[]⟩).memory Tryz.f3.params.toList Rows.storeHearsSpec.vars false storeHears_wits.toList 8).isSome=true:=by kernel_rfl
 have⟨⟨x1,x2,x3⟩,hx⟩:=Option.isSome_iff_exists.1 hw
 have hl:x1.length=3:=by
  have:=congrArg (Option.map fun x=>x.1.length) hx;have e:(DataW.whole enc Tryz.prog ((laidWorld os).forCall (fun _ _=>0) ⟨#[],storeHears_wits,[]⟩).memory Tryz.f3.params.toList Rows.storeHearsSpec.vars false storeHears_wits.toList 8).map (fun x=>x.1.length)=some 3:=by kernel_rfl
  rw[hx] at e;simpa using e
 have e2:(DataW.whole enc Tryz.prog ((laidWorld os).forCall (fun _ _=>0) ⟨#[],storeHears_wits,[]⟩).memory Tryz.f3.params.toList Rows.storeHearsSpec.vars false storeHears_wits.toList 8).map (fun x=>Rows.uptoSmall H (x.1++x.2.1))=some true:=by kernel_rfl
 rw[hx] at e2
 have hs:Rows.uptoSmall H (x1++x2)=true:=by simpa using e2
 exact OpenSpec.preRow_of_cond 8 hx (by kernel_rfl) (fun k hk=>by cases hk;exact hs) (by kernel_rfl) (laid_met os _)
def storeHears_lifted (os:Os) (started:os.Started) (H:Type) (enc:TypeId×Value->H) (F:Stop.Interp) :
  ReturnsInHanded {} Tryz.checked os 3 .any ((Rows.OpenSpec.upto Rows.storeHearsSpec).preRow enc Tryz.prog Tryz.f3 Rows.storeHearsUptoRow.domain false Rows.storeHearsUptoRow.laid) (((Rows.OpenSpec.upto Rows.storeHearsSpec).at F).post enc Tryz.prog Tryz.f3 false true false false):=by
 refine returnsInHanded_of_row (C:=Tryz.checked) (s:=Rows.OpenSpec.upto Rows.storeHearsSpec) own started (by kernel_rfl) Tryz.func3
  (witness_row_at (enc:=enc) (C:=Tryz.checked) false (laidWorld os) storeHears_wits rfl (by kernel_rfl) (by kernel_rfl) (by kernel_rfl) (storeHears_reads os enc)) ?_
 intro W base args ds gs aV hval hW _ hcond _ hL _ _
 have hT:=tabs_of hL
 exact C8 (N:=1048576) (bk:=Rows.uptoBulk) (bkA:=Rows.uptoBulkAll) (s:=Rows.storeHearsSpec) (conds:=[]) (cx:=cxU storeFm) (own:=aR (Sg.look storeTab) 412) (fid:=412) (ss:=[(true,mq),(false,[.int .i64]),(true,jk)]) (tb:=4) (by kernel_rfl) (by kernel_rfl) (by kernel_rfl) laid rfl (by kernel_rfl) (by kernel_rfl)
  (fun ds h=>by
   have h2:Tryz.f3.params.toList.length=3:=by kernel_rfl
   rw[h2] at h
   match ds,h with
   |[d0,d1,d2],_=>rfl) storeHears_ctr W (size_of hT) hT base args ds gs aV hval hW (fun d hd=>fit_of (hcond _ rfl) d (List.mem_append_left _ hd))
def storeHears_said:Rows.StoreHearsUptoSaid:=
 OpenClaim.holds_of_cond 3 Tryz.f3 rfl rfl rfl rfl rfl rfl rfl ⟨rfl,rfl,rfl,rfl,rfl⟩ rfl rfl rfl rfl rfl (by kernel_rfl) Tryz.func3 facts
  (of_decide_eq_true (by kernel_rfl)) (by unfold Func.isWrapper;first|(rw[if_pos (by decide +kernel)];kernel_rfl)|(rw[if_neg (by decide +kernel)];exact⟨rfl,rfl⟩))
  (fun os started H enc _ F=>by rw[OpenClaim.pre_eq_preRow];exact storeHears_lifted os started H enc F)
def storeHears_plain (f:FuncId) (fn:Func) (hf:Tryz.pinned.checked.prog.funcNamed "stratigraph/stratigraphlaw18.StoreHears"=some f) (hfn:Tryz.pinned.checked.prog.funcs[f]?=some fn) :
  false=Tryz.pinned.checked.prog.looks []/\∀(j:Nat) t,fn.params[j]?=some t->Tryz.pinned.checked.prog.wantsStandIn t=false:=by
 obtain rfl:f=3:=Option.some.inj ((show Tryz.prog.funcNamed "stratigraph/stratigraphlaw18.StoreHears"=some 3 by kernel_rfl).symm.trans hf) |>.symm
 obtain rfl:fn=Tryz.f3:=(Option.some.inj (Tryz.func3.symm.trans hfn)).symm
 refine⟨by kernel_rfl,fun j t ht=>?_⟩
 rw[Tryz.params3] at ht
 have hm:=Array.mem_of_getElem? ht
 simp only[List.mem_toArray,List.mem_cons,List.not_mem_nil,or_false] at hm
 rcases hm with rfl|rfl|rfl
 ·exact (show Tryz.prog.wantsStandIn 24=false by kernel_rfl)
 ·exact (show Tryz.prog.wantsStandIn 3=false by kernel_rfl)
 ·exact (show Tryz.prog.wantsStandIn 36=false by kernel_rfl)
theorem storeHears_holds:Rows.StoreHearsUptoCardSaid:=
 Claim7.holds_tied_plain_at .later [] _ _ _ _ storeHears_said (fun _ h=>by cases h) (by kernel_rfl) (fun _ h=>by cases h) storeHearsUpto_row_tie rfl ⟨rfl,rfl⟩ (by kernel_rfl) rfl storeHears_plain (by kernel_rfl)
end Go.Proofs.YtidacoblmebfcaaGreatDoor
