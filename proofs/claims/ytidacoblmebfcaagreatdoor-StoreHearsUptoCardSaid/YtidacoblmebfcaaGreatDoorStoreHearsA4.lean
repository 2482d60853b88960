/- StoreHears, wherever what it reads is of bulk at most 1048576: proved over a checked abstract run of the translated code; no condition but that. A part. -/
import Derived.Test.YtidacoblmebfcaaGreatDoorStoreHearsA3
set_option linter.unusedSimpArgs false
set_option linter.unusedVariables false
set_option linter.constructorNameAsVariable false
set_option linter.defProp false
set_option maxRecDepth 10000
namespace Sg
open _root_.Go (IntKind BinOp UnOp)
variable {Pg:PgT}
def aD (n:Nat):mp:=if h:n<128 then [UInt8.ofNat n] else UInt8.ofNat (n%128+128)::aD (n / 128)
termination_by n
decreasing_by omega
def sK {n:Nat} (h:n<128):aD n=[UInt8.ofNat n]:=by rw[aD,dif_pos h]
def sJ {n:Nat} (h:128<=n):aD n=UInt8.ofNat (n%128+128)::aD (n / 128):=by rw[aD,dif_neg (by omega)]
def tk:Nat->mp->Option (Nat×mp)
 |_,[]=>none
 |0,_::_=>none
 |k+1,b::s=>if b.toNat<128 then some (b.toNat,s) else (tk k s).bind fun q=>if q.1=0 then none else some (b.toNat-128+128*q.1,q.2)
def wu {n:Nat} (h:n<256):(UInt8.ofNat n).toNat=n:=by
 simp[UInt8.toNat_ofNat'];omega
def ue (n:Nat):1<=(aD n).length:=by
 rw[aD];split<;>simp
theorem yd:∀(k n:Nat) (r:mp),(aD n).length<=k->tk k (aD n++r)=some (n,r)
 |0,n,r,h=>by have:=ue n;omega
 |k+1,n,r,h=>by
  by_cases j:n<128
  ·rw[sK j];simp only[List.cons_append,List.nil_append,tk,wu (show n<256 by omega),Gt j]
  ·rw[sJ (by omega)] at h ⊢;simp only[List.length_cons] at h;simp only[List.cons_append,tk,wu (show n%128+128<256 by omega)];rw[Gn (by omega),yd k (n / 128) r (by omega)];simp only[Option.bind_some];rw[Gn (by omega)]
   congr 2
   omega
theorem nv:∀{k:Nat} {s:mp} {n:Nat} {r:mp},tk k s=some (n,r)->s=aD n++r/\(aD n).length<=k
 |_,[],n,r,h=>by simp[tk] at h
 |0,_::_,n,r,h=>by simp[tk] at h
 |k+1,b::s,n,r,h=>by
  simp only[tk] at h;split at h
  ·rename_i o;simp only[Gb,Gr] at h;obtain⟨rfl,rfl⟩:=h;rw[sK o];refine⟨?_,by simp⟩;simp
  ·rename_i o;cases j:tk k s with
   |none=>rw[j] at h;simp at h
   |some q=>
    rw[j] at h;simp only[Option.bind_some] at h;split at h
    ·cases h
    rename_i h0;have⟨m,z⟩:=q;simp only[Gb,Gr] at h h0;obtain⟨rfl,rfl⟩:=h;have⟨e,y⟩:=nv j;have w:=b.toNat_lt;have p:(b.toNat-128+128*m)%128+128=b.toNat:=by omega
    have u:(b.toNat-128+128*m) / 128=m:=by omega
    rw[sJ (by omega),p,u,e];exact⟨by simp,by simp only[List.length_cons];omega⟩
def Lr {k:Nat} {s:mp} {n:Nat} {r:mp}:tk k s=some (n,r)↔s=aD n++r/\(aD n).length<=k:=
 ⟨nv,fun⟨e,h⟩=>by rw[e];exact yd k n r h⟩
theorem xU:∀(k n:Nat),(aD n).length<=k+1↔n<128^(k+1)
 |0,n=>by
  by_cases j:n<128
  ·rw[sK j];simpa using j
  ·rw[sJ (by omega)];have:=ue (n / 128);simp only[List.length_cons];constructor
   ·intro h;omega
   ·intro h;simp at h;omega
 |k+1,n=>by
  by_cases j:n<128
  ·rw[sK j];simp only[List.length_singleton];refine⟨fun _=>?_,fun _=>by omega⟩;have:128^1<=128^(k+1+1):=Nat.pow_le_pow_right (by omega) (by omega);omega
  ·rw[sJ (by omega)];simp only[List.length_cons];have:=xU k (n / 128);rw[Nat.add_le_add_iff_right,this,Nat.pow_succ 128 (k+1),Nat.div_lt_iff_lt_mul (by omega)]
def iQ {n:Nat}:(aD n).length<=9↔n<2^63:=by
 have e:(128:Nat)^(8+1)=2^63:=by decide
 rw[xU 8 n,e]
def Qi {s:mp} {n:Nat} {r:mp} (h:tk 9 s=some (n,r)):n<2^63:=iQ.1 (nv h).2
def dE (t:mp):mp:=aD t.length++t
def fp (b:Bool):mp:=[if b then 1 else 0]
def dh (s:mp):Option (mp×mp):=(tk 9 s).bind fun q=>if q.1<=q.2.length then some (q.2.take q.1,q.2.drop q.1) else none
def dY:mp->Option (Bool×mp)
 |[]=>none
 |b::s=>if b.toNat<=1 then some (decide (b.toNat=1),s) else none
def WI {s t r:mp}:dh s=some (t,r)↔s=dE t++r/\t.length<2^63:=by
 unfold dh dE;constructor
 ·intro h;cases j:tk 9 s with
  |none=>rw[j] at h;cases h
  |some q=>
   have⟨n,u⟩:=q;rw[j] at h;simp only[Option.bind_some] at h;split at h
   ·rename_i p;simp only[Gb,Gr] at h;obtain⟨rfl,rfl⟩:=h;have o:(u.take n).length=n:=by simp;omega
    refine⟨?_,by rw[o];exact Qi j⟩;rw[o,(nv j).1,GX,G4]
   ·cases h
 ·rintro⟨rfl,h⟩;rw[GX,yd 9 _ _ (iQ.2 h)];simp
def XW {s r:mp} {b:Bool}:dY s=some (b,r)↔s=fp b++r:=by
 cases s with
 |nil=>simp[dY,fp]
 |cons x s=>
  simp only[dY,fp,List.cons_append,List.nil_append,qZ];constructor
  ·intro h;split at h
   ·rename_i j;simp only[Gb,Gr] at h;obtain⟨rfl,rfl⟩:=h;refine⟨?_,rfl⟩;apply UInt8.toNat_inj.1;by_cases h1:x.toNat=1
    ·simp[h1]
    ·have:x.toNat=0:=by omega
     simp[this]
   ·cases h
  ·rintro⟨rfl,rfl⟩;cases b<;>simp
def val:mp->Nat
 |[]=>0
 |b::l=>b.toNat%128+128*val l
def XY:∀n,val (aD n)=n:=by
 intro n
 induction n using Nat.strongRecOn with
 |_ n j=>
  by_cases h:n<128
  ·rw[sK h];simp only[val,wu (show n<256 by omega)];omega
  ·rw[sJ (by omega)];simp only[val,wu (show n%128+128<256 by omega),j _ (show n / 128<n by omega)];omega
theorem Ls:∀l:mp,val l<128^l.length
 |[]=>by simp[val]
 |b::l=>by
  have:=Ls l;simp only[val,List.length_cons,Nat.pow_succ];omega
def Zp:∀n,∃l c,aD n=l++[c]/\(∀b∈l,128<=b.toNat)/\c.toNat<128:=by
 intro n
 induction n using Nat.strongRecOn with
 |_ n o=>
  by_cases h:n<128
  ·exact⟨[],UInt8.ofNat n,sK h,fun b hb=>by simp at hb,by rw[wu (by omega)];exact h⟩
  ·have⟨l,c,e,h1,j⟩:=o _ (show n / 128<n by omega);refine⟨UInt8.ofNat (n%128+128)::l,c,by rw[sJ (by omega),e];rfl,fun b hb=>?_,j⟩;rcases GH.1 hb with rfl|hb
   ·rw[wu (by omega)];omega
   ·exact h1 b hb
theorem Pn:∀{l p:mp} {c j:UInt8} {r o:mp},l++c::r=p++j::o->(∀b∈l,128<=b.toNat)->(∀b∈p,128<=b.toNat)->c.toNat<128->j.toNat<128->l=p/\c=j/\r=o
 |[],[],c,j,r,o,h,_,_,_,_=>by simp at h;exact⟨rfl,h.1,h.2⟩
 |[],b'::p,c,j,r,o,h,_,h2,h3,_=>by
  simp at h;have:=h2 b' (by simp);rw[<-h.1] at this;omega
 |b::l,[],c,j,r,o,h,h1,_,_,h4=>by
  simp at h;have:=h1 b (by simp);rw[h.1] at this;omega
 |b::l,b'::p,c,j,r,o,h,h1,h2,h3,h4=>by
  simp at h;have⟨u,w,y⟩:=Pn h.2 (fun x q=>h1 x (by simp[q])) (fun x q=>h2 x (by simp[q])) h3 h4;exact⟨by rw[h.1,u],w,y⟩
def xk {k:Nat} {l:mp} {c:UInt8} {r:mp} (hl:∀b∈l,128<=b.toNat) (hc:c.toNat<128) :
  tk k (l++c::r)=if l.length+1<=k/\aD (val (l++[c]))=l++[c] then some (val (l++[c]),r) else none:=by
 split
 ·rename_i h
  rw[Lr,h.2]
  exact⟨by simp,by simp;omega⟩
 ·rename_i h
  cases hq:tk k (l++c::r) with
  |none=>rfl
  |some q=>
   exfalso
   apply h
   have⟨m,r'⟩:=q
   have⟨e,hlen⟩:=nv hq
   have⟨l',c',p1,p2,p3⟩:=Zp m
   rw[p1,GX] at e
   obtain⟨rfl,rfl,-⟩:=Pn e hl p2 hc p3
   rw[p1] at hlen
   rw[<-p1,XY]
   exact⟨by simpa using hlen,rfl⟩
theorem uE:∀{k:Nat} {s:mp},(∀b∈s.take k,128<=b.toNat)->tk k s=none
 |_,[],_=>by simp[tk]
 |0,_::_,_=>by simp[tk]
 |k+1,b::s,h=>by
  have h1:=h b (by simp);simp only[tk];rw[Gn (by omega),uE (fun x hx=>h x (by simp[hx]))]
  rfl
@[go_sem] def Yi (l:List Int):V:=.slice 1 (l.map fun a=>[iz a])
def AL:=HpZ 62 F62
def wi (h:AL Pg) (l:List Int) (n:Int) (u:l.length<2^60):K' Pg 62 [Yi l,iz n]=some (.bool (decide (n∈l))):=by
 refine aA h rfl ?_;simp only[go_sem];unfold l62_0;refine bu (fun (i:Nat) S=>i<=l.length/\S.ρ 0=Yi l/\S.ρ 1=iz n/\S.ρ 5=iz i/\n∉l.take i) (fun i=>l.length-i) 0 ?_ ?_
 ·simp[go_sem]
 ·intro i S ⟨hi,h0,h1,o,p⟩;simp only[go_sem,h0,o];refine aY (fun h=>?_) (fun h=>?_)
  ·have h:=Yj h;have⟨x,q,w⟩:=aZ h;simp only[go_sem,h0,h1,o,q];refine aY (fun j=>?_) (fun j=>?_)
   ·have j:x=n:=Gc j;have:n∈l:=j▸List.mem_of_getElem? q;simp only[go_sem,this]
   ·have j:x≠n:=Ga j;simp only[go_sem,h0,h1,o];refine⟨i+1,by omega,by omega,by rw[Yn h u],?_⟩;rw[YW q];simp;exact⟨p,fun e=>j e.symm⟩
  ·have h:=YC hi h;rw[tW h] at p;simp only[go_sem,p]
def Mx:=HpZ 70 F70
def N2 (h:Mx Pg) (a b:List Int) (D:a.length<2^60):K' Pg 70 [Yi a,Yi b]=some (.bool (decide (a=b))):=by
 refine aA h rfl ?_;simp only[go_sem];refine aY (fun j=>?_) (fun j=>?_)
 ·have j:¬a.length=b.length:=by intro e;simp[e] at j
  have:a≠b:=fun e=>j (by rw[e]);simp only[go_sem,this]
 ·have j:a.length=b.length:=by simp at j;omega
  simp only[go_sem];unfold l70_0;refine bu (fun (i:Nat) S=>i<=a.length/\S.ρ 0=Yi a/\S.ρ 1=Yi b/\S.ρ 5=iz i/\a.take i=b.take i) (fun i=>a.length-i) 0 ?_ ?_
  ·simp[go_sem]
  ·intro i S ⟨hi,h0,h1,p,u⟩;simp only[go_sem,h0,p];refine aY (fun h=>?_) (fun h=>?_)
   ·have h:=Yj h;have⟨x,w,E⟩:=aZ h;have⟨y,o,z⟩:=aZ (l:=b) (i:=i) (by omega);simp only[go_sem,h0,h1,p,w,o];refine aY (fun j=>?_) (fun j=>?_)
    ·have q:x≠y:=by simpa using j
     have:a≠b:=fun e=>q (by subst e;rw[w] at o;simpa using o);simp only[go_sem,this]
    ·have B:x=y:=by simpa using j
     simp only[go_sem,h0,h1,p];exact⟨i+1,by omega,by omega,by rw[Yn h D],by rw[YW w,YW o,u,B]⟩
   ·have h:=YC hi h;rw[tW h,tW (h.trans j)] at u;simp only[go_sem,u]
def pS:List Int->Int->Nat->Int
 |[],_,_=>-1
 |a::l,n,i=>if n=a then i else pS l n (i+1)
theorem Pe:∀{l:List Int} {n:Int} {i:Nat},decide (0<=pS l n i)=decide (n∈l)
 |[],n,i=>by simp[pS]
 |a::l,n,i=>by
  simp only[pS];split
  ·rename_i h;simp[h]
  ·rename_i h;rw[Pe];simp[h]
def Mz:=HpZ 75 F75
def Vx (h:Mz Pg) (l:List Int) (n:Int) (w:l.length<2^60):K' Pg 75 [Yi l,iz n]=some (iz (pS l n 0)):=by
 refine aA h rfl ?_;simp only[go_sem];unfold l75_0;refine bu (fun (i:Nat) S=>i<=l.length/\S.ρ 0=Yi l/\S.ρ 1=iz n/\S.ρ 7=iz l.length/\S.ρ 8=iz i/\pS (l.drop i) n i=pS l n 0) (fun i=>l.length-i) 0 ?_ ?_
 ·simp[go_sem]
 ·intro i S ⟨hi,h0,h1,q,p,o⟩;simp only[go_sem,q,p];refine aY (fun h=>?_) (fun h=>?_)
  ·have h:=Yj h;have⟨x,y,u⟩:=aZ h;rw[u] at o;simp only[go_sem,h0,h1,p,y];refine aY (fun j=>?_) (fun j=>?_)
   ·have j:n=x:=Gc j;simp only[pS,j,Gw] at o;simp only[go_sem,<-o,j]
   ·have j:¬n=x:=Ga j;simp only[pS,j,Gv] at o;simp only[go_sem,h0,h1,q,p];exact⟨i+1,by omega,by omega,by rw[Yn h w],o⟩
  ·have h:=YC hi h;subst h;simp only[GQ,pS] at o;simp only[go_sem,<-o]
def vE:=HpC 65 F65 Mz
def tV (h:vE Pg) (l:List Int) (n:Int) (p:l.length<2^60):K' Pg 65 [Yi l,iz n]=some (.bool (decide (n∈l))):=by
 have⟨h,o⟩:=h;refine aA h rfl ?_;have j:=Vx o l n p;simp only[Yi] at j;simp only[go_sem,j,Pe]
def pR:List Int->(Int->Bool)->Nat->Int
 |[],_,_=>-1
 |a::l,p,i=>if p a then i else pR l p (i+1)
theorem Pd:∀{l:List Int} {p:Int->Bool} {i:Nat},decide (0<=pR l p i)=l.any p
 |[],n,i=>by simp[pR]
 |a::l,n,i=>by
  simp only[pR];split
  ·rename_i h;simp[h]
  ·rename_i h;rw[Pd];simp[h]
def MA:=HpZ 76 F76
def Vy (h:MA Pg) (l:List Int) (g:Nat) (aN:Eq) (p:Int->Bool) (E:l.length<2^60) (y:aN.all V.datC=true) (D:∀x∈l,K' Pg g (iz x::aN)=some (.bool (p x))) :
  K' Pg 76 [Yi l,.func g aN]=some (iz (pR l p 0)):=by
 refine aA h rfl ?_
 simp only[go_sem]
 unfold l76_0
 refine bu (fun (i:Nat) S=>i<=l.length/\S.ρ 0=Yi l/\S.ρ 1=.func g aN/\S.ρ 7=iz l.length/\S.ρ 8=iz i/\pR (l.drop i) p i=pR l p 0) (fun i=>l.length-i) 0 ?_ ?_
 ·simp[go_sem]
 ·intro i S ⟨hi,h0,h1,w,o,j⟩
  simp only[go_sem,w,o]
  refine aY (fun h=>?_) (fun h=>?_)
  ·have h:=Yj h
   have⟨x,z,B⟩:=aZ h
   rw[B] at j
   have u:=D x (List.mem_of_getElem? z)
   simp only[go_sem,h0,h1,o,z,u]
   refine aY (fun q=>?_) (fun q=>?_)
   ·simp only[pR,q,Gw] at j
    simp only[go_sem,<-j]
   ·simp only[pR,q,Gl,Gv] at j
    simp only[go_sem,h0,h1,w,o]
    exact⟨i+1,by omega,by omega,by rw[Yn h E],j⟩
  ·have h:=YC hi h
   subst h
   simp only[GQ,pR] at j
   simp only[go_sem,<-j]
def Dn:=HpC 67 F67 MA
def I3 (h:Dn Pg) (l:List Int) (g:Nat) (aN:Eq) (p:Int->Bool) (w:l.length<2^60) (j:aN.all V.datC=true) (u:∀x∈l,K' Pg g (iz x::aN)=some (.bool (p x))) :
  K' Pg 67 [Yi l,.func g aN]=some (.bool (l.any p)):=by
 have⟨h,q⟩:=h
 refine aA h rfl ?_
 have o:=Vy q l g aN p w j u
 simp only[Yi] at o
 simp only[go_sem,o,Pd]
def bW (l:List Int):Prop:=l.length<=8/\(∀m∈l,1<=m/\m<=255)/\l.Nodup
instance (l:List Int):Decidable (bW l):=inferInstanceAs (Decidable (_/\_/\_))
theorem Ep {l:List Int} {i:Nat} {x:Int} (j:l[i]?=some x) (h:¬(1<=x/\x<=255)\/x∈l.take i):¬bW l:=by
 rintro⟨-,q,o⟩;rcases h with h|h
 ·exact h (q x (List.mem_of_getElem? j))
 ·have hi:i<l.length:=by
   rcases GF i l.length with h|h
   ·exact h
   ·rw[List.getElem?_eq_none h] at j;simp at j
  have⟨y,p,u⟩:=aZ hi;have:x=y:=by rw[j] at p;simpa using p
  subst this;rw[<-G4 i l,u,ri] at o;exact o.2.2 x h x (G0 ..) rfl
def O1 {l:List Int} {i:Nat} {x:Int} (q:l[i]?=some x) (h:(∀m∈l.take i,1<=m/\m<=255)/\(l.take i).Nodup) (h1:1<=x/\x<=255) (j:x∉l.take i) :
  (∀m∈l.take (i+1),1<=m/\m<=255)/\(l.take (i+1)).Nodup:=by
 rw[YW q]
 refine⟨fun m hm=>?_,?_⟩
 ·rcases GS.1 hm with hm|hm
  ·exact h.1 m hm
  ·have:m=x:=by simpa using hm
   rw[this];exact h1
 ·rw[ri]
  refine⟨h.2,by simp,fun a o b p e=>?_⟩
  have:b=x:=by simpa using p
  rw[<-this,<-e] at j
  exact j o
def dS (b:UInt8):Eq:=[.int .u8 b.toNat]
def VY (l:mp):cA (l.map dS)=some l:=DG l
def ZR {n:Nat} (h:n<256):dS (UInt8.ofNat n)=[.int .u8 n]:=by simp[dS,wu h]
def QC {n:Nat}:IntKind.u8.wrap (n:Int)=((n%256:Nat):Int):=by simp[IntKind.wrap,IntKind.bits,IntKind.signed]
def Zz (n:Nat):IntKind.u8.wrap ((BitVec.ofInt 8 (IntKind.u8.wrap (n:Int)) ||| BitVec.ofInt 8 128).toNat:Int)=((n%128+128:Nat):Int):=by
 have key:∀x:Fin 256,IntKind.u8.wrap ((BitVec.ofInt 8 ((x.1:Nat):Int) ||| BitVec.ofInt 8 128).toNat:Int)=((x.1%128+128:Nat):Int):=by decide
 rw[QC (n:=n)];have:=key ⟨n%256,by omega⟩;simp only at this;rw[this];omega
def VZ (l:mp) (n:Nat):cA (l.map dS++[[.int .u8 (n:Int)]])=some (l++[UInt8.ofNat n]):=by
 induction l with
 |nil=>simp[cA]
 |cons b l j=>
  show cA (dS b::(l.map dS++_))=_
  simp only[dS,cA,j];simp
def Qu (n:Nat):((n:Int).fdiv (2^7))=((n / 128:Nat):Int):=by
 have:((2:Int)^7)=((128:Nat):Int):=rfl;rw[this];exact (Int.ofNat_fdiv n 128).symm
def nW:=HpZ 456 F456
def we (h:nW Pg) (n:Nat) (H:n<2^63):K' Pg 456 [iz n]=some (.tuple [.str (aD n),iz 0]):=by
 refine aA h rfl ?_;have E:decide ((n:Int)<0)=false:=Gp (by omega);simp only[F456,c456,go_sem,E];unfold l456_0;refine bu (fun (m:Nat) S=>∃j:mp,j++aD m=aD n/\S.ρ 0=iz m/\S.ρ 4=.own 4 1 j.length/\S.A 4=some (1,j.map dS,.live)) (fun m=>m) n ?_ ?_
 ·exact⟨[],rfl,rfl,rfl,rfl⟩
 ·intro m S ⟨j,q,B,D,y⟩;have z:j.length+1<=9:=by
   have h1:=iQ.2 H;have I:=ue m;rw[<-q,Gf] at h1;omega
  have p:j.length+1<=aU:=by unfold aU;omega
  cases u:decide ((128:Int)<=m) with
  |true=>
   have o:128<=m:=by have:=Gc u;omega
   rw[sJ o] at q;have J:((m:Int).fdiv (2^min (Int.toNat 7) 64))=((m / 128:Nat):Int):=Qu m;have w:tx .shr (iz m) (.int .u64 7)=some (iz ((m / 128:Nat):Int)):=by simp only[tx];rw[Gn (by omega)];exact gp (fun x=>some (V.int .i64 x)) (Qu m)
   simp only[go_sem,B,D,y,u,Gi,p,w];refine⟨m / 128,by omega,j++[UInt8.ofNat (m%128+128)],by rw[<-q];simp,rfl,by rw[Gf];rfl,?_⟩;rw[Gz,GA,ZR (by omega),<-Zz];rfl
  |false=>
   have o:m<128:=by have:=Ga u;omega
   rw[sK o] at q;have hw:IntKind.u8.wrap (m:Int)=(m:Int):=by rw[QC];omega
   simp only[go_sem,B,D,y,u,hw,Gi,p,VZ,q]
def vB:=HpC 484 F484 nW
def IJ (h:vB Pg) (t:mp) (ht:t.length<2^61):K' Pg 484 [.str t]=some (.str (dE t)):=by
 have⟨h,j⟩:=h;have k:=we j t.length (by omega);have o:(aD t.length).length+t.length<=4611686018427387904:=by have:=iQ.2 (show t.length<2^63 by omega);omega
 refine aA h rfl ?_;simp only[F484,c484,go_sem,k,o,dE]
def Aw:=HpZ 485 F485
def IK (h:Aw Pg) (b:Bool):K' Pg 485 [.bool b]=some (.str (fp b)):=by
 refine aA h rfl ?_;cases b<;>simp only[F485,c485,go_sem,fp]<;>rfl
def ib (n:Nat):List Int:=if h:n<128 then [(n:Int)] else ((n%128:Nat):Int)::ib (n / 128)
termination_by n
decreasing_by omega
def Lc {n:Nat} (h:n<128):ib n=[(n:Int)]:=by rw[ib,dif_pos h]
def K0 {n:Nat} (h:128<=n):ib n=((n%128:Nat):Int)::ib (n / 128):=by rw[ib,dif_neg (by omega)]
def KJ:∀n,(ib n).length=(aD n).length:=by
 intro n
 induction n using Nat.strongRecOn with
 |_ n j=>
  by_cases h:n<128
  ·rw[Lc h,sK h];rfl
  ·rw[K0 (by omega),sJ (by omega),List.length_cons,List.length_cons,j _ (by omega)]
def OZ (n:Nat):ib n=((n%128:Nat):Int)::(if n / 128=0 then [] else ib (n / 128)):=by
 by_cases h:n<128
 ·rw[Lc h,Gt (by omega),Nat.mod_eq_of_lt h]
 ·rw[K0 (by omega),Gn (by omega)]
theorem PE (n:Nat):(n:Int).tmod 128=((n%128:Nat):Int):=rfl
theorem X3 (n:Nat):(n:Int).tdiv 128=((n / 128:Nat):Int):=rfl
def AG:=HpZ 502 F502
def IV (h:AG Pg) (n:Nat) (y:n<2^63):K' Pg 502 [iz n]=some (Yi (ib n)):=by
 refine aA h rfl ?_;have B:∀m:Nat,m<2^63->IntKind.i64.wrap ((m:Int).tdiv 128)=((m / 128:Nat):Int):=fun m hm=>by
  rw[X3,bv (by omega) (by omega)]
 have u:=iQ.2 y;rw[<-KJ] at u;simp only[F502,c502,go_sem,B n y,PE];unfold l502_0;refine bu (fun (m:Nat) S=>m<2^63/\∃j:List Int,j++(if m=0 then [] else ib m)=ib n/\S.ρ 0=iz m/\S.ρ 3=.own 6 1 j.length/\S.A 6=some (1,j.map (fun a=>[iz a]),.live)) (fun m=>m) (n / 128) ?_ ?_
 ·exact⟨by omega,[((n%128:Nat):Int)],(OZ n).symm,rfl,rfl,rfl⟩
 ·intro m S ⟨hm,j,p,z,s3,w⟩;cases q:decide ((0:Int)<m) with
  |true=>
   have h0:0<m:=by have:=Gc q;omega
   rw[Gn (by omega),OZ] at p;have o:j.length+1<=aU:=by
    have:=gp List.length p;rw[Gf,List.length_cons] at this;unfold aU;omega
   simp only[go_sem,z,s3,w,q,PE,B m hm,Gi,o];refine⟨m / 128,by omega,by omega,j++[((m%128:Nat):Int)],by rw[<-p];simp,rfl,by rw[Gf];rfl,by rw[Gz];rfl⟩
  |false=>
   have h0:m=0:=by have:=Ga q;omega
   subst h0;rw[Gt rfl,GD] at p;simp only[go_sem,z,s3,w,p,Gi]
def Xs:∀(n:Nat) (i:Nat) (d:Int),(ib n)[i]?=some d->(aD n)[i]?=some (UInt8.ofNat (d.toNat+if i+1<(ib n).length then 128 else 0))/\0<=d/\d<128:=by
 intro n
 induction n using Nat.strongRecOn with
 |_ n u=>
  intro i d j;by_cases h:n<128
  ·rw[Lc h] at j ⊢;rw[sK h];cases i with
   |zero=>simp at j;subst j;simp;omega
   |succ i=>simp at j
  ·have:=ue (n / 128);rw[K0 (by omega)] at j ⊢;rw[sJ (by omega)];have w:=KJ (n / 128);cases i with
   |zero=>
    simp at j;subst j;simp only[List.getElem?_cons_zero,List.length_cons];rw[Gt (by omega)];exact⟨by congr 2,by omega,by omega⟩
   |succ i=>
    simp only[List.getElem?_cons_succ] at j ⊢;have⟨o,p,q⟩:=u _ (by omega) i d j;rw[o];refine⟨?_,p,q⟩;simp only[List.length_cons,Nat.add_lt_add_iff_right]
def lD:=HpC 487 F487 AG
def sB (h:lD Pg) (n:Nat) (M:n<2^63):K' Pg 487 [iz n]=some (.tuple [.str (aD n),iz 0]):=by
 have⟨h,y⟩:=h;have u:=IV y n M;simp only[go_sem] at u;refine aA h rfl ?_;have N:decide ((n:Int)<0)=false:=Gp (by omega);have Q:=KJ n;have O:=iQ.2 M;simp only[F487,c487,go_sem,N,u];unfold l487_0;refine bu (fun (i:Nat) S=>i<=(ib n).length/\S.ρ 4=.slice 1 ((ib n).map fun a=>[iz a])/\S.ρ 5=.str ((aD n).take i)/\S.ρ 6=iz i) (fun i=>(ib n).length-i) 0 ?_ ?_
 ·exact⟨GY _,rfl,rfl,rfl⟩
 ·intro i S ⟨hi,L,s5,s6⟩;cases w:decide ((i:Int)<((ib n).length:Int)) with
  |false=>
   have H:i=(aD n).length:=by have:=Ga w;omega
   rw[H,GB] at s5;simp only[go_sem,L,s5,s6,w,Gi]
  |true=>
   have I:=Yj w;obtain⟨d,E,-⟩:=aZ I;have⟨P,R,T⟩:=Xs n i d E;have j:(aD n).take (i+1)=(aD n).take i++[UInt8.ofNat (d.toNat+if i+1<(ib n).length then 128 else 0)]:=by rw[G3,P];rfl
   have p:=inc64q (i:=i) (by omega)
   have o:IntKind.i64.wrap (((ib n).length:Int)-1)=((ib n).length:Int)-1:=bv (by omega) (by omega);have q:((aD n).take i).length+1<=4611686018427387904:=by rw[GK];omega
   cases z:decide ((i:Int)<((ib n).length:Int)-1) with
   |true=>
    have B:i+1<(ib n).length:=by have:=Gc z;omega
    rw[Gt B] at j;have hw:IntKind.i64.wrap (d+128)=d+128:=bv (by omega) (by omega);have D:IntKind.u8.wrap (d+128)=d+128:=by simp[IntKind.wrap,IntKind.bits,IntKind.signed];omega
    have J:(d+128).toNat=d.toNat+128:=by omega
    simp only[go_sem,L,s5,s6,w,z,E,p,o,hw,D,J,q,Gi,List.length_cons,List.length_nil];exact⟨i+1,by omega,by omega,by rw[j],rfl⟩
   |false=>
    have B:¬i+1<(ib n).length:=by have:=Ga z;omega
    rw[Gn B,Nat.add_zero] at j;have D:IntKind.u8.wrap d=d:=by simp[IntKind.wrap,IntKind.bits,IntKind.signed];omega
    simp only[go_sem,L,s5,s6,w,z,E,p,o,D,q,Gi,List.length_cons,List.length_nil];exact⟨i+1,by omega,by omega,by rw[j];rfl,rfl⟩
def ga (e:Int):Option (Nat×mp)->V
 |some (n,r)=>.tuple [iz n,.str r,iz 0]
 |none=>.tuple [iz 0,.str [],iz e]
def nx (e:Int):Option (mp×mp)->V
 |some (n,r)=>.tuple [.str n,.str r,iz 0]
 |none=>.tuple [.str [],.str [],iz e]
def nw (e:Int):Option (Bool×mp)->V
 |some (n,r)=>.tuple [.bool n,.str r,iz 0]
 |none=>.tuple [.bool false,.str [],iz e]
def dW (b:UInt8):IntKind.u8.wrap ((BitVec.ofInt 8 (b.toNat:Int) &&& BitVec.ofInt 8 127).toNat:Int)=((b.toNat%128:Nat):Int):=by
 have key:∀x:Fin 256,IntKind.u8.wrap ((BitVec.ofInt 8 ((x.1:Nat):Int) &&& BitVec.ofInt 8 127).toNat:Int)=((x.1%128:Nat):Int):=by decide
 exact key ⟨b.toNat,b.toNat_lt⟩
def W4 (b:UInt8):vH .and .u8 (b.toNat:Int) 127=some (.int .u8 ((b.toNat%128:Nat):Int)):=gp (fun x=>some (V.int .u8 x)) (dW b)
def Db {cf d i:Nat} (ha:cf<128^i) (hd:d<128) (hi:i<=8) :
  IntKind.i64.wrap ((BitVec.ofInt 64 (cf:Int) ||| BitVec.ofInt 64 (IntKind.i64.wrap ((d:Int)*2^min (7*i) 64))).toNat:Int)=((cf+128^i*d:Nat):Int):=by
 have hp:(128:Nat)^i=2^(7*i):=by rw[Nat.pow_mul]
 have nz:(2:Nat)^(7*i)<=2^56:=Nat.pow_le_pow_right (by omega) (by omega)
 have LZ:2^(7*i)*d<2^63:=by
  have:2^(7*i)*d<=2^56*127:=Nat.mul_le_mul nz (by omega);omega
 rw[hp] at ha ⊢
 have e1:((d:Int)*2^min (7*i) 64)=((2^(7*i)*d:Nat):Int):=by
  rw[pn (by omega)];simp[Int.mul_comm]
 have e3:IntKind.i64.wrap ((2^(7*i)*d:Nat):Int)=((2^(7*i)*d:Nat):Int):=bv (by omega) (by omega)
 rw[e1,e3]
 have e2:∀m:Nat,m<2^63->BitVec.ofInt 64 (m:Int)=BitVec.ofNat 64 m:=fun m hm=>by simp
 rw[e2 _ (by omega),e2 _ LZ,BitVec.toNat_or,BitVec.toNat_ofNat,BitVec.toNat_ofNat,Nat.mod_eq_of_lt (by omega),Nat.mod_eq_of_lt (by omega),Nat.or_comm,<-Nat.two_pow_add_eq_or_of_lt ha,Nat.add_comm]
 have aa0:cf+2^(7*i)*d<2^63:=by
  have h1:2^(7*i)*d+2^(7*i)<=2^(7*i)*128:=by
   have:=Nat.mul_le_mul (GC (2^(7*i))) (show d+1<=128 by omega);rw[Nat.mul_add] at this;omega
  omega
 rw[bv (by omega) (by omega)]
def ZL {cf d i:Nat} (j:cf<128^i) (o:d<128) (hi:i<=8):vH .or .i64 (cf:Int) (IntKind.i64.wrap ((d:Int)*2^min (7*i) 64))=some (iz ((cf+128^i*d:Nat):Int)):=
 gp (fun x=>some (V.int .i64 x)) (Db j o hi)
def AI:=HpZ 505 F505
def IY (h:AI Pg) (s:mp) (z:s.length<2^62):∃e:Int,e≠0/\K' Pg 505 [.str s]=some (iz e):=by
 have key:K' Pg 505 [.str s]=some (iz (if s.any (fun b=>decide (b.toNat<128)) then 3 else 2)):=by
  refine aA h rfl ?_;simp only[F505,c505,go_sem];unfold l505_0;refine bu (fun (i:Nat) S=>i<=s.length/\S.ρ 0=.str s/\S.ρ 5=iz s.length/\S.ρ 6=iz i/\∀b∈s.take i,¬b.toNat<128) (fun i=>s.length-i) 0 ?_ ?_
  ·exact⟨GY _,rfl,rfl,rfl,fun b o=>by simp at o⟩
  ·intro i S ⟨hi,y,s5,s6,j⟩;cases p:decide ((i:Int)<(s.length:Int)) with
   |false=>
    have:i=s.length:=by have:=Ga p;omega
    subst this;rw[GB] at j;have:s.any (fun b=>decide (b.toNat<128))=false:=by
     rw[List.any_eq_false];intro b o;simpa using j b o
    simp only[go_sem,s5,s6,p,this]
   |true=>
    have w:=Yj p;obtain⟨b,o,-⟩:=aZ w;have q:=inc64q (i:=i) (by omega)
    cases u:decide ((b.toNat:Int)<128) with
    |true=>
     have:s.any (fun b=>decide (b.toNat<128))=true:=List.any_eq_true.2 ⟨b,List.mem_of_getElem? o,Gu (by have:=Gc u;omega)⟩;simp only[go_sem,y,s5,s6,p,o,u,this]
    |false=>
     simp only[go_sem,y,s5,s6,p,o,u,q];refine⟨i+1,by omega,by omega,rfl,fun x hx=>?_⟩;rw[G3,o] at hx;rcases GS.1 hx with hx|hx
     ·exact j x hx
     ·have:x=b:=by simpa using hx
      subst this;have:=Ga u;omega
 refine⟨_,?_,key⟩;split<;>decide
def tg (i cf:Nat) (o:Option (Nat×mp)):Option (Nat×mp):=o.bind fun q=>if 0<i/\q.1=0 then none else some (cf+128^i*q.1,q.2)
def Zx (o:Option (Nat×mp)):tg 0 0 o=o:=by cases o<;>simp[tg]
def WE {i cf k:Nat} {b:UInt8} {s:mp} (o:128<=b.toNat):tg i cf (tk (k+1) (b::s))=tg (i+1) (cf+128^i*(b.toNat%128)) (tk k s):=by
 have j:=b.toNat_lt;have hm:b.toNat%128=b.toNat-128:=by omega
 simp only[tk,Gn (show ¬b.toNat<128 by omega),hm];cases tk k s with
 |none=>rfl
 |some q=>
  have⟨n,r⟩:=q;simp only[Option.bind_some,tg];by_cases h0:n=0
  ·simp[h0]
  ·rw[Gn h0];simp only[Option.bind_some];rw[Gn (by omega),Gn (by omega)]
   congr 2
   rw[Nat.pow_succ,Nat.mul_add,Nat.mul_assoc];omega
def j5 (el:Int):Nat->mp->Int
 |_,[]=>2
 |i,b::s=>if 8<i then (if 128<=b.toNat\/0<b.toNat%128 then el else 3) else if 128<=b.toNat then j5 el (i+1) s else 3
theorem P8 {el:Int} (j:el≠0):∀{i:Nat} {s:mp},j5 el i s≠0
 |_,[]=>by simp[j5]
 |i,b::s=>by
  simp only[j5];split
  ·split
   ·exact j
   ·decide
  ·split
   ·exact P8 j
   ·decide
def sb:=HpC 491 F491 AI
def oB (h:sb Pg) (s:mp) (hs:s.length<2^62):∃e:Int,e≠0/\K' Pg 491 [.str s]=some (ga e (tk 9 s)):=by
 have⟨h,R⟩:=h;have⟨el,Z,J⟩:=IY R s hs;refine⟨j5 el 0 s,P8 Z,?_⟩;refine aA h rfl ?_;simp only[F491,c491,go_sem];have dW:=W4;simp only[go_sem,Gb,V.int.injEq,true_and] at dW;unfold l491_0;refine bu (fun (i:Nat) S=>i<=s.length/\i<=9/\S.ρ 0=.str s/\S.ρ 9=iz s.length/\S.ρ 10=iz i/\∃cf:Nat,cf<128^i/\S.ρ 5=iz cf/\tk 9 s=tg i cf (tk (9-i) (s.drop i))/\j5 el 0 s=j5 el i (s.drop i)) (fun i=>s.length-i) 0 ?_ ?_
 ·exact⟨GY _,GY _,rfl,rfl,rfl,0,by decide,rfl,(Zx _).symm,rfl⟩
 ·intro i S ⟨hi,ab,P,L,q,cf,T,s5,p,o⟩;cases D:decide ((i:Int)<(s.length:Int)) with
  |false=>
   have:i=s.length:=by have:=Ga D;omega
   subst this;rw[GQ] at p o;have j:ga (j5 el 0 s) (tk 9 s)=.tuple [iz 0,.str [],iz 2]:=by rw[p,o];cases 9-s.length<;>rfl
   simp only[go_sem,L,q,D,j]
  |true=>
   have U:=Yj D;have⟨b,M,hdr⟩:=aZ U;rw[hdr] at p o;have z:=inc64q (i:=i) (by omega)
   have B:IntKind.i64.wrap (7*(i:Int))=((7*i:Nat):Int):=by rw[bv (by omega) (by omega)];omega
   have u:IntKind.i64.wrap ((b.toNat%128:Nat):Int)=((b.toNat%128:Nat):Int):=bv (by omega) (by omega);have aa:=b.toNat_lt;cases E:decide ((8:Int)<i) with
   |true=>
    have h9:i=9:=by have:=Gc E;omega
    have X:tk 9 s=none:=by rw[p,show 9-i=0 by omega];rfl
    have Y:j5 el 0 s=if 128<=b.toNat\/0<b.toNat%128 then el else 3:=by rw[o];simp only[j5];rw[Gt (by omega)]
    cases c3:decide ((128:Int)<=(b.toNat:Int)) with
    |true=>
     have j:ga (j5 el 0 s) (tk 9 s)=.tuple [iz 0,.str [],iz el]:=by rw[X,Y,Gt (.inl (by have:=Gc c3;omega))];rfl
     simp only[go_sem,P,L,q,D,E,c3,M,dW,u,J,j]
    |false=>
    cases y:decide ((0:Int)<((b.toNat%128:Nat):Int)) with
    |true=>
     have j:ga (j5 el 0 s) (tk 9 s)=.tuple [iz 0,.str [],iz el]:=by rw[X,Y,Gt (.inr (by have:=Gc y;omega))];rfl
     simp only[go_sem,P,L,q,D,E,c3,y,M,dW,u,J,j]
    |false=>
     have Q:decide (((b.toNat%128:Nat):Int)=0)=true:=Gu (by have:=Ga y;omega);have c6:decide ((0:Int)<(i:Int))=true:=Gu (by omega);have j:ga (j5 el 0 s) (tk 9 s)=.tuple [iz 0,.str [],iz 3]:=by rw[X,Y,Gn (by have:=Ga y;have:=Ga c3;omega)];rfl
     simp only[go_sem,P,L,q,D,E,c3,y,Q,c6,M,dW,u,j]
   |false=>
    have h8:i<=8:=by have:=Ga E;omega
    have H:=ZL (cf:=cf) (d:=b.toNat%128) (i:=i) T (by omega) h8;simp only[go_sem,Gb,V.int.injEq,true_and] at H;have O:tx .shl (iz ((b.toNat%128:Nat):Int)) (iz ((7*i:Nat):Int))=some (iz (IntKind.i64.wrap (((b.toNat%128:Nat):Int)*2^min (7*i) 64))):=by
     simp only[tx];rw[Gn (by omega)];rfl
    have N:cf+128^i*(b.toNat%128)<128^(i+1):=by
     have:=Nat.mul_le_mul (GC (128^i)) (show b.toNat%128+1<=128 by omega);rw[Nat.mul_add] at this;rw[Nat.pow_succ];omega
    cases c3:decide ((128:Int)<=(b.toNat:Int)) with
    |true=>
     have w:128<=b.toNat:=by have:=Gc c3;omega
     rw[show 9-i=(8-i)+1 by omega,WE w,show 8-i=9-(i+1) by omega] at p;simp only[j5] at o;rw[Gn (by omega),Gt w] at o;simp only[go_sem,P,s5,L,q,D,E,c3,M,dW,u,B,O,H,z];exact⟨i+1,by omega,by omega,by omega,rfl,_,N,rfl,p,o⟩
    |false=>
     have w:b.toNat<128:=by have:=Ga c3;omega
     have W:b.toNat%128=b.toNat:=by omega
     have I:i+1<=s.length:=U;have e0:tk (9-i) (b::s.drop (i+1))=some (b.toNat,s.drop (i+1)):=by
      rw[show 9-i=(8-i)+1 by omega];simp only[tk];rw[Gt w]
     rw[e0] at p;simp only[j5] at o;rw[Gn (by omega),Gn (by omega)] at o;cases y:decide (((b.toNat%128:Nat):Int)=0) with
     |true=>
      have h0:b.toNat=0:=by have:=Gc y;omega
      cases Q:decide ((0:Int)<(i:Int)) with
      |true=>
       have j:ga (j5 el 0 s) (tk 9 s)=.tuple [iz 0,.str [],iz 3]:=by
        rw[p,o];simp only[tg,Option.bind_some];rw[Gt ⟨by have:=Gc Q;omega,h0⟩];rfl
       simp only[go_sem,P,L,q,D,E,c3,y,Q,M,dW,u,j]
      |false=>
       have j:ga (j5 el 0 s) (tk 9 s)=.tuple [iz ((cf+128^i*(b.toNat%128):Nat):Int),.str (s.drop (i+1)),iz 0]:=by
        rw[p];simp only[tg,Option.bind_some];rw[Gn (by have:=Ga Q;omega),W];rfl
       simp only[go_sem,P,s5,L,q,D,E,c3,y,Q,M,dW,u,B,O,H,z,I,GB,j]
     |false=>
      have j:ga (j5 el 0 s) (tk 9 s)=.tuple [iz ((cf+128^i*(b.toNat%128):Nat):Int),.str (s.drop (i+1)),iz 0]:=by
       rw[p];simp only[tg,Option.bind_some];rw[Gn (by have:=Ga y;omega),W];rfl
      simp only[go_sem,P,s5,L,q,D,E,c3,y,M,dW,u,B,O,H,z,I,GB,j]
def AJ:=HpC 506 F506 sb
def IZ (h:AJ Pg) (s:mp) (y:s.length<2^62):∃e:Int,e≠0/\K' Pg 506 [.str s]=some (nx e (dh s)):=by
 have⟨h,j⟩:=h;have⟨e,u,k⟩:=oB j s y;unfold dh;cases p:tk 9 s with
 |none=>
  rw[p] at k;have w:decide (e=0)=false:=Gp u;refine⟨e,u,aA h rfl ?_⟩;simp only[ga] at k;simp only[F506,c506,go_sem,k,w,Option.bind_none,nx]
 |some q=>
  have⟨n,r⟩:=q;rw[p] at k;simp only[ga] at k;simp only[Option.bind_some];have z:=Qi p;cases o:decide ((r.length:Int)<n) with
  |true=>
   refine⟨2,by decide,aA h rfl ?_⟩;have h1:¬n<=r.length:=by have:=Gc o;omega
   simp only[F506,c506,go_sem,k,o,Gn h1,nx]
  |false=>
   refine⟨2,by decide,aA h rfl ?_⟩;have h1:n<=r.length:=by have:=Ga o;omega
   simp only[F506,c506,go_sem,k,o,h1,nx,GB]
def AK:=HpZ 507 F507
def I0 (h:AK Pg) (s:mp):∃e:Int,e≠0/\K' Pg 507 [.str s]=some (nw e (dY s)):=by
 cases s with
 |nil=>
  refine⟨2,by decide,aA h rfl ?_⟩;simp only[F507,c507,go_sem,dY,nw]
 |cons b s=>
  have h0:tQ (.str (b::s)) (.int .i64 0)=some (.int .u8 b.toNat):=rfl;have u:decide (b::s=[])=false:=rfl;have q:decide ((b.toNat:Int)=1)=decide (b.toNat=1):=GO.2 (by omega);have o:1<=s.length+1:=by omega
  have p:List.take (s.length+1) (b::s)=b::s:=by simp
  refine⟨3,by decide,aA h rfl ?_⟩;cases j:decide ((1:Int)<b.toNat) with
  |true=>
   have h1:¬b.toNat<=1:=by have:=Gc j;omega
   simp only[F507,c507,go_sem,j,h0,dY,nw,Gn h1]
  |false=>
   have h1:b.toNat<=1:=by have:=Ga j;omega
   simp only[F507,c507,go_sem,j,h0,q,o,p,dY,nw,Gt h1,List.length_cons,List.drop_succ_cons,tF]
def rY:=HpC 470 F470 lD
def oy (h:rY Pg) (s:mp) (hs:s.length<2^62):∃e:Int,e≠0/\K' Pg 470 [.str s]=some (ga e (tk 9 s)):=by
 have⟨h,M⟩:=h;by_cases o:s.all fun b=>decide (128<=b.toNat)
 ·refine⟨2,by decide,aA h rfl ?_⟩;have U:ga 2 (tk 9 s)=.tuple [iz 0,.str [],iz 2]:=by
   rw[uE fun b w=>by
    rw[GG] at o;simpa using o b (xn w)]
   rfl
  simp only[F470,c470,go_sem,U];unfold l470_0;refine bu (fun (i:Nat) S=>i<=s.length/\S.ρ 0=.str s/\S.ρ 5=iz i) (fun i=>s.length-i) 0 ?_ ?_
  ·exact⟨GY _,rfl,rfl⟩
  ·intro i S ⟨hi,u,s5⟩;cases z:decide ((i:Int)<(s.length:Int)) with
   |false=>
    have B:decide ((i:Int)=(s.length:Int))=true:=Gu (by have:=Ga z;omega);simp only[go_sem,u,s5,z,B]
   |true=>
    have I:=Yj z;obtain⟨b,w,-⟩:=aZ I;have p:=inc64q (i:=i) (by omega)
    have B:decide ((128:Int)<=b.toNat)=true:=Gu (by
     rw[GG] at o;have:=o b (List.mem_of_getElem? w);simp at this;omega)
    simp only[go_sem,u,s5,z,B,w,p];exact⟨i+1,by omega,by omega,rfl⟩
 ·obtain⟨l,c,r,hl,hc,rfl⟩:∃l c r,(∀b∈l,128<=b.toNat)/\c.toNat<128/\s=l++c::r:=by
   clear hs
   induction s with
   |nil=>simp at o
   |cons b s ih=>
    by_cases w:b.toNat<128
    ·exact⟨[],b,s,fun x hx=>by simp at hx,w,rfl⟩
    ·have⟨l,c,r,h1,h2,h3⟩:=ih (fun h'=>o (by simp only[List.all_cons,h',GE,Gj];omega));exact⟨b::l,c,r,fun x hx=>by
      rcases GH.1 hx with rfl|hx
      ·omega
      ·exact h1 x hx,h2,by rw[h3];rfl⟩
  have H:(l++c::r)[l.length]?=some c:=by simp
  have Q:∀i,i<l.length->∃b,(l++c::r)[i]?=some b/\b∈l:=fun i hi=>⟨l[i],by rw[List.getElem?_append_left hi];simp[hi],xp hi⟩;have y:(l++c::r).take (l.length+1)=l++[c]:=by
   rw[show l++c::r=(l++[c])++r by simp,List.take_append_of_le_length (by simp),tG (by simp)]
  have P:(l++c::r).drop (l.length+1)=r:=by
   rw[show l++c::r=(l++[c])++r by simp,List.drop_append_of_le_length (by simp),List.drop_of_length_le (by simp)];rfl
  have ai:l.length<(l++c::r).length:=by simp
  rw[xk hl hc];refine⟨3,by decide,aA h rfl ?_⟩;generalize J:(if l.length+1<=9/\aD (val (l++[c]))=l++[c] then some (val (l++[c]),r) else none)=R;generalize ak:l++c::r=s at *
  simp only[F470,c470,go_sem];unfold l470_0;refine bu (fun (i:Nat) S=>i<=l.length/\S.ρ 0=.str s/\S.ρ 5=iz i) (fun i=>l.length-i) 0 ?_ ?_
  ·exact⟨GY _,rfl,rfl⟩
  ·intro i S ⟨hi,u,s5⟩;have z:decide ((i:Int)<(s.length:Int))=true:=Gu (by omega);have I:i<s.length:=by omega
   have p:=inc64q (i:=i) (by omega)
   by_cases ac:i<l.length
   ·have⟨b,w,N⟩:=Q i ac;have B:decide ((128:Int)<=b.toNat)=true:=Gu (by have:=hl b N;omega);simp only[go_sem,u,s5,z,B,w,p];exact⟨i+1,by omega,by omega,rfl⟩
   ·have ab:i=l.length:=by omega
    rw[<-ab] at H y P;have B:decide ((128:Int)<=c.toNat)=false:=Gp (by omega);have c3:decide ((i:Int)=(s.length:Int))=false:=Gp (by omega);cases X:decide ((8:Int)<i) with
    |true=>
     rw[Gn (by have:=Gc X;omega)] at J;subst J;simp only[go_sem,u,s5,z,B,c3,X,H,ga]
    |false=>
     have h8:i<=8:=by have:=Ga X;omega
     simp only[go_sem,u,s5,z,B,c3,X,H];have T:val (l++[c])<2^63:=by
      have h1:=Ls (l++[c]);have h2:(128:Nat)^(l++[c]).length<=128^9:=Nat.pow_le_pow_right (by omega) (by simp;omega);have h3:(128:Nat)^9=2^63:=by decide
      omega
     have E:=sB M (val (l++[c])) T;unfold l470_1;refine bu (fun (m:Nat) S=>m<=i+1/\S.ρ 0=.str s/\S.ρ 5=iz i/\S.ρ 7=iz ((m:Int)-1)/\S.ρ 6=iz (val ((l++[c]).drop m))) (fun m=>m) (i+1) ?_ ?_
     ·refine⟨GC _,by simp only[go_sem,u],by simp only[go_sem,s5],by simp only[go_sem];congr 1;omega,?_⟩;rw[List.drop_of_length_le (by simp;omega)];simp only[go_sem];rfl
     ·intro m S ⟨hm,u,s5,Z,s6⟩;by_cases ad:m=0
      ·have L:decide ((0:Int)<=(m:Int)-1)=false:=Gp (by omega);rw[show (l++[c]).drop m=l++[c] by rw[ad];rfl] at s6;have D:i+1<=s.length:=I;by_cases Y:aD (val (l++[c]))=l++[c]
       ·rw[Gt ⟨by omega,Y⟩] at J;subst J;have c7:decide (aD (val (l++[c]))=l++[c])=true:=Gu Y;simp only[go_sem,u,s5,s6,Z,L,E,p,D,y,P,c7,ga,GB]
       ·rw[Gn (fun h'=>Y h'.2)] at J;subst J;have c7:decide (aD (val (l++[c]))=l++[c])=false:=Gp Y;simp only[go_sem,u,s5,s6,Z,L,E,p,D,y,c7,ga]
      ·obtain⟨j,rfl⟩:∃j,m=j+1:=⟨m-1,by omega⟩;have L:decide ((0:Int)<=((j+1:Nat):Int)-1)=true:=Gu (by omega);have hj:(((j+1:Nat):Int)-1)=(j:Int):=by omega
       rw[hj] at Z L;have aj:j<s.length:=by omega
       have⟨b,aa,q⟩:=aZ (show j<(l++[c]).length by simp;omega);have w:s[j]?=some b:=by rw[<-aa,<-y,List.getElem?_take_of_lt (by omega)]
       have W:val ((l++[c]).drop j)<2^63:=by
        have h1:=Ls ((l++[c]).drop j);have h2:(128:Nat)^((l++[c]).drop j).length<=128^9:=Nat.pow_le_pow_right (by omega) (by simp;omega);have h3:(128:Nat)^9=2^63:=by decide
        omega
       rw[q] at W;simp only[val] at W;have af:IntKind.i64.wrap (128*((val ((l++[c]).drop (j+1)):Nat):Int))=((128*val ((l++[c]).drop (j+1)):Nat):Int):=by rw[bv (by omega) (by omega)];omega
       have N:=b.toNat_lt;have ag:IntKind.i64.wrap (b.toNat:Int)=(b.toNat:Int):=bv (by omega) (by omega);have ae:(b.toNat:Int).tmod 128=((b.toNat%128:Nat):Int):=rfl;have ah:IntKind.i64.wrap (((128*val ((l++[c]).drop (j+1)):Nat):Int)+((b.toNat%128:Nat):Int))=((val ((l++[c]).drop j):Nat):Int):=by
        rw[bv (by omega) (by omega),q];simp only[val];omega
       have O:IntKind.i64.wrap ((j:Int)-1)=(j:Int)-1:=bv (by omega) (by omega);simp only[go_sem,u,s5,s6,Z,L,w,af,ag,ah,ae,O];exact⟨j,by omega,by omega,rfl,rfl⟩
structure aB where
 wall:Int
 tick:Int
 node:Int
 deriving DecidableEq
structure bz where
 at_:aB
 gone:Bool
 val:mp
 deriving DecidableEq
@[go_sem] def Ye (s:aB):Eq:=[iz s.wall,iz s.tick,iz s.node]
@[go_sem] def dv (v:bz):Eq:=[iz v.at_.wall,iz v.at_.tick,iz v.at_.node,.bool v.gone,.str v.val]
def Yd (c:List bz):V:=.slice 5 (c.map dv)
def pC (a b:Int):Bool:=decide (0<=a)&&decide (a<=b)
def oT (a b:Int):Int:=if a<b then -1 else if b<a then 1 else 0
def pb:List Int->Int
 |[]=>0
 |a::l=>if a=0 then pb l else a
def Ya (s:aB):Bool:=pC s.wall 1099511627776&&pC s.tick 1048576&&pC s.node 255
def Yc (a b:aB):Int:=pb [oT a.wall b.wall,oT a.tick b.tick,oT a.node b.node]
def YQ (v:bz):Bool:=Ya v.at_&&decide (v.val.length<=16)&&(!v.gone||decide (v.val=[]))
def Mo:=HpZ 32 F32
def Vn (h:Mo Pg) (a b:Int):K' Pg 32 [iz a,iz b]=some (.bool (pC a b)):=by
 refine aA h rfl ?_;simp only[go_sem];refine io (fun h=>?_) (fun h=>?_)<;>simp only[go_sem,h,pC]
def Mn:=HpZ 31 F31
def Vm (h:Mn Pg) (a:Int):K' Pg 31 [iz a]=some (.bool false):=by
 refine aA h rfl ?_;simp only[go_sem]
def Mj:=HpC 26 F26 Mn
def Vi (h:Mj Pg) (a b:Int):K' Pg 26 [iz a,iz b]=some (iz (oT a b)):=by
 have⟨h,j⟩:=h;refine aA h rfl ?_;have o:=fun x=>Vm j x;simp only[go_sem,o]
 repeat' (refine aY (fun h=>?_) (fun h=>?_)<;>simp only[go_sem])
 all_goals simp_all [oT]
 omega
def Mk:=HpZ 27 F27
def Vj (h:Mk Pg) (l:List Int) (z:l.length<2^60):K' Pg 27 [.slice 1 (l.map fun a=>[iz a])]=some (iz (pb l)):=by
 refine aA h rfl ?_;simp only[go_sem];unfold l27_0;refine bu (fun (i:Nat) S=>i<=l.length/\S.ρ 3=iz 0/\S.ρ 6=.slice 1 (l.map fun a=>[iz a])/\S.ρ 7=iz l.length/\S.ρ 8=iz i/\pb (l.drop i)=pb l) (fun i=>l.length-i) 0 ?_ ?_
 ·simp[go_sem]
 ·intro i S ⟨hi,j,q,u,o,p⟩;simp only[go_sem,u,o];refine aY (fun h=>?_) (fun h=>?_)
  ·simp only[Gj,GW] at h;have⟨x,y,w⟩:=aZ h;simp only[go_sem,j,q,o,y];refine aY (fun h=>?_) (fun h=>?_)
   ·simp only[go_sem];simp only[GM,Gs] at h;rw[<-p,w];simp[pb,h]
   ·simp only[go_sem,j,q,u,o];simp only[uH,Gj] at h;refine⟨i+1,by omega,by omega,?_,by rw[<-p,w];simp[pb,h]⟩;rw[bv (by omega) (by omega)];rfl
  ·simp only[Gs,GW] at h;simp only[go_sem,j];have:i=l.length:=by omega
   rw[<-p,this];simp[pb]
def rm:=HpC 15 F15<|HpA Mj<|Mk
def tU (h:rm Pg) (a b:aB):K' Pg 15 [.agg (Ye a),.agg (Ye b)]=some (iz (Yc a b)):=by
 have⟨h,o,p⟩:=h;refine aA h rfl ?_;have q:=fun x y=>Vi o x y;have j:=Vj p [oT a.wall b.wall,oT a.tick b.tick,oT a.node b.node] (by simp);simp only[GA,Gk] at j;simp only[go_sem,q,j,Yc]
def lC:=HpC 28 F28 Mo
def lh (h:lC Pg) (a:aB):K' Pg 28 [.agg (Ye a)]=some (.bool (Ya a)):=by
 have⟨h,j⟩:=h;refine aA h rfl ?_;have k:=fun x y=>Vn j x y;simp only[go_sem,k]
 repeat' (refine io (fun h=>?_) (fun h=>?_)<;>simp only[go_sem,h,k,Ya])
def Fb:=HpC 22 F22 lC
def N0 (h:Fb Pg) (a:bz):K' Pg 22 [.agg (dv a)]=some (.bool (YQ a)):=by
 have⟨h,j⟩:=h;refine aA h rfl ?_;have k:=lh j a.at_;simp only[Ye] at k;simp only[go_sem,k]
 repeat' (first|refine io (fun h=>?_) (fun h=>?_)<;>simp only[go_sem,h]|refine sj (fun h=>?_) (fun h=>?_)<;>simp only[go_sem,h])
 all_goals simp_all [YQ]
 all_goals omega
def ed:Option bz->List bz->Bool
 |_,[]=>true
 |p,v::l=>YQ v&&(match p with|none=>true|some q=>decide (Yc q.at_ v.at_<0))&&ed (some v) l
def Yh (c:List bz):Bool:=ed none c&&decide (c.length<=64)
def lj (c:List bz) (i:Nat):Option bz:=if i=0 then none else c[i-1]?
def H7:=HpC 7 F7<|HpA Fb<|rm
def K7 (h:H7 Pg) (l:List bz) (U:l.length<2^60):K' Pg 7 [Yd l]=some (.bool (Yh l)):=by
 have⟨h,O,N⟩:=h;refine aA h rfl ?_;have p:=fun x=>N0 O x;have I:=fun x y=>tU N x y;simp only[go_sem,Yd];unfold l7_0;refine bu (fun (i:Nat) S=>i<=l.length/\S.ρ 0=Yd l/\S.ρ 5=Yd l/\S.ρ 6=iz l.length/\S.ρ 7=iz i/\S.μ 4=none/\ed (lj l i) (l.drop i)=ed none l) (fun i=>l.length-i) 0 ?_ ?_
 ·simp[go_sem,Yd,lj]
 ·intro i S ⟨hi,h0,J,P,D,hm,B⟩;simp only[go_sem,P,D];refine aY (fun h=>?_) (fun h=>?_)
  ·simp only[Gj,GW] at h;have⟨x,M,L⟩:=aZ h;simp only[Ye,dv] at p I;have j:(YQ x=true->ed (lj l i) (x::l.drop (i+1))=((match lj l i with|none=>true|some q=>decide (Yc q.at_ x.at_<0))&&ed (some x) (l.drop (i+1)))):=fun h=>by simp[ed,h]
   have o:lj l (i+1)=some x:=by simp[lj,M]
   have u:IntKind.i64.wrap ((i:Int)+1)=((i+1:Nat):Int):=bv (by omega) (by omega);have E:YQ x=false->ed none l=false:=fun h=>by rw[<-B,L];simp[ed,h]
   cases z:YQ x with
   |false=>simp only[go_sem,J,D,M,Yd,hm,p,z,GR,Yh,E z]
   |true=>
    rcases nI i with hz|hz
    ·have w:decide ((0:Int)<(i:Int))=false:=by simp[hz]
     simp only[go_sem,h0,J,P,D,M,Yd,hm,p,z,Gx,w];refine⟨i+1,by omega,by omega,by rw[u],?_⟩;rw[o,<-B,L,j z];simp[lj,hz]
    ·have w:decide ((0:Int)<(i:Int))=true:=by simp[hz]
     have H:IntKind.i64.wrap ((i:Int)-1)=((i-1:Nat):Int):=by rw[bv (by omega) (by omega)];omega
     have T:l[i-1]?=some l[i-1]:=by simp
     have R:lj l i=some l[i-1]:=by simp[lj,Nat.ne_of_gt hz]
     simp only[go_sem,h0,J,D,M,Yd,hm,p,z,Gx,w,H,T,I];refine aY (fun Q=>?_) (fun Q=>?_)
     ·simp only[go_sem];have:¬Yc l[i-1].at_ x.at_<0:=by simpa using Q
      have:ed none l=false:=by rw[<-B,L,j z,R];simp[this]
      simp[Yh,this]
     ·simp only[go_sem,h0,J,P,D,Yd];have:Yc l[i-1].at_ x.at_<0:=by simpa using Q
      refine⟨i+1,by omega,by omega,by rw[u],?_⟩;rw[o,<-B,L,j z,R];simp[this]
  ·simp only[Gs,GW] at h;simp only[go_sem,h0,Yd];have:i=l.length:=by omega
   subst this;simp[ed] at B;have:(decide ((l.length:Int)<=64))=decide (l.length<=64):=GO.2 (by omega);simp[Yh,<-B,this]
def Mm:=HpC 30 F30 rm
def Vl (h:Mm Pg) (v:bz) (s:aB):K' Pg 30 [.agg (dv v),.agg (Ye s)]=some (iz (Yc v.at_ s)):=by
 have⟨h,o⟩:=h;refine aA h rfl ?_;have j:=fun x y=>tU o x y;simp only[Ye] at j;simp only[go_sem,j]
def Ml:=HpZ 29 F29
def Vk (h:Ml Pg) (l:List bz) (s:aB) (g:Nat) (f:Nat->Int) (n:Nat) (U:l.length<2^60)
  (H:∀i v,l[i]?=some v->K' Pg g [.agg (dv v),.agg (Ye s)]=some (iz (f i))) (T:n<=l.length) (h1:∀j,j<n->f j<0) (Q:∀j,n<=j->j<l.length->0<=f j) :
  K' Pg 29 [Yd l,.agg (Ye s),.func g []]=some (.tuple [iz n,.bool (decide (n<l.length)&&decide (f n=0))]):=by
 refine aA h rfl ?_
 simp only[Ye,dv] at H
 simp only[go_sem,Yd]
 unfold l29_0
 refine bu (fun (p:Nat×Nat) S=>p.1<=n/\n<=p.2/\p.2<=l.length/\S.ρ 0=Yd l/\S.ρ 2=.func g []/\S.ρ 4=.lref 4 0/\S.μ 4=some (Ye s,false)/\S.ρ 8=iz l.length/\S.ρ 9=iz p.1/\S.ρ 10=iz p.2) (fun p=>p.2-p.1) (0,l.length) ?_ ?_
 ·simp[go_sem,Yd,T]
 ·intro⟨i,j⟩ S ⟨hi,J,z,h0,u,D,hm,E,y,q⟩
  simp only at hi J z y q
  simp only[go_sem,y,q]
  refine aY (fun h=>?_) (fun h=>?_)
  ·simp only[Gj,GW] at h
   have L:IntKind.i64.wrap ((i:Int)+j)=(i:Int)+j:=bv (by omega) (by omega)
   have M:IntKind.u64.wrap ((i:Int)+j)=(i:Int)+j:=_root_.Go.IntWalk.u64_in _ ⟨by omega,by omega⟩
   have N:Int.fdiv ((i:Int)+j) 2=(((i+j) / 2:Nat):Int):=by
    rw[Dg _ (by omega)];omega
   have O:IntKind.i64.wrap ((((i+j) / 2:Nat):Int))=(((i+j) / 2:Nat):Int):=bv (by omega) (by omega)
   have P:IntKind.i64.wrap ((((i+j) / 2:Nat):Int)+1)=(((i+j) / 2+1:Nat):Int):=bv (by omega) (by omega)
   have⟨x,B,R⟩:=aZ (l:=l) (i:=(i+j) / 2) (by omega)
   have w:=H _ _ B
   simp only[go_sem,h0,u,D,hm,y,q,L,M,N,O,B,w,Yd]
   refine aY (fun o=>?_) (fun o=>?_)
   ·simp only[go_sem,h0,u,D,hm,E,q,P,Yd]
    have I:f ((i+j) / 2)<0:=by simpa using o
    refine⟨((i+j) / 2+1,j),by simp only;omega,?_,J,z,rfl,rfl⟩
    simp only
    rcases GF ((i+j) / 2) n with h'|h'
    ·exact h'
    ·have:=Q _ h' (by omega);omega
   ·simp only[go_sem,h0,u,D,hm,E,y,Yd]
    have I:¬f ((i+j) / 2)<0:=by simpa using o
    refine⟨(i,(i+j) / 2),by simp only;omega,hi,?_,by simp only;omega,rfl,rfl⟩
    simp only
    rcases GF ((i+j) / 2) n with h'|h'
    ·exact absurd (h1 _ h') I
    ·exact h'
  ·simp only[Gs,GW] at h
   have:i=n:=by omega
   subst this
   simp only[go_sem,E,y,Yd]
   refine io (fun o=>?_) (fun o=>?_)
   ·simp only[Gj,GW] at o
    have⟨x,B,R⟩:=aZ o
    have w:=H _ _ B
    simp only[go_sem,h0,u,D,hm,y,B,w,Yd,o,jS,GW]
   ·simp only[Gs,GW] at o
    simp only[go_sem,o,mu,GW]
def mN {a b:aB}:Yc a b<0↔a.wall<b.wall\/(a.wall=b.wall/\(a.tick<b.tick\/(a.tick=b.tick/\a.node<b.node))):=by
 simp only[Yc,pb,oT]
 repeat' split
 all_goals omega
def xN {a b:aB}:Yc a b=0↔a.wall=b.wall/\a.tick=b.tick/\a.node=b.node:=by
 simp only[Yc,pb,oT]
 repeat' split
 all_goals omega
def wG {a b:aB}:0<Yc a b↔b.wall<a.wall\/(b.wall=a.wall/\(b.tick<a.tick\/(b.tick=a.tick/\b.node<a.node))):=by
 simp only[Yc,pb,oT]
 repeat' split
 all_goals omega
def bX (s:aB):List bz->Nat
 |[]=>0
 |v::l=>if Yc v.at_ s<=0 then bX s l+1 else 0
def DY {p:Option bz} {v:bz} {l:List bz} (h:ed p (v::l)=true):ed (some v) l=true:=by
 simp only[ed,Ge] at h;exact h.2
def OF {p v:bz} {l:List bz} (h:ed (some p) l=true) (hv:v∈l):Yc p.at_ v.at_<0:=by
 induction l generalizing p with
 |nil=>simp at hv
 |cons w l o=>
  simp only[ed,Ge,Gj] at h;rcases GH.1 hv with rfl|hv
  ·exact h.1.2
  ·have j:=o h.2 hv;have h1:=h.1.2;rw[mN] at h1 j ⊢;omega
def xM (s:aB) (c:List bz):bX s c<=c.length:=by
 induction c with
 |nil=>simp[bX]
 |cons v l j=>simp only[bX];split<;>simp<;>omega
theorem Et {s:aB}:∀{c:List bz} {j:Nat} {v:bz},j<bX s c->c[j]?=some v->Yc v.at_ s<=0
 |[],j,v,h,_=>by simp[bX] at h
 |w::l,j,v,h,hv=>by
  simp only[bX] at h;split at h
  ·cases j with
   |zero=>simp at hv;subst hv;assumption
   |succ j=>exact Et (c:=l) (j:=j) (by omega) (by simpa using hv)
  ·omega
theorem EC {s:aB}:∀{c:List bz} {p:Option bz} {j:Nat} {v:bz},ed p c=true->bX s c<=j->c[j]?=some v->0<Yc v.at_ s
 |[],p,j,v,_,_,hv=>by simp at hv
 |w::l,p,j,v,hc,h,hv=>by
  have ht:=DY hc;simp only[bX] at h;split at h
  ·cases j with
   |zero=>omega
   |succ j=>exact EC (c:=l) (j:=j) ht (by omega) (by simpa using hv)
  ·rename_i hw;cases j with
   |zero=>simp at hv;subst hv;omega
   |succ j=>
    have:v∈l:=List.mem_of_getElem? (by simpa using hv);have h1:=OF ht this;have o:0<Yc w.at_ s:=by omega
    rw[wG] at o ⊢;rw[mN] at h1;omega
theorem xY:∀{c:List bz} {p:Option bz} {i j:Nat} {v w:bz},ed p c=true->i<j->c[i]?=some v->c[j]?=some w->Yc v.at_ w.at_<0
 |[],_,i,j,v,w,_,_,hv,_=>by simp at hv
 |x::l,p,i,j,v,w,hc,hij,hv,hw=>by
  cases j with
  |zero=>omega
  |succ j=>
   cases i with
   |zero=>
    simp at hv hw;subst hv;exact OF (DY hc) (List.mem_of_getElem? hw)
   |succ i=>exact xY (c:=l) (i:=i) (j:=j) (DY hc) (by omega) (by simpa using hv) (by simpa using hw)
def Fd:=HpC 25 F25<|HpA Ml<|Mm
def N1 (h:Fd Pg) (l:List bz) (s:aB) (O:l.length<2^60) (D:ed none l=true):K' Pg 25 [Yd l,.agg (Ye s)]=some (iz (bX s l)):=by
 have⟨h,E,H⟩:=h;refine aA h rfl ?_
 let f:Nat->Int:=fun j=>match l[j]? with|some v=>Yc v.at_ s|none=>0
 have y:∀j v,l[j]?=some v->f j=Yc v.at_ s:=fun j v u=>by simp[f,u]
 let n:=if bX s l≠0/\f (bX s l-1)=0 then bX s l-1 else bX s l
 have P:=xM s l;have Q:n<=l.length:=by simp only[n];split<;>omega
 have get:∀j,j<l.length->∃v,l[j]?=some v:=fun j J=>⟨l[j],by simp[J]⟩;have h1:∀j,j<n->f j<0:=fun j J=>by
  have⟨v,u⟩:=get j (by omega);rw[y j v u];by_cases o:bX s l≠0/\f (bX s l-1)=0
  ·have:n=bX s l-1:=Gt o;have⟨w,hw⟩:=get (bX s l-1) (by omega);have h3:=o.2;rw[y _ _ hw,xN] at h3;have I:=xY (p:=none) D (by omega:j<bX s l-1) u hw;rw[mN] at I ⊢;omega
  ·have q:n=bX s l:=Gn o;have h3:=Et (s:=s) (by omega:j<bX s l) u;rcases GF j (bX s l-1) with h5|h5
   ·have⟨w,hw⟩:=get (bX s l-1) (by omega);have I:=xY (p:=none) D h5 u hw;have R:=Et (s:=s) (by omega:bX s l-1<bX s l) hw;have N:Yc w.at_ s<0\/Yc w.at_ s=0:=by omega
    rw[mN,xN] at N;rw[mN] at I ⊢;omega
   ·have:j=bX s l-1:=by omega
    subst this;have:Yc v.at_ s≠0:=fun e=>o ⟨by omega,by rw[y _ _ u];exact e⟩;omega
 have M:∀j,n<=j->j<l.length->0<=f j:=fun j J L=>by
  have⟨v,u⟩:=get j L;rw[y j v u];rcases GF j (bX s l) with h3|h3
  ·have o:bX s l≠0/\f (bX s l-1)=0:=by
    by_cases o:bX s l≠0/\f (bX s l-1)=0
    ·exact o
    ·have:n=bX s l:=Gn o;omega
   have:n=bX s l-1:=Gt o;have:j=bX s l-1:=by omega
   subst this;have:=o.2;rw[y _ _ u] at this;omega
  ·have:=EC D h3 u;omega
 have B:=Vk E l s 30 f n O (fun i v u=>by rw[y i v u];exact Vl H v s) Q h1 M;simp only[Ye,Yd] at B;simp only[go_sem,Yd,B];have z:(decide (n<l.length)&&decide (f n=0))=decide (bX s l≠0/\f (bX s l-1)=0):=by
  by_cases o:bX s l≠0/\f (bX s l-1)=0
  ·have:n=bX s l-1:=Gt o;have h5:bX s l-1<l.length:=by have:=o.1;omega
   rw[Gu o,this,Gu h5,Gu o.2];rfl
  ·have q:n=bX s l:=Gn o;simp only[o,mu,Bool.and_eq_false_iff,Gs];rcases GF (bX s l) l.length with h5|h5
   ·have⟨w,hw⟩:=get _ h5;have:=EC D (GC _) hw;rw[q,y _ _ hw];exact .inr (by omega)
   ·exact .inl (by omega)
 rw[z];refine aY (fun o=>?_) (fun o=>?_)
 ·have o:=Gc o;have q:n=bX s l-1:=Gt o;simp only[go_sem];rw[bv (by omega) (by omega),q];have:((bX s l-1:Nat):Int)+1=(bX s l:Int):=by omega
  rw[this]
 ·have o:=Ga o;have q:n=bX s l:=Gn o;simp only[go_sem,q]
def gz:bz:=⟨⟨0,0,0⟩,false,[]⟩
def cZ (s:aB) (c:List bz):Option bz:=if Yh c then (if bX s c=0 then none else c[bX s c-1]?) else none
def p0 (o:Option bz):V:=.tuple [.agg (dv (o.getD gz)),.bool o.isSome]
def pu {c:List bz} (h:Yh c=true):ed none c=true/\c.length<=64:=by
 simpa [Yh] using h
def E7:=HpC 10 F10<|HpA H7<|Fd
def NY (h:E7 Pg) (l:List bz) (s:aB) (y:l.length<2^60):K' Pg 10 [Yd l,.agg (Ye s)]=some (p0 (cZ s l)):=by
 have⟨h,z,u⟩:=h;refine aA h rfl ?_;have w:=K7 z l y;simp only[Yd] at w;cases p:Yh l with
 |false=>simp only[go_sem,Yd,w,p,GR,p0,cZ,gz,Option.isSome_none,Gl]
 |true=>
  have q:=N1 u l s y (pu p).1;simp only[Yd,Ye] at q;simp only[go_sem,Yd,w,p,Gx,q];refine aY (fun j=>?_) (fun j=>?_)
  ·have j:bX s l=0:=by simpa using j
   simp only[go_sem,p0,cZ,p,j,gz,Option.isSome_none]
  ·have j:bX s l≠0:=by simpa using j
   have B:=xM s l;obtain⟨x,D,-⟩:=aZ (l:=l) (i:=bX s l-1) (by omega);have o:IntKind.i64.wrap ((bX s l:Int)-1)=((bX s l-1:Nat):Int):=by rw[bv (by omega) (by omega)];omega
   simp only[go_sem,p0,cZ,p,j,gz,Option.isSome_some,o,D]
def gR (s:aB) (c:List bz):Option mp:=match cZ s c with|some v=>if v.gone then none else some v.val|none=>none
def E8:=HpC 12 F12 E7
def Vd (h:E8 Pg) (l:List bz) (s:aB) (q:l.length<2^60):K' Pg 12 [Yd l,.agg (Ye s)]=some (.tuple [.str (match cZ s l with|some v=>v.val|none=>[]),.bool (match cZ s l with|some v=>!v.gone|none=>false)]):=by
 have⟨h,o⟩:=h;refine aA h rfl ?_;have j:=NY o l s q;simp only[Yd,Ye,p0,dv] at j;cases p:cZ s l with
 |none=>simp only[p,gz,Option.getD_none,Option.isSome_none] at j;simp only[go_sem,Yd,j]
 |some v=>simp only[p,gz,Option.getD_some,Option.isSome_some] at j;simp only[go_sem,Yd,j]
def Di (Pg:PgT):Prop:=Pg 23=some (.prim (some 0) (bJ 5))
def Ho (h:Di Pg) (rows:List Eq) (j:rows.length<=aU):K' Pg 23 [.slice 5 rows]=some (.slice 5 rows):=by
 rw[tT h];simp[bJ,j]
def bZ (c:List bz) (v:bz):List bz×Int:=
 if !Yh c||!YQ v then ([],1)
 else if (match c.getLast? with|some w=>decide (0<=Yc w.at_ v.at_)|none=>false) then ([],9)
 else if c.length=64 then ([],6) else (c++[v],0)
def H3:=HpC 3 F3<|HpA H7<|HpA Fb<|HpA rm<|Di
def K3 (h:H3 Pg) (l:List bz) (v:bz) (X:l.length<2^60):K' Pg 3 [Yd l,.agg (dv v)]=some (.tuple [Yd (bZ l v).1,iz (bZ l v).2]):=by
 have⟨h,W,O,N,P⟩:=h;refine aA h rfl ?_;have J:=K7 W l X;have z:=N0 O v;have H:=fun x y=>tU N x y;simp only[Yd,Ye,dv] at J z H;cases w:Yh l with
 |false=>simp only[go_sem,Yd,J,w,GR,bZ]
 |true=>
  cases D:YQ v with
  |false=>simp only[go_sem,Yd,J,w,GR,Gx,bZ,z,D]
  |true=>
   have T:=(pu w).2;have I:=Ho P (l.map dv) (by simp[aU];omega);have M:Wp (K' Pg) c3 (JC [Yd l,.agg (dv v)]) (fun R S=>(R=.norm\/R=.ret)/\jT F3 S=some (.tuple [Yd (bZ l v).1,iz (bZ l v).2])):=by
    have u:(l.map dv).length+1<=aU:=by simp[aU];omega
    rcases nI l.length with hz|hz
    ·have B:decide ((0:Int)<(l.length:Int))=false:=by simp[hz]
     have o:decide ((l.length:Int)=64)=false:=by simp[hz]
     have Q:l=[]:=GJ hz;have q:bZ l v=(l++[v],0):=by simp only[bZ,w,D];simp[Q]
     simp only[Gi] at u;simp only[go_sem,Yd,J,w,Gx,z,D,B,o,I,q,Gz,u]
    ·have B:decide ((0:Int)<(l.length:Int))=true:=by simp[hz]
     obtain⟨x,U,-⟩:=aZ (l:=l) (i:=l.length-1) (by omega);have E:IntKind.i64.wrap ((l.length:Int)-1)=((l.length-1:Nat):Int):=by rw[bv (by omega) (by omega)];omega
     have j:l.getLast?=some x:=by rw[List.getLast?_eq_getElem?];exact U
     simp only[Gi] at u;simp only[go_sem,Yd,J,w,Gx,z,D,B,E,U,H];refine aY (fun L=>?_) (fun L=>?_)
     ·simp only[go_sem,bZ,w,D,j,Gx,L]
     ·simp only[go_sem];refine aY (fun o=>?_) (fun o=>?_)
      ·have p:l.length=64:=by have:=Gc o;omega
       simp only[go_sem,bZ,w,D,j,Gx,L,p]
      ·have p:¬l.length=64:=by have:=Ga o;omega
       have q:bZ l v=(l++[v],0):=by simp[bZ,w,D,j,p,L]
       simp only[go_sem,I,q,Gz,u]
   exact M
def aV (a b:aB):Bool:=decide (Yc a b<0)
def H6:=HpZ 6 F6
def K6 (h:H6 Pg) (a b:aB):K' Pg 6 [.agg (Ye a),.agg (Ye b)]=some (.bool (aV a b)):=by
 refine aA h rfl ?_;simp only[go_sem]
 repeat' (refine aY (fun h=>?_) (fun h=>?_)<;>simp only[go_sem])
 all_goals
  simp only[aV,Gb,V.bool.injEq,GO,mN,GM,uH,Gs,Gj] at *
  omega
def nN:=HpZ 24 F24
def mD (h:nN Pg) (a:aB):K' Pg 24 [.agg (Ye a)]=some (.bool (Ya a)):=by
 refine aA h rfl ?_;simp only[go_sem]
 repeat' (refine io (fun h=>?_) (fun h=>?_)<;>simp only[go_sem,h])
 all_goals simp_all [Ya,pC]
 all_goals (intros;omega)
def H5:=HpC 5 F5 nN
def K5 (h:H5 Pg) (v:bz):K' Pg 5 [.agg (dv v)]=some (.bool (YQ v)):=by
 have⟨h,o⟩:=h;refine aA h rfl ?_;have j:=mD o v.at_;simp only[Ye] at j;simp only[go_sem]
 repeat' (first|refine io (fun h=>?_) (fun h=>?_)<;>simp only[go_sem,h,j]|refine aY (fun h=>?_) (fun h=>?_)<;>simp only[go_sem,h,j])
 all_goals
  simp only[YQ,Gb,V.bool.injEq] at *
  cases p:v.val<;>simp_all
 all_goals omega
def uf:Option bz->bz->Bool
 |none,_=>true
 |some q,x=>decide (Yc q.at_ x.at_<0)
def uc {p:Option bz} {x:bz} {l:List bz} (h:YQ x=true):ed p (x::l)=(uf p x&&ed (some x) l):=by
 cases p<;>simp[ed,uf,h]
def H4:=HpC 4 F4<|HpA H5<|H6
def K4 (h:H4 Pg) (l:List bz) (R:l.length<2^60):K' Pg 4 [Yd l]=some (.bool (Yh l)):=by
 have⟨h,I,J⟩:=h;refine aA h rfl ?_;have O:=fun x=>K5 I x;have P:=fun x y=>K6 J x y;simp only[dv,Ye] at O P;simp only[go_sem,Yd];refine aY (fun j=>?_) (fun j=>?_)
 ·have j:¬l.length<=64:=by have:=Gc j;omega
  simp only[go_sem,Yh,j,mu]
 ·have j:l.length<=64:=by have:=Ga j;omega
  have u:Yh l=ed none l:=by simp[Yh,j]
  simp only[go_sem];unfold l4_0;refine bu (fun (i:Nat) S=>i<=l.length/\S.ρ 0=Yd l/\S.ρ 3=iz i/\ed (lj l i) (l.drop i)=ed none l) (fun i=>l.length-i) 0 ?_ ?_
  ·simp[go_sem,Yd,lj]
  ·intro i S ⟨hi,h0,z,B⟩;simp only[go_sem,h0,z,Yd];refine aY (fun h=>?_) (fun h=>?_)
   ·simp only[Gj,GW] at h;have⟨x,M,H⟩:=aZ h;have o:lj l (i+1)=some x:=by simp[lj,M]
    have q:IntKind.i64.wrap ((i:Int)+1)=((i+1:Nat):Int):=bv (by omega) (by omega);have D:YQ x=false->ed none l=false:=fun h=>by rw[<-B,H];simp[ed,h]
    simp only[go_sem,h0,z,M,Yd,O];refine aY (fun p=>?_) (fun p=>?_)
    ·have p:YQ x=false:=by simpa using p
     simp only[go_sem,u,D p]
    ·have p:YQ x=true:=by simpa using p
     simp only[go_sem,z];refine io (fun hz=>?_) (fun hz=>?_)
     ·have w:0<i:=by have:=Gc hz;omega
      have E:IntKind.i64.wrap ((i:Int)-1)=((i-1:Nat):Int):=by rw[bv (by omega) (by omega)];omega
      have Q:l[i-1]?=some l[i-1]:=by simp
      have N:lj l i=some l[i-1]:=by simp[lj,Nat.ne_of_gt w]
      simp only[go_sem,h0,z,M,Yd,hz,E,Q,P];refine aY (fun j=>?_) (fun j=>?_)
      ·have L:¬Yc l[i-1].at_ x.at_<0:=by simpa [aV] using j
       have:ed none l=false:=by rw[<-B,H,uc p,N];simp[uf,L]
       simp only[go_sem,u,this]
      ·have L:Yc l[i-1].at_ x.at_<0:=by simpa [aV] using j
       simp only[go_sem,h0,z,Yd];refine⟨i+1,by omega,by omega,by rw[q],?_⟩;rw[o,<-B,H,uc p,N];simp[uf,L]
     ·have w:i=0:=by have:=Ga hz;omega
      simp only[go_sem,h0,z,Yd,hz];refine⟨i+1,by omega,by omega,by rw[q],?_⟩;rw[o,<-B,H,uc p];simp[uf,lj,w]
   ·simp only[Gs,GW] at h;have:i=l.length:=by omega
    subst this;simp[ed] at B;simp only[go_sem,u,B]
def H8:=HpZ 8 F8
def K8 (h:H8 Pg) (a b:List bz) (L:a.length<2^60):K' Pg 8 [Yd a,Yd b]=some (.bool (decide (a=b))):=by
 refine aA h rfl ?_;simp only[go_sem,Yd];refine aY (fun j=>?_) (fun j=>?_)
 ·have j:¬a.length=b.length:=by intro e;simp[e] at j
  have:a≠b:=fun e=>j (by rw[e]);simp only[go_sem,this,mu]
 ·have j:a.length=b.length:=by simp at j;omega
  simp only[go_sem];unfold l8_0;refine bu (fun (i:Nat) S=>i<=a.length/\S.ρ 0=Yd a/\S.ρ 1=Yd b/\S.ρ 5=iz i/\a.take i=b.take i) (fun i=>a.length-i) 0 ?_ ?_
  ·simp[go_sem,Yd]
  ·intro i S ⟨hi,h0,h1,q,z⟩;simp only[go_sem,h0,q,Yd];refine aY (fun h=>?_) (fun h=>?_)
   ·simp only[Gj,GW] at h;have⟨x,B,J⟩:=aZ h;have⟨y,p,H⟩:=aZ (l:=b) (i:=i) (by omega);have o:IntKind.i64.wrap ((i:Int)+1)=((i+1:Nat):Int):=bv (by omega) (by omega);simp only[go_sem,h0,h1,q,B,p,Yd];have u:(decide (x.at_.wall=y.at_.wall)&&(decide (x.at_.tick=y.at_.tick)&&(decide (x.at_.node=y.at_.node)&&((x.gone == y.gone)&&decide (x.val=y.val)))))=decide (x=y):=by
     cases x;cases y;rename_i D _ _ E _ _;cases D;cases E;simp only[bz.mk.injEq,aB.mk.injEq,Bool.decide_and];simp[Bool.and_assoc,Bool.beq_eq_decide_eq]
    simp only[u];refine aY (fun j=>?_) (fun j=>?_)
    ·have w:x≠y:=by simpa using j
     have:a≠b:=fun e=>w (by subst e;rw[B] at p;simpa using p);simp only[go_sem,this,mu]
    ·have I:x=y:=by simpa using j
     simp only[go_sem,h0,h1,q,Yd];refine⟨i+1,by omega,by omega,by rw[o],?_⟩;rw[G3,G3,B,p,z,I]
   ·simp only[Gs,GW] at h;have:i=a.length:=by omega
    subst this;have:a=b:=by rw[GB,j,GB] at z;exact z
    simp only[go_sem,this,jS]
def Ay:=HpC 494 F494 rY
def IN (h:Ay Pg) (s:mp) (y:s.length<2^62):∃e:Int,e≠0/\K' Pg 494 [.str s]=some (nx e (dh s)):=by
 have⟨h,j⟩:=h;have⟨e,p,k⟩:=oy j s y;unfold dh;cases u:tk 9 s with
 |none=>
  rw[u] at k;have w:decide (e=0)=false:=Gp p;refine⟨e,p,aA h rfl ?_⟩;simp only[ga] at k;simp only[F494,c494,go_sem,k,w,Option.bind_none,nx]
 |some q=>
  have⟨n,r⟩:=q;rw[u] at k;simp only[ga] at k;simp only[Option.bind_some];cases o:decide ((r.length:Int)<n) with
  |true=>
   refine⟨2,by decide,aA h rfl ?_⟩;have h1:¬n<=r.length:=by have:=Gc o;omega
   simp only[F494,c494,go_sem,k,o,Gn h1,nx]
  |false=>
   refine⟨2,by decide,aA h rfl ?_⟩;have h1:n<=r.length:=by have:=Ga o;omega
   simp only[F494,c494,go_sem,k,o,h1,nx,GB]
def Az:=HpZ 495 F495
def IO (h:Az Pg) (s:mp):∃e:Int,e≠0/\K' Pg 495 [.str s]=some (nw e (dY s)):=by
 cases s with
 |nil=>
  refine⟨2,by decide,aA h rfl ?_⟩;simp only[F495,c495,go_sem,dY,nw]
 |cons b s=>
  have h0:tQ (.str (b::s)) (.int .i64 0)=some (.int .u8 b.toNat):=rfl;have j:decide (((s.length+1:Nat):Int)=0)=false:=Gp (by omega);have u:decide ((b.toNat:Int)=1)=decide (b.toNat=1):=GO.2 (by omega);have p:1<=s.length+1:=by omega
  have q:List.take (s.length+1) (b::s)=b::s:=by simp
  refine⟨3,by decide,aA h rfl ?_⟩;cases o:decide ((1:Int)<b.toNat) with
  |true=>
   have h1:¬b.toNat<=1:=by have:=Gc o;omega
   simp only[F495,c495,go_sem,o,h0,j,dY,nw,Gn h1,List.length_cons]
  |false=>
   have h1:b.toNat<=1:=by have:=Ga o;omega
   simp only[F495,c495,go_sem,o,h0,j,u,p,q,dY,nw,Gt h1,List.length_cons,List.drop_succ_cons,tF]
def dJ (s:aB):mp:=aD s.wall.toNat++(aD s.tick.toNat++aD s.node.toNat)
def cJ (s:mp):Option (aB×mp):=(tk 9 s).bind fun a=>(tk 9 a.2).bind fun b=>(tk 9 b.2).bind fun c=>if Ya ⟨a.1,b.1,c.1⟩ then some (⟨a.1,b.1,c.1⟩,c.2) else none
def lK (e:Int):Option (aB×mp)->V
 |some (n,r)=>.tuple [.agg (Ye n),.str r,iz 0]
 |none=>.tuple [.agg [iz 0,iz 0,iz 0],.str [],iz e]
def L8 {s:aB}:Ya s=true↔(0<=s.wall/\s.wall<=1099511627776)/\(0<=s.tick/\s.tick<=1048576)/\(0<=s.node/\s.node<=255):=by
 simp only[Ya,pC,Ge,Gj];constructor
 ·rintro⟨⟨h1,j⟩,o⟩;exact⟨h1,j,o⟩
 ·rintro⟨h1,j,o⟩;exact⟨⟨h1,j⟩,o⟩
def WH {s r:mp} {t:aB}:cJ s=some (t,r)↔s=dJ t++r/\Ya t=true:=by
 unfold cJ dJ;constructor
 ·intro h;cases h1:tk 9 s with
  |none=>rw[h1] at h;cases h
  |some a=>
   rw[h1] at h;simp only[Option.bind_some] at h;cases j:tk 9 a.2 with
   |none=>rw[j] at h;cases h
   |some b=>
    rw[j] at h;simp only[Option.bind_some] at h;cases o:tk 9 b.2 with
    |none=>rw[o] at h;cases h
    |some c=>
     rw[o] at h;simp only[Option.bind_some] at h;split at h
     ·rename_i w;simp only[Gb,Gr] at h;obtain⟨rfl,rfl⟩:=h;refine⟨?_,w⟩;have⟨y,z⟩:=a;have⟨B,D⟩:=b;have⟨E,H⟩:=c;simp only at j o ⊢;rw[(nv h1).1,(nv j).1,(nv o).1];simp
     ·cases h
 ·rintro⟨rfl,h⟩;have⟨h1,j,o⟩:=L8.1 h;have p:((t.wall.toNat:Nat):Int)=t.wall:=by omega
  have q:((t.tick.toNat:Nat):Int)=t.tick:=by omega
  have u:((t.node.toNat:Nat):Int)=t.node:=by omega
  have ht:(⟨t.wall.toNat,t.tick.toNat,t.node.toNat⟩:aB)=t:=by rw[p,q,u]
  rw[GX,GX,yd 9 _ _ (iQ.2 (by omega))];simp only[Option.bind_some];rw[yd 9 _ _ (iQ.2 (by omega))];simp only[Option.bind_some];rw[yd 9 _ _ (iQ.2 (by omega))];simp only[Option.bind_some];rw[ht,Gt h]
def dP (l:List Int):mp:=l.flatMap fun n=>aD n.toNat
def Lh {l:List Int} {n:Int}:dP (l++[n])=dP l++aD n.toNat:=by simp[dP]
theorem Ed:∀{l:List Int},(∀n∈l,n.toNat<2^63)->(dP l).length<=9*l.length
 |[],_=>by simp[dP]
 |a::l,h=>by
  have h1:=iQ.2 (h a (by simp));have j:=Ed (l:=l) fun n o=>h n (by simp[o]);simp only[dP,GV,Gf,List.length_cons] at j ⊢;omega
def Av:=HpC 483 F483 nW
def II (h:Av Pg) (l:List Int) (H:∀n∈l,0<=n/\n<2^63) (J:l.length<=10000):K' Pg 483 [Yi l]=some (.tuple [.str (dP l),iz 0]):=by
 have⟨h,j⟩:=h;refine aA h rfl ?_;simp only[F483,c483,go_sem];unfold l483_0;refine bu (fun (i:Nat) S=>i<=l.length/\S.ρ 9=Yi l/\S.ρ 10=iz l.length/\S.ρ 11=iz i/\S.ρ 4=.own 4 1 (dP (l.take i)).length/\S.A 4=some (1,(dP (l.take i)).map dS,.live)) (fun i=>l.length-i) 0 ?_ ?_
 ·exact⟨GY _,rfl,by simp only[go_sem],rfl,rfl,rfl⟩
 ·intro i S ⟨hi,L,u,w,E,z⟩;cases y:decide ((i:Int)<(l.length:Int)) with
  |false=>
   have:i=l.length:=by have:=Ga y;omega
   subst this;rw[GB] at E z;simp only[go_sem,u,w,E,z,y,VY,Gi]
  |true=>
   have B:=Yj y;obtain⟨n,D,-⟩:=aZ B;have o:=inc64q (i:=i) (by omega)
   have⟨n0,N⟩:=H n (List.mem_of_getElem? D);have k:K' Pg 456 [iz n]=some (.tuple [.str (aD n.toNat),iz 0]):=by
    have:=we j n.toNat (by omega);rw[show ((n.toNat:Nat):Int)=n by omega] at this;exact this
   have q:l.take (i+1)=l.take i++[n]:=by rw[G3,D];rfl
   have I:=Ed (l:=l.take i) fun m hm=>by have:=H m (xn hm);omega
   rw[GK] at I;have M:=iQ.2 (show n.toNat<2^63 by omega);have p:(dP (l.take i)).length+(aD n.toNat).length<=aU:=by unfold aU;omega
   simp only[go_sem,L,u,w,E,z,y,D,k,o,Gi,p];refine⟨i+1,by omega,by omega,rfl,by rw[q,Lh,Gf],by rw[q,Lh,Gz];rfl⟩
def vx:=HpC 455 F455<|HpA Av<|lC
def Iw (h:vx Pg) (s:aB) (u:Ya s=true):K' Pg 455 [.agg (Ye s)]=some (.tuple [.str (dJ s),iz 0]):=by
 have⟨h,o,p⟩:=h;have j:=lh p s;rw[u] at j;have⟨h1,w,y⟩:=L8.1 u;have k:=II o [s.wall,s.tick,s.node] (fun n q=>by simp at q;rcases q with rfl|rfl|rfl<;>omega) (by simp);have e:dP [s.wall,s.tick,s.node]=dJ s:=by simp[dP,dJ]
 rw[e] at k;simp only[go_sem,GA,Gk] at k j;refine aA h rfl ?_;simp only[F455,c455,go_sem,j,k]
def vC:=HpC 486 F486 lD
def IL (h:vC Pg) (s:aB) (u:Ya s=true):K' Pg 486 [.agg (Ye s)]=some (.str (dJ s)):=by
 have⟨h,j⟩:=h;have⟨h1,z,B⟩:=L8.1 u;have o:∀n:Int,0<=n->n<2^63->K' Pg 487 [iz n]=some (.tuple [.str (aD n.toNat),iz 0]):=fun n a b=>by
  have:=sB j n.toNat (by omega);rw[show ((n.toNat:Nat):Int)=n by omega] at this;exact this
 have w:=o s.wall (by omega) (by omega);have y:=o s.tick (by omega) (by omega);have k3:=o s.node (by omega) (by omega);have D:=iQ.2 (show s.wall.toNat<2^63 by omega);have E:=iQ.2 (show s.tick.toNat<2^63 by omega);have H:=iQ.2 (show s.node.toNat<2^63 by omega);have p:(aD s.wall.toNat).length+(aD s.tick.toNat).length<=4611686018427387904:=by omega
 have q:(aD s.wall.toNat).length+(aD s.tick.toNat).length+(aD s.node.toNat).length<=4611686018427387904:=by omega
 refine aA h rfl ?_;simp only[F486,c486,go_sem,w,y,k3,p,q,Gf,dJ,GX]
def Ao:=HpC 469 F469<|HpA rY<|nN
def IB (h:Ao Pg) (s:mp) (U:s.length<2^62):∃e:Int,e≠0/\K' Pg 469 [.str s]=some (lK e (cJ s)):=by
 have⟨h,p,I⟩:=h;have⟨e,Q,k⟩:=oy p s U;have S:decide (e=0)=false:=Gp Q;unfold cJ;cases L:tk 9 s with
 |none=>
  rw[L] at k;refine⟨e,Q,aA h rfl ?_⟩;simp only[ga] at k;simp only[F469,c469,go_sem,k,S,Option.bind_none,lK]
 |some q=>
  have⟨n,r⟩:=q;rw[L] at k;simp only[ga] at k;simp only[Option.bind_some];have T:r.length<2^62:=by have:=gp List.length (nv L).1;simp at this;omega
  have⟨P,D,k'⟩:=oy p r T;have J:decide (P=0)=false:=Gp D;cases y:tk 9 r with
  |none=>
   rw[y] at k';refine⟨P,D,aA h rfl ?_⟩;simp only[ga] at k';simp only[F469,c469,go_sem,k,k',J,Option.bind_none,lK]
  |some W=>
   have⟨R,O⟩:=W;rw[y] at k';simp only[ga] at k';simp only[Option.bind_some];have M:O.length<2^62:=by have:=gp List.length (nv y).1;simp at this;omega
   have⟨z,u,j⟩:=oy p O M;have B:decide (z=0)=false:=Gp u;cases w:tk 9 O with
   |none=>
    rw[w] at j;refine⟨z,u,aA h rfl ?_⟩;simp only[ga] at j;simp only[F469,c469,go_sem,k,k',j,B,Option.bind_none,lK]
   |some N=>
    have⟨H,X⟩:=N;rw[w] at j;simp only[ga] at j;have o:=mD I ⟨n,R,H⟩;refine⟨3,by decide,aA h rfl ?_⟩;simp only[Option.bind_some];cases E:Ya ⟨n,R,H⟩ with
    |true=>
     rw[E] at o;simp only[go_sem] at o;simp only[F469,c469,go_sem,k,k',j,o,Gw,lK]
    |false=>
     rw[E] at o;simp only[go_sem] at o;simp only[F469,c469,go_sem,k,k',j,o,Gl,Gv,lK]
def ES (nu:Nat->Nat) (i:Nat):Eq:=[iz ((if 0<i then nu 0 else 0:Nat):Int),iz ((if 1<i then nu 1 else 0:Nat):Int),iz ((if 2<i then nu 2 else 0:Nat):Int)]
def Xr {S:St} {nu:Nat->Nat} {i:Nat} (hi:i<3):na S 5 i [iz (nu i)] (some (ES nu i,false))=some ⟨S.ρ,aI S.μ 5 (some (ES nu (i+1),false)),S.A⟩:=by
 rcases (show i=0\/i=1\/i=2 by omega) with rfl|rfl|rfl<;>rfl
def Ax:=HpC 490 F490<|HpA sb<|lC
def lW (h:Pg 490=some (.code F490)) (B:lC Pg) {bL:Nat->mp} {nu:Nat->Nat} {m:Nat} {e:Int} (hm:m<=3)
  (Q:∀i,i<m->K' Pg 491 [.str (bL i)]=some (.tuple [iz (nu i),.str (bL (i+1)),iz 0])) (P:m<3->e≠0/\K' Pg 491 [.str (bL m)]=some (.tuple [iz 0,.str [],iz e])) :
  K' Pg 490 [.str (bL 0)]=some (lK (if m<3 then e else 3) (if m<3 then none else if Ya ⟨nu 0,nu 1,nu 2⟩ then some (⟨nu 0,nu 1,nu 2⟩,bL 3) else none)):=by
 refine aA h rfl ?_
 have I:vG 1 3 (.lref 5 0) (.int .i64 0)=some (.lref 5 0):=rfl
 have J:vG 1 3 (.lref 5 0) (.int .i64 1)=some (.lref 5 1):=rfl
 have L:vG 1 3 (.lref 5 0) (.int .i64 2)=some (.lref 5 2):=rfl
 simp only[F490,c490,go_sem]
 unfold l490_0
 refine bu (fun (i:Nat) S=>i<=m/\S.ρ 0=.str (bL i)/\S.ρ 2=.lref 2 0/\S.ρ 5=.lref 5 0/\S.ρ 11=iz i/\S.μ 2=some ([iz 0,iz 0,iz 0],false)/\S.μ 5=some (ES nu i,false)/\S.μ 10=none) (fun i=>3-i) 0 ?_ ?_
 ·exact⟨GY _,rfl,rfl,rfl,rfl,rfl,rfl,rfl⟩
 ·intro i S ⟨hi,y,z,s5,p,m2,m5,dD⟩
  cases q:decide ((i:Int)<3) with
  |false=>
   have N:i=3:=by have:=Ga q;omega
   have R:m=3:=by omega
   rw[Gn (by omega),Gn (by omega)]
   rw[N] at m5 y
   have j:=lh B ⟨nu 0,nu 1,nu 2⟩
   have T:ES nu 3=[iz (nu 0),iz (nu 1),iz (nu 2)]:=rfl
   rw[T] at m5
   cases o:Ya ⟨nu 0,nu 1,nu 2⟩ with
   |true=>
    rw[o] at j
    simp only[go_sem] at j
    simp only[go_sem,y,z,s5,p,m2,m5,dD,q,I,J,L,j,Gw,lK]
   |false=>
    rw[o] at j
    simp only[go_sem] at j
    simp only[go_sem,z,s5,p,m2,m5,dD,q,I,J,L,j,Gl,Gv,lK]
  |true=>
   have D:i<3:=by have:=Gc q;omega
   have w:=inc64q (i:=i) (by omega)
   by_cases H:i<m
   ·have k:=Q i H
    have o:=fun S=>Xr (S:=S) (nu:=nu) D
    have E:vG 1 3 (.lref 5 0) (iz (i:Int))=some (.lref 5 i):=by
     rcases (show i=0\/i=1\/i=2 by omega) with rfl|rfl|rfl<;>rfl
    simp only[go_sem,y,z,s5,p,m2,m5,dD,q,k,o,E,w]
    exact⟨i+1,by omega,by omega,rfl,rfl,rfl⟩
   ·have u:i=m:=by omega
    have⟨M,k⟩:=P (by omega)
    rw[<-u] at k
    have O:decide (e=0)=false:=Gp M
    rw[Gt (by omega),Gt (by omega)]
    simp only[go_sem,y,z,p,m2,q,k,O,lK]
def IM (h:Ax Pg) (s:mp) (Q:s.length<2^62):∃e:Int,e≠0/\K' Pg 490 [.str s]=some (lK e (cJ s)):=by
 have⟨h,j,o⟩:=h;have⟨e,N,k⟩:=oB j s Q;unfold cJ;cases E:tk 9 s with
 |none=>
  rw[E] at k;exact⟨e,N,by
   have:=lW h o (bL:=fun _=>s) (nu:=fun _=>0) (m:=0) (e:=e) (by omega) (fun i hi=>by omega) (fun _=>⟨N,k⟩);exact this⟩
 |some q=>
  have⟨n,r⟩:=q;rw[E] at k;have P:r.length<2^62:=by have:=gp List.length (nv E).1;simp at this;omega
  have⟨M,B,k'⟩:=oB j r P;simp only[Option.bind_some];cases y:tk 9 r with
  |none=>
   rw[y] at k';exact⟨M,B,by
    have:=lW h o (bL:=fun i=>if i=0 then s else r) (nu:=fun _=>n) (m:=1) (e:=M) (by omega) (fun i hi=>by
     have h0:i=0:=by omega
     subst h0;exact k) (fun _=>⟨B,k'⟩)
    exact this⟩
  |some R=>
   have⟨O,D⟩:=R;rw[y] at k';simp only[Option.bind_some];have H:D.length<2^62:=by have:=gp List.length (nv y).1;simp at this;omega
   have⟨z,u,p⟩:=oB j D H;cases w:tk 9 D with
   |none=>
    rw[w] at p;exact⟨z,u,by
     have:=lW h o (bL:=fun i=>if i=0 then s else if i=1 then r else D) (nu:=fun i=>if i=0 then n else O) (m:=2) (e:=z) (by omega) (fun i hi=>by
      rcases (show i=0\/i=1 by omega) with rfl|rfl
      ·exact k
      ·exact k') (fun _=>⟨u,p⟩)
     exact this⟩
   |some J=>
    have⟨I,L⟩:=J;rw[w] at p;exact⟨3,by decide,by
     have:=lW h o (bL:=fun i=>if i=0 then s else if i=1 then r else if i=2 then D else L) (nu:=fun i=>if i=0 then n else if i=1 then O else I) (m:=3) (e:=3) (by omega) (fun i hi=>by
      rcases (show i=0\/i=1\/i=2 by omega) with rfl|rfl|rfl
      ·exact k
      ·exact k'
      ·exact p) (fun h=>by omega)
     exact this⟩
def Dl:=HpZ 61 F61
def DS (h:Dl Pg) (l:List Int):K' Pg 61 [Yi l]=some (.bool (decide (bW l))):=by
 refine aA h rfl ?_;simp only[go_sem];refine aY (fun j=>?_) (fun j=>?_)
 ·have j:¬bW l:=fun⟨e,_⟩=>by have:=Gc j;omega
  simp only[go_sem,j]
 ·have L:l.length<=8:=by have:=Ga j;omega
  simp only[go_sem];unfold l61_0;refine bu (fun (i:Nat) S=>i<=l.length/\S.ρ 0=Yi l/\S.ρ 3=iz i/\(∀m∈l.take i,1<=m/\m<=255)/\(l.take i).Nodup) (fun i=>l.length-i) 0 ?_ ?_
  ·simp[go_sem]
  ·intro i S ⟨hi,h0,o,q,u⟩;simp only[go_sem,h0,o];refine aY (fun h=>?_) (fun h=>?_)
   ·have h:=Yj h;have⟨x,z,N⟩:=aZ h;have bad:¬(1<=x/\x<=255)->¬bW l:=fun e=>Ep z (.inl e);simp only[go_sem,h0,o,z];refine sj (fun j=>?_) (fun j=>?_)
    ·have h1:¬x<1:=Ga j;simp only[go_sem,h0,o,z,h1];refine aY (fun j=>?_) (fun j=>?_)
     ·have w:¬bW l:=bad (by have:=Gc j;omega);simp only[go_sem,w]
     ·have M:¬255<x:=Ga j;simp only[go_sem];unfold l61_1;refine bu (fun (k:Nat) S=>k<=i/\S.ρ 0=Yi l/\S.ρ 3=iz i/\S.ρ 4=iz k/\x∉l.take k) (fun k=>i-k) 0 ?_ ?_
      ·simp[go_sem,h0,o]
      ·intro k S ⟨J,h0,o,D,B⟩;simp only[go_sem,o,D];refine aY (fun p=>?_) (fun p=>?_)
       ·have p:=Yj p;have⟨y,E,I⟩:=aZ (l:=l) (i:=k) (by omega);simp only[go_sem,h0,o,D,z,E];refine aY (fun j=>?_) (fun j=>?_)
        ·have j:y=x:=Gc j;have hm:x∈l.take i:=by
          rw[<-j];have:(l.take i)[k]?=some y:=by rw[List.getElem?_take,Gt p];exact E
          exact List.mem_of_getElem? this
         have w:¬bW l:=Ep z (.inr hm);simp only[go_sem,w]
        ·have j:¬y=x:=Ga j;simp only[go_sem,h0,o,D];refine⟨k+1,by omega,by omega,by rw[Yn p (by omega)],?_⟩;rw[YW E];simp;exact⟨B,fun e=>j e.symm⟩
       ·have p:=YC J p;subst p;have H:=O1 z ⟨q,u⟩ (by omega) B;simp only[go_sem,h0,o];exact⟨k+1,by omega,by omega,by rw[Yn h (by omega)],H.1,H.2⟩
    ·have h1:x<1:=Gc j;have w:¬bW l:=bad (by omega);simp only[go_sem,h1,w]
   ·have h:=YC hi h;rw[tW h] at q u;have w:bW l:=⟨L,q,u⟩;simp only[go_sem,w]
def Ff:=HpC 64 F64 vE
def I2 (h:Ff Pg) (l:List Int) (I:l.length<2^60):K' Pg 64 [Yi l]=some (.bool (decide (bW l))):=by
 have⟨h,z⟩:=h;refine aA h rfl ?_;simp only[go_sem];unfold l64_0;refine bu (fun (i:Nat) S=>i<=l.length/\S.ρ 0=Yi l/\S.ρ 5=Yi l/\S.ρ 6=iz l.length/\S.ρ 7=iz i/\(∀m∈l.take i,1<=m/\m<=255)/\(l.take i).Nodup) (fun i=>l.length-i) 0 ?_ ?_
 ·simp[go_sem]
 ·intro i S ⟨hi,h0,D,E,B,o,p⟩;simp only[go_sem,E,B];refine aY (fun h=>?_) (fun h=>?_)
  ·have h:=Yj h;have⟨x,w,J⟩:=aZ h;have bad:¬(1<=x/\x<=255)->¬bW l:=fun e=>Ep w (.inl e);have u:=tV z (l.take i) x (by simp;omega);simp only[Yi,re] at u;simp only[go_sem,D,B,w];refine sj (fun j=>?_) (fun j=>?_)
   ·have h1:¬x<1:=Ga j;simp only[go_sem,h1];refine sj (fun j=>?_) (fun j=>?_)
    ·have y:¬255<x:=Ga j;simp only[go_sem,h0,hi,y,u];refine aY (fun j=>?_) (fun j=>?_)
     ·have q:¬bW l:=Ep w (.inr (Gc j));simp only[go_sem,q]
     ·have H:=O1 w ⟨o,p⟩ (by omega) (Ga j);simp only[go_sem,h0,D,E,B];exact⟨i+1,by omega,by omega,by rw[Yn h I],H.1,H.2⟩
    ·have y:255<x:=Gc j;have q:¬bW l:=bad (by omega);simp only[go_sem,y,q]
   ·have h1:x<1:=Gc j;have q:¬bW l:=bad (by omega);simp only[go_sem,h1,q]
  ·have h:=YC hi h;rw[tW h] at o p;simp only[go_sem,h0];have:decide ((l.length:Int)<=8)=decide (bW l):=GO.2 ⟨fun e=>⟨by omega,o,p⟩,fun e=>by have:=e.1;omega⟩;rw[this]
structure bG where
 id:Int
 view:Int
 members:List Int
 n:Int
 base:mp
 text:mp
 acks:List Int
 deriving DecidableEq
structure bI where
 kind:Int
 frm:Int
 to:Int
 view:Int
 n:Int
 members:List Int
 text:mp
 deriving DecidableEq
@[go_sem] def YN (r:bG):Eq:=[iz r.id,iz r.view,Yi r.members,iz r.n,.str r.base,.str r.text,Yi r.acks]
@[go_sem] def nm (r:bI):Eq:=[iz r.kind,iz r.frm,iz r.to,iz r.view,iz r.n,Yi r.members,.str r.text]
@[go_sem] def mL (l:List bI):V:=.slice 7 (l.map nm)
structure bG.Ok (r:bG):Prop where
 m:r.members.length<2^60
 a:r.acks.length<2^60
def hU (n j:Int):Bool:=decide (j<=n)&&decide (n<=1099511627776)
def Dm:=HpZ 63 F63
def DT (h:Dm Pg) (n j:Int):K' Pg 63 [iz n,iz j]=some (.bool (hU n j)):=by
 refine aA h rfl ?_;simp only[go_sem];refine io (fun h=>?_) (fun h=>?_)<;>simp only[go_sem,h,hU]
def Dk:=HpZ 60 F60
def DQ (h:Dk Pg) (n:Int):K' Pg 60 [iz n]=some (.bool (hU n 1)):=by
 refine aA h rfl ?_;simp only[go_sem];refine io (fun h=>?_) (fun h=>?_)<;>simp only[go_sem,h,hU]
def Yl (r:bG):Bool:=match r.members with|[]=>false|m::_=>decide (m=r.id)
def vF:=HpZ 68 F68
def xF (h:vF Pg) (r:bG):K' Pg 68 [.agg (YN r)]=some (.bool (Yl r)):=by
 refine aA h rfl ?_;have⟨id,view,members,n,base,text,acks⟩:=r;cases members with
 |nil=>simp only[go_sem,Yl]
 |cons m l=>
  have h0:kj 1 (V.slice 1 ([iz m]::List.map (fun a=>[iz a]) l)) (iz 0)=some (.cptr [iz m] 0):=rfl;simp only[go_sem,Yl,pF,h0]
def tJ:=HpZ 38 F38
def vW (h:tJ Pg) (r:bG):K' Pg 38 [.agg (YN r)]=some (.bool (Yl r)):=by
 refine aA h rfl ?_;have⟨id,view,members,n,base,text,acks⟩:=r;cases members with
 |nil=>simp only[go_sem,Yl]
 |cons m l=>
  have h0:kj 1 (V.slice 1 ([iz m]::List.map (fun a=>[iz a]) l)) (iz 0)=some (.cptr [iz m] 0):=rfl;simp only[go_sem,Yl,pF,h0]
def gQ (r:bG):Bool:=r.members.all fun m=>decide (m∈r.acks)
def zZ:=HpC 42 F42 AL
def DP (h:zZ Pg) (r:bG) (ok:r.Ok):K' Pg 42 [.agg (YN r)]=some (.bool (gQ r)):=by
 have⟨h,q⟩:=h;have o:=fun x=>wi q r.acks x ok.a;simp only[Yi] at o;refine aA h rfl ?_;simp only[go_sem];unfold l42_0;refine bu (fun (i:Nat) S=>i<=r.members.length/\S.ρ 1=.lref 1 0/\S.μ 1=some (YN r,false)/\S.ρ 3=iz i/\(∀m∈r.members.take i,m∈r.acks)) (fun i=>r.members.length-i) 0 ?_ ?_
 ·simp[go_sem]
 ·intro i S ⟨hi,h1,y,p,u⟩;simp only[go_sem,h1,y,p];refine aY (fun h=>?_) (fun h=>?_)
  ·have h:=Yj h;have⟨x,w,z⟩:=aZ h;simp only[go_sem,h1,y,p,w,o];refine aY (fun j=>?_) (fun j=>?_)
   ·have j:x∉r.acks:=by simpa using j
    have:gQ r=false:=by
     simp only[gQ,List.all_eq_false];exact⟨x,List.mem_of_getElem? w,by simpa using j⟩
    simp only[go_sem,this]
   ·have j:x∈r.acks:=by simpa using j
    simp only[go_sem,h1,y,p];refine⟨i+1,by omega,by omega,by rw[Yn h ok.m],fun m hm=>?_⟩;rw[YW w] at hm;rcases GS.1 hm with hm|hm
    ·exact u m hm
    ·have:m=x:=by simpa using hm
     rw[this];exact j
  ·have h:=YC hi h;rw[tW h] at u;have:gQ r=true:=by simpa [gQ] using u
   simp only[go_sem,this]
def aT (r:bG):Bool:=
 !(decide (r.id<1)||(decide (255<r.id)||((!decide (r.view=0)&&!hU r.view 1)||((!decide (r.n=0)&&!hU r.n 1)||(!decide (bW r.members)||!decide (bW r.acks)))))) &&
  (r.acks.all (fun m=>decide (m∈r.members))&&(!(decide ((0:Int)<(r.members.length:Int))&&!decide (r.id∈r.members)) &&
  (bif Yl r then decide (r.id∈r.acks)&&(!gQ r||decide (r.base=r.text)) else decide ((r.acks.length:Int)=0)&&decide (r.base=r.text))))
def zQ:=HpC 37 F37<|HpA Dk<|HpA Dl<|HpA AL<|HpA tJ<|zZ
def DO (h:zQ Pg) (r:bG) (ok:r.Ok):K' Pg 37 [.agg (YN r)]=some (.bool (aT r)):=by
 have⟨h,N,B,D,L,M⟩:=h;have H:=fun x=>DQ N x;have j:=DS B r.members;have q:=DS B r.acks;have o:=fun x=>wi D r.members x ok.m;have u:=fun x=>wi D r.acks x ok.a;have y:=vW L r;have E:=DP M r ok;simp only[Yi,YN] at H j q o u y E;refine aA h rfl ?_;simp only[go_sem]
 repeat' (first|refine sj (fun h=>?_) (fun h=>?_)<;>simp only[go_sem,h,j,q]|refine io (fun h=>?_) (fun h=>?_)<;>simp only[go_sem,h,H,j]|refine aY (fun h=>?_) (fun h=>?_)<;>simp only[go_sem,h])
 all_goals first|(simp only[aT, *,Gx,GR,Bool.or_true,jm,Bool.or_false,GE,Gy,Gq,Gm];done)|skip
 all_goals
  unfold l37_0
  refine bu (fun (i:Nat) S=>i<=r.acks.length/\S.ρ 1=.lref 1 0/\S.μ 1=some (YN r,false)/\S.ρ 3=iz i/\(∀m∈r.acks.take i,m∈r.members)) (fun i=>r.acks.length-i) 0 ?_ ?_
  ·simp[go_sem]
  ·intro i S ⟨hi,h1,z,J,I⟩
   simp only[go_sem,h1,z,J]
   refine aY (fun h=>?_) (fun h=>?_)
   ·have h:=Yj h
    have⟨x,O,P⟩:=aZ h
    simp only[go_sem,h1,z,J,O,o]
    refine aY (fun w=>?_) (fun w=>?_)
    ·have w:x∉r.members:=by simpa using w
     have p:r.acks.all (fun m=>decide (m∈r.members))=false:=by
      simp only[List.all_eq_false];exact⟨x,List.mem_of_getElem? O,by simpa using w⟩
     simp only[go_sem,aT,p]
    ·have w:x∈r.members:=by simpa using w
     simp only[go_sem,h1,z,J]
     refine⟨i+1,by omega,by omega,by rw[Yn h ok.a],fun m hm=>?_⟩
     rw[YW O] at hm
     rcases GS.1 hm with hm|hm
     ·exact I m hm
     ·have:m=x:=by simpa using hm
      rw[this];exact w
   ·have h:=YC hi h
    rw[tW h] at I
    have p:r.acks.all (fun m=>decide (m∈r.members))=true:=by simpa using I
    clear I
    simp only[go_sem,h1,z]
    repeat' (first|refine sj (fun h=>?_) (fun h=>?_)<;>simp only[go_sem,h,h1,z]|refine io (fun h=>?_) (fun h=>?_)<;>simp only[go_sem,h,h1,z,o,y]|refine aY (fun h=>?_) (fun h=>?_)<;>simp only[go_sem,h,h1,z,u,y,E])
    all_goals (simp_all only [aT,GM,uH,Gx,GR,jm,Bool.or_false,G7,GE,Gy,Gq,Gm,cond_true,cond_false];done)
theorem xL:∀{l m:List Int},l.Nodup->(∀x∈l,x∈m)->l.length<=m.length
 |[],m,_,_=>by simp
 |a::l,m,h,hs=>by
  rw[rl] at h;have o:=hs a (G0 ..);have h1:=xL (l:=l) (m:=m.erase a) h.2 (fun x p=>by
   have j:x≠a:=fun e=>h.1 (e▸p);exact (List.mem_erase_of_ne j).2 (hs x (G2 _ p)))
  have q:=List.length_erase_of_mem o;have u:0<m.length:=List.length_pos_of_mem o;simp only[List.length_cons];omega
def Eg {r:bG} (hm:bW r.members) (j:bW r.acks) (p:∀x∈r.acks,x∈r.members):decide ((r.acks.length:Int)<(r.members.length:Int))=!gQ r:=by
 cases h:gQ r with
 |true=>
  have:∀x∈r.members,x∈r.acks:=by simpa [gQ] using h
  have:=xL hm.2.2 this;simp;omega
 |false=>
  obtain⟨x,q,o⟩:∃x,x∈r.members/\x∉r.acks:=by simpa [gQ] using h
  have:=xL (l:=x::r.acks) (m:=r.members) (rl.2 ⟨o,j.2.2⟩) (fun y hy=>by
   rcases GH.1 hy with rfl|hy
   ·exact q
   ·exact p y hy)
  simp only[List.length_cons] at this;simp;omega
def jP (r:bG):Bool:=
 !(decide (r.id<1)||(decide (255<r.id)||(!hU r.view 0||(!hU r.n 0||(!decide (bW r.members)||!decide (bW r.acks)))))) &&
  (!(decide ((0:Int)<(r.members.length:Int))&&!decide (r.id∈r.members))&&(!(r.acks.any (fun m=>!decide (m∈r.members))) &&
  (bif Yl r then decide (r.id∈r.acks)&&(decide ((r.acks.length:Int)<(r.members.length:Int))||decide (r.base=r.text)) else decide ((r.acks.length:Int)=0)&&decide (r.base=r.text))))
def Qt {n:Int}:(!decide (n=0)&&!hU n 1)=!hU n 0:=by
 simp only[hU];by_cases h1:n=0
 ·subst h1;decide
 ·have:decide (1<=n)=decide (0<=n):=GO.2 (by omega);simp[h1,this]
def Oj (r:bG):jP r=aT r:=by
 unfold jP aT;rw[Qt,Qt];have j:(!(r.acks.any (fun m=>!decide (m∈r.members))))=r.acks.all (fun m=>decide (m∈r.members)):=by
  rw[List.all_eq_not_any_not]
 rw[j];by_cases hm:bW r.members
 ·by_cases o:bW r.acks
  ·cases p:r.acks.all (fun m=>decide (m∈r.members)) with
   |true=>rw[Eg hm o (by simpa using p)];simp only[Gy]
   |false=>simp
  ·simp[o]
 ·simp[hm]
def Mw:=HpC 66 F66 vE
def Vv (h:Mw Pg) (r:bG) (m:Int) (ok:r.Ok):K' Pg 66 [iz m,.cptr (YN r) 0]=some (.bool (!decide (m∈r.members))):=by
 have⟨h,o⟩:=h;have j:=tV o r.members m ok.m;simp only[Yi] at j;refine aA h rfl ?_;simp only[go_sem,j]
def xq:=HpC 39 F39<|HpA Dm<|HpA Ff<|HpA vE<|HpA Mw<|HpA Dn<|vF
def BD (h:xq Pg) (r:bG) (ok:r.Ok):K' Pg 39 [.agg (YN r)]=some (.bool (aT r)):=by
 rw[<-Oj];have⟨h,E,w,z,H,I,J⟩:=h;have B:=fun x y=>DT E x y;have o:=I2 w r.members ok.m;have j:=I2 w r.acks ok.a;have q:=fun x=>tV z r.members x ok.m;have p:=fun x=>tV z r.acks x ok.a;have D:=xF J r;have u:=I3 I r.acks 66 [.cptr (YN r) 0] (fun m=>!decide (m∈r.members)) ok.a rfl (fun x _=>Vv H r x ok);simp only[Yi,YN] at B o j q p D u;refine aA h rfl ?_;simp only[go_sem]
 repeat' (first|refine sj (fun h=>?_) (fun h=>?_)<;>simp only[go_sem,h,B,o,j,List.all_cons,List.all_nil]|refine io (fun h=>?_) (fun h=>?_)<;>simp only[go_sem,h,q,u]|refine aY (fun h=>?_) (fun h=>?_)<;>simp only[go_sem,h,p,D,u])
 all_goals (simp_all only [jP,GM,uH,Gx,GR,Bool.or_true,jm,Bool.or_false,G7,GE,Gy,Gq,Gm,cond_true,cond_false];done)
def Dj:=HpC 40 F40<|HpA xq<|vF
def H2 (h:Dj Pg) (r:bG) (ok:r.Ok):K' Pg 40 [.agg (YN r)]=some (.bool (aT r&&Yl r)):=by
 have⟨h,p,q⟩:=h;have j:=BD p r ok;have o:=xF q r;simp only[Yi,YN] at j o;refine aA h rfl ?_;simp only[go_sem,j];refine io (fun h=>?_) (fun h=>?_)<;>simp only[go_sem,h,o]
def YI (r:bG):Bool:=aT r&&(Yl r&&!gQ r)
def xI {r:bG} (h:aT r=true):bW r.members/\bW r.acks/\(∀x∈r.acks,x∈r.members)/\1<=r.id/\r.id<=255/\0<=r.view/\r.view<=1099511627776/\0<=r.n/\r.n<=1099511627776:=by
 rw[<-Oj] at h;simp only[jP,hU,Ge,GM,xo,Bool.and_eq_false_iff,uH,GM,Gj,Gs] at h;obtain⟨⟨h1,q,u,w,j,o⟩,y,p,-⟩:=h;refine⟨j,o,by simpa using p,?_⟩;omega
def W0 {r:bG} (h:aT r=true):decide ((r.acks.length:Int)<(r.members.length:Int))=!gQ r:=by
 obtain⟨h1,j,o,-⟩:=xI h;exact Eg h1 j o
def vq:=HpC 41 F41 Dj
theorem vY (h:vq Pg) (r:bG) (ok:r.Ok):K' Pg 41 [.agg (YN r)]=some (.bool (YI r)):=by
 have⟨h,o⟩:=h;have j:=H2 o r ok;simp only[Yi,YN] at j;refine aA h rfl ?_;simp only[go_sem,j];refine io (fun h=>?_) (fun h=>?_)<;>simp only[go_sem,h]
 ·simp only[Ge] at h;rw[W0 h.1];simp only[YI,h.1,h.2,Gy]
 ·rw[YI,<-Bool.and_assoc,h];rfl
def gy (r:bG):bG:=if r.acks.length=r.members.length then {r with base:=r.text} else r
def Fg:=HpZ 71 F71
def N3 (h:Fg Pg) (r:bG):K' Pg 71 [.agg (YN r)]=some (.agg (YN (gy r))):=by
 refine aA h rfl ?_;simp only[go_sem];refine aY (fun h=>?_) (fun h=>?_)
 ·have h:r.acks.length=r.members.length:=by have:=Gc h;omega
  simp only[go_sem,gy,h]
 ·have h:¬r.acks.length=r.members.length:=by have:=Ga h;omega
  simp only[go_sem,gy,h]
def Mp:=HpC 45 F45 Mx
def Vo (h:Mp Pg) (r:bG) (ok:r.Ok):K' Pg 45 [.agg (YN r),.agg (YN r)]=some (.bool true):=by
 have⟨h,p⟩:=h;have o:=N2 p r.members r.members ok.m;have j:=N2 p r.acks r.acks ok.a;simp only[Yi,jS] at o j;refine aA h rfl ?_;simp only[go_sem,o,j]
def AM (Pg:PgT):Prop:=Pg 69=some (.prim (some 0) (bJ 1))
def DU (h:AM Pg) (l:List Int) (j:l.length<=1000000000):K' Pg 69 [Yi l]=some (Yi l):=by
 rw[tT h];simp[bJ,Yi,aU];omega
def YM (r:bG):List bI:=(r.members.filter fun m=>!decide (m∈r.acks)).map fun m=>⟨1,r.id,m,r.view,r.n,r.members,r.text⟩
def lk (r:bG) (l:List Int):List bI:=(l.filter fun m=>!decide (m∈r.acks)).map fun m=>⟨1,r.id,m,r.view,r.n,r.members,r.text⟩
def P5 {r:bG} {l:List Int} {m:Int}:lk r (l++[m])=if m∈r.acks then lk r l else lk r l++[⟨1,r.id,m,r.view,r.n,r.members,r.text⟩]:=by
 simp only[lk,List.filter_append,List.filter_cons,List.filter_nil];split<;>simp_all
def OQ {r:bG} {l:List Int}:(lk r l).length<=l.length:=by
 simp only[lk,Gi];exact List.length_filter_le _ _
def Fe:=HpC 52 F52 AL
def I1 (h:Fe Pg) (r:bG) (ok:r.Ok) (hm:r.members.length<=10000):K' Pg 52 [.agg (YN r)]=some (mL (YM r)):=by
 have⟨h,D⟩:=h;have u:=fun x=>wi D r.acks x ok.a;simp only[Yi] at u;refine aA h rfl ?_;simp only[go_sem];unfold l52_0;refine bu (fun (i:Nat) S=>i<=r.members.length/\S.ρ 1=.lref 1 0/\S.μ 1=some (YN r,false)/\S.A 3=some (7,(lk r (r.members.take i)).map nm,.live)/\S.ρ 3=.own 3 7 (lk r (r.members.take i)).length/\S.ρ 4=iz i) (fun i=>r.members.length-i) 0 ?_ ?_
 ·simp[go_sem,lk]
 ·intro i S ⟨hi,h1,y,z,B,w⟩;simp only[go_sem,y,h1,w];refine aY (fun h=>?_) (fun h=>?_)
  ·have h:=Yj h;have⟨x,E,H⟩:=aZ h;have p:=OQ (r:=r) (l:=r.members.take i);have q:(lk r (r.members.take i)).length+1<=aU:=by
    simp only[GK] at p;simp only[aU];omega
   have o:=P5 (r:=r) (l:=r.members.take i) (m:=x);rw[<-YW E] at o;simp only[go_sem,y,h1,w,E,u];refine aY (fun j=>?_) (fun j=>?_)
   ·have j:x∉r.acks:=by simpa using j
    rw[Gn j] at o;simp only[go_sem,y,z,B,h1,w,E,q];exact⟨i+1,by omega,by omega,by rw[o];simp[nm,Yi],by rw[o];simp,by rw[Yn h (by omega)]⟩
   ·have j:x∈r.acks:=by simpa using j
    rw[Gt j] at o;simp only[go_sem,y,z,B,h1,w];exact⟨i+1,by omega,by omega,by rw[o],by rw[o],by rw[Yn h (by omega)]⟩
  ·have h:=YC hi h;subst h;have e:lk r r.members=YM r:=rfl;simp only[go_sem,z,B,GB,e]
def Fh:=HpC 72 F72<|HpA vE<|AM
def I4 (h:Fh Pg) (r:bG) (ok:r.Ok) (hm:r.members.length<=10000):K' Pg 72 [.agg (YN r)]=some (mL (YM r)):=by
 have⟨h,D,E⟩:=h;have u:=fun x=>tV D r.acks x ok.a;have w:=DU E r.members (by omega);simp only[Yi] at u w;refine aA h rfl ?_;simp only[go_sem];unfold l72_0;refine bu (fun (i:Nat) S=>i<=r.members.length/\S.ρ 1=.lref 1 0/\S.μ 1=some (YN r,false)/\S.A 3=some (7,(lk r (r.members.take i)).map nm,.live)/\S.ρ 3=.own 3 7 (lk r (r.members.take i)).length/\S.ρ 7=Yi r.members/\S.ρ 8=iz r.members.length/\S.ρ 9=iz i) (fun i=>r.members.length-i) 0 ?_ ?_
 ·simp[go_sem,lk]
 ·intro i S ⟨hi,h1,J,z,B,H,I,y⟩;simp only[go_sem,I,y];refine aY (fun h=>?_) (fun h=>?_)
  ·have h:=Yj h;have⟨x,L,M⟩:=aZ h;have p:=OQ (r:=r) (l:=r.members.take i);have q:(lk r (r.members.take i)).length+1<=aU:=by
    simp only[GK] at p;simp only[aU];omega
   have o:=P5 (r:=r) (l:=r.members.take i) (m:=x);rw[<-YW L] at o;simp only[go_sem,J,h1,H,y,L,u];refine aY (fun j=>?_) (fun j=>?_)
   ·have j:x∉r.acks:=by simpa using j
    rw[Gn j] at o;simp only[go_sem,J,z,B,h1,H,I,y,q,w];exact⟨i+1,by omega,by omega,by rw[o];simp[nm,Yi],by rw[o];simp,by rw[Yn h (by omega)]⟩
   ·have j:x∈r.acks:=by simpa using j
    rw[Gt j] at o;simp only[go_sem,J,z,B,h1,H,I,y];exact⟨i+1,by omega,by omega,by rw[o],by rw[o],by rw[Yn h (by omega)]⟩
  ·have h:=YC hi h;subst h;have e:lk r r.members=YM r:=rfl;simp only[go_sem,z,B,GB,e]
def Yt:bG:=⟨0,0,[],0,[],[],[]⟩
@[go_sem] def uh (x:bG×List bI×Int):V:=.tuple [.agg (YN x.1),mL x.2.1,iz x.2.2]
@[go_sem] def ur (x:bG×List bI):V:=.tuple [.agg (YN x.1),mL x.2]
def Yr (r:bG) (t:mp):bG×List bI×Int:=
 if aT r then (if Yl r then (if gQ r then (if r.n=1099511627776 then (Yt,[],6) else
  (gy ⟨r.id,r.view,r.members,r.n+1,r.base,t,[r.id]⟩,YM ⟨r.id,r.view,r.members,r.n+1,r.base,t,[r.id]⟩,0)) else (Yt,[],11)) else (Yt,[],10)) else (Yt,[],1)
def Mq:=HpC 47 F47<|HpA xq<|HpA vF<|HpA vq<|HpA Fg<|Fh
def Vp (h:Mq Pg) (r:bG) (t:mp) (ok:r.Ok) (hm:r.members.length<=10000):K' Pg 47 [.agg (YN r),.str t]=some (uh (Yr r t)):=by
 have⟨h,E,I,H,J,L⟩:=h;have j:=BD E r ok;have o:=xF I r;have p:=vY H r ok;have z:=N3 J ⟨r.id,r.view,r.members,r.n+1,r.base,t,[r.id]⟩;have B:=I4 L ⟨r.id,r.view,r.members,r.n+1,r.base,t,[r.id]⟩ ⟨ok.m,by simp⟩ hm;simp only[Yi,YN,GA,Gk] at j o p z B;refine aA h rfl ?_;cases q:aT r with
 |false=>simp only[go_sem,j,Yr,q,Yt]
 |true=>
  cases u:Yl r with
  |false=>simp only[go_sem,j,o,Yr,q,u,Yt]
  |true=>
   cases w:gQ r with
   |false=>
    have D:YI r=true:=by simp[YI,q,u,w]
    simp only[go_sem,j,o,p,D,Yr,q,u,w,Yt]
   |true=>
    have D:YI r=false:=by simp[YI,w]
    by_cases M:r.n=1099511627776
    ·have e:Yr r t=(Yt,[],6):=by simp[Yr,q,u,w,M]
     have N:=Gu M;simp only[go_sem,j,o,p,D,e,q,u,N,Yt]
    ·obtain⟨-,-,-,-,-,-,-,h1,O⟩:=xI q;have y:IntKind.i64.wrap (r.n+1)=r.n+1:=bv (by omega) (by omega);simp only[go_sem,j,o,p,D,Yr,q,u,w,M,y,z,B]
def Mr:=HpC 48 F48<|HpA zQ<|HpA tJ<|HpA zZ<|Fe
def Vq (h:Mr Pg) (r:bG) (t:mp) (ok:r.Ok) (hm:r.members.length<=10000):K' Pg 48 [.agg (YN r),.str t]=some (uh (Yr r t)):=by
 have⟨h,D,E,H,I⟩:=h;have j:=DO D r ok;have o:=vW E r;have p:=DP H r ok;have w:=fun b=>I1 I ⟨r.id,r.view,r.members,r.n+1,b,t,[r.id]⟩ ⟨ok.m,by simp⟩ hm;simp only[Yi,YN,GA,Gk] at j o p w;refine aA h rfl ?_;cases u:aT r with
 |false=>simp only[go_sem,j,Yr,u,Yt]
 |true=>
  cases z:Yl r with
  |false=>simp only[go_sem,j,o,Yr,u,z,Yt]
  |true=>
   cases B:gQ r with
   |false=>simp only[go_sem,j,o,p,Yr,u,z,B,Yt]
   |true=>
    obtain⟨-,-,-,-,-,-,-,h1,N⟩:=xI u;by_cases L:r.n=1099511627776
    ·have e:Yr r t=(Yt,[],6):=by simp[Yr,u,z,B,L]
     have M:decide ((1099511627776:Int)<=r.n)=true:=by simp;omega
     simp only[go_sem,j,o,p,e,u,z,B,M,Yt]
    ·have y:IntKind.i64.wrap (r.n+1)=r.n+1:=bv (by omega) (by omega);have J:decide ((1099511627776:Int)<=r.n)=false:=by simp;omega
     have e:∀b,YM ⟨r.id,r.view,r.members,r.n+1,b,t,[r.id]⟩=YM ⟨r.id,r.view,r.members,r.n+1,r.base,t,[r.id]⟩:=fun b=>rfl;simp only[go_sem,j,o,p,Yr,u,z,B,L,y,J];refine aY (fun q=>?_) (fun q=>?_)
     ·have q:1=r.members.length:=by have:=Gc q;omega
      simp only[go_sem,w,e,gy,<-q]
     ·have q:¬1=r.members.length:=by have:=Ga q;omega
      simp only[go_sem,w,gy,q]
def fL (r:bG) (view:Int) (l:List Int):Prop:=aT r=true/\bW l/\l.head?=some r.id/\1<=view/\view<=1099511627776
instance (r:bG) (view:Int) (l:List Int):Decidable (fL r view l):=inferInstanceAs (Decidable (_/\_/\_/\_/\_))
def YH (r:bG) (view:Int) (l:List Int):bG:=⟨r.id,view,l,r.n+1,r.text,r.text,[r.id]⟩
def Y4 (r:bG) (view:Int) (l:List Int):bG×List bI×Int:=
 if fL r view l then (if view=r.view/\Yl r=true then (r,YM r,0) else if view≠r.view+1\/r.members=[] then (Yt,[],10) else if r.n=1099511627776 then (Yt,[],6)
  else (YH r view l,YM (YH r view l),0)) else (Yt,[],1)
def kH (l:List Int) (id j:Int):Bool:=decide (bW l)&&(decide (id∈l)&&decide (l.head?=some j))
def Fi:=HpC 73 F73<|HpA Ff<|vE
def N4 (h:Fi Pg) (l:List Int) (id j:Int) (y:l.length<=10000):K' Pg 73 [Yi l,iz id,iz j]=some (.bool (kH l id j)):=by
 have⟨h,q,u⟩:=h;have o:=I2 q l (by omega);have p:=fun x=>tV u l x (by omega);refine aA h rfl ?_;cases l with
 |nil=>simp only[go_sem,kH,List.not_mem_nil,mu]
 |cons m l=>
  have h0:kj 1 (V.slice 1 ([iz m]::List.map (fun a=>[iz a]) l)) (iz 0)=some (.cptr [iz m] 0):=rfl;simp only[Yi,GA] at o p;cases h1:decide (bW (m::l)) with
  |false=>simp only[go_sem,pF,o,h1,kH]
  |true=>
   cases w:decide (id∈m::l)<;>simp only[go_sem,pF,o,p,h0,h1,w,kH,List.head?_cons,Gb]
def P6 {l:List Int} (h:l≠[]):decide ((l.length:Int)=0)=false:=by
 cases l with
 |nil=>exact absurd rfl h
 |cons a l=>simp;omega
def PM {n:Int}:hU n 1=decide (1<=n/\n<=1099511627776):=by
 simp only[hU,Bool.decide_and]
def Ms:=HpC 54 F54<|HpA xq<|HpA Fi<|HpA Dm<|HpA vF<|HpA Fh<|AM
def Vr (h:Ms Pg) (r:bG) (view:Int) (l:List Int) (ok:r.Ok) (hm:r.members.length<=10000) (hl:l.length<=10000):K' Pg 54 [.agg (YN r),iz view,Yi l]=some (uh (Y4 r view l)):=by
 have⟨h,T,Y,U,W,N,X⟩:=h;have o:=BD T r ok;have j:=N4 Y l r.id r.id hl;have p:=DT U view 1;have I:=xF W r;have Q:=I4 N r ok hm;have D:=I4 N (YH r view l) ⟨by simp only[YH];omega,by simp[YH]⟩ hl;have P:=DU X l (by omega);simp only[Yi,YN] at o j p I Q P;simp only[Yi,YN,YH,GA,Gk] at D;refine aA h rfl ?_;have R:kH l r.id r.id=decide (bW l/\l.head?=some r.id):=by
  simp only[kH,Bool.decide_and];cases l with
  |nil=>simp
  |cons a l=>
   by_cases ha:a=r.id
   ·subst ha;simp
   ·simp[ha]
 rw[R] at j;rw[PM] at p;by_cases Z:fL r view l
 ·have⟨q,z,H,g4,g5⟩:=Z;obtain⟨-,-,-,-,-,h1,h2,h3,h4⟩:=xI q;have O:IntKind.i64.wrap (r.n+1)=r.n+1:=bv (by omega) (by omega);have u:IntKind.i64.wrap (r.view+1)=r.view+1:=bv (by omega) (by omega);simp only[z,H,and_self,jS] at j;simp only[g4,g5,and_self,jS] at p;by_cases E:view=r.view/\Yl r=true
  ·have e:Y4 r view l=(r,YM r,0):=by simp only[Y4];rw[Gt ⟨q,z,H,g4,g5⟩,Gt E]
   have B:=Gu E.1;rw[e];simp only[go_sem,o,q,j,p,B,I,E.2,Q]
  ·have S:(decide (view=r.view)=false\/Yl r=false):=by
    by_cases y:view=r.view
    ·exact .inr (by simpa [y] using E)
    ·exact .inl (by simpa using y)
   by_cases c2:view≠r.view+1\/r.members=[]
   ·have e:Y4 r view l=(Yt,[],10):=by simp only[Y4];rw[Gt ⟨q,z,H,g4,g5⟩,Gn E,Gt c2]
    rw[e];have w:decide (view=r.view+1)=false\/decide (view=r.view+1)=true/\decide ((r.members.length:Int)=0)=true:=by
     by_cases y:view=r.view+1
     ·refine .inr ⟨by simp[y],?_⟩;rcases c2 with c2|c2
      ·exact absurd y c2
      ·simp[c2]
     ·exact .inl (by simp[y])
    cases B:decide (view=r.view) with
    |false=>rcases w with w|⟨w,J⟩<;>simp only[go_sem,o,q,j,p,B,u,w,Yt]<;>simp only[go_sem,J]
    |true=>
     have L:Yl r=false:=by
      rcases S with f|f
      ·rw[B] at f;simp at f
      ·exact f
     rcases w with w|⟨w,J⟩<;>simp only[go_sem,o,q,j,p,B,L,I,u,w,Yt]<;>simp only[go_sem,J]
   ·have y:view=r.view+1:=by
     by_cases y:view=r.view+1
     ·exact y
     ·exact absurd (.inl y) c2
    have aa:r.members≠[]:=fun e=>c2 (.inr e);have B:decide (view=r.view)=false:=by simp;omega
    have w:decide (view=r.view+1)=true:=by simp[y]
    have J:=P6 aa;by_cases c3:r.n=1099511627776
    ·have e:Y4 r view l=(Yt,[],6):=by simp only[Y4];rw[Gt ⟨q,z,H,g4,g5⟩,Gn E,Gn c2,Gt c3]
     have L:=Gu c3;rw[e];simp only[go_sem,o,q,j,p,B,w,J,L,u,Yt]
    ·have e:Y4 r view l=(YH r view l,YM (YH r view l),0):=by simp only[Y4];rw[Gt ⟨q,z,H,g4,g5⟩,Gn E,Gn c2,Gn c3]
     have L:=Gp c3;rw[e];simp only[go_sem,o,q,j,p,B,w,J,L,u,O,P,D,YH]
 ·have e:Y4 r view l=(Yt,[],1):=by simp only[Y4,Z,Gv]
  rw[e];cases q:aT r with
  |false=>simp only[go_sem,o,q,Yt]
  |true=>
   cases z:decide (bW l/\l.head?=some r.id) with
   |false=>simp only[go_sem,o,q,j,z,Yt]
   |true=>
    have M:=Gc z;have H:decide (1<=view/\view<=1099511627776)=false:=by
     simp only[Gs];exact fun c=>Z ⟨q,M.1,M.2,c.1,c.2⟩
    simp only[go_sem,o,q,j,z,p,H,Yt]
def Mt:=HpC 55 F55<|HpA zQ<|HpA Dl<|HpA Dk<|HpA tJ<|Fe
def Vs (h:Mt Pg) (r:bG) (view:Int) (l:List Int) (ok:r.Ok) (hm:r.members.length<=10000) (Z:l.length<=10000):K' Pg 55 [.agg (YN r),iz view,Yi l]=some (uh (Y4 r view l)):=by
 have⟨h,S,W,U,T,N⟩:=h;have o:=DO S r ok;have j:=DS W l;have p:=DQ U view;have L:=vW T r;have Q:=I1 N r ok hm;have z:=I1 N (YH r view l) ⟨by simp only[YH];omega,by simp[YH]⟩ Z;simp only[Yi,YN] at o j p L Q;simp only[Yi,YN,YH,GA,Gk] at z;refine aA h rfl ?_;rw[PM] at p;by_cases X:fL r view l
 ·have⟨q,u,H,g4,g5⟩:=X;obtain⟨-,-,-,-,-,h1,h2,h3,h4⟩:=xI q;have P:IntKind.i64.wrap (r.n+1)=r.n+1:=bv (by omega) (by omega);have w:IntKind.i64.wrap (view-1)=view-1:=bv (by omega) (by omega);obtain⟨a,l,rfl⟩:∃a l',l=a::l':=by
   cases l with
   |nil=>simp at H
   |cons a l=>exact⟨a,l,rfl⟩
  have O:a=r.id:=by simpa using H
  have h0:kj 1 (V.slice 1 ([iz a]::List.map (fun a=>[iz a]) l)) (iz 0)=some (.cptr [iz a] 0):=rfl;have hz:decide (((l.length+1:Nat):Int)=0)=false:=by simp;omega
  have D:=Gu O;simp only[GA] at j z;simp only[g4,g5,and_self,jS] at p;by_cases I:view=r.view/\Yl r=true
  ·have e:Y4 r view (a::l)=(r,YM r,0):=by simp only[Y4];rw[Gt ⟨q,u,H,g4,g5⟩,Gt I]
   have B:=Gu I.1;rw[e];simp only[go_sem,o,q,j,u,hz,h0,D,p,B,L,I.2,Q]
  ·have R:(decide (view=r.view)=false\/Yl r=false):=by
    by_cases E:view=r.view
    ·exact .inr (by simpa [E] using I)
    ·exact .inl (by simpa using E)
   have J:decide (view=r.view)=true->Yl r=false:=fun B=>by
    rcases R with f|f
    ·rw[B] at f;simp at f
    ·exact f
   by_cases c2:view≠r.view+1\/r.members=[]
   ·have e:Y4 r view (a::l)=(Yt,[],10):=by simp only[Y4];rw[Gt ⟨q,u,H,g4,g5⟩,Gn I,Gt c2]
    rw[e];have y:decide (view-1=r.view)=false\/decide (view-1=r.view)=true/\decide ((r.members.length:Int)=0)=true:=by
     by_cases E:view-1=r.view
     ·refine .inr ⟨by simp[E],?_⟩;rcases c2 with c2|c2
      ·exact absurd (by omega) c2
      ·simp[c2]
     ·exact .inl (by simp[E])
    cases B:decide (view=r.view) with
    |false=>rcases y with y|⟨y,M⟩<;>simp only[go_sem,o,q,j,u,hz,h0,D,p,B,w,y,Yt]<;>simp only[go_sem,M]
    |true=>
     have J:=J B;rcases y with y|⟨y,M⟩<;>simp only[go_sem,o,q,j,u,hz,h0,D,p,B,J,L,w,y,Yt]<;>simp only[go_sem,M]
   ·have E:view=r.view+1:=by
     by_cases E:view=r.view+1
     ·exact E
     ·exact absurd (.inl E) c2
    have Y:r.members≠[]:=fun e=>c2 (.inr e);have B:decide (view=r.view)=false:=by simp;omega
    have y:decide (view-1=r.view)=true:=by simp;omega
    have M:=P6 Y;by_cases c3:r.n=1099511627776
    ·have e:Y4 r view (a::l)=(Yt,[],6):=by simp only[Y4];rw[Gt ⟨q,u,H,g4,g5⟩,Gn I,Gn c2,Gt c3]
     have J:decide ((1099511627776:Int)<=r.n)=true:=by simp;omega
     rw[e];simp only[go_sem,o,q,j,u,hz,h0,D,p,B,w,y,M,J,Yt]
    ·have e:Y4 r view (a::l)=(YH r view (a::l),YM (YH r view (a::l)),0):=by simp only[Y4];rw[Gt ⟨q,u,H,g4,g5⟩,Gn I,Gn c2,Gn c3]
     have J:decide ((1099511627776:Int)<=r.n)=false:=by simp;omega
     rw[e];simp only[go_sem,o,q,j,u,hz,h0,D,p,B,w,y,M,J,P,z,YH]
 ·have e:Y4 r view l=(Yt,[],1):=by simp only[Y4,X,Gv]
  rw[e];cases q:aT r with
  |false=>simp only[go_sem,o,q,Yt]
  |true=>
   by_cases u:bW l
   ·cases l with
    |nil=>simp only[Gk,u,jS] at j;simp only[go_sem,o,q,j,Yt]
    |cons a l=>
     have h0:kj 1 (V.slice 1 ([iz a]::List.map (fun a=>[iz a]) l)) (iz 0)=some (.cptr [iz a] 0):=rfl;have hz:decide (((l.length+1:Nat):Int)=0)=false:=by simp;omega
     simp only[GA] at j;by_cases O:a=r.id
     ·have D:=Gu O;have H:decide (1<=view/\view<=1099511627776)=false:=by
       simp only[Gs];exact fun c=>X ⟨q,u,by simp[O],c.1,c.2⟩
      simp only[go_sem,o,q,j,u,hz,h0,D,p,H,Yt]
     ·have D:=Gp O;simp only[go_sem,o,q,j,u,hz,h0,D,Yt]
   ·simp only[go_sem,o,q,j,u,Yt]
def Y9 (r:bG) (w:bI):bG:=⟨r.id,w.view,w.members,w.n,w.text,w.text,[]⟩
def bS (r:bG) (w:bI):bG×List bI:=
 if w.view<r.view then (r,[⟨3,r.id,w.frm,r.view,0,[],[]⟩])
 else if w.view=r.view/\(Yl r=true\/w.n<r.n) then (r,[])
 else if w.view≠r.view\/r.n<w.n then (Y9 r w,[⟨2,r.id,w.frm,w.view,w.n,[],[]⟩])
 else (r,[⟨2,r.id,w.frm,r.view,r.n,[],[]⟩])
def f6 (r:bG) (w:bI):bG×List bI:=
 if decide (w.frm=r.id) then (r,[]) else if kH w.members r.id w.frm then (if hU w.view 1 then (if hU w.n 1 then bS r w else (r,[])) else (r,[])) else (r,[])
def My:=HpC 74 F74<|HpA Fi<|HpA Dm<|HpA vF<|AM
def Vw (h:My Pg) (r:bG) (w:bI) (hw:w.members.length<=10000):K' Pg 74 [.agg (YN r),.agg (nm w)]=some (ur (f6 r w)):=by
 have⟨h,P,J,N,O⟩:=h;have p:=N4 P w.members r.id w.frm hw;have j:=DT J w.view 1;have o:=DT J w.n 1;have z:=xF N r;have H:=DU O w.members (by omega);simp only[Yi,YN] at p j o z H;refine aA h rfl ?_;cases y:decide (w.frm=r.id) with
 |true=>simp only[go_sem,y,f6]
 |false=>
 cases B:kH w.members r.id w.frm with
 |false=>simp only[go_sem,y,p,B,f6]
 |true=>
 cases c3:hU w.view 1 with
 |false=>simp only[go_sem,y,p,B,j,c3,f6]
 |true=>
 cases D:hU w.n 1 with
 |false=>simp only[go_sem,y,p,B,j,c3,o,D,f6]
 |true=>
 have e:f6 r w=bS r w:=by simp only[f6,y,B,c3,D];rfl
 rw[e];by_cases u:w.view<r.view
 ·have e:bS r w=(r,[⟨3,r.id,w.frm,r.view,0,[],[]⟩]):=by simp only[bS,u,Gw]
  rw[e];simp only[go_sem,y,p,B,j,c3,o,D,u]
 ·by_cases I:w.view=r.view
  ·have q:=Gu I;cases E:Yl r with
   |true=>
    have e:bS r w=(r,[]):=by simp only[bS];rw[Gn u,Gt ⟨I,.inl E⟩]
    rw[e];simp only[go_sem,y,p,B,j,c3,o,D,u,q,z,E]
   |false=>
    by_cases L:w.n<r.n
    ·have e:bS r w=(r,[]):=by simp only[bS];rw[Gn u,Gt ⟨I,.inr L⟩]
     rw[e];simp only[go_sem,y,p,B,j,c3,o,D,u,q,z,E,L]
    ·by_cases M:r.n<w.n
     ·have e:bS r w=(Y9 r w,[⟨2,r.id,w.frm,w.view,w.n,[],[]⟩]):=by simp only[bS];rw[Gn u,Gn (by rw[E];simp;omega),Gt (.inr M)]
      rw[e];simp only[go_sem,y,p,B,j,c3,o,D,u,q,z,E,L,M,H,Y9]
     ·have e:bS r w=(r,[⟨2,r.id,w.frm,r.view,r.n,[],[]⟩]):=by simp only[bS];rw[Gn u,Gn (by rw[E];simp;omega),Gn (by omega)]
      rw[e];simp only[go_sem,y,p,B,j,c3,o,D,u,q,z,E,L,M]
  ·have q:=Gp I;have e:bS r w=(Y9 r w,[⟨2,r.id,w.frm,w.view,w.n,[],[]⟩]):=by simp only[bS];rw[Gn u,Gn (fun x=>I x.1),Gt (.inl I)]
   rw[e];simp only[go_sem,y,p,B,j,c3,o,D,u,q,H,Y9]
def eR (r:bG) (w:bI):bG:=⟨r.id,r.view,r.members,r.n,r.base,r.text,r.acks++[w.frm]⟩
def px (r:bG):bG:=⟨r.id,r.view,[],r.n,r.text,r.text,[]⟩
def i9 (r:bG) (w:bI):Bool:=Yl r&&(decide (w.view=r.view)&&(decide (w.n=r.n)&&(decide (w.frm∈r.members)&&!decide (w.frm∈r.acks))))
def Yx (r:bG) (w:bI):bG×List bI:=
 if aT r then (if w.to=r.id then (if w.kind=1 then f6 r w else if w.kind=2 then (if i9 r w then (gy (eR r w),[]) else (r,[]))
  else if w.kind=3 then (if r.view<w.view then (px r,[]) else (r,[])) else (r,[])) else (r,[])) else (r,[])
def Mu:=HpC 57 F57<|HpA xq<|HpA My<|HpA vF<|HpA vE<|HpA AM<|Fg
def Vt (h:Mu Pg) (r:bG) (w:bI) (ok:r.Ok) (ha:r.acks.length<=10000) (hw:w.members.length<=10000):K' Pg 57 [.agg (YN r),.agg (nm w)]=some (ur (Yx r w)):=by
 have⟨h,U,Z,W,M,X,Y⟩:=h;have j:=BD U r ok;have Q:=Vw Z r w hw;have y:=xF W r;have z:=tV M r.members w.frm ok.m;have B:=tV M r.acks w.frm ok.a;have O:=DU X r.acks (by omega);have P:=N3 Y (eR r w);have N:r.acks.length+1<=aU:=by simp only[aU];omega
 simp only[Yi,YN,nm,ur,mL] at j Q y z B O;simp only[Yi,YN,eR,Gz,GA,Gk] at P;refine aA h rfl ?_;cases u:aT r with
 |false=>simp only[go_sem,j,u,Yx]
 |true=>
 by_cases D:w.to=r.id
 ·have o:=Gu D;by_cases I:w.kind=1
  ·have p:=Gu I;have e:Yx r w=f6 r w:=by simp only[Yx,u,D,I,Gw]
   rw[e];simp only[go_sem,j,u,o,p,Q]
  ·have p:=Gp I;by_cases L:w.kind=2
   ·have q:=Gu L;have e:Yx r w=(if i9 r w then (gy (eR r w),[]) else (r,[])):=by simp only[Yx];rw[Gt u,Gt D,Gn I,Gt L]
    rw[e];cases H:Yl r with
    |false=>simp only[go_sem,j,u,o,p,q,y,H,i9]
    |true=>
    cases J:decide (w.view=r.view) with
    |false=>simp only[go_sem,j,u,o,p,q,y,H,J,i9]
    |true=>
    cases R:decide (w.n=r.n) with
    |false=>simp only[go_sem,j,u,o,p,q,y,H,J,R,i9]
    |true=>
    cases T:decide (w.frm∈r.members) with
    |false=>simp only[go_sem,j,u,o,p,q,y,H,J,R,z,T,i9]
    |true=>
    cases b5:decide (w.frm∈r.acks) with
    |true=>simp only[go_sem,j,u,o,p,q,y,H,J,R,z,B,T,b5,i9]
    |false=>simp only[go_sem,j,u,o,p,q,y,H,J,R,z,B,T,b5,i9,O,N,P,eR]
   ·have q:=Gp L;by_cases S:w.kind=3
    ·have E:=Gu S;have e:Yx r w=(if r.view<w.view then (px r,[]) else (r,[])):=by simp only[Yx];rw[Gt u,Gt D,Gn I,Gn L,Gt S]
     rw[e];by_cases b:r.view<w.view<;>simp only[go_sem,j,u,o,p,q,E,b,px]
    ·have E:=Gp S;have e:Yx r w=(r,[]):=by simp only[Yx];rw[Gt u,Gt D,Gn I,Gn L,Gn S]
     rw[e];simp only[go_sem,j,u,o,p,q,E]
 ·have o:=Gp D;have e:Yx r w=(r,[]):=by simp only[Yx,u,D,Gw,Gv]
  rw[e];simp only[go_sem,j,u,o]
theorem W3 {r:bG} {w:bI} (I:aT r=true) (o:i9 r w=true):gy (eR r w)=if gQ (eR r w) then {eR r w with base:=r.text} else eR r w:=by
 obtain⟨h1,y,D,-⟩:=xI I;simp only[i9,Ge,Gj,GM,Gs] at o;obtain⟨-,-,-,E,z⟩:=o;have B:(r.acks++[w.frm]).Nodup:=by
  rw[ri];refine⟨y.2.2,by simp,fun a o b H e=>?_⟩;have:b=w.frm:=by simpa using H
  rw[<-this,<-e] at z;exact z o
 have j:∀x∈r.acks++[w.frm],x∈r.members:=fun x hx=>by
  rcases GS.1 hx with hx|hx
  ·exact D x hx
  ·have:x=w.frm:=by simpa using hx
   rw[this];exact E
 have p:=xL B j;have q:bW (eR r w).acks:=⟨GI p h1.1,fun m hm=>h1.2.1 m (j m hm),B⟩;have u:=Eg (r:=eR r w) h1 q j;cases o:gQ (eR r w) with
 |true=>
  rw[o] at u;have:(eR r w).acks.length=(eR r w).members.length:=by
   have h1:¬((eR r w).acks.length:Int)<(eR r w).members.length:=by simpa using u
   have y:(eR r w).acks.length<=(eR r w).members.length:=p;omega
  simp only[gy,this,Gw];rfl
 |false=>
  rw[o] at u;have:¬(eR r w).acks.length=(eR r w).members.length:=by
   have h1:((eR r w).acks.length:Int)<(eR r w).members.length:=by simpa using u
   omega
  simp only[gy,this,Gv];rfl
def Mv:=HpC 58 F58<|HpA zQ<|HpA tJ<|HpA AL<|HpA zZ<|HpA Dl<|Dk
def Vu (h:Mv Pg) (r:bG) (w:bI) (ok:r.Ok) (ha:r.acks.length<=10000) (hw:w.members.length<=10000):K' Pg 58 [.agg (YN r),.agg (nm w)]=some (ur (Yx r w)):=by
 have⟨h,ae,af,aa,ag,ah,ad⟩:=h;have o:=DO ae r ok;have H:=vW af r;have N:=wi aa r.members w.frm ok.m;have Q:=wi aa r.acks w.frm ok.a;have y:=wi aa w.members r.id (by omega);have ac:=DP ag (eR r w) ⟨ok.m,by simp only[eR,Gf,List.length_singleton];omega⟩;have D:=DS ah w.members;have B:=DQ ad w.view;have E:=DQ ad w.n;have Y:r.acks.length+1<=aU:=by simp only[aU];omega
 have U:r.acks.length<=aU:=by simp only[aU];omega
 simp only[Yi,YN] at o H N Q y D B E;simp only[Yi,YN,eR,Gz,GA,Gk] at ac;refine aA h rfl ?_;cases z:aT r with
 |false=>simp only[go_sem,o,z,Yx]
 |true=>
 by_cases Z:w.to=r.id
 ·have p:=Gu Z;by_cases X:w.kind=1
  ·have u:=Gu X;have q:decide (w.kind=2)=false:=by simp[X]
   have j:decide (w.kind=3)=false:=by simp[X]
   have e:Yx r w=f6 r w:=by simp only[Yx,z,Z,X,Gw]
   rw[e];cases I:decide (bW w.members) with
   |false=>
    have e:f6 r w=(r,[]):=by simp only[f6,kH,I];simp
    rw[e];simp only[go_sem,o,z,p,u,q,j,D,I]
   |true=>
   cases J:decide (r.id∈w.members) with
   |false=>
    have e:f6 r w=(r,[]):=by simp only[f6,kH,I,J];simp
    rw[e];simp only[go_sem,o,z,p,u,q,j,D,I,y,J]
   |true=>
   obtain⟨a,l,ab⟩:∃a l',w.members=a::l':=by
    cases hw:w.members with
    |nil=>rw[hw] at J;simp at J
    |cons a l=>exact⟨a,l,rfl⟩
   have h0:kj 1 (V.slice 1 (List.map (fun a=>[iz a]) w.members)) (iz 0)=some (.cptr [iz a] 0):=by rw[ab];rfl
   by_cases T:a=w.frm
   ·have L:=Gu T;cases M:decide (w.frm=r.id) with
    |true=>
     have e:f6 r w=(r,[]):=by simp only[f6,M,Gw]
     rw[e];simp only[go_sem,o,z,p,u,q,j,D,I,y,J,h0,L,M]
    |false=>
    have hm:kH w.members r.id w.frm=true:=by simp only[kH,I,J];simp[ab,T]
    cases O:hU w.view 1 with
    |false=>
     have e:f6 r w=(r,[]):=by simp only[f6,M,hm,O];simp
     rw[e];simp only[go_sem,o,z,p,u,q,j,D,I,y,J,h0,L,M,B,O]
    |true=>
    cases W:hU w.n 1 with
    |false=>
     have e:f6 r w=(r,[]):=by simp only[f6,M,hm,O,W];simp
     rw[e];simp only[go_sem,o,z,p,u,q,j,D,I,y,J,h0,L,M,B,O,E,W]
    |true=>
    have e:f6 r w=bS r w:=by simp only[f6,M,hm,O,W];rfl
    rw[e];by_cases S:w.view<r.view
    ·have e:bS r w=(r,[⟨3,r.id,w.frm,r.view,0,[],[]⟩]):=by simp only[bS,S,Gw]
     rw[e];simp only[go_sem,o,z,p,u,q,j,D,I,y,J,h0,L,M,B,O,E,W,S]
    ·by_cases f2:w.view=r.view
     ·have R:=Gu f2;have f5:decide (r.view<w.view)=false:=by simp;omega
      cases hl:Yl r with
      |true=>
       have e:bS r w=(r,[]):=by simp only[bS];rw[Gn S,Gt ⟨f2,.inl hl⟩]
       rw[e];simp only[go_sem,o,z,p,u,q,j,D,I,y,J,h0,L,M,B,O,E,W,S,R,H,hl]
      |false=>
       by_cases f3:w.n<r.n
       ·have e:bS r w=(r,[]):=by simp only[bS];rw[Gn S,Gt ⟨f2,.inr f3⟩]
        rw[e];simp only[go_sem,o,z,p,u,q,j,D,I,y,J,h0,L,M,B,O,E,W,S,R,H,hl,f3]
       ·by_cases f4:r.n<w.n
        ·have e:bS r w=(Y9 r w,[⟨2,r.id,w.frm,w.view,w.n,[],[]⟩]):=by simp only[bS];rw[Gn S,Gn (by rw[hl];simp;omega),Gt (.inr f4)]
         rw[e];simp only[go_sem,o,z,p,u,q,j,D,I,y,J,h0,L,M,B,O,E,W,S,R,H,hl,f3,f4,f5,Y9]
        ·have e:bS r w=(r,[⟨2,r.id,w.frm,w.view,w.n,[],[]⟩]):=by
          have:w.n=r.n:=by omega
          simp only[bS];rw[Gn S,Gn (by rw[hl];simp;omega),Gn (by omega),this,f2]
         rw[e];simp only[go_sem,o,z,p,u,q,j,D,I,y,J,h0,L,M,B,O,E,W,S,R,H,hl,f3,f4,f5]
     ·have R:=Gp f2;have f5:decide (r.view<w.view)=true:=by simp;omega
      have e:bS r w=(Y9 r w,[⟨2,r.id,w.frm,w.view,w.n,[],[]⟩]):=by simp only[bS];rw[Gn S,Gn (fun x=>f2 x.1),Gt (.inl f2)]
      rw[e];simp only[go_sem,o,z,p,u,q,j,D,I,y,J,h0,L,M,B,O,E,W,S,R,f5,Y9]
   ·have L:=Gp T;have hm:kH w.members r.id w.frm=false:=by simp only[kH,ab];simp[T]
    have e:f6 r w=(r,[]):=by simp only[f6,hm];simp
    rw[e];simp only[go_sem,o,z,p,u,q,j,D,I,y,J,h0,L]
  ·have u:=Gp X;by_cases d2:w.kind=2
   ·have q:=Gu d2;have j:decide (w.kind=3)=false:=by simp[d2]
    have e:Yx r w=(if i9 r w then (gy (eR r w),[]) else (r,[])):=by simp only[Yx];rw[Gt z,Gt Z,Gn X,Gt d2]
    rw[e];cases I:Yl r with
    |false=>simp only[go_sem,o,z,p,u,q,j,H,I,i9]
    |true=>
    cases J:decide (w.view=r.view) with
    |false=>simp only[go_sem,o,z,p,u,q,j,H,I,J,i9]
    |true=>
    cases T:decide (w.n=r.n) with
    |false=>simp only[go_sem,o,z,p,u,q,j,H,I,J,T,i9]
    |true=>
    cases M:decide (w.frm∈r.members) with
    |false=>simp only[go_sem,o,z,p,u,q,j,H,I,J,T,N,M,i9]
    |true=>
    cases O:decide (w.frm∈r.acks) with
    |true=>simp only[go_sem,o,z,p,u,q,j,H,I,J,T,N,Q,M,O,i9]
    |false=>
     have hb:i9 r w=true:=by simp only[i9,I,J,T,M,O];rfl
     rw[Gt hb,W3 z hb];cases P:gQ (eR r w) with
     |true=>
      simp only[eR] at P;simp only[go_sem,o,z,p,q,j,H,I,J,T,N,Q,M,O,Y,U,ac,P,eR,Gz]
     |false=>
      simp only[eR] at P;simp only[go_sem,o,z,p,q,j,H,I,J,T,N,Q,M,O,Y,U,ac,P,eR,Gz]
   ·have q:=Gp d2;by_cases d3:w.kind=3
    ·have j:=Gu d3;have e:Yx r w=(if r.view<w.view then (px r,[]) else (r,[])):=by simp only[Yx];rw[Gt z,Gt Z,Gn X,Gn d2,Gt d3]
     rw[e];by_cases b:r.view<w.view<;>simp only[go_sem,o,z,p,u,q,j,b,px]
    ·have j:=Gp d3;have e:Yx r w=(r,[]):=by simp only[Yx];rw[Gt z,Gt Z,Gn X,Gn d2,Gn d3]
     rw[e];simp only[go_sem,o,z,p,u,q,j]
 ·have p:=Gp Z;have e:Yx r w=(r,[]):=by simp only[Yx,z,Z,Gw,Gv]
  rw[e];simp only[go_sem,o,z,p]
structure RP (r:bG):Prop where
 id:1<=r.id/\r.id<=255
 view:0<=r.view/\r.view<=1099511627776
 n:0<=r.n/\r.n<=1099511627776
 sm:bW r.members
 sa:bW r.acks
 sub:∀a∈r.acks,a∈r.members
 inn:r.members≠[]->r.id∈r.members
 lead:Yl r=true->r.id∈r.acks/\(gQ r=true->r.base=r.text)
 not:Yl r=false->r.acks=[]/\r.base=r.text
def wt (r:bG):aT r=true↔RP r:=by
 have E:((0:Int)<(r.members.length:Int))↔r.members≠[]:=by
  cases h:r.members with
  |nil=>simp
  |cons a l=>simp
 have B:((r.acks.length:Int)=0)↔r.acks=[]:=by cases r.acks<;>simp;omega
 unfold aT;simp only[Ge,GM,xo,Gs,Bool.and_eq_false_iff,GG,Gj,hU,uH,Ge,Decidable.not_not,E];constructor
 ·rintro⟨⟨h1,H,D,p,q,u⟩,w,y,j⟩;refine⟨⟨by omega,by omega⟩,?_,?_,q,u,w,fun hm=>?_,fun o=>?_,fun o=>?_⟩
  ·rcases D with h|h<;>omega
  ·rcases p with h|h<;>omega
  ·rcases y with h|h
   ·exact absurd (h) (fun h=>by first|exact h hm|exact hm h)
   ·exact h
  ·rw[o] at j;simp only[cond_true,Ge,G1,GM,Gj] at j;refine⟨j.1,fun z=>?_⟩;rcases j.2 with h|h
   ·rw[z] at h;cases h
   ·exact h
  ·rw[o] at j;simp only[cond_false,Ge,Gj,B] at j;exact j
 ·rintro⟨h1,H,D,p,q,u,w,y,j⟩;refine⟨⟨by omega,by omega,?_,?_,p,q⟩,u,?_,?_⟩
  ·by_cases h:r.view=0
   ·exact .inl h
   ·exact .inr ⟨by omega,by omega⟩
  ·by_cases h:r.n=0
   ·exact .inl h
   ·exact .inr ⟨by omega,by omega⟩
  ·by_cases hm:r.members=[]
   ·exact .inl (by first|exact hm|exact fun h=>h hm)
   ·exact .inr (w hm)
  ·cases o:Yl r with
   |true=>
    have⟨a,b⟩:=y o;simp only[cond_true,Ge,G1,GM,Gj];refine⟨a,?_⟩;cases z:gQ r with
    |false=>exact .inl rfl
    |true=>exact .inr (b z)
   |false=>
    simp only[cond_false,Ge,Gj,B];exact j o
def Kb (r:bG):Yl r=true↔r.members.head?=some r.id:=by
 unfold Yl;cases r.members<;>simp
def wv:bW []:=by decide
def tY (k:Nat):Int:=(k:Int)+1
structure Gh where
 V:Int
 who:Int->Nat
 mem:Int->List Int
 n0:Int->Int
 top:Int->Int
 τ:Int->Int->mp
structure QE (g:Gh):Prop where
 V1:1<=g.V
 who:∀v,1<=v->v<=g.V->g.who v<3
 set:∀v,1<=v->v<=g.V->bW (g.mem v)/\(∀m∈g.mem v,1<=m/\m<=3)/\(g.mem v).head?=some (tY (g.who v))
 n0:∀v,1<=v->v<=g.V->1<=g.n0 v/\g.n0 v<=g.top v
 chain:∀v,1<=v->v<=g.V->∀n m,g.n0 v<=n->n<=m->m<=g.top v->g.τ v n <+:g.τ v m
 next:∀v,1<=v->v+1<=g.V->tY (g.who (v+1))∈g.mem v/\g.n0 v<=g.n0 (v+1)-1/\g.n0 (v+1)-1<=g.top v/\g.τ (v+1) (g.n0 (v+1))=g.τ v (g.n0 (v+1)-1)
def tD (g:Gh) (r:Nat->bG) (j:Nat) (v n:Int):Prop:=
 v<=(r j).view/\((r j).view=v->n<=(r j).n)/\(v+1<=g.V->g.who (v+1)=j->n<=g.n0 (v+1)-1)
def Mg (g:Gh) (r:Nat->bG) (v b:Int):Prop:=
 b=g.n0 v\/∀j,j<3->tY j∈g.mem v->v<=(r j).view/\((r j).view=v->b<=(r j).n)
structure VJ (g:Gh) (r:Nat->bG) (k:Nat):Prop where
 id:(r k).id=tY k
 right:RP (r k)
 view:1<=(r k).view/\(r k).view<=g.V
 n:g.n0 (r k).view<=(r k).n/\(r k).n<=g.top (r k).view
 text:(r k).text=g.τ (r k).view (r k).n
 mem:(r k).members=[]\/(r k).members=g.mem (r k).view/\tY k∈g.mem (r k).view
 top:Yl (r k)=true->(r k).n=g.top (r k).view
 base:Yl (r k)=true->∃b,g.n0 (r k).view<=b/\b<=(r k).n/\(r k).base=g.τ (r k).view b/\((r k).view+1<=g.V->b<=g.n0 ((r k).view+1)-1)/\Mg g r (r k).view b
 acks:Yl (r k)=true->∀a∈(r k).acks,a≠(r k).id->∃j,j<3/\a=tY j/\tD g r j (r k).view (r k).n
structure Oa (g:Gh) (r:Nat->bG) (x:bI):Prop where
 ship:x.kind=1->1<=x.view/\x.view<=g.V/\g.n0 x.view<=x.n/\x.n<=g.top x.view/\x.text=g.τ x.view x.n/\x.members=g.mem x.view/\x.frm=tY (g.who x.view)
 ack:x.kind=2->∃j,j<3/\x.frm=tY j/\tD g r j x.view x.n
 past:x.kind=3->x.view<=g.V
structure nG where
 text:mp
 at_:Int
structure QD (g:Gh) (r:Nat->bG) (x:nG):Prop where
 at_:1<=x.at_/\x.at_<=g.V
 b:∃b,g.n0 x.at_<=b/\b<=g.top x.at_/\x.text=g.τ x.at_ b/\(x.at_+1<=g.V->b<=g.n0 (x.at_+1)-1)/\Mg g r x.at_ b
 aL:∀k,k<3->Yl (r k)=true->(r k).view=x.at_->x.text <+:(r k).base
structure oH where
 view:Int
 who:Int
 members:List Int
structure og (g:Gh) (r:Nat->bG) (net:List bI) (views:List oH) (fx:List nG):Prop where
 gk:QE g
 rk:∀k,k<3->VJ g r k
 told:∀v,1<=v->v<=g.V->v<=(r (g.who v)).view
 netk:∀x∈net,Oa g r x
 viewk:∀t∈views,2<=t.view/\t.view<=g.V/\t.who=(g.who t.view:Int)
 all:∀v,2<=v->v<=g.V->∃t∈views,t.view=v
 fxk:∀x∈fx,QD g r x
section
variable {g:Gh} {r:Nat->bG} {net:List bI} {views:List oH} {fx:List nG}
def og.say (h:og g r net views fx) {Da:List bI} (hn:∀x∈Da,Oa g r x):og g r Da views fx:=⟨h.gk,h.rk,h.told,hn,h.viewk,h.all,h.fxk⟩
def VU {l:List Int} {id f:Int} (h:kH l id f=true):bW l/\id∈l/\l.head?=some f:=by
 simp only[kH,Ge,Gj] at h;exact⟨h.1,h.2.1,h.2.2⟩
def KB {l:List Int} {a:Int} (h:bW l) (j:a∉l) (o:(l++[a]).length<=8) (p:1<=a/\a<=255):bW (l++[a]):=by
 refine⟨o,fun m hm=>?_,?_⟩
 ·rcases GS.1 hm with hm|hm
  ·exact h.2.1 m hm
  ·have:m=a:=by simpa using hm
   subst this;exact p
 ·refine ri.2 ⟨h.2.2,by simp,fun x q y u e=>?_⟩;have:y=a:=by simpa using u
  subst this;subst e;exact j q
def Cg (r:bG):(gy r).id=r.id/\(gy r).view=r.view/\(gy r).members=r.members/\(gy r).n=r.n/\(gy r).text=r.text/\(gy r).acks=r.acks:=by
 unfold gy;split<;>exact⟨rfl,rfl,rfl,rfl,rfl,rfl⟩
def VO (r:bG):Yl (gy r)=Yl r:=by
 have⟨h1,o,j,p,q,u⟩:=Cg r;unfold Yl;rw[j,h1]
def VT (r:bG):gQ (gy r)=gQ r:=by
 have⟨h1,p,j,q,u,o⟩:=Cg r;unfold gQ;rw[j,o]
end
section
variable {g:Gh} {r:Nat->bG} {net:List bI} {views:List oH} {fx:List nG}
end
structure pt where
 r:Nat->bG
 net:List bI
 views:List oH
 fx:List nG
 count:Int
def Qk (net:List bI) (i:Nat):List bI:=net.take i++net.drop (i+1)
def Xa {net:List bI} {i:Nat} {x:bI} (h:x∈Qk net i):x∈net:=by
 rcases GS.1 h with h|h
 ·exact xn h
 ·exact tH h
abbrev IT (g:Gh) (t:pt):Prop:=og g t.r t.net t.views t.fx
section
variable {g:Gh} {t:pt}
def IT.off (h:IT g t) (i:Nat):IT g {t with net:=Qk t.net i}:=og.say h fun y j=>h.netk y (Xa j)
end
section
variable {g:Gh} {t:pt} {N:Int} {T:mp}
end
@[go_sem] def VP (t:oH):Eq:=[iz t.view,iz t.who,Yi t.members]
def Ob (r:Nat->bG) (v1 v2 v3 v4 v5:V):Eq:=YN (r 0)++(YN (r 1)++(YN (r 2)++[v1,v2,v3,v4,v5]))
@[go_sem] def D3 (t:pt) (a b c d:Nat):Eq:=Ob t.r (.own a 7 t.net.length) (.own b 3 t.views.length) (.own c 1 t.fx.length) (.own d 1 t.fx.length) (iz t.count)
structure ms (A:AA) (t:pt) (a b c d:Nat):Prop where
 ra:A a=some (7,t.net.map nm,.live)
 rb:A b=some (3,t.views.map VP,.live)
 rc:A c=some (1,t.fx.map (fun f=>[.str f.text]),.live)
 rd:A d=some (1,t.fx.map (fun f=>[iz f.at_]),.live)
 rn:a≠b/\a≠c/\a≠d/\b≠c/\b≠d/\c≠d
def HT (S:St) (v:Nat) (t:pt) (a b c d:Nat):Prop:=S.μ v=some (D3 t a b c d,false)/\ms S.A t a b c d
theorem Oh {A:AA}:∀{l m:Eq},l.all V.datC=true->(∀z,V.nslice z∉l)->kl (l++m) A=(kl m A).map fun r=>(l++r.1,r.2)
 |[],m,_,_=>by cases h:kl m A<;>simp[h]
 |x::l,m,hd,hn=>by
  simp only[List.all_cons,Ge] at hd;have j:cH A x=some (x,A):=by
   cases x<;>first|rfl|(simp[V.datC] at hd;done)|(exact absurd (G0 ..) (hn _))
  rw[List.cons_append,FM,j];simp only[Option.bind_some];rw[Oh hd.2 (fun z hz=>hn z (by simp[hz]))];cases kl m A<;>simp
theorem Of {A:AA}:∀{l m:Eq} {d:Nat},l.all V.datC=true->JO d (l++m) A=(JO (d+l.length) m A).map fun r=>(l++r.1,r.2)
 |[],m,d,_=>by cases h:JO d m A<;>simp[h]
 |x::l,m,d,hd=>by
  simp only[List.all_cons,Ge] at hd;have j:fi d A x=some (x,A):=by
   cases x<;>first|rfl|(simp[V.datC] at hd;done)
  rw[List.cons_append,FK,j];simp only[Option.bind_some];rw[Of hd.2,show d+1+l.length=d+(x::l).length by simp;omega];cases JO (d+(x::l).length) m A<;>simp
theorem VM (r:bG):(YN r).all V.datC=true:=rfl
section
variable {r:Nat->bG} {v1 v2 v3 v4 v5 w:V} {k s:Nat} {S:St}
end
def tw {A:AA} {t:pt} {a b c d x h:Nat} (hA:ms A t a b c d):ms (fun i=>A (dm x h i)) t (dm x h a) (dm x h b) (dm x h c) (dm x h d):=by
 have⟨n1,n2,n3,n4,n5,n6⟩:=hA.rn;have inj:∀{p q:Nat},p≠q->dm x h p≠dm x h q:=fun {p q} hn e=>hn (by
  have:∀r,dm x h (dm x h r)=r:=fun r=>by
   unfold dm;by_cases e1:r=x
   ·subst e1;simp only[Gw];split
    ·rename_i e;exact e
    ·rfl
   ·rw[Gn e1];by_cases e2:r=h
    ·subst e2;simp
    ·rw[Gn e2,Gn e1,Gn e2]
  rw[<-this p,e,this q])
 have inv:∀r,dm x h (dm x h r)=r:=fun r=>by
   unfold dm;by_cases e1:r=x
   ·subst e1;simp only[Gw];split
    ·rename_i e;exact e
    ·rfl
   ·rw[Gn e1];by_cases e2:r=h
    ·subst e2;simp
    ·rw[Gn e2,Gn e1,Gn e2]
 exact⟨by simp only[inv];exact hA.ra,by simp only[inv];exact hA.rb,by simp only[inv];exact hA.rc,by simp only[inv];exact hA.rd,inj n1,inj n2,inj n3,inj n4,inj n5,inj n6⟩
theorem HT.ren {S:St} {v x h:Nat} {t:pt} {a b c d:Nat} (j:HT S v t a b c d):HT (S.ren x h) v t (dm x h a) (dm x h b) (dm x h c) (dm x h d):=by
 refine⟨?_,tw j.2⟩
 show (S.μ v).map _=_
 rw[j.1];rfl
def oL {x h p:Nat} (h1:p≠x) (j:p≠h):dm x h p=p:=by simp[dm,h1,j]
def EB {T:List Nat} {x h y:Nat} (o:x∈T) (j:h∈T) (p:y∈T):dm x h y∈T:=by
 unfold dm;split
 ·exact j
 ·split
  ·exact o
  ·exact p
def HT.head {S:St} {v:Nat} {t:pt} {a b c d h1 h2 h3 h4:Nat} {Wv Wa:List Nat} (hT:HT S v t a b c d) (hh:h1≠h2/\h1≠h3/\h1≠h4/\h2≠h3/\h2≠h4/\h3≠h4)
  (hv:Wv.contains v=false) (hw:Wa.contains h1=false/\Wa.contains h2=false/\Wa.contains h3=false/\Wa.contains h4=false) :
  HT (S.head [] [v,21,h1,v,22,h2,v,23,h3,v,24,h4] Wv Wa) v t h1 h2 h3 h4/\(∀x,Wa.contains x=true->(S.head [] [v,21,h1,v,22,h2,v,23,h3,v,24,h4] Wv Wa).A x=none)/\
   (∀x,x∉[a,b,c,d,h1,h2,h3,h4]->S.A x=none->(S.head [] [v,21,h1,v,22,h2,v,23,h3,v,24,h4] Wv Wa).A x=none):=by
 have⟨q1,q2,q3,q4,q5,q6⟩:=hh
 have s1:=hT.ren (x:=a) (h:=h1)
 rw[xD] at s1
 have e1:S.swp1 v 21 h1=S.ren a h1:=by rw[xB,hT.1,xC];rfl
 have T0:∀y∈[a,b,c,d,h1,h2,h3,h4],dm a h1 y∈[a,b,c,d,h1,h2,h3,h4]:=fun y hy=>EB (by simp) (by simp) hy
 have Mb:=T0 b (by simp)
 have tc1:=T0 c (by simp)
 have td1:=T0 d (by simp)
 generalize dm a h1 b=b1 at *
 generalize dm a h1 c=c1 at *
 generalize dm a h1 d=d1 at *
 have⟨n1,n2,n3,n4,n5,n6⟩:=s1.2.rn
 have s2:=s1.ren (x:=b1) (h:=h2)
 rw[xD,oL n1 q1] at s2
 have e2:(S.ren a h1).swp1 v 22 h2=(S.ren a h1).ren b1 h2:=by rw[xB,s1.1,xC];rfl
 have QB:=EB (h:=h2) Mb (by simp) tc1
 have td2:=EB (h:=h2) Mb (by simp) td1
 generalize dm b1 h2 c1=c2 at *
 generalize dm b1 h2 d1=d2 at *
 have⟨m1,m2,m3,m4,m5,m6⟩:=s2.2.rn
 have s3:=s2.ren (x:=c2) (h:=h3)
 rw[xD,oL m2 q2,oL m4 q4] at s3
 have e3:((S.ren a h1).ren b1 h2).swp1 v 23 h3=((S.ren a h1).ren b1 h2).ren c2 h3:=by rw[xB,s2.1,xC];rfl
 have td3:=EB (h:=h3) QB (by simp) td2
 generalize dm c2 h3 d2=d3 at *
 have⟨l1,l2,l3,l4,l5,l6⟩:=s3.2.rn
 have s4:=s3.ren (x:=d3) (h:=h4)
 rw[xD,oL l3 q3,oL l5 q5,oL l6 q6] at s4
 have e4:(((S.ren a h1).ren b1 h2).ren c2 h3).swp1 v 24 h4=(((S.ren a h1).ren b1 h2).ren c2 h3).ren d3 h4:=by rw[xB,s3.1,xC];rfl
 have eh:S.head [] [v,21,h1,v,22,h2,v,23,h3,v,24,h4] Wv Wa=((((S.ren a h1).ren b1 h2).ren c2 h3).ren d3 h4).scrub [] Wv Wa:=by
  rw[AY,e1,AY,e2,AY,e3,AY,e4];rfl
 rw[eh]
 refine⟨⟨?_,?_⟩,fun x hx=>?_,fun x hx h0=>?_⟩
 ·show (if Wv.contains v then none else _)=_
  rw[hv,s4.1]
  simp only[Gl,Gv,Option.map_some]
  have:(D3 t h1 h2 h3 h4).map (Ju Wa)=D3 t h1 h2 h3 h4:=by
   unfold D3 Ob;simp only[Gz,Nf (VM _),GA,Gk,Ju,hw.1,hw.2.1,hw.2.2.1,hw.2.2.2]
   rfl
  rw[this]
  cases Wa.isEmpty<;>rfl
 ·have keep:∀x,Wa.contains x=false->(((((S.ren a h1).ren b1 h2).ren c2 h3).ren d3 h4).scrub [] Wv Wa).A x=((((S.ren a h1).ren b1 h2).ren c2 h3).ren d3 h4).A x:=fun x hx=>by
   show (if Wa.contains x then none else _)=_
   rw[hx];rfl
  exact⟨by rw[keep _ hw.1];exact s4.2.ra,by rw[keep _ hw.2.1];exact s4.2.rb,by rw[keep _ hw.2.2.1];exact s4.2.rc,by rw[keep _ hw.2.2.2];exact s4.2.rd,q1,q2,q3,q4,q5,q6⟩
 ·show (if Wa.contains x then none else _)=_
  rw[hx];rfl
 ·show (if Wa.contains x then none else _)=_
  split
  ·rfl
  ·show S.A (dm a h1 (dm b1 h2 (dm c2 h3 (dm d3 h4 x))))=none
   have ne:∀{y},y∈[a,b,c,d,h1,h2,h3,h4]->x≠y:=fun hy e=>hx (e▸hy)
   rw[oL (ne td3) (ne (by simp)),oL (ne QB) (ne (by simp)),oL (ne Mb) (ne (by simp)),oL (ne (by simp)) (ne (by simp))]
   exact h0
def ms.of {A:AA} {t t':pt} {a b c d:Nat} (h:ms A t a b c d) (h1:t'.net=t.net) (o:t'.views=t.views) (j:t'.fx=t.fx):ms A t' a b c d:=
 ⟨by rw[h1];exact h.ra,by rw[o];exact h.rb,by rw[j];exact h.rc,by rw[j];exact h.rd,h.rn⟩
def O0 {A:AA} {l:Eq} (j:l.all V.datC=true) (o:∀z,V.nslice z∉l):kl l A=some (l,A):=by
 have:=Oh (A:=A) (m:=[]) j o;rw[GD] at this;rw[this,FL];simp
def OT {A:AA} {l:Eq} {d:Nat} (j:l.all V.datC=true):JO d l A=some (l,A):=by
 have:=Of (A:=A) (m:=[]) (d:=d) j;rw[GD] at this;rw[this,FO];simp
structure Cb (S:St) (bL cs:Eq):Prop where
 r0:S.ρ 0=.lref 0 0
 r:∀i,S.ρ (i+1)=(bL[i]?).getD .undef
 h:S.μ 0=some (cs,false)
 m:∀i,(i == 0)=false->S.μ i=none
 a:∀x,S.A x=none
def KW {f:Nat} {F:F} (w:List wn) {bL ws cs du:Eq} (D:Pg f=some (.codeR F 0)) (H:bL.length+1=F.np) (q:F.res=w) (E:cs.all V.datC=true) (o:du.all V.datC=true) (p:∀z,V.nslice z∉du)
  (h:∀S,Cb S bL cs->Wp (K' Pg) F.body S fun j S'=>(j=.norm\/j=.ret)/\S'.μ 0=some (du,false)/\∃vs,Jn (iV S') w=some vs/\Jn (dT S'.A) vs=some ws) :
  K' Pg f (.tuple (.lref 0 0::cs)::bL)=some (.tuple [ni ws,.tuple du]):=by
 have I:eQ (.tuple (.lref 0 0::cs)::bL) 0 cs=some ⟨fun i=>if i=0 then .lref 0 0 else ((V.tuple (.lref 0 0::cs)::bL)[i]?).getD .undef,aI (fun _=>none) 0 (some (cs,false)),fun _=>none⟩:=by
  unfold eQ;rw[OT E];rfl
 have hm:∀i,(i == 0)=false->(aI (fun _=>none) 0 (some (cs,false)):Nat->Option (Eq×Bool)) i=none:=fun i hi=>jr hi
 refine kp D (by simpa using H) rfl I ((h _ ⟨rfl,fun i=>rfl,by simp[aI],hm,fun x=>rfl⟩).mono fun j S' u=>⟨u.1,?_⟩)
 have⟨h1,vs,y,B⟩:=u.2
 unfold vK
 rw[q,y]
 simp only[Option.bind_some,h1,O0 o p,B]
def sO {f:Nat} {F:F} (w:List wn) {bL ws cs du:Eq} (B:Pg f=some (.codeR F 0)) (E:bL.length+1=F.np) (u:F.res=w) (D:cs.all V.datC=true) (o:du.all V.datC=true) (p:∀z,V.nslice z∉du)
  (h:∀S,Cb S bL cs->Wp (K' Pg) F.body S fun j S'=>(j=.norm\/j=.ret)/\S'.μ 0=some (du,false)/\∃vs,Jn (iV S') w=some vs/\∀A,Jn (dT A) vs=some ws) :
  K' Pg f (.tuple (.lref 0 0::cs)::bL)=some (.tuple [ni ws,.tuple du]):=
 KW w B E u D o p fun S hS=>(h S hS).mono fun j S' q=>⟨q.1,q.2.1,q.2.2.elim fun vs y=>⟨vs,y.1,y.2 _⟩⟩
def WZ {κ:Nat->Eq->Option V} {S:St} {f v p:Nat} {bL cs du:Eq} {r:V} (hm:S.μ v=some (cs,false)) (u:cs.all V.datC=true) (y:∀z,V.nslice z∉cs) (j:du.all V.datC=true)
  (w:∀A,Jn (dT A) bL=some bL) (B:bL.flatMap Jd=[])
  (o:κ f (.tuple (.lref 0 0::cs)::bL)=some (.tuple [r,.tuple du])) :
  sg κ p S f 0 v (.lref v 0::bL)=some (r,⟨S.ρ,aI S.μ v (some (du,false)),S.A⟩):=by
 have q:ew S 0 v (.lref v 0::bL)=some (.tuple (.lref 0 0::cs)::bL,S.A):=by
  simp only[NA,vM,NN,List.set_cons_zero,Jn,NX,w,Option.bind_some,hm,NO,Nx,NM,B,List.nil_append,Ny,O0 u y]
 rw[si,q]
 simp only[Option.bind_some,o,NB,OT j]
abbrev Rd:=mp×Bool
@[go_sem] def bM (r:Rd):Eq:=[.str r.1,.bool r.2]
theorem hK (r:Rd):(bM r).all V.datC=true:=rfl
def nt (r:Rd) (z:Nat):V.nslice z∉bM r:=by simp[bM]
def aG {κ:Nat->Eq->Option V} {S:St} {f v p:Nat} {x:Rd} {r:V} {y:Rd} (hκ:κ f [.tuple (.lref 0 0::bM x)]=some (.tuple [r,.tuple (bM y)])) (hm:S.μ v=some (bM x,false)) :
  sg κ p S f 0 v [.lref v 0]=some (r,⟨S.ρ,aI S.μ v (some (bM y,false)),S.A⟩):=
 WZ (bL:=[]) hm (hK x) (nt x) (hK y) (fun A=>rfl) rfl hκ
def rd {α:Type} (f:mp->Option (α×mp)) (d:α) (r:Rd):α×Rd:=match r.2,f r.1 with
 |false,some (n,s)=>(n,(s,false))
 |_,_=>(d,(r.1,true))
def cu {α:Type} (f:mp->Option (α×mp)) (d:α) (r:Rd):α×Rd:=match f r.1 with
 |some (n,s)=>(n,(s,r.2))
 |none=>(d,([],true))
def zS:aB:=⟨0,0,0⟩
def jc (s:aB):V:=.agg (Ye s)
def nY:=HpR 465 F465 0 sb
def gJ (h:nY Pg) (x:Rd) (y:x.1.length<2^62):K' Pg 465 [.tuple (.lref 0 0::bM x)]=some (.tuple [iz (rd (tk 9) 0 x).1,.tuple (bM (rd (tk 9) 0 x).2)]):=by
 have⟨h,w⟩:=h;have⟨e,p,k⟩:=oB w x.1 y;have o:decide (e=0)=false:=Gp p;have⟨s,b⟩:=x;refine sO [.t 2] (ws:=[iz _]) h rfl rfl (hK _) (hK _) (nt _) fun S ⟨r0,r,hm,m0,z⟩=>?_;simp only[go_sem] at hm k;cases j:(tk 9) s with
 |none=>
  rw[j] at k;simp only[ga] at k;cases b with
  |true=>
   simp only[F465,c465,go_sem,r0,hm,k,rd];exact⟨_,rfl,fun _=>rfl⟩
  |false=>
   simp only[F465,c465,go_sem,r0,hm,k,o,rd,j];exact⟨_,rfl,fun _=>rfl⟩
 |some q=>
  have⟨n,u⟩:=q;rw[j] at k;simp only[ga] at k;cases b with
  |true=>
   simp only[F465,c465,go_sem,r0,hm,k,rd];exact⟨_,rfl,fun _=>rfl⟩
  |false=>
   simp only[F465,c465,go_sem,r0,hm,k,rd,j];exact⟨_,rfl,fun _=>rfl⟩
def od:=HpR 492 F492 0 AJ
def oC (h:od Pg) (x:Rd) (y:x.1.length<2^62):K' Pg 492 [.tuple (.lref 0 0::bM x)]=some (.tuple [.str (rd dh [] x).1,.tuple (bM (rd dh [] x).2)]):=by
 have⟨h,w⟩:=h;have⟨e,p,k⟩:=IZ w x.1 y;have o:decide (e=0)=false:=Gp p;have⟨s,b⟩:=x;refine sO [.t 2] (ws:=[.str _]) h rfl rfl (hK _) (hK _) (nt _) fun S ⟨r0,r,hm,m0,z⟩=>?_;simp only[go_sem] at hm k;cases j:dh s with
 |none=>
  rw[j] at k;simp only[nx] at k;cases b with
  |true=>
   simp only[F492,c492,go_sem,r0,hm,k,rd];exact⟨_,rfl,fun _=>rfl⟩
  |false=>
   simp only[F492,c492,go_sem,r0,hm,k,o,rd,j];exact⟨_,rfl,fun _=>rfl⟩
 |some q=>
  have⟨n,u⟩:=q;rw[j] at k;simp only[nx] at k;cases b with
  |true=>
   simp only[F492,c492,go_sem,r0,hm,k,rd];exact⟨_,rfl,fun _=>rfl⟩
  |false=>
   simp only[F492,c492,go_sem,r0,hm,k,rd,j];exact⟨_,rfl,fun _=>rfl⟩
def oe:=HpR 493 F493 0 AK
def B9 (h:oe Pg) (x:Rd) (z:x.1.length<2^62):K' Pg 493 [.tuple (.lref 0 0::bM x)]=some (.tuple [.bool (rd dY false x).1,.tuple (bM (rd dY false x).2)]):=by
 have⟨h,w⟩:=h;have⟨e,p,k⟩:=I0 w x.1;have o:decide (e=0)=false:=Gp p;have⟨s,b⟩:=x;refine sO [.t 2] (ws:=[.bool _]) h rfl rfl (hK _) (hK _) (nt _) fun S ⟨r0,r,hm,m0,y⟩=>?_;simp only[go_sem] at hm k;cases j:dY s with
 |none=>
  rw[j] at k;simp only[nw] at k;cases b with
  |true=>
   simp only[F493,c493,go_sem,r0,hm,k,rd];exact⟨_,rfl,fun _=>rfl⟩
  |false=>
   simp only[F493,c493,go_sem,r0,hm,k,o,rd,j];exact⟨_,rfl,fun _=>rfl⟩
 |some q=>
  have⟨n,u⟩:=q;rw[j] at k;simp only[nw] at k;cases b with
  |true=>
   simp only[F493,c493,go_sem,r0,hm,k,rd];exact⟨_,rfl,fun _=>rfl⟩
  |false=>
   simp only[F493,c493,go_sem,r0,hm,k,rd,j];exact⟨_,rfl,fun _=>rfl⟩
def mC:=HpR 464 F464 0 Ax
def ox (h:mC Pg) (x:Rd) (y:x.1.length<2^62):K' Pg 464 [.tuple (.lref 0 0::bM x)]=some (.tuple [jc (rd cJ zS x).1,.tuple (bM (rd cJ zS x).2)]):=by
 have⟨h,w⟩:=h;have⟨e,p,k⟩:=IM w x.1 y;have o:decide (e=0)=false:=Gp p;have⟨s,b⟩:=x;refine sO [.cell 2 (some 3)] (ws:=[jc _]) h rfl rfl (hK _) (hK _) (nt _) fun S ⟨r0,r,hm,m0,z⟩=>?_;have m2:=m0 2 rfl;have m3:=m0 3 rfl;simp only[go_sem] at hm k;cases j:cJ s with
 |none=>
  rw[j] at k;simp only[lK] at k;cases b with
  |true=>
   simp only[F464,c464,go_sem,r0,hm,k,rd,m2,m3,jc,zS];exact⟨_,rfl,fun _=>rfl⟩
  |false=>
   simp only[F464,c464,go_sem,r0,hm,k,o,rd,j,m2,m3,jc,zS];exact⟨_,rfl,fun _=>rfl⟩
 |some q=>
  have⟨n,u⟩:=q;rw[j] at k;simp only[lK,Ye] at k;cases b with
  |true=>
   simp only[F464,c464,go_sem,r0,hm,k,rd,m2,m3,jc,zS];exact⟨_,rfl,fun _=>rfl⟩
  |false=>
   simp only[F464,c464,go_sem,r0,hm,k,rd,j,m2,m3,jc];exact⟨_,rfl,fun _=>rfl⟩
def nV:=HpR 435 F435 0 rY
def fk (h:nV Pg) (x:Rd) (y:x.1.length<2^62):K' Pg 435 [.tuple (.lref 0 0::bM x)]=some (.tuple [iz (cu (tk 9) 0 x).1,.tuple (bM (cu (tk 9) 0 x).2)]):=by
 have⟨h,w⟩:=h;have⟨e,p,k⟩:=oy w x.1 y;have o:decide (e=0)=false:=Gp p;have⟨s,b⟩:=x;refine sO [.t 2] (ws:=[iz _]) h rfl rfl (hK _) (hK _) (nt _) fun S ⟨r0,r,hm,m0,z⟩=>?_;simp only[go_sem] at hm k;cases j:(tk 9) s with
 |none=>
  rw[j] at k;simp only[ga] at k;cases b with
  |true=>
   simp only[F435,c435,go_sem,r0,hm,k,cu,j];exact⟨_,rfl,fun _=>rfl⟩
  |false=>
   simp only[F435,c435,go_sem,r0,hm,k,o,cu,j];exact⟨_,rfl,fun _=>rfl⟩
 |some q=>
  have⟨n,u⟩:=q;rw[j] at k;simp only[ga] at k;cases b with
  |true=>
   simp only[F435,c435,go_sem,r0,hm,k,cu,j];exact⟨_,rfl,fun _=>rfl⟩
  |false=>
   simp only[F435,c435,go_sem,r0,hm,k,cu,j];exact⟨_,rfl,fun _=>rfl⟩
def nZ:=HpR 471 F471 0 Ay
def oz (h:nZ Pg) (x:Rd) (y:x.1.length<2^62):K' Pg 471 [.tuple (.lref 0 0::bM x)]=some (.tuple [.str (cu dh [] x).1,.tuple (bM (cu dh [] x).2)]):=by
 have⟨h,w⟩:=h;have⟨e,p,k⟩:=IN w x.1 y;have o:decide (e=0)=false:=Gp p;have⟨s,b⟩:=x;refine sO [.t 2] (ws:=[.str _]) h rfl rfl (hK _) (hK _) (nt _) fun S ⟨r0,r,hm,m0,z⟩=>?_;simp only[go_sem] at hm k;cases j:dh s with
 |none=>
  rw[j] at k;simp only[nx] at k;cases b with
  |true=>
   simp only[F471,c471,go_sem,r0,hm,k,cu,j];exact⟨_,rfl,fun _=>rfl⟩
  |false=>
   simp only[F471,c471,go_sem,r0,hm,k,o,cu,j];exact⟨_,rfl,fun _=>rfl⟩
 |some q=>
  have⟨n,u⟩:=q;rw[j] at k;simp only[nx] at k;cases b with
  |true=>
   simp only[F471,c471,go_sem,r0,hm,k,cu,j];exact⟨_,rfl,fun _=>rfl⟩
  |false=>
   simp only[F471,c471,go_sem,r0,hm,k,cu,j];exact⟨_,rfl,fun _=>rfl⟩
def oa:=HpR 472 F472 0 Az
def B3 (h:oa Pg) (x:Rd) (z:x.1.length<2^62):K' Pg 472 [.tuple (.lref 0 0::bM x)]=some (.tuple [.bool (cu dY false x).1,.tuple (bM (cu dY false x).2)]):=by
 have⟨h,w⟩:=h;have⟨e,p,k⟩:=IO w x.1;have o:decide (e=0)=false:=Gp p;have⟨s,b⟩:=x;refine sO [.t 2] (ws:=[.bool _]) h rfl rfl (hK _) (hK _) (nt _) fun S ⟨r0,r,hm,m0,y⟩=>?_;simp only[go_sem] at hm k;cases j:dY s with
 |none=>
  rw[j] at k;simp only[nw] at k;cases b with
  |true=>
   simp only[F472,c472,go_sem,r0,hm,k,cu,j];exact⟨_,rfl,fun _=>rfl⟩
  |false=>
   simp only[F472,c472,go_sem,r0,hm,k,o,cu,j];exact⟨_,rfl,fun _=>rfl⟩
 |some q=>
  have⟨n,u⟩:=q;rw[j] at k;simp only[nw] at k;cases b with
  |true=>
   simp only[F472,c472,go_sem,r0,hm,k,cu,j];exact⟨_,rfl,fun _=>rfl⟩
  |false=>
   simp only[F472,c472,go_sem,r0,hm,k,cu,j];exact⟨_,rfl,fun _=>rfl⟩
def mA:=HpR 434 F434 0 Ao
def ou (h:mA Pg) (x:Rd) (y:x.1.length<2^62):K' Pg 434 [.tuple (.lref 0 0::bM x)]=some (.tuple [jc (cu cJ zS x).1,.tuple (bM (cu cJ zS x).2)]):=by
 have⟨h,w⟩:=h;have⟨e,p,k⟩:=IB w x.1 y;have o:decide (e=0)=false:=Gp p;have⟨s,b⟩:=x;refine sO [.cell 2 (some 3)] (ws:=[jc _]) h rfl rfl (hK _) (hK _) (nt _) fun S ⟨r0,r,hm,m0,z⟩=>?_;have m2:=m0 2 rfl;have m3:=m0 3 rfl;simp only[go_sem] at hm k;cases j:cJ s with
 |none=>
  rw[j] at k;simp only[lK] at k;cases b with
  |true=>
   simp only[F434,c434,go_sem,r0,hm,k,cu,j,m2,m3,jc,zS];exact⟨_,rfl,fun _=>rfl⟩
  |false=>
   simp only[F434,c434,go_sem,r0,hm,k,o,cu,j,m2,m3,jc,zS];exact⟨_,rfl,fun _=>rfl⟩
 |some q=>
  have⟨n,u⟩:=q;rw[j] at k;simp only[lK,Ye] at k;cases b with
  |true=>
   simp only[F434,c434,go_sem,r0,hm,k,cu,j,m2,m3,jc];exact⟨_,rfl,fun _=>rfl⟩
  |false=>
   simp only[F434,c434,go_sem,r0,hm,k,cu,j,m2,m3,jc];exact⟨_,rfl,fun _=>rfl⟩
structure dA {α:Type} (R:Rd->α×Rd) (W:α->mp) (P:α->Prop):Prop where
 get:∀{s r:mp} {a:α},R (s,false)=(a,(r,false))->s=W a++r/\P a
 put:∀{r:mp} {a:α},P a->R (W a++r,false)=(a,(r,false))
 bad:∀{s:mp},(R (s,true)).2.2=true
 len:∀x,(R x).2.1.length<=x.1.length
section
variable {α β:Type}
def dA.rd {f:mp->Option (α×mp)} {d:α} {W:α->mp} {P:α->Prop} (o:∀{s r a},f s=some (a,r)↔s=W a++r/\P a):dA (rd f d) W P:=by
 refine⟨fun {s r a} h=>?_,fun {r a} h=>?_,fun {s}=>rfl,fun x=>?_⟩
 ·simp only[Sg.rd] at h;cases j:f s with
  |none=>rw[j] at h;simp at h
  |some q=>
   rw[j] at h;simp only[Gr,and_true] at h;exact o.1 (by rw[j,<-h.1,<-h.2])
 ·simp only[Sg.rd,o.2 ⟨rfl,h⟩]
 ·have⟨s,b⟩:=x;cases b with
  |true=>exact GC _
  |false=>
   simp only[Sg.rd];cases j:f s with
   |none=>exact GC _
   |some q=>
    have⟨a,r⟩:=q;have:=gp List.length (o.1 j).1;simp only[Gf] at this ⊢;omega
def dA.cu {f:mp->Option (α×mp)} {d:α} {W:α->mp} {P:α->Prop} (o:∀{s r a},f s=some (a,r)↔s=W a++r/\P a):dA (cu f d) W P:=by
 refine⟨fun {s r a} h=>?_,fun {r a} h=>?_,fun {s}=>?_,fun x=>?_⟩
 ·simp only[Sg.cu] at h;cases j:f s with
  |none=>rw[j] at h;simp at h
  |some q=>
   rw[j] at h;simp only[Gr,and_true] at h;exact o.1 (by rw[j,<-h.1,<-h.2])
 ·simp only[Sg.cu,o.2 ⟨rfl,h⟩]
 ·simp only[Sg.cu];cases f s<;>rfl
 ·have⟨s,b⟩:=x;simp only[Sg.cu];cases j:f s with
  |none=>exact GY _
  |some q=>
   have⟨a,r⟩:=q;have:=gp List.length (o.1 j).1;simp only[Gf] at this ⊢;omega
def bR (R1:Rd->α×Rd) (R2:Rd->β×Rd) (x:Rd):(α×β)×Rd:=(((R1 x).1,(R2 (R1 x).2).1),(R2 (R1 x).2).2)
def dA.pair {o:Rd->α×Rd} {B:Rd->β×Rd} {D:α->mp} {E:β->mp} {w:α->Prop} {z:β->Prop} (h1:dA o D w) (j:dA B E z) :
  dA (bR o B) (fun p=>D p.1++E p.2) (fun p=>w p.1/\z p.2):=by
 refine⟨fun {s r a} h=>?_,fun {r a} h=>?_,fun {s}=>?_,fun x=>?_⟩
 ·have⟨a,b⟩:=a
  simp only[bR,Gr] at h
  have⟨⟨H,I⟩,u⟩:=h
  cases J:o (s,false) with
  |mk Q y=>
   have⟨s',L⟩:=y
   rw[J] at H I u
   cases L with
   |true=>
    have:=j.bad (s:=s')
    rw[u] at this;cases this
   |false=>
    have⟨M,N⟩:=h1.get J
    have⟨O,g4⟩:=j.get (s:=s') (r:=r) (a:=b) (Prod.ext I u)
    subst H
    rw[M,O]
    exact⟨by simp,N,g4⟩
 ·have⟨a,b⟩:=a
  simp only[bR,GX]
  rw[h1.put h.1,j.put h.2]
 ·simp only[bR]
  have:=h1.bad (s:=s)
  generalize o (s,true)=q at *
  have⟨a,t,b⟩:=q
  simp only at this
  subst this
  exact j.bad
 ·exact GI (j.len _) (h1.len x)
def gW (g:α->β) (R:Rd->α×Rd) (x:Rd):β×Rd:=(g (R x).1,(R x).2)
def dA.map {R:Rd->α×Rd} {W:α->mp} {P:α->Prop} (h:dA R W P) {g:α->β} {k:β->α} (w:∀a,k (g a)=a):dA (gW g R) (fun b=>W (k b)) (fun b=>P (k b)/\g (k b)=b):=by
 refine⟨fun {s r b} j=>?_,fun {r b} j=>?_,fun {s}=>h.bad,fun x=>h.len x⟩
 ·simp only[gW,Gr] at j;have⟨o,p⟩:=j;have⟨q,u⟩:=h.get (Prod.ext (x:=R (s,false)) (y:=((R (s,false)).1,(r,false))) rfl p);subst o;rw[w];exact⟨q,u,rfl⟩
 ·simp only[gW];rw[h.put j.1];simp only[j.2]
def rL (x:Rd):Nat×Rd:=if (rd (tk 9) 0 x).2.1.length<(rd (tk 9) 0 x).1 then (0,((rd (tk 9) 0 x).2.1,true)) else rd (tk 9) 0 x
def cO (R:Rd->α×Rd):Nat->Rd->List α×Rd
 |0,x=>([],x)
 |k+1,x=>((R x).1::(cO R k (R x).2).1,(cO R k (R x).2).2)
def cR (R:Rd->α×Rd):Nat->Rd->List α×Rd
 |0,x=>([],x)
 |k+1,x=>if x.2 then ([],x) else ((R x).1::(cR R k (R x).2).1,(cR R k (R x).2).2)
def lstP (R:Rd->α×Rd) (x:Rd):List α×Rd:=cO R (rL x).1 (rL x).2
def lstD (R:Rd->α×Rd) (x:Rd):List α×Rd:=cR R (cu (tk 9) 0 x).1 (cu (tk 9) 0 x).2
def fC (W:α->mp) (l:List α):mp:=aD l.length++l.flatMap W
variable {R:Rd->α×Rd} {W:α->mp} {P:α->Prop}
theorem yc (h:dA R W P):∀{k:Nat} {s:mp},(cO R k (s,true)).2.2=true
 |0,s=>rfl
 |k+1,s=>by
  simp only[cO];have:=h.bad (s:=s);generalize R (s,true)=q at *
  have⟨a,t,b⟩:=q;simp only at this;subst this;exact yc h
theorem xV:∀{k:Nat} {s:mp},cR R k (s,true)=([],(s,true))
 |0,s=>rfl
 |k+1,s=>rfl
theorem PY (h:dA R W P):∀{k:Nat} {x:Rd},(cR R k x).2.2=false->cR R k x=cO R k x
 |0,x,_=>rfl
 |k+1,(s,true),hf=>by rw[xV] at hf;cases hf
 |k+1,(s,false),hf=>by
  have e:cR R (k+1) (s,false)=((R (s,false)).1::(cR R k (R (s,false)).2).1,(cR R k (R (s,false)).2).2):=rfl;rw[e] at hf ⊢;rw[PY h hf];rfl
theorem Lk (h:dA R W P):∀{k:Nat} {s r:mp} {l:List α},cO R k (s,false)=(l,(r,false))->l.length=k/\s=l.flatMap W++r/\∀a∈l,P a
 |0,s,r,l,hr=>by
  simp only[cO,Gr,and_true] at hr;obtain⟨rfl,rfl⟩:=hr;exact⟨rfl,by simp,fun a ha=>by simp at ha⟩
 |k+1,s,r,l,hr=>by
  simp only[cO,Gr] at hr;have⟨o,j⟩:=hr;cases p:R (s,false) with
  |mk q y=>
   have⟨s',u⟩:=y;rw[p] at o j;cases u with
   |true=>
    have:=yc h (k:=k) (s:=s');rw[j] at this;cases this
   |false=>
    have⟨w,z⟩:=h.get p;have⟨B,g4,g5⟩:=Lk h (Prod.ext (x:=cO R k (s',false)) (y:=((cO R k (s',false)).1,(r,false))) rfl j);subst o;refine⟨by simp[B],by rw[w,GV,GX];exact gp (W q++·) g4,fun a ha=>?_⟩;rcases GH.1 ha with rfl|ha
    ·exact z
    ·exact g5 a ha
theorem PZ (h:dA R W P):∀{l:List α} {r:mp},(∀a∈l,P a)->cO R l.length (l.flatMap W++r,false)=(l,(r,false))
 |[],r,_=>rfl
 |a::l,r,hl=>by
  simp only[List.length_cons,cO,GV,GX];rw[h.put (hl a (by simp)),PZ h (fun b j=>hl b (by simp[j]))]
theorem Pk (h:dA R W P):∀{l:List α} {r:mp},(∀a∈l,P a)->cR R l.length (l.flatMap W++r,false)=(l,(r,false))
 |[],r,_=>rfl
 |a::l,r,hl=>by
  have e:cR R (a::l).length ((a::l).flatMap W++r,false)=((R ((a::l).flatMap W++r,false)).1::(cR R l.length (R ((a::l).flatMap W++r,false)).2).1,(cR R l.length (R ((a::l).flatMap W++r,false)).2).2):=rfl;rw[e];simp only[GV,GX];rw[h.put (hl a (by simp)),Pk h (fun b j=>hl b (by simp[j]))]
theorem Cm (h:dA R W P):∀{k:Nat} {x:Rd},(cO R k x).2.1.length<=x.1.length
 |0,x=>GC _
 |k+1,x=>GI (Cm h (k:=k)) (h.len x)
theorem Eb (h:dA R W P):∀{k:Nat} {x:Rd},(cR R k x).2.1.length<=x.1.length
 |0,x=>GC _
 |k+1,x=>by
  simp only[cR];split
  ·exact GC _
  ·exact GI (Eb h (k:=k)) (h.len x)
def eC:dA (rd (tk 9) 0) aD (fun n=>n<2^63):=dA.rd fun {s r a}=>by rw[Lr,iQ]
def jw:dA (cu (tk 9) 0) aD (fun n=>n<2^63):=dA.cu fun {s r a}=>by rw[Lr,iQ]
theorem Ct (j:∀a,P a->1<=(W a).length):∀{l:List α},(∀a∈l,P a)->l.length<=(l.flatMap W).length
 |[],_=>by simp
 |a::l,hl=>by
  have h1:=j a (hl a (by simp));have p:=Ct j (l:=l) fun b o=>hl b (by simp[o]);simp only[GV,Gf,List.length_cons];omega
def dA.lstP (h:dA R W P) (z:∀a,P a->1<=(W a).length):dA (Sg.lstP R) (fC W) (fun l=>l.length<2^63/\∀a∈l,P a):=by
 refine⟨fun {s r l} j=>?_,fun {r l} j=>?_,fun {s}=>?_,fun x=>?_⟩
 ·simp only[Sg.lstP,rL] at j;split at j
  ·have:=yc h (k:=0) (s:=(Sg.rd (tk 9) 0 (s,false)).2.1);rw[j] at this;cases this
  ·cases o:Sg.rd (tk 9) 0 (s,false) with
   |mk n y=>
    have⟨s',p⟩:=y;rw[o] at j;cases p with
    |true=>
     have:=yc h (k:=n) (s:=s');simp only at j;rw[j] at this;cases this
    |false=>
     have⟨q,u⟩:=eC.get o;have⟨w,g4,g5⟩:=Lk h j;subst w;rw[q,g4];exact⟨by simp[fC],u,g5⟩
 ·simp only[Sg.lstP,rL,fC,GX];rw[eC.put j.1];have:=Ct z j.2;rw[Gn (by simp only[Gf];omega)];exact PZ h j.2
 ·simp only[Sg.lstP,rL];split
  ·exact yc h
  ·exact yc h
 ·simp only[Sg.lstP,rL];split
  ·exact GI (Cm h) (eC.len x)
  ·exact GI (Cm h) (eC.len x)
def dA.lstD (h:dA R W P):dA (Sg.lstD R) (fC W) (fun l=>l.length<2^63/\∀a∈l,P a):=by
 refine⟨fun {s r l} j=>?_,fun {r l} j=>?_,fun {s}=>?_,fun x=>?_⟩
 ·simp only[Sg.lstD] at j;cases o:Sg.cu (tk 9) 0 (s,false) with
  |mk n y=>
   have⟨s',p⟩:=y;rw[o] at j;cases p with
   |true=>
    simp only[xV,Gr] at j;simp at j
   |false=>
    have⟨u,w⟩:=jw.get o;simp only at j;rw[PY h (by rw[j])] at j;have⟨z,g4,g5⟩:=Lk h j;subst z;rw[u,g4];exact⟨by simp[fC],w,g5⟩
 ·simp only[Sg.lstD,fC,GX];rw[jw.put j.1];exact Pk h j.2
 ·simp only[Sg.lstD];have:=jw.bad (s:=s);generalize Sg.cu (tk 9) 0 (s,true)=q at *
  have⟨a,t,b⟩:=q;simp only at this;subst this;simp only[xV]
 ·exact GI (Eb h) (jw.len x)
end
def Pf {l:mp} (h:l≠[]):(iS l).2=((dN l).2:Int):=by
 rw[Ek h];by_cases c:dN l=(65533,1)
 ·rw[Gt c,c];rfl
 ·rw[Gn c]
def XE {l:mp} (h:l≠[]) (j:(iS l).1<0):((dN l).1:Int)=65533:=by
 rw[Ek h] at j;by_cases c:dN l=(65533,1)
 ·rw[c];rfl
 ·rw[Gn c] at j;simp at j;omega
def Zj {l:mp} (h:l≠[]) (j:¬(iS l).1<0):((dN l).1:Int)=(iS l).1:=by
 rw[Ek h] at j ⊢;by_cases c:dN l=(65533,1)
 ·rw[Gt c] at j;simp at j
 ·rw[Gn c]
def EH {l:mp} (h:l≠[]):(dN l).2<=l.length:=by
 rcases Ef h with x|⟨j,t,rfl,q,x⟩|⟨j,o,t,rfl,q,p,x⟩|⟨j,o,u,t,rfl,q,p,w,y,x⟩|⟨j,o,u,z,t,rfl,q,p,w,y,B,x⟩
 ·rw[x];have:=uK.2 h;simp only;omega
 all_goals rw[x];simp
@[go_sem] def EY (l:List Int):V:=.slice 1 (l.map fun x=>[iz x])
def yP:=HpC 195 F195 uP
def YS {l:mp}:decide ((0:Int)<(l.length:Int))=!decide (l=[]):=by
 cases l<;>simp
def A9 (h:yP Pg) (s:mp) (E:s.length<=1000000):K' Pg 195 [.str s]=some (EY (Yu s)):=by
 have⟨h,q⟩:=h;refine aA h rfl ?_;simp only[go_sem];unfold l195_0;refine bu (fun (l:mp) S=>∃cf:List Int,S.ρ 0=.str l/\S.A 3=some (1,cf.map (fun x=>[iz x]),.live)/\S.ρ 3=.own 3 1 cf.length/\cf++Yu l=Yu s/\cf.length+l.length<=s.length) (fun l=>l.length) s ?_ ?_
 ·exact⟨[],by simp[go_sem]⟩
 ·intro l S ⟨cf,h0,w,y,j,D⟩;simp only[go_sem,h0,YS];by_cases o:l=[]
  ·subst o;rw[ua,GD] at j;subst j;simp only[go_sem,w,y]
  ·have B:=sH o;have H:=uK.2 o;have k:=A7 q l o;rw[show iS l=((iS l).1,((dN l).2:Int)) from Prod.ext rfl (Pf o)] at k;simp only[LT] at k;have u:=EH o;have p:cf.length+1<=aU:=by simp only[aU];omega
   have z:=oJ o;simp only[go_sem,o,h0,k];refine aY (fun c=>?_) (fun c=>?_)
   ·have e:=XE o (Gc c);simp only[go_sem,h0,w,y,p,u];refine⟨l.drop (dN l).2,B,cf++[65533],rfl,by simp,by simp,?_,by simp only[Gf,List.length_cons,List.length_nil];omega⟩;rw[<-j,z,e];simp
   ·have e:=Zj o (Ga c);simp only[go_sem,h0,w,y,p,u];refine⟨l.drop (dN l).2,B,cf++[(iS l).1],rfl,by simp,by simp,?_,by simp only[Gf,List.length_cons,List.length_nil];omega⟩;rw[<-j,z,e];simp
def lA:=HpC 168 F168<|HpA uP<|yM
def kq (h:lA Pg) (s:mp):K' Pg 168 [.str s]=some (.bool (aS s)):=by
 have⟨h,p,q⟩:=h;refine aA h rfl ?_;have B:decide ((s.length:Int)=0)=decide (s=[]):=by cases s<;>simp;omega
 simp only[go_sem,B];by_cases u:s=[]
 ·have e:aS s=false:=by rw[u];rfl
  rw[e];simp only[go_sem,u]
 simp only[go_sem,u];refine aY (fun c=>?_) (fun c=>?_)
 ·have e:aS s=false:=by
   have:=Gc c;have:decide (s.length<=16)=false:=Gp (by omega);simp[aS,this]
  rw[e];simp only[go_sem]
 have c:=Ga c;have H:=uK.2 u;have e:aS s=bK s.length s:=by
  have h1:decide (1<=s.length)=true:=Gu (by omega);have D:decide (s.length<=16)=true:=Gu (by omega);simp only[aS,h1,D,GE]
 rw[e];simp only[go_sem];unfold l168_0;refine bu (fun (l:mp) S=>S.ρ 0=.str l/\bK l.length l=bK s.length s) (fun l=>l.length) s ?_ ?_
 ·simp[go_sem]
 ·intro l S ⟨h0,j⟩;simp only[go_sem,h0,YS];by_cases o:l=[]
  ·subst o;rw[<-j];simp only[go_sem,Wn]
  ·have E:=sH o;have k:=A7 p l o;rw[show iS l=((iS l).1,((dN l).2:Int)) from Prod.ext rfl (Pf o)] at k;simp only[LT] at k;have z:=Hd q (iS l).1;rw[Xf o] at z;have w:=EH o;rw[Kg o] at j;simp only[go_sem,o,h0,k,z];cases y:cM (dN l).1 (dN l).2 with
   |false=>
    rw[y,Gm] at j;rw[<-j];simp only[go_sem]
   |true=>
    rw[y,Gy] at j;simp only[go_sem,h0,w];exact⟨l.drop (dN l).2,E,rfl,j⟩
def j9:=HpC 187 F187 yP
def ks (h:j9 Pg) (a b:mp) (P:a.length<=1000000) (Q:b.length<=1000000):K' Pg 187 [.str a,.str b]=some (iz (YD (Yu a) (Yu b))):=by
 have⟨h,p⟩:=h;have N:=A9 p a P;have O:=A9 p b Q;simp only[EY] at N O;refine aA h rfl ?_;simp only[go_sem,N,O];have T:=KS a.length a (GC _);have U:=KS b.length b (GC _);generalize Yu a=x at *
 generalize Yu b=y at *
 unfold l187_0;refine bu (fun (i:Nat) S=>i<=x.length/\i<=y.length/\S.ρ 5=EY x/\S.ρ 6=EY y/\S.ρ 7=iz i/\YD (x.drop i) (y.drop i)=YD x y) (fun i=>x.length-i) 0 ?_ ?_
 ·simp[go_sem]
 ·intro i S ⟨hi,R,q,w,B,j⟩;simp only[go_sem,q,B];by_cases M:i<x.length
  ·have E:decide ((i:Int)<(x.length:Int))=true:=Gu (by omega);have⟨u,hu,D⟩:=aZ M;by_cases L:i<y.length
   ·have I:decide ((i:Int)<(y.length:Int))=true:=Gu (by omega);have⟨v,J,o⟩:=aZ L;rw[D,o] at j;simp only[go_sem,q,w,B,E,I,hu,J];refine aY (fun c=>?_) (fun c=>?_)
    ·rw[xS (Gc c)] at j;simp only[go_sem,<-j]
    ·have c:=Ga c;simp only[go_sem,q,w,B,hu,J];refine aY (fun d=>?_) (fun d=>?_)
     ·rw[Cq (Gc d)] at j;simp only[go_sem,<-j]
     ·have d:=Ga d;obtain rfl:u=v:=by omega
      rw[Cp] at j;simp only[go_sem,q,w,B];exact⟨i+1,by omega,by omega,by omega,by rw[Yn M (by omega)],j⟩
   ·have I:decide ((i:Int)<(y.length:Int))=false:=Gp (by omega);have z:decide ((x.length:Int)<(y.length:Int))=false:=Gp (by omega);have H:decide ((y.length:Int)<(x.length:Int))=true:=Gu (by omega);have o:y.drop i=[]:=List.drop_eq_nil_of_le (by omega);rw[D,o] at j;have j:(1:Int)=YD x y:=j;simp only[go_sem,q,w,B,E,I,z,H,<-j]
  ·have E:decide ((i:Int)<(x.length:Int))=false:=Gp (by omega);simp only[go_sem,q,w,E];rw[List.drop_eq_nil_of_le (by omega)] at j;by_cases L:i<y.length
   ·have z:decide ((x.length:Int)<(y.length:Int))=true:=Gu (by omega);have⟨v,J,o⟩:=aZ L;rw[o] at j;have j:(-1:Int)=YD x y:=j;simp only[go_sem,z,<-j]
   ·have z:decide ((x.length:Int)<(y.length:Int))=false:=Gp (by omega);have H:decide ((y.length:Int)<(x.length:Int))=false:=Gp (by omega);rw[List.drop_eq_nil_of_le (by omega)] at j;have j:(0:Int)=YD x y:=j;simp only[go_sem,q,w,z,H,<-j]
def kc:=HpC 192 F192 yN
def ku (h:kc Pg) (a b:mp):K' Pg 192 [.str a,.str b]=some (iz (YD (Yu a) (Yu b))):=by
 have⟨h,q⟩:=h;refine aA h rfl ?_;simp only[go_sem];unfold l192_0;refine bu (fun (p:mp×mp) S=>S.ρ 0=.str p.1/\S.ρ 1=.str p.2/\YD (Yu p.1) (Yu p.2)=YD (Yu a) (Yu b)) (fun p=>p.1.length) (a,b) ?_ ?_
 ·simp[go_sem]
 ·intro⟨x,y⟩ S ⟨h0,h1,j⟩;simp only at h0 h1 j;have k:=A8 q x;have k':=A8 q y;simp only[go_sem,h0];by_cases u:x=[]
  ·subst u;rw[ua] at j;by_cases o:y=[]
   ·subst o;have j:(0:Int)=YD (Yu a) (Yu b):=j;simp only[go_sem,h0,h1,<-j]
   ·rw[oJ o] at j;have j:(-1:Int)=YD (Yu a) (Yu b):=j;simp only[go_sem,h0,h1,o,<-j]
  ·by_cases o:y=[]
   ·subst o;rw[oJ u,ua] at j;have j:(1:Int)=YD (Yu a) (Yu b):=j;simp only[go_sem,h0,h1,u,<-j]
   ·rw[oJ u,oJ o] at j;have w:ol x=dN x:=by rw[ol,Gn u]
    have z:ol y=dN y:=by rw[ol,Gn o]
    rw[w] at k;rw[z] at k';have D:=EH u;have E:=EH o;have B:=sH u;simp only[go_sem,h0,h1,u,o,k,k'];refine aY (fun c=>?_) (fun c=>?_)
    ·rw[xS (Gc c)] at j;simp only[go_sem,<-j]
    ·have c:=Ga c;simp only[go_sem];refine aY (fun d=>?_) (fun d=>?_)
     ·rw[Cq (Gc d)] at j;simp only[go_sem,<-j]
     ·have d:=Ga d;have e:((dN x).1:Int)=((dN y).1:Int):=by omega
      rw[e,Cp] at j;simp only[go_sem,h0,h1,D,E];exact⟨(x.drop (dN x).2,y.drop (dN y).2),B,rfl,rfl,j⟩
structure ce where
 lo:mp
 hi:mp
 deriving DecidableEq
@[go_sem] def YZ (s:ce):Eq:=[.str s.lo,.str s.hi]
def bQ (a b:mp):Bool:=decide (YD (Yu a) (Yu b)<0)
def jf (a b:mp):Bool:=decide (YD (Yu a) (Yu b)<=0)
def Yz (s:ce):Bool:=(decide (s.lo=[])||aS s.lo)&&(decide (s.hi=[])||(aS s.hi&&bQ s.lo s.hi))
def Lt {a b:List Int}:decide (YD a b=-1)=decide (YD a b<0):=by
 apply GO.2;have:=O7 a b;omega
def lY {l:mp}:decide ((l.length:Int)=0)=decide (l=[]):=by cases l<;>simp;omega
def ir {l:mp} (h:aS l=true):l.length<=16/\l≠[]:=by
 simp only[aS,Ge,Gj] at h;exact⟨h.2.2,fun e=>by rw[e] at h;simp at h⟩
def nL:=HpC 186 F186<|HpA lB<|kc
def om (h:nL Pg) (s:ce):K' Pg 186 [.agg (YZ s)]=some (.bool (Yz s)):=by
 have⟨h,j,o⟩:=h;have w:=kr j s.lo;have y:=kr j s.hi;have k3:=ku o s.lo s.hi;refine aA h rfl ?_;cases p:decide (s.lo=[])<;>cases q:aS s.lo<;>cases c3:decide (s.hi=[])<;>cases u:aS s.hi <;>
  simp only[go_sem,p,q,c3,u,w,y,k3,Yz,bQ]
def nK:=HpC 167 F167<|HpA lA<|j9
def lF (h:nK Pg) (s:ce):K' Pg 167 [.agg (YZ s)]=some (.bool (Yz s)):=by
 have⟨h,o,u⟩:=h;have w:=kq o s.lo;have y:=kq o s.hi;have k3:s.lo.length<=1000000->s.hi.length<=1000000->_:=ks u s.lo s.hi;refine aA h rfl ?_;cases j:decide (s.lo=[]) with
 |true=>
  have z:s.lo.length<=1000000:=by rw[Gc j];simp
  cases c3:decide (s.hi=[]) with
  |true=>simp only[go_sem,j,c3,lY,YS,Yz]
  |false=>
   cases p:aS s.hi with
   |false=>simp only[go_sem,j,c3,p,y,lY,YS,Yz]
   |true=>simp only[go_sem,j,c3,p,y,k3 z (by have:=ir p;omega),lY,YS,Yz,bQ,Lt]
 |false=>
 cases q:aS s.lo with
 |false=>simp only[go_sem,j,q,w,YS,Yz]
 |true=>
  have z:s.lo.length<=1000000:=by have:=ir q;omega
  cases c3:decide (s.hi=[]) with
  |true=>simp only[go_sem,j,q,c3,w,lY,YS,Yz]
  |false=>
   cases p:aS s.hi with
   |false=>simp only[go_sem,j,q,c3,p,w,y,lY,YS,Yz]
   |true=>simp only[go_sem,j,q,c3,p,w,y,k3 z (by have:=ir p;omega),lY,YS,Yz,bQ,Lt]
def VR {s:ce} (h:Yz s=true):s.lo.length<=16/\s.hi.length<=16:=by
 simp only[Yz,Ge,G1,Gj] at h;constructor
 ·rcases h.1 with e|e
  ·rw[e];simp
  ·exact (ir e).1
 ·rcases h.2 with e|e
  ·rw[e];simp
  ·exact (ir e.1).1
def dF (s:ce) (k:mp):Bool:=Yz s&&(aS k&&(jf s.lo k&&(decide (s.hi=[])||bQ k s.hi)))
def rp:=HpC 171 F171<|HpA nL<|HpA lB<|kc
def sk (h:rp Pg) (s:ce) (k:mp):K' Pg 171 [.agg (YZ s),.str k]=some (.bool (dF s k)):=by
 have⟨h,p,o,j⟩:=h;have q:=om p s;have z:=kr o k;have k3:=ku j s.lo k;have B:=ku j k s.hi;simp only[YZ] at q;refine aA h rfl ?_;cases u:Yz s<;>cases w:aS k<;>cases c3:decide (YD (Yu s.lo) (Yu k)<=0)<;>cases y:decide (s.hi=[]) <;>
  simp only[go_sem,u,w,c3,y,q,z,k3,B,dF,jf,bQ]
def ro:=HpC 169 F169 j9
def X2 {a b:List Int}:decide (0<=YD a b)=decide (YD b a<=0):=by
 apply GO.2;have:=xO a b;omega
def vN (h:ro Pg) (k lo hi:mp) (h1:k.length<=1000000) (p:lo.length<=1000000) (q:hi.length<=1000000):K' Pg 169 [.str k,.str lo,.str hi]=some (.bool (jf lo k&&(decide (hi=[])||bQ k hi))):=by
 have⟨h,j⟩:=h;have u:=ks j k lo h1 p;have w:=ks j k hi h1 q;refine aA h rfl ?_;cases c3:decide (YD (Yu lo) (Yu k)<=0)<;>cases o:decide (hi=[]) <;>
  simp only[go_sem,c3,o,u,w,jf,bQ,X2,lY]
def uO:=HpC 142 F142<|HpA nK<|HpA lA<|ro
def A6 (h:uO Pg) (s:ce) (k:mp):K' Pg 142 [.agg (YZ s),.str k]=some (.bool (dF s k)):=by
 have⟨h,j,o,p⟩:=h;have u:=lF j s;have y:=kq o k;simp only[YZ] at u;refine aA h rfl ?_;cases q:Yz s with
 |false=>simp only[go_sem,q,u,dF]
 |true=>
 cases w:aS k with
 |false=>simp only[go_sem,q,w,u,y,dF]
 |true=>
  have z:=VR q;have B:=ir w;have k3:=vN p k s.lo s.hi (by omega) (by omega) (by omega);simp only[go_sem,q,w,u,y,k3,dF]
def Cj (lo hi:mp):Bool:=decide (hi=[])||bQ lo hi
def oM {a b:mp}:bQ a b=true↔YD (Yu a) (Yu b)<0:=by simp[bQ]
def sN {a b c:mp} (h1:YD (Yu a) (Yu b)<=0) (j:YD (Yu b) (Yu c)<0):YD (Yu a) (Yu c)<0:=(KZ _ _ _ h1 (by omega)).2 (.inr j)
def Oi {a b c:mp} (h1:YD (Yu a) (Yu b)<0) (j:YD (Yu b) (Yu c)<=0):YD (Yu a) (Yu c)<0:=(KZ _ _ _ (by omega) j).2 (.inl h1)
def PL {a b:mp} (h:¬YD (Yu a) (Yu b)<0):YD (Yu b) (Yu a)<=0:=by have:=xO (Yu a) (Yu b);omega
def X0 {a b:mp} (h:0<YD (Yu a) (Yu b)):YD (Yu b) (Yu a)<0:=by have:=xO (Yu a) (Yu b);omega
def Kd {s:ce} (h:Yz s=true):(decide (s.lo=[])||aS s.lo)=true:=by
 simp only[Yz,Ge] at h;exact h.1
def Jb {s:ce} (h:Yz s=true):s.hi=[]\/(aS s.hi=true/\YD (Yu s.lo) (Yu s.hi)<0):=by
 simp only[Yz,Ge,G1,Gj,bQ] at h;exact h.2
def Ki {lo hi:mp} (h1:(decide (lo=[])||aS lo)=true) (j:hi=[]\/aS hi=true):Yz ⟨lo,hi⟩=Cj lo hi:=by
 simp only[Yz,Cj,h1,Gy];rcases j with e|e
 ·rw[Gu e];rfl
 ·rw[e,Gy]
def VL {lo hi:mp}:Cj lo hi=true↔hi=[]\/YD (Yu lo) (Yu hi)<0:=by
 simp[Cj,bQ]
def kC:ce:=⟨[],[]⟩
@[go_sem] def EM (x:ce×ce×Int):V:=.tuple [.agg (YZ x.1),.agg (YZ x.2.1),iz x.2.2]
@[go_sem] def EZ (x:ce×Int):V:=.tuple [.agg (YZ x.1),iz x.2]
def f7 (s:ce) (k:mp):ce×ce×Int:=
 if Yz s&&aS k then (if decide (k=s.lo)||!dF s k then (kC,kC,9) else (⟨s.lo,k⟩,⟨k,s.hi⟩,0)) else (kC,kC,1)
def yJ:=HpC 178 F178<|HpA nL<|HpA lB<|rp
def Ha (h:yJ Pg) (s:ce) (k:mp):K' Pg 178 [.agg (YZ s),.str k]=some (EM (f7 s k)):=by
 have⟨h,p,j,o⟩:=h;have q:=om p s;have z:=kr j k;have k3:=sk o s k;simp only[YZ] at q k3;refine aA h rfl ?_;cases u:Yz s<;>cases w:aS k<;>cases c3:decide (k=s.lo)<;>cases y:dF s k <;>
  simp only[go_sem,u,w,c3,y,q,z,k3,f7,kC]
def ZK {s:ce} {k:mp} (u:Yz s=true) (j:aS k=true):bQ s.lo k=(jf s.lo k&&!decide (k=s.lo)):=by
 rw[Bool.eq_iff_iff];simp only[bQ,jf,Ge,GM,Gj,Gs];have o:=ir j;constructor
 ·intro h;exact⟨by omega,fun e=>by rw[e,tX] at h;omega⟩
 ·intro⟨h1,p⟩;have:YD (Yu s.lo) (Yu k)≠0:=fun e=>by
   have e:=KY _ _ e;have q:=Kd u;simp only[G1,Gj] at q;rcases q with q|q
   ·rw[q,ua,oJ o.2] at e;simp at e
   ·simp only[aS,Ge] at q j;exact p (iD _ _ _ (GC _) q.1 j.1 e).symm
  omega
def PF {s:ce} {k:mp} (o:Yz s=true) (j:aS k=true):(Yz ⟨s.lo,k⟩&&Yz ⟨k,s.hi⟩)=!(decide (k=s.lo)||!dF s k):=by
 have p:=ir j;have q:=Ki (lo:=s.lo) (hi:=k) (Kd o) (.inr j);have u:=Ki (lo:=k) (hi:=s.hi) (by rw[j];simp) ((Jb o).imp id fun e=>e.1);rw[q,u];have w:decide (k=[])=false:=Gp p.2;simp only[Cj,w,G7,dF,o,j,Gy,ZK o j];cases jf s.lo k<;>cases decide (k=s.lo)<;>simp
def yK:=HpC 183 F183<|HpA nK<|lA
def Hb (h:yK Pg) (s:ce) (k:mp):K' Pg 183 [.agg (YZ s),.str k]=some (EM (f7 s k)):=by
 have⟨h,j,p⟩:=h;have u:=lF j s;have w:=kq p k;have k3:=lF j ⟨s.lo,k⟩;have y:=lF j ⟨k,s.hi⟩;simp only[YZ] at u k3 y;refine aA h rfl ?_;cases o:Yz s with
 |false=>simp only[go_sem,o,u,f7,kC]
 |true=>
 cases q:aS k with
 |false=>simp only[go_sem,o,q,u,w,f7,kC]
 |true=>
  have e:=PF o q;have B:f7 s k=if (Yz ⟨s.lo,k⟩&&Yz ⟨k,s.hi⟩) then (⟨s.lo,k⟩,⟨k,s.hi⟩,0) else (kC,kC,9):=by
   simp only[f7,o,q,e];cases (decide (k=s.lo)||!dF s k)<;>rfl
  rw[B];cases c3:Yz ⟨s.lo,k⟩<;>cases z:Yz ⟨k,s.hi⟩ <;>
   simp only[go_sem,o,q,c3,z,u,w,k3,y,kC]
def Y6 (a b:ce):ce×Int:=
 if Yz a&&Yz b then (if decide (a.hi=[])||!decide (a.hi=b.lo) then (kC,9) else (⟨a.lo,b.hi⟩,0)) else (kC,1)
def yL:=HpC 184 F184 nK
def Hc (h:yL Pg) (a b:ce):K' Pg 184 [.agg (YZ a),.agg (YZ b)]=some (EZ (Y6 a b)):=by
 have⟨h,j⟩:=h;have o:=lF j a;have p:=lF j b;simp only[YZ] at o p;refine aA h rfl ?_;cases q:Yz a<;>cases u:Yz b<;>cases c3:decide (a.hi=[])<;>cases w:decide (a.hi=b.lo) <;>
  simp only[go_sem,q,u,c3,w,o,p,Y6,kC,lY]
def ny (s:aB) (l:List bz) (i:Nat):Option bz:=if min i (bX s l)=0 then none else l[min i (bX s l)-1]?
def Dh:=HpC 11 F11<|HpA H4<|H6
theorem F1 (h:Dh Pg) (l:List bz) (s:aB) (Z:l.length<2^60):K' Pg 11 [Yd l,.agg (Ye s)]=some (p0 (cZ s l)):=by
 have⟨h,N,O⟩:=h;refine aA h rfl ?_;have W:=K4 N l Z;have X:=fun x y=>K6 O x y;simp only[Ye,Yd] at W X;simp only[go_sem,Yd];unfold l11_0;have U:=xM s l;refine bu (fun (i:Nat) S=>i<=l.length/\(Yh l=false->i=0)/\S.ρ 0=Yd l/\S.ρ 3=.lref 3 0/\S.ρ 4=.lref 4 0/\S.ρ 6=.lref 6 0/\S.μ 3=some (Ye s,false)/\(∃cs,S.μ 4=some (cs,false)/\cs.length=5)/\
  S.μ 6=some (dv ((ny s l i).getD gz),false)/\S.ρ 7=.bool (ny s l i).isSome/\S.ρ 8=iz i) (fun i=>l.length-i) 0 ?_ ?_
 ·simp[go_sem,Yd,ny,gz]
 ·intro i S ⟨hi,w,h0,M,B,D,m3,⟨cs,m4,T⟩,m6,P,E⟩;have q:i=l.length\/Yh l=false->ny s l i=cZ s l:=by
   rintro (rfl|hf)
   ·cases p:Yh l with
    |false=>have:=w p;simp[ny,cZ,p,this]
    |true=>simp only[ny,cZ,p,Gw,Nat.min_eq_right U]
   ·simp[ny,cZ,hf,w hf]
  obtain⟨H,I,J,c3,L,rfl⟩:∃H I J c3 L,cs=[H,I,J,c3,L]:=by
   match cs,T with
   |[H,I,J,c3,L],_=>exact⟨_,_,_,_,_,rfl⟩
  simp only[go_sem,h0,E,Yd];refine io (fun h=>?_) (fun h=>?_)
  ·simp only[Gj,GW] at h;cases p:Yh l with
   |false=>
    simp only[go_sem,h0,B,D,m4,m6,P,Yd,W,p,h,jS,GW];rw[q (.inr p)];rfl
   |true=>
    have⟨x,z,hd⟩:=aZ h;have o:IntKind.i64.wrap ((i:Int)+1)=((i+1:Nat):Int):=bv (by omega) (by omega);simp only[go_sem,h0,M,m3,E,Yd,W,p,h,jS,GW,z,X];refine aY (fun R=>?_) (fun R=>?_)
    ·have Q:¬Yc s x.at_<0:=by simpa [aV] using R
     have u:i<bX s l:=by
      rcases GF i (bX s l) with h'|h'
      ·exact h'
      ·have:=EC (pu p).1 h' z;rw[wG] at this;rw[mN] at Q;omega
     have j:ny s l (i+1)=some x:=by
      have:min (i+1) (bX s l)=i+1:=pn (by omega);simp[ny,this,z]
     simp only[go_sem,h0,M,B,D,m3,m4,m6,E,Yd,z];refine⟨i+1,by omega,by omega,fun e=>by simp at e,⟨_,rfl,rfl⟩,?_,?_,by rw[o]⟩
     ·simp[j]
     ·simp[j]
    ·have Q:Yc s x.at_<0:=by simpa [aV] using R
     have u:bX s l<=i:=by
      rcases GF i (bX s l) with h'|h'
      ·have:=Et h' z;have Y:Yc x.at_ s<0\/Yc x.at_ s=0:=by omega
       rw[mN,xN] at Y;rw[mN] at Q;omega
      ·exact h'
     have j:ny s l (i+1)=ny s l i:=by
      simp only[ny,Nat.min_eq_right u,Nat.min_eq_right (by omega:bX s l<=i+1)]
     simp only[go_sem,h0,M,B,D,m3,m4,m6,P,E,Yd];refine⟨i+1,by omega,by omega,fun e=>by simp at e,⟨_,rfl,rfl⟩,?_,?_,by rw[o]⟩
     ·simp[j]
     ·simp[j]
  ·simp only[Gs,GW] at h;have:i=l.length:=by omega
   simp only[go_sem,B,D,m4,m6,P,h,mu,GW];rw[q (.inl this)];rfl
def E9:=HpC 13 F13 Dh
def NZ (h:E9 Pg) (l:List bz) (s:aB) (u:l.length<2^60):K' Pg 13 [Yd l,.agg (Ye s)]=some (.tuple [.str ((gR s l).getD []),.bool (gR s l).isSome]):=by
 have⟨h,p⟩:=h;refine aA h rfl ?_;have j:=F1 p l s u;simp only[Yd,Ye,p0,dv] at j;cases o:cZ s l with
 |none=>simp only[o,gz,Option.getD_none,Option.isSome_none] at j;simp only[go_sem,Yd,j,GR,gR,o,Option.isSome_none]
 |some v=>
  simp only[o,gz,Option.getD_some,Option.isSome_some] at j;cases q:v.gone with
  |true=>simp only[go_sem,Yd,j,gR,o,q,Gx,Option.isSome_none]
  |false=>simp only[go_sem,Yd,j,gR,o,q,Gx,Option.isSome_some,Gl]
def later (a b:aB):aB:=if Yc a b<0 then b else a
def uS:=HpC 21 F21 rm
def xE (h:uS Pg) (a b:aB):K' Pg 21 [.agg (Ye a),.agg (Ye b)]=some (.agg (Ye (later a b))):=by
 have⟨h,o⟩:=h;refine aA h rfl ?_;have j:=tU o a b;simp only[Ye] at j;simp only[go_sem,j];refine aY (fun p=>?_) (fun p=>?_)
 ·have:=Gc p;simp only[go_sem,later,this]
 ·have:=Ga p;simp only[go_sem,later,this]
def et (s:aB) (c:List bz):Nat:=if bX s c=0 then 0 else match c[bX s c-1]? with|some v=>if v.gone then bX s c else bX s c-1|none=>0
def YY (s:aB) (c:List bz):List bz:=if Yh c then c.drop (et s c) else []
def Mh:=HpC 17 F17<|HpA H7<|HpA Fd<|Di
def Vf (h:Mh Pg) (l:List bz) (s:aB) (M:l.length<2^60):K' Pg 17 [Yd l,.agg (Ye s)]=some (Yd (YY s l)):=by
 have⟨h,O,J,I⟩:=h;refine aA h rfl ?_;have L:=K7 O l M;simp only[Yd] at L;cases p:Yh l with
 |false=>simp only[go_sem,Yd,L,p,GR,YY,Gl]
 |true=>
  have D:=N1 J l s M (pu p).1;have y:=xM s l;have N:=(pu p).2;simp only[Yd,Ye] at D;simp only[go_sem,Yd,L,p,Gx,D];have u:=fun n=>Ho I ((l.map dv).drop n) (by simp[aU];omega);have q:(l.map dv).take l.length=l.map dv:=by simp[tG]
  refine io (fun w=>?_) (fun w=>?_)
  ·have j:bX s l≠0:=by have:=Gc w;omega
   obtain⟨x,H,-⟩:=aZ (l:=l) (i:=bX s l-1) (by omega);have o:IntKind.i64.wrap ((bX s l:Int)-1)=((bX s l-1:Nat):Int):=by rw[bv (by omega) (by omega)];omega
   have z:bX s l-1<=l.length:=by omega
   cases E:x.gone with
   |false=>
    have B:et s l=bX s l-1:=by simp[et,j,H,E]
    simp only[go_sem,w,o,H,E,GR,YY,p,B,z,q,GC,u,nJ]
   |true=>
    have B:et s l=bX s l:=by simp[et,j,H,E]
    simp only[go_sem,w,o,H,E,Gx,YY,p,B,y,q,GC,u,nJ]
  ·have j:bX s l=0:=by have:=Ga w;omega
   have B:et s l=bX s l:=by simp[et,j]
   simp only[go_sem,w,YY,p,B,y,q,GC,u,nJ]
def bV (o:Option bz) (w:bz):Bool:=match o with
 |none=>true
 |some v=>!(aV w.at_ v.at_||(v.gone&&decide (w.at_=v.at_)))
def Mi:=HpC 18 F18<|HpA Dh<|H6
def Vg (h:Mi Pg) (l:List bz) (s:aB) (hl:l.length<=100):K' Pg 18 [Yd l,.agg (Ye s)]=some (Yd (l.filter (bV (cZ s l)))):=by
 have⟨h,T,U⟩:=h;refine aA h rfl ?_;have O:=F1 T l s (by omega);have R:=fun x y=>K6 U x y;simp only[Yd,Ye,p0,dv] at O R;simp only[go_sem,Yd,O];unfold l18_0;refine bu (fun (i:Nat) S=>i<=l.length/\S.ρ 0=Yd l/\S.ρ 5=.lref 5 0/\S.μ 5=some (dv ((cZ s l).getD gz),false)/\S.ρ 6=.bool (cZ s l).isSome/\
  S.A 7=some (5,((l.take i).filter (bV (cZ s l))).map dv,.live)/\S.ρ 7=.own 7 5 ((l.take i).filter (bV (cZ s l))).length/\S.ρ 8=iz i) (fun i=>l.length-i) 0 ?_ ?_
 ·simp[go_sem,Yd,gz]
 ·intro i S ⟨hi,h0,H,m5,B,w,z,D⟩;simp only[go_sem,h0,D,Yd];refine aY (fun h=>?_) (fun h=>?_)
  ·simp only[Gj,GW] at h;have⟨x,J,hd⟩:=aZ h;have j:IntKind.i64.wrap ((i:Int)+1)=((i+1:Nat):Int):=bv (by omega) (by omega);have M:l.take (i+1)=l.take i++[x]:=by rw[G3,J];rfl
   have Y:((l.take i).filter (bV (cZ s l))).length<=i:=GI (List.length_filter_le _ _) (by simp;omega);have o:((l.take i).filter (bV (cZ s l))).length+1<=aU:=by simp only[aU];omega
   have N:bV (cZ s l) x=true->((l.take (i+1)).filter (bV (cZ s l)))=((l.take i).filter (bV (cZ s l)))++[x]:=fun e=>by
    rw[M,List.filter_append];simp[e]
   have q:bV (cZ s l) x=false->((l.take (i+1)).filter (bV (cZ s l)))=((l.take i).filter (bV (cZ s l))):=fun e=>by
    rw[M,List.filter_append];simp[e]
   have u:bV (cZ s l) x=true->((((l.take i).filter (bV (cZ s l))).map dv++[[iz x.at_.wall,iz x.at_.tick,iz x.at_.node,V.bool x.gone,V.str x.val]])=((l.take (i+1)).filter (bV (cZ s l))).map dv/\
     ((l.take i).filter (bV (cZ s l))).length+1=((l.take (i+1)).filter (bV (cZ s l))).length):=fun e=>by
    rw[N e];simp[dv]
   cases L:cZ s l with
   |none=>
    have p:bV (cZ s l) x=true:=by simp[bV,L]
    rw[L] at p u o w z;have⟨P,Q⟩:=u p;simp only[go_sem,h0,H,m5,B,w,z,D,Yd,J,L,Option.isSome_none,o];exact⟨i+1,by omega,by omega,by rw[P],by rw[Q],by rw[j]⟩
   |some v=>
    rw[L] at o w z u q;simp only[L,Option.getD_some,Option.isSome_some] at m5 B;have X:(decide (x.at_.wall=v.at_.wall)&&(decide (x.at_.tick=v.at_.tick)&&decide (x.at_.node=v.at_.node)))=decide (x.at_=v.at_):=by
     cases aa:x.at_;cases Z:v.at_;simp only[aB.mk.injEq,Bool.decide_and]
    cases I:aV x.at_ v.at_ with
    |true=>
     have p:bV (some v) x=false:=by simp[bV,I]
     simp only[go_sem,h0,H,m5,B,w,z,D,Yd,J,Option.getD_some,Option.isSome_some,R,I];exact⟨i+1,by omega,by omega,by rw[q p],by rw[q p],by rw[j]⟩
    |false=>
     cases E:v.gone with
     |false=>
      have p:bV (some v) x=true:=by simp[bV,I,E]
      have⟨P,Q⟩:=u p;simp only[go_sem,h0,H,m5,B,w,z,D,Yd,J,Option.getD_some,Option.isSome_some,R,I,E,o];exact⟨i+1,by omega,by omega,by rw[P],by rw[Q],by rw[j]⟩
     |true=>
      simp only[go_sem,h0,H,m5,B,D,Yd,J,Option.getD_some,Option.isSome_some,R,I,E,X];refine aY (fun W=>?_) (fun W=>?_)
      ·have p:bV (some v) x=false:=by simp[bV,E,Gc W]
       simp only[go_sem,h0,H,m5,B,w,z,D,Yd,E];exact⟨i+1,by omega,by omega,by rw[q p],by rw[q p],by rw[j]⟩
      ·have p:bV (some v) x=true:=by simp[bV,I,E,Ga W]
       have⟨P,Q⟩:=u p;simp only[go_sem,h0,H,m5,B,w,z,D,Yd,J,E,o];exact⟨i+1,by omega,by omega,by rw[P],by rw[Q],by rw[j]⟩
  ·simp only[Gs,GW] at h;have:i=l.length:=by omega
   subst this;simp only[GB] at w z;simp only[go_sem,w,z]
theorem Eh:∀{l:List bz} {p:Option bz} {v:bz},ed p l=true->v∈l->YQ v=true
 |[],_,_,_,h=>by simp at h
 |w::l,p,v,h,hv=>by
  simp only[ed,Ge] at h;rcases GH.1 hv with rfl|hv
  ·exact h.1.1
  ·exact Eh h.2 hv
def Xz {v:bz} (h:YQ v=true) (j:v.gone=true):v.val=[]:=by
 simp[YQ,j] at h;exact h.2
def WL {s:aB} {l:List bz} {v:bz} (h:cZ s l=some v):YQ v=true:=by
 simp only[cZ] at h;split at h
 ·rename_i j;split at h
  ·simp at h
  ·exact Eh (pu j).1 (List.mem_of_getElem? h)
 ·simp at h
def Ow {s:aB} {l:List bz}:(gR s l).getD []=(match cZ s l with|some v=>v.val|none=>[]):=by
 simp only[gR];cases h:cZ s l with
 |none=>rfl
 |some v=>
  cases j:v.gone with
  |true=>simp[j,Xz (WL h) j]
  |false=>simp[j]
def Og {s:aB} {l:List bz}:(gR s l).isSome=(match cZ s l with|some v=>!v.gone|none=>false):=by
 simp only[gR];cases h:cZ s l with
 |none=>rfl
 |some v=>cases j:v.gone<;>simp[j]
def F2 (h:E8 Pg) (l:List bz) (s:aB) (hl:l.length<2^60):K' Pg 12 [Yd l,.agg (Ye s)]=some (.tuple [.str ((gR s l).getD []),.bool (gR s l).isSome]):=by
 rw[Vd h l s hl,Ow,Og]<;>(cases cZ s l<;>rfl)
theorem Pz {v:bz}:∀{l:List bz} {p:Option bz},ed p l=true->YQ v=true->uf (l.getLast?.or p) v=true->ed p (l++[v])=true
 |[],p,_,hv,h=>by simp at h;simp[uc hv,h,ed]
 |w::l,p,hl,hv,h=>by
  have hw:=Eh hl (G0 ..);rw[List.cons_append,uc hw];rw[uc hw] at hl;simp only[Ge] at hl ⊢;refine⟨hl.1,Pz hl.2 hv ?_⟩;cases l with
  |nil=>simpa using h
  |cons a l=>simpa [List.getLast?_cons] using h
def Wc {l:List bz} {v:bz} (h:(bZ l v).2=0):bZ l v=(l++[v],0)/\Yh l=true/\YQ v=true/\Yh (l++[v])=true:=by
 cases h1:Yh l with
 |false=>simp[bZ,h1] at h
 |true=>
 cases j:YQ v with
 |false=>simp[bZ,j] at h
 |true=>
 have w:=pu h1;cases p:l.getLast? with
 |none=>
  have:l=[]:=by simpa using p
  subst this;exact⟨by simp[bZ,h1,j],rfl,rfl,by simp[Yh,ed,j]⟩
 |some q=>
  simp only[bZ,h1,j,p] at h ⊢;by_cases o:0<=Yc q.at_ v.at_
  ·simp[o] at h
  ·by_cases u:l.length=64
   ·simp[o,u] at h
   ·refine⟨by simp[o,u],GN,GN,?_⟩;simp only[Yh,Ge,Gj,Gf,List.length_singleton];exact⟨Pz w.1 j (by rw[p];simp[uf];omega),by omega⟩
def pz {a b:aB}:0<=Yc a b↔Yc b a<=0:=by
 have h1:=@mN a b;have j:=@wG b a;have:Yc a b<0↔0<Yc b a:=by rw[h1,j]
 omega
theorem Ox {α:Type} {p:α->Bool}:∀{l:List α} {n:Nat},(∀i x,l[i]?=some x->p x=decide (n<=i))->l.filter p=l.drop n
 |[],n,_=>by simp
 |x::l,0,h=>by
  rw[tF,List.filter_eq_self];intro a j;have⟨i,hi⟩:=List.mem_iff_getElem?.1 j;simpa using h i a hi
 |x::l,n+1,h=>by
  have h0:=h 0 x rfl;simp only[List.filter_cons,h0,List.drop_succ_cons];exact Ox (fun i y o=>by rw[h (i+1) y (by simpa using o)];simp)
def VQ {l:List bz} {s:aB} (p:Yh l=true):l.filter (bV (cZ s l))=YY s l:=by
 have w:=(pu p).1;have B:=xM s l;simp only[YY,p,Gw];refine Ox fun i x o=>?_;have z:i<l.length:=by
  rcases GF i l.length with h|h
  ·exact h
  ·rw[List.getElem?_eq_none h] at o;simp at o
 by_cases hu:bX s l=0
 ·simp[cZ,p,hu,bV,et]
 ·have j:l[bX s l-1]?=some l[bX s l-1]:=by simp
  have q:cZ s l=some l[bX s l-1]:=by simp[cZ,p,hu]
  rw[q];generalize l[bX s l-1]=v at j;simp only[bV,et,hu,Gv,j];rcases Nat.lt_trichotomy i (bX s l-1) with h|h|h
  ·have:=xY w h o j;have u:¬(if v.gone=true then bX s l else bX s l-1)<=i:=by split<;>omega
   simp[aV,this,u]
  ·subst h;rw[o] at j;have j:x=v:=by simpa using j
   subst j;have h0:Yc x.at_ x.at_=0:=by rw[xN];simp
   cases D:x.gone with
   |true=>simp[aV,h0];omega
   |false=>simp[aV,h0]
  ·have:=xY w h j o;have h1:¬Yc x.at_ v.at_<0:=by rw[mN] at this ⊢;omega
   have y:¬x.at_=v.at_:=fun e=>by
    rw[e] at this;have:Yc v.at_ v.at_=0:=by rw[xN];simp
    omega
   have u:(if v.gone=true then bX s l else bX s l-1)<=i:=by split<;>omega
   simp[aV,h1,y,u]
theorem O6:∀{n:Nat} {l:List bz} {p:Option bz},ed p l=true->ed none (l.drop n)=true
 |0,[],p,_=>rfl
 |0,v::l,p,h=>by
  have j:=Eh h (G0 ..);rw[tF,uc j];rw[uc j] at h;simp only[Ge] at h;simp[uf,h.2]
 |n+1,[],p,_=>by simp[ed]
 |n+1,v::l,p,h=>by rw[List.drop_succ_cons];exact O6 (DY h)
def VN {l:List bz} {n:Nat} (h:Yh l=true):Yh (l.drop n)=true:=by
 have:=pu h;simp only[Yh,Ge,Gj];exact⟨O6 this.1,by simp;omega⟩
structure aF where
 key:mp
 chain:List bz
 deriving DecidableEq
@[go_sem] def dk (e:aF):Eq:=[.str e.key,Yd e.chain]
@[go_sem] def Yf (l:List aF):V:=.slice 2 (l.map dk)
def Sm (l:List aF):Prop:=l.length<=10000/\∀e∈l,e.chain.length<=10000/\e.key.length<=10000
def Sm.len {l:List aF} (h:Sm l):l.length<=10000:=h.1
def Sm.at {l:List aF} (h:Sm l) {i:Nat} {e:aF} (j:l[i]?=some e):e.chain.length<=10000/\e.key.length<=10000:=h.2 e (List.mem_of_getElem? j)
def CE (l:List aF):Bool:=decide (l.length<=80)&&l.all fun e=>decide (e.chain.length<=80)&&decide (e.key.length<=100)
def yt {a b:Nat}:decide ((a:Int)<(b:Int))=!decide (b<=a):=by
 by_cases h:b<=a<;>simp[h]<;>omega
def LH {n:Nat}:decide ((80:Int)<(n:Int))=!decide (n<=80):=yt (a:=80)
def Qb {n:Nat}:decide ((100:Int)<(n:Int))=!decide (n<=100):=yt (a:=100)
def Qq {n:Nat}:decide ((64:Int)<(n:Int))=!decide (n<=64):=yt (a:=64)
def ZG {n:Nat}:decide ((n:Int)<=64)=decide (n<=64):=E3 (b:=64)
def yQ:=HpZ 198 F198
def Hf (h:yQ Pg) (l:List aF):K' Pg 198 [Yf l]=some (.bool (CE l)):=by
 refine aA h rfl ?_;cases q:decide (l.length<=80) with
 |false=>simp only[go_sem,LH,q,CE]
 |true=>
 have z:=Gc q;simp only[go_sem,LH,q,CE];unfold l198_0;refine bu (fun (i:Nat) S=>i<=l.length/\S.ρ 0=Yf l/\S.ρ 3=iz i/\((l.drop i).all fun e=>decide (e.chain.length<=80)&&decide (e.key.length<=100))=l.all fun e=>decide (e.chain.length<=80)&&decide (e.key.length<=100)) (fun i=>l.length-i) 0 ?_ ?_
 ·simp[go_sem]
 ·intro i S ⟨hi,h0,p,j⟩;simp only[go_sem,h0,p];refine aY (fun h=>?_) (fun h=>?_)
  ·have h:=Yj h;have⟨x,w,y⟩:=aZ h;rw[y,List.all_cons] at j;simp only[go_sem,h0,p,w,Yd,LH];cases u:decide (x.chain.length<=80) with
   |false=>rw[u] at j;simp only[Gm] at j;simp only[go_sem,<-j]
   |true=>
   cases o:decide (x.key.length<=100) with
   |false=>rw[u,o] at j;simp only[Gm,Gq] at j;simp only[go_sem,h0,p,w,o,Qb,<-j]
   |true=>
    rw[u,o] at j;simp only[Gy] at j;simp only[go_sem,h0,p,w,o,Qb];exact⟨i+1,by omega,by omega,by rw[Yn h (by omega)],j⟩
  ·have h:=YC hi h;subst h;rw[GQ] at j;simp only[go_sem,<-j,List.all_nil]
def iw (e:aF):Bool:=aS e.key&&(!decide (e.chain=[])&&Yh e.chain)
def gc:Option aF->List aF->Bool
 |_,[]=>true
 |p,e::l=>iw e&&((match p with|none=>true|some q=>bQ q.key e.key)&&gc (some e) l)
def ck (l:List aF):Bool:=decide (l.length<=64)&&gc none l
def ns (l:List aF) (i:Nat):Option aF:=if i=0 then none else l[i-1]?
def En {l:List aF} {i:Nat} {x:aF} (h:l[i]?=some x):ns l (i+1)=some x:=by simp[ns,h]
def wF {l:List bz}:decide ((l.length:Int)=0)=decide (l=[]):=by cases l<;>simp;omega
def kd:=HpC 203 F203<|HpA H7<|HpA lB<|kc
def kv (h:kd Pg) (l:List aF) (O:Sm l):K' Pg 203 [Yf l]=some (.bool (ck l)):=by
 have⟨h,R,w,z⟩:=h;have D:=fun x=>kr w x;have E:=fun x y=>ku z x y;have P:=O.len;refine aA h rfl ?_;simp only[go_sem];unfold l203_0;refine bu (fun (i:Nat) S=>i<=l.length/\S.ρ 0=Yf l/\S.ρ 5=Yf l/\S.ρ 6=iz l.length/\S.ρ 7=iz i/\S.μ 4=none/\gc (ns l i) (l.drop i)=gc none l) (fun i=>l.length-i) 0 ?_ ?_
 ·simp[go_sem,ns]
 ·intro i S ⟨hi,h0,L,M,o,m4,j⟩;simp only[go_sem,M,o];refine aY (fun h=>?_) (fun h=>?_)
  ·have h:=Yj h;have⟨x,J,T⟩:=aZ h;have H:=K7 R x.chain (by have:=O.at J;omega);simp only[Yd] at H;have p:IntKind.i64.wrap ((i:Int)+1)=((i+1:Nat):Int):=Yn h (by omega);rw[T] at j;simp only[gc] at j;simp only[go_sem,L,o,m4,J,Yd,D];cases I:aS x.key with
   |false=>
    simp only[iw,I,Gm] at j;simp only[go_sem,ck,<-j]
   |true=>
   cases q:Yh x.chain with
   |false=>
    simp only[iw,I,q,Gm,Gq] at j;simp only[go_sem,q,H,ck,<-j]
   |true=>
   cases c3:decide (x.chain=[]) with
   |true=>
    simp only[iw,I,q,c3,Gm,Gq,Gx] at j;simp only[go_sem,q,c3,H,wF,ck,<-j]
   |false=>
   simp only[iw,I,q,c3,Gy,GE,GR] at j;rcases nI i with hz|hz
   ·have u:decide ((0:Int)<(i:Int))=false:=Gp (by omega);simp only[go_sem,u,h0,L,M,o,q,c3,H,wF];exact⟨i+1,by omega,by omega,by rw[p],by rw[En J];simpa [ns,hz] using j⟩
   ·have u:decide ((0:Int)<(i:Int))=true:=Gu (by omega);have B:IntKind.i64.wrap ((i:Int)-1)=((i-1:Nat):Int):=ug hz (by omega);obtain⟨y,Q,-⟩:=aZ (l:=l) (i:=i-1) (by omega);have U:ns l i=some y:=by simp[ns,Nat.ne_of_gt hz,Q]
    rw[U] at j;simp only at j;simp only[go_sem,h0,q,c3,H,wF,Yd,u,B,Q,E];refine aY (fun N=>?_) (fun N=>?_)
    ·have:bQ y.key x.key=false:=Gp (by have:=Gc N;omega);rw[this] at j;simp only[Gm] at j;simp only[go_sem,ck,<-j]
    ·have:bQ y.key x.key=true:=Gu (by have:=Ga N;omega);rw[this] at j;simp only[Gy] at j;simp only[go_sem,h0,L,M,o];exact⟨i+1,by omega,by omega,by rw[p],by rw[En J];exact j⟩
  ·have h:=YC hi h;subst h;rw[GQ] at j;simp only[gc] at j;simp only[go_sem,h0,ZG,ck,<-j]
def rr:=HpC 204 F204<|HpA H4<|HpA lA<|j9
def sn (h:rr Pg) (l:List aF) (N:Sm l):K' Pg 204 [Yf l]=some (.bool (ck l)):=by
 have⟨h,Q,B,D⟩:=h;have H:=fun x=>kq B x;refine aA h rfl ?_;cases M:decide (l.length<=64) with
 |false=>simp only[go_sem,Qq,M,ck]
 |true=>
 have P:=Gc M;simp only[go_sem,Qq,M,ck];unfold l204_0;refine bu (fun (i:Nat) S=>i<=l.length/\S.ρ 0=Yf l/\S.ρ 3=iz i/\gc (ns l i) (l.drop i)=gc none l) (fun i=>l.length-i) 0 ?_ ?_
 ·simp[go_sem,ns]
 ·intro i S ⟨hi,h0,q,j⟩;simp only[go_sem,h0,q];refine aY (fun h=>?_) (fun h=>?_)
  ·have h:=Yj h;have⟨x,o,R⟩:=aZ h;have L:=K4 Q x.chain (by have:=N.at o;omega);simp only[Yd] at L;have p:IntKind.i64.wrap ((i:Int)+1)=((i+1:Nat):Int):=Yn h (by omega);rw[R] at j;simp only[gc] at j;simp only[go_sem,h0,q,o,Yd,H];cases J:aS x.key with
   |false=>
    simp only[iw,J,Gm] at j;simp only[go_sem,<-j]
   |true=>
   cases c3:decide (x.chain=[]) with
   |true=>
    simp only[iw,J,c3,Gm,Gq,Gx] at j;simp only[go_sem,h0,q,o,c3,wF,<-j,Yd]
   |false=>
   cases z:Yh x.chain with
   |false=>
    simp only[iw,J,z,Gm,Gq] at j;simp only[go_sem,h0,q,o,z,c3,L,wF,<-j,Yd]
   |true=>
   simp only[iw,J,z,c3,Gy,GE,GR] at j;rcases nI i with hz|hz
   ·have u:decide ((0:Int)<(i:Int))=false:=Gp (by omega);simp only[go_sem,u,h0,q,o,z,c3,L,wF,Yd];exact⟨i+1,by omega,by omega,by rw[p],by rw[En o];simpa [ns,hz] using j⟩
   ·have u:decide ((0:Int)<(i:Int))=true:=Gu (by omega);have E:IntKind.i64.wrap ((i:Int)-1)=((i-1:Nat):Int):=ug hz (by omega);obtain⟨y,O,-⟩:=aZ (l:=l) (i:=i-1) (by omega);have T:ns l i=some y:=by simp[ns,Nat.ne_of_gt hz,O]
    have I:=ks D y.key x.key (by have:=N.at O;omega) (by have:=N.at o;omega);rw[T] at j;simp only at j;simp only[go_sem,h0,q,o,z,c3,L,wF,Yd,u,E,O,I,Lt];cases w:bQ y.key x.key with
    |false=>
     rw[w] at j;simp only[bQ] at w;simp only[Gm] at j;simp only[go_sem,w,<-j]
    |true=>
     rw[w] at j;simp only[bQ] at w;simp only[Gy] at j;simp only[go_sem,h0,q,w];exact⟨i+1,by omega,by omega,by rw[p],by rw[En o];exact j⟩
  ·have h:=YC hi h;subst h;rw[GQ] at j;simp only[gc] at j;simp only[go_sem,<-j]
def uR:=HpC 202 F202 H8
def Bc (h:uR Pg) (l:List aF) (o:Sm l):K' Pg 202 [Yf l,Yf l]=some (.bool true):=by
 have⟨h,w⟩:=h;have p:=o.len;refine aA h rfl ?_;simp only[go_sem];unfold l202_0;refine bu (fun (i:Nat) S=>i<=l.length/\S.ρ 0=Yf l/\S.ρ 1=Yf l/\S.ρ 5=iz i) (fun i=>l.length-i) 0 ?_ ?_
 ·simp[go_sem]
 ·intro i S ⟨hi,h0,h1,j⟩;simp only[go_sem,h0,j];refine aY (fun h=>?_) (fun h=>?_)
  ·have h:=Yj h;have⟨x,q,y⟩:=aZ h;have u:=K8 w x.chain x.chain (by have:=o.at q;omega);simp only[Yd,jS] at u;simp only[go_sem,h0,h1,j,q,Yd,u];exact⟨i+1,by omega,by omega,by rw[Yn h (by omega)]⟩
  ·simp only[go_sem]
def cw (k:mp):List aF->Nat
 |[]=>0
 |e::l=>if bQ e.key k then cw k l+1 else 0
theorem wE {k:mp}:∀(l:List aF),cw k l<=l.length
 |[]=>GC _
 |e::l=>by
  have:=wE (k:=k) l;simp only[cw,List.length_cons];split<;>omega
theorem CC {k:mp}:∀ {l:List aF} {j:Nat} {e:aF}, j < cw k l -> l[j]? = some e -> bQ e.key k=true
  | [], _, _, h, _ => by simp [cw] at h
  | a :: l, j, e, h, he => by
    simp only [cw] at h;split at h
    · rename_i o
      cases j with
      | zero => obtain rfl:a=e:=by simpa using he
                exact o
      | succ j => exact CC (l:=l) (j:=j) (by omega) (by simpa using he)
    · omega
theorem CK:∀{l:List aF} {p:Option aF},gc p l=true->(∀q,p=some q->∀e∈l,bQ q.key e.key=true)/\l.Pairwise (fun a b=>bQ a.key b.key=true)/\∀e∈l,iw e=true
 |[],_,_=>⟨fun _ _=>by simp,.nil,by simp⟩
 |e::l,p,h=>by
  simp only[gc,Ge] at h;have⟨h1,o,y⟩:=h;have⟨j,u,w⟩:=CK y;have j:=j e rfl;refine⟨?_,GT.2 ⟨j,u⟩,fun x hx=>?_⟩
  ·rintro q rfl x hx;simp only at o;rcases GH.1 hx with rfl|hx
   ·exact o
   ·have:=j x hx;rw[oM] at o this ⊢;exact sN (by omega) this
  ·rcases GH.1 hx with rfl|hx
   ·exact h1
   ·exact w x hx
def Zf:∀{l:List aF},gc none l=true↔l.Pairwise (fun a b=>bQ a.key b.key=true)/\∀e∈l,iw e=true:=by
 intro l;refine⟨fun h=>(CK h).2,fun⟨h1,j⟩=>?_⟩
 suffices ∀(l:List aF) (p:Option aF),l.Pairwise (fun a b=>bQ a.key b.key=true)->(∀e∈l,iw e=true)->(∀q,p=some q->∀e∈l,bQ q.key e.key=true)->gc p l=true from this l none h1 j (fun _ h=>by simp at h)
 intro l
 induction l with
 |nil=>intros;rfl
 |cons e l B=>
  intro p h1 j y;have⟨u,w⟩:=GT.1 h1;simp only[gc,Ge];refine⟨j e (by simp),?_,B (some e) w (fun x o=>j x (by simp[o])) (fun q z x o=>by
   obtain rfl:e=q:=by simpa using z
   exact u x o)⟩
  cases p with
  |none=>rfl
  |some q=>exact y q rfl e (by simp)
def jv {l:List aF}:ck l=true↔l.length<=64/\l.Pairwise (fun a b=>bQ a.key b.key=true)/\∀e∈l,iw e=true:=by
 simp only[ck,Ge,Gj,Zf]
def Ps {l o:List aF} (h:ck l=true) (j:o.Sublist l):ck o=true:=by
 rw[jv] at h ⊢;exact⟨GI j.length_le h.1,h.2.1.sublist j,fun e p=>h.2.2 e (j.subset p)⟩
def oK {e:aF}:iw e=true↔aS e.key=true/\e.chain≠[]/\Yh e.chain=true:=by simp[iw]
def Kw {c:List bz} (h:Yh c=true):c.length<=64:=by simp only[Yh,Ge,Gj] at h;exact h.2
def KO {l:List aF} (h:ck l=true):Sm l:=by
 rw[jv] at h;refine⟨by omega,fun e o=>?_⟩;obtain⟨h1,-,j⟩:=oK.1 (h.2.2 e o);have:=Kw j;have:=ir h1;omega
theorem yb {k:mp}:∀ {l:List aF} {p:Option aF} {j:Nat} {e:aF}, gc p l=true -> cw k l <= j -> l[j]? = some e -> bQ e.key k=false
  | [], _, _, _, _, _, he => by simp at he
  | a :: l, p, j, e, h, hj, he => by
    have q:=CK h;simp only [gc, Ge] at h;simp only [cw] at hj;split at hj
    · rename_i o
      cases j with
      | zero => omega
      | succ j => exact yb (l:=l) (j:=j) h.2.2 (by omega) (by simpa using he)
    · rename_i o
      have o:bQ a.key k=false:=by simpa using o
      cases j with
      | zero => obtain rfl:a=e:=by simpa using he
                exact o
      | succ j =>
        have:=(GT.1 q.2.1).1 e (List.mem_of_getElem? (by simpa using he))
        simp only [bQ, Gj, Gs] at this o ⊢
        exact fun h => o (sN (by omega) h)
def yZ:=HpC 226 F226 kc
def Hm (h:yZ Pg) (e:aF) (k:mp):K' Pg 226 [.agg (dk e),.str k]=some (iz (YD (Yu e.key) (Yu k))):=by
 have⟨h,j⟩:=h;have o:=ku j e.key k;refine aA h rfl ?_;simp only[go_sem,o]
def yY:=HpZ 225 F225
def Hl (h:yY Pg) (l:List aF) (s:mp) (g:Nat) (f:Nat->Int) (n:Nat) (U:l.length<2^60)
  (H:∀i v,l[i]?=some v->K' Pg g [.agg (dk v),.str s]=some (iz (f i))) (T:n<=l.length) (h1:∀j,j<n->f j<0) (Q:∀j,n<=j->j<l.length->0<=f j) :
  K' Pg 225 [Yf l,.str s,.func g []]=some (.tuple [iz n,.bool (decide (n<l.length)&&decide (f n=0))]):=by
 refine aA h rfl ?_
 simp only[dk,Yd] at H
 simp only[go_sem]
 unfold l225_0
 refine bu (fun (p:Nat×Nat) S=>p.1<=n/\n<=p.2/\p.2<=l.length/\S.ρ 0=Yf l/\S.ρ 1=.str s/\S.ρ 2=.func g []/\S.ρ 8=iz l.length/\S.ρ 9=iz p.1/\S.ρ 10=iz p.2) (fun p=>p.2-p.1) (0,l.length) ?_ ?_
 ·simp[go_sem,T]
 ·intro⟨i,j⟩ S ⟨hi,J,z,h0,D,u,E,y,q⟩
  simp only at hi J z y q
  simp only[go_sem,y,q]
  refine aY (fun h=>?_) (fun h=>?_)
  ·simp only[Gj,GW] at h
   have L:IntKind.i64.wrap ((i:Int)+j)=(i:Int)+j:=bv (by omega) (by omega)
   have M:IntKind.u64.wrap ((i:Int)+j)=(i:Int)+j:=_root_.Go.IntWalk.u64_in _ ⟨by omega,by omega⟩
   have N:Int.fdiv ((i:Int)+j) 2=(((i+j) / 2:Nat):Int):=by
    rw[Dg _ (by omega)];omega
   have O:IntKind.i64.wrap ((((i+j) / 2:Nat):Int))=(((i+j) / 2:Nat):Int):=bv (by omega) (by omega)
   have P:IntKind.i64.wrap ((((i+j) / 2:Nat):Int)+1)=(((i+j) / 2+1:Nat):Int):=bv (by omega) (by omega)
   have⟨x,B,R⟩:=aZ (l:=l) (i:=(i+j) / 2) (by omega)
   have w:=H _ _ B
   simp only[go_sem,h0,D,u,y,q,L,M,N,O,B,w,Yd]
   refine aY (fun o=>?_) (fun o=>?_)
   ·simp only[go_sem,h0,D,u,E,q,P]
    have I:f ((i+j) / 2)<0:=by simpa using o
    refine⟨((i+j) / 2+1,j),by simp only;omega,?_,J,z,rfl,rfl⟩
    simp only
    rcases GF ((i+j) / 2) n with h'|h'
    ·exact h'
    ·have:=Q _ h' (by omega);omega
   ·simp only[go_sem,h0,D,u,E,y]
    have I:¬f ((i+j) / 2)<0:=by simpa using o
    refine⟨(i,(i+j) / 2),by simp only;omega,hi,?_,by simp only;omega,rfl,rfl⟩
    simp only
    rcases GF ((i+j) / 2) n with h'|h'
    ·exact absurd (h1 _ h') I
    ·exact h'
  ·simp only[Gs,GW] at h
   have:i=n:=by omega
   subst this
   simp only[go_sem,E,y]
   refine io (fun o=>?_) (fun o=>?_)
   ·simp only[Gj,GW] at o
    have⟨x,B,R⟩:=aZ o
    have w:=H _ _ B
    simp only[go_sem,h0,D,u,y,B,w,Yd,o,jS,GW]
   ·simp only[Gs,GW] at o
    simp only[go_sem,o,mu,GW]
def fa (k:mp) (l:List aF):Bool:=match l[cw k l]? with
 |none=>false
 |some e=>decide (YD (Yu e.key) (Yu k)=0)
def nM:=HpC 220 F220<|HpA yY<|yZ
def so (h:nM Pg) (l:List aF) (k:mp) (z:ck l=true):K' Pg 220 [Yf l,.str k]=some (.tuple [iz (cw k l),.bool (fa k l)]):=by
 have⟨h,q,u⟩:=h;have E:=(KO z).len;have B:gc none l=true:=by simp only[ck,Ge] at z;exact z.2
 have o:=Hl q l k 226 (fun i=>match l[i]? with|none=>0|some e=>YD (Yu e.key) (Yu k)) (cw k l) (by omega) (fun i v D=>by
  simp only[D];exact Hm u v k) (wE l) (fun j w=>by
  obtain⟨x,p,-⟩:=aZ (G6 w (wE l));simp only[p];exact oM.1 (CC w p)) (fun j w y=>by
  obtain⟨x,p,-⟩:=aZ y;simp only[p];have:=yb B w p;simp only[bQ,Gs] at this;omega)
 have e:(decide (cw k l<l.length)&&decide ((match l[cw k l]? with|none=>0|some e=>YD (Yu e.key) (Yu k))=0))=fa k l:=by
  unfold fa;cases p:l[cw k l]? with
  |none=>
   have:¬cw k l<l.length:=by have:=List.getElem?_eq_none_iff.1 p;omega
   simp[this]
  |some x=>have:=(List.getElem?_eq_some_iff.1 p).1;simp[this]
 rw[e] at o;simp only[Yf] at o;refine aA h rfl ?_;simp only[go_sem,o]
def EU (z n:Nat):Option (Nat×List Eq×Fz)->Option V
 |some (z',rows,.live)=>if z'=z/\rows.length=n then some (.slice z rows) else none
 |_=>none
@[go_sem] theorem Ym2 {z n:Nat} {rows:List Eq}:EU z n (some (z,rows,.live))=if rows.length=n then some (.slice z rows) else none:=by simp[EU]
@[go_sem] theorem Ym7 {A:Nat->Option (Nat×List Eq×Fz)} {s z n:Nat}:oj A (some 0) 0 (.own s z n)=EU z n (A s):=by
 unfold oj EU;rw[Gt rfl]
 rfl
def Xj {α:Type} {L:List α} {i:Nat} {r:α} (h:L[i]?=some r):L.set i r=L:=by
 obtain⟨hi,rfl⟩:=List.getElem?_eq_some_iff.1 h;exact List.set_getElem_self hi
def Zq {α:Type} {L D:List α} {j:Nat} {r:α} (h:j<=L.length):(L.take j++r::D)[j]?=some r:=by
 have e:(L.take j).length=j:=by rw[GK];omega
 rw[List.getElem?_append_right (by omega),e];simp
def Zr {α:Type} {L D:List α} {j:Nat} {r o:α} (h:j<=L.length):(L.take j++r::D).set j o=L.take j++o::D:=by
 have e:(L.take j).length=j:=by rw[GK];omega
 rw[List.set_append_right _ _ (by omega),e];simp
def Qs {α:Type} {L:List α} {j:Nat} {r:α} (h:j<L.length):L.set j r=L.take j++r::L.drop (j+1):=by
 rw[List.set_eq_take_append_cons_drop,Gt h]
def zb (Pg:PgT):Prop:=Pg 227=some (.prim (some 0) (bJ 2))
def Hn (h:zb Pg) (rows:List Eq) (j:rows.length<=aU):K' Pg 227 [.slice 2 rows]=some (.slice 2 rows):=by
 rw[tT h];simp[bJ,j]
def ru:=HpC 221 F221<|HpA Di<|zb
def oo (h:ru Pg) (l:List aF) (D:Sm l):K' Pg 221 [Yf l]=some (Yf l):=by
 have⟨h,p,j⟩:=h;have E:=D.len;have o:=Hn j (l.map dk) (by simp[aU];omega);refine aA h rfl ?_;simp only[go_sem,o];unfold l221_0;refine bu (fun (i:Nat) S=>i<=l.length/\S.ρ 3=.own 6 2 l.length/\S.A 6=some (2,l.map dk,.live)/\S.ρ 8=iz l.length/\S.ρ 9=iz i) (fun i=>l.length-i) 0 ?_ ?_
 ·simp[go_sem]
 ·intro i S ⟨hi,y,w,z,B⟩;simp only[go_sem,z,B];refine aY (fun h=>?_) (fun h=>?_)
  ·have h:=Yj h;have⟨x,q,I⟩:=aZ h;have u:=Ho p (x.chain.map dv) (by have:=D.at q;simp[aU];omega);have H:(l.map dk).set i [.str x.key,.slice 5 (x.chain.map dv)]=l.map dk:=Xj (by rw[List.getElem?_map,q];rfl);simp only[go_sem,y,w,z,B,h,q,Yd,u,H];exact⟨i+1,by omega,by omega,by rw[Yn h (by omega)]⟩
  ·simp only[go_sem,y,w]
def PJ {a b:mp} (j:aS a=true) (o:aS b=true) (h:YD (Yu a) (Yu b)=0):a=b:=by
 simp only[aS,Ge] at j o;have:∀{l:mp},aS l=true->bK l.length l=true:=fun {l} h=>by
  simp only[aS,Ge] at h
  first|exact h.1|exact h.2.1|exact h.2.2
 exact iD a.length a b (GC _) (this (by simp only[aS,Ge];exact j)) (this (by simp only[aS,Ge];exact o)) (KY _ _ h)
def cU (k:mp) (l:List aF):List bz:=if fa k l then (match l[cw k l]? with|some e=>e.chain|none=>[]) else []
def jC (l:List aF) (k:mp) (c:List bz):List aF:=l.take (cw k l)++⟨k,c⟩::l.drop (cw k l+if fa k l then 1 else 0)
def ej (l:List aF) (k:mp) (v:bz):List aF×Int:=
 if ck l&&aS k then (if (bZ (cU k l) v).2=0 then (if (!fa k l&&decide (l.length=64))=true then ([],6) else (jC l k (bZ (cU k l) v).1,0)) else ([],(bZ (cU k l) v).2)) else ([],1)
@[go_sem] def uq (x:List aF×Int):V:=.tuple [Yf x.1,iz x.2]
def Ec {k:mp} {l:List aF} (h:fa k l=true):∃e,l[cw k l]?=some e/\YD (Yu e.key) (Yu k)=0:=by
 unfold fa at h;split at h
 ·simp at h
 ·rename_i e j;exact⟨e,j,Gc h⟩
def Kr {k:mp} {l:List aF} (q:ck l=true) (p:aS k=true) (h:fa k l=true):∃e,l[cw k l]?=some e/\e.key=k:=by
 have⟨e,j,o⟩:=Ec h;have:=(jv.1 q).2.2 e (List.mem_of_getElem? j);exact⟨e,j,PJ (oK.1 this).1 p o⟩
def Xb {k:mp} {l:List aF} (o:Sm l):(cU k l).length<=10000:=by
 unfold cU;split
 ·split
  ·rename_i e j;exact (o.at j).1
  ·simp
 ·simp
def uQ:=HpC 200 F200<|HpA H3<|HpA lB<|HpA kd<|HpA nM<|ru
def Ba (h:uQ Pg) (l:List aF) (k:mp) (v:bz) (P:Sm l):K' Pg 200 [Yf l,.str k,.agg (dv v)]=some (uq (ej l k v)):=by
 have⟨h,W,E,H,I,J⟩:=h;have j:=kv H l P;have o:=kr E k;have y:=oo J l P;have T:=P.len;simp only[Yf] at j y;refine aA h rfl ?_;cases q:ck l with
 |false=>simp only[go_sem,j,q,ej]
 |true=>
 cases u:aS k with
 |false=>simp only[go_sem,j,o,q,u,ej]
 |true=>
 have p:=so I l k q;have k3:=K3 W (cU k l) v (by have:=Xb (k:=k) P;omega);have U:=wE (k:=k) l;simp only[Yf] at p;cases c3:fa k l with
 |true=>
  have⟨e,O,X⟩:=Kr q u c3;have S:=(List.getElem?_eq_some_iff.1 O).1;have z:cU k l=e.chain:=by simp only[cU,c3,O,Gw]
  rw[z] at k3;simp only[Yd,dv] at k3;cases w:decide ((bZ e.chain v).2=0) with
  |false=>
   have hm:ej l k v=([],(bZ e.chain v).2):=by simp only[ej,q,u,z,Ga w,GL,Gw,Gv]
   rw[hm];simp only[go_sem,j,o,p,k3,q,u,c3,w,O,Yd]
  |true=>
   have hm:ej l k v=(jC l k (bZ e.chain v).1,0):=by simp only[ej,q,u,c3,z,Gc w,GL,Gw,Gx,Gm,Gl,Gv]
   have Y:(l.map dk).set (cw k l) [.str e.key,.slice 5 ((bZ e.chain v).1.map dv)]=(jC l k (bZ e.chain v).1).map dk:=by
    rw[Qs (by simpa using S),X];simp[jC,c3,dk,Yd]
   have hz:(jC l k (bZ e.chain v).1).length=l.length:=by simp[jC,c3];omega
   rw[hm];simp only[go_sem,j,o,p,k3,y,q,u,c3,w,O,Yd,S,Y,hz]
 |false=>
  have z:cU k l=[]:=by simp only[cU,c3,Gl,Gv]
  rw[z] at k3;simp only[Yd,dv,Gk] at k3;cases w:decide ((bZ [] v).2=0) with
  |false=>
   have hm:ej l k v=([],(bZ [] v).2):=by simp only[ej,q,u,z,Ga w,GL,Gw,Gv]
   rw[hm];simp only[go_sem,j,o,p,k3,q,u,c3,w]
  |true=>
  cases N:decide ((l.length:Int)=64) with
  |true=>
   have B:l.length=64:=by have:=Gc N;omega
   have hm:ej l k v=([],6):=by simp only[ej,q,u,c3,B,z,Gc w,GL,Gw,GR,jS]
   rw[hm];simp only[go_sem,j,o,p,k3,q,u,c3,w,N]
  |false=>
   have B:¬l.length=64:=by have:=Ga N;omega
   have hm:ej l k v=(jC l k (bZ [] v).1,0):=by simp only[ej,q,u,c3,B,z,Gc w,GL,Gw,GR,mu,Gy,Gl,Gv]
   have L:l.length+1<=aU:=by simp only[aU];omega
   have M:cw k l<=(l.map dk).length:=by simpa using U
   have Q:cw k l<l.length+1:=by omega
   have Z:∀r D,((l.map dk).take (cw k l)++r::D)[cw k l]?=some r:=fun r D=>Zq M;have q2:∀r R D,((l.map dk).take (cw k l)++r::D).set (cw k l) R=(l.map dk).take (cw k l)++R::D:=fun r R D=>Zr M;have q3:((l.map dk).take (cw k l)).length+(((l.map dk).drop (cw k l)).length+1)=l.length+1:=by
    rw[GK,GP,Gi];omega
   have q4:(jC l k (bZ [] v).1).map dk=(l.map dk).take (cw k l)++[.str k,.slice 5 ((bZ [] v).1.map dv)]::(l.map dk).drop (cw k l):=by
    simp[jC,c3,dk,Yd]
   rw[hm];simp only[go_sem,j,o,p,k3,y,q,u,c3,w,N,U,L,Q,Z,q2,q3,q4]
abbrev It:=mp×mp
@[go_sem] def tj (x:It):Eq:=[.str x.1,.str x.2]
@[go_sem] def CW (l:List It):V:=.slice 2 (l.map tj)
def yx (k lo hi:mp):Bool:=jf lo k&&(decide (hi=[])||bQ k hi)
def lv (hi:mp) (s:aB) (e:aF):Option It:=if decide (hi=[])||bQ e.key hi then (gR s e.chain).map fun v=>(e.key,v) else none
def oU (lo hi:mp) (s:aB) (e:aF):Option It:=if yx e.key lo hi then (gR s e.chain).map fun v=>(e.key,v) else none
def jz (l:List aF) (lo hi:mp) (s:aB):List It:=l.filterMap (oU lo hi s)
def wV (a:List It) (n:Nat):List It×mp×Bool:=if a.length<=n then (a,[],false) else (a.take n,(a[n]?.map Prod.fst).getD [],true)
def lZ (l:List aF) (lo hi:mp) (s:aB) (limit:Int):List It×mp×Bool:=wV (jz l lo hi s) limit.toNat
@[go_sem] def ET (x:List It×mp×Bool):V:=.tuple [CW x.1,.str x.2.1,.bool x.2.2]
def qP (hi:mp) (s:aB) (n:Nat):List aF->List It->List It×mp×Bool
 |[],out=>(out,[],false)
 |e::t,out=>if !decide (hi=[])&&!bQ e.key hi then (out,[],false) else match gR s e.chain with
  |none=>qP hi s n t out
  |some v=>if n<=out.length then (out,e.key,true) else qP hi s n t (out++[(e.key,v)])
theorem CG {hi:mp} {s:aB} {n:Nat}:∀{t:List aF} {out:List It},t.Pairwise (fun a b=>bQ a.key b.key=true)->out.length<=n->
  qP hi s n t out=if out.length+(t.filterMap (lv hi s)).length<=n then (out++t.filterMap (lv hi s),[],false) else (out++(t.filterMap (lv hi s)).take (n-out.length),((t.filterMap (lv hi s))[n-out.length]?.map Prod.fst).getD [],true)
 |[],out,_,ho=>by simp[qP,ho]
 |e::t,out,hp,ho=>by
  have⟨z,j⟩:=GT.1 hp;simp only[qP];cases B:decide (hi=[]) with
  |false=>
   cases q:bQ e.key hi with
   |false=>
    have D:(e::t).filterMap (lv hi s)=[]:=List.filterMap_eq_nil_iff.2 fun x hx=>by
     have:bQ x.key hi=false:=by
      rcases GH.1 hx with rfl|hx
      ·exact q
      ·have h1:=z x hx;simp only[bQ,Gj,Gs] at q h1 ⊢;exact fun h=>q (sN (by omega) h)
     simp[lv,B,this]
    simp[D,ho]
   |true=>
    have y:lv hi s e=(gR s e.chain).map fun v=>(e.key,v):=by simp[lv,q]
    simp only[Gx,Gq,Gl,Gv,List.filterMap_cons,y];cases c3:gR s e.chain with
    |none=>simp only[Option.map_none];exact CG j ho
    |some v=>
     simp only[Option.map_some];by_cases o:n<=out.length
     ·have u:n=out.length:=by omega
      rw[Gt o,Gn (by simp only[List.length_cons];omega)];simp[u]
     ·rw[Gn o,CG j (by simp;omega)];have p:n-out.length=(n-(out++[(e.key,v)]).length)+1:=by simp;omega
      simp only[Gf,List.length_cons,List.length_nil] at p ⊢;rw[p];simp only[List.take_succ_cons,List.getElem?_cons_succ,GX,List.cons_append,List.nil_append];have w:(out.length+(0+1)+(t.filterMap (lv hi s)).length<=n)=(out.length+((t.filterMap (lv hi s)).length+1)<=n):=propext (by omega);simp only[w]
  |true=>
   have y:lv hi s e=(gR s e.chain).map fun v=>(e.key,v):=by simp[lv,B]
   simp only[Gx,Gm,Gl,Gv,List.filterMap_cons,y];cases c3:gR s e.chain with
   |none=>simp only[Option.map_none];exact CG j ho
   |some v=>
    simp only[Option.map_some];by_cases o:n<=out.length
    ·have u:n=out.length:=by omega
     rw[Gt o,Gn (by simp only[List.length_cons];omega)];simp[u]
    ·rw[Gn o,CG j (by simp;omega)];have p:n-out.length=(n-(out++[(e.key,v)]).length)+1:=by simp;omega
     simp only[Gf,List.length_cons,List.length_nil] at p ⊢;rw[p];simp only[List.take_succ_cons,List.getElem?_cons_succ,GX,List.cons_append,List.nil_append];have w:(out.length+(0+1)+(t.filterMap (lv hi s)).length<=n)=(out.length+((t.filterMap (lv hi s)).length+1)<=n):=propext (by omega);simp only[w]
theorem Pb {α β:Type} {f g:α->Option β}:∀{l:List α},(∀x∈l,f x=g x)->l.filterMap f=l.filterMap g
 |[],_=>rfl
 |a::l,h=>by simp only[List.filterMap_cons,h a (by simp),Pb (l:=l) fun x j=>h x (by simp[j])]
theorem OA {lo hi:mp} {s:aB}:∀{l:List aF} {p:Option aF},gc p l=true->jz l lo hi s=(l.drop (cw lo l)).filterMap (lv hi s)
 |[],_,_=>rfl
 |e::l,p,h=>by
  have u:=CK h;simp only[gc,Ge] at h;have j:∀x:aF,jf lo x.key=!bQ x.key lo:=fun x=>by
   have:=xO (Yu x.key) (Yu lo);simp only[jf,bQ];by_cases c:YD (Yu x.key) (Yu lo)<0<;>simp[c]<;>omega
  simp only[cw];cases c:bQ e.key lo with
  |true=>
   have q:oU lo hi s e=none:=by simp[oU,yx,j,c]
   have o:=OA (lo:=lo) (hi:=hi) (s:=s) h.2.2;simp only[jz] at o;simp only[jz,List.filterMap_cons,q,o,Gw,List.drop_succ_cons]
  |false=>
   simp only[Gl,Gv,tF,jz];refine Pb fun x hx=>?_;have:bQ x.key lo=false:=by
    rcases GH.1 hx with rfl|hx
    ·exact c
    ·have h1:=(GT.1 u.2.1).1 x hx;simp only[bQ,Gj,Gs] at c h1 ⊢;exact fun h=>c (sN (by omega) h)
   simp[oU,lv,yx,j,this]
def ye {l:List aF} (h:ck l=true):gc none l=true:=by simp only[ck,Ge] at h;exact h.2
def Zn {l:List aF} {lo hi:mp} {s:aB} {limit:Int} (j:ck l=true):qP hi s limit.toNat (l.drop (cw lo l)) []=lZ l lo hi s limit:=by
 have o:=(jv.1 j).2.1;rw[CG (o.sublist (List.drop_sublist _ _)) (GY _),lZ,OA (ye j),wV];simp
def OY {l:List aF} {lo hi:mp} {s:aB}:(jz l lo hi s).length<=l.length:=List.length_filterMap_le _ _
def yR:=HpC 206 F206<|HpA E8<|HpA kc<|HpA kd<|nM
def Hg (h:yR Pg) (l:List aF) (lo hi:mp) (s:aB) (limit:Int) (hl:Sm l):K' Pg 206 [Yf l,.str lo,.str hi,.agg (Ye s),iz limit]=some (ET (if ck l then lZ l lo hi s limit else ([],[],false))):=by
 have⟨h,aa,R,T,U⟩:=h;have D:=kv T l hl;have B:=fun x=>ku R x hi;have ad:=hl.len;simp only[Yf] at D;refine aA h rfl ?_;cases Y:ck l with
 |false=>simp only[go_sem,D,Y]
 |true=>
 have H:=so U l lo Y;have hp:=wE (k:=lo) l;simp only[Yf] at H;have af:cw lo l<=(l.map dk).length:=by simpa using hp
 rw[Gt rfl,<-Zn Y];simp only[go_sem,D,H,Y,hp];have N:(l.drop (cw lo l)).length<=10000:=by rw[GP];omega
 have hm:∀(i:Nat) (x:aF),(l.drop (cw lo l))[i]?=some x->x.chain.length<=10000:=fun i x hx=>(hl.2 x (tH (List.mem_of_getElem? hx))).1;rw[tG (show (l.map dk).length<=l.length by simp),<-nJ];generalize l.drop (cw lo l)=m at N hm;simp only[Gi];unfold l206_0;refine bu (fun (x:Nat×List It) S=>(x.1<=m.length/\x.2.length<=x.1)/\S.ρ 2=.str hi/\S.ρ 4=iz limit/\S.ρ 8=.lref 8 0/\S.μ 8=some (Ye s,false)/\S.A 13=some (2,x.2.map tj,.live)/\S.ρ 13=.own 13 2 x.2.length/\S.μ 17=none/\S.ρ 31=Yf m/\S.ρ 32=iz m.length/\S.ρ 33=iz x.1/\qP hi s limit.toNat (m.drop x.1) x.2=qP hi s limit.toNat m []) (fun x=>m.length-x.1) (0,[]) ?_ ?_
 ·simp[go_sem]
 ·intro⟨i,out⟩ S ⟨⟨W,ab⟩,I,J,L,m8,q,p,ac,y,z,u,j⟩;simp only at W ab q p u j;simp only[go_sem,z,u];refine aY (fun h=>?_) (fun h=>?_)
  ·have h:=Yj h;have⟨x,hx,hd⟩:=aZ h;have o:=F2 aa x.chain s (by have:=hm i x hx;omega);simp only[Yd,Ye] at o;have w:IntKind.i64.wrap ((i:Int)+1)=((i+1:Nat):Int):=Yn h (by omega);have M:decide (0<=YD (Yu x.key) (Yu hi))=!bQ x.key hi:=by
    simp only[bQ];by_cases c:YD (Yu x.key) (Yu hi)<0<;>simp[c]<;>omega
   rw[hd] at j;simp only[qP] at j;simp only[go_sem,I,ac,y,u,hx,Yd];cases Z:(!decide (hi=[])&&!bQ x.key hi) with
   |true=>
    have O:decide (hi=[])=false/\bQ x.key hi=false:=by simpa using Z
    rw[Z] at j;simp only[Gw] at j;simp only[go_sem,I,J,L,m8,q,p,y,z,u,B,M,O.1,O.2,<-j]
   |false=>
    rw[Z] at j;simp only[Gl,Gv] at j;have ae:∀S:St,S.ρ 2=.str hi->S.ρ 4=iz limit->S.ρ 8=.lref 8 0->True:=fun _ _ _ _=>GN;have X:decide (limit<=(out.length:Int))=decide (limit.toNat<=out.length):=GO.2 (by omega);have E:out.length+1<=aU:=by simp only[aU];omega
    cases c3:decide (hi=[]) with
    |true=>
     cases P:gR s x.chain with
     |none=>
      rw[P] at o j;simp only[Option.getD_none,Option.isSome_none] at o j;simp only[go_sem,I,J,L,m8,q,p,y,z,u,o];exact⟨(i+1,out),by simp only;omega,⟨by simp only;omega,by simp only;omega⟩,rfl,rfl,by simp only[w],j⟩
     |some v=>
      rw[P] at o j;simp only[Option.getD_some,Option.isSome_some] at o j;simp only[go_sem,J,L,m8,p,o,X];cases Q:decide (limit.toNat<=out.length) with
      |true=>
       rw[Gt (Gc Q)] at j;simp only[go_sem,q,p,<-j]
      |false=>
       rw[Gn (Ga Q)] at j;simp only[go_sem,I,J,L,m8,q,p,y,z,u,E];exact⟨(i+1,out++[(x.key,v)]),by simp only;omega,⟨by simp only;omega,by simp;omega⟩,by simp[tj],by simp,by simp only[w],j⟩
    |false=>
     have c6:bQ x.key hi=true:=by simpa [c3] using Z
     cases P:gR s x.chain with
     |none=>
      rw[P] at o j;simp only[Option.getD_none,Option.isSome_none] at o j;simp only[go_sem,I,J,L,m8,q,p,y,z,u,B,M,c6,o];exact⟨(i+1,out),by simp only;omega,⟨by simp only;omega,by simp only;omega⟩,rfl,rfl,by simp only[w],j⟩
     |some v=>
      rw[P] at o j;simp only[Option.getD_some,Option.isSome_some] at o j;simp only[go_sem,I,J,L,m8,p,B,M,c6,o,X];cases Q:decide (limit.toNat<=out.length) with
      |true=>
       rw[Gt (Gc Q)] at j;simp only[go_sem,q,p,<-j]
      |false=>
       rw[Gn (Ga Q)] at j;simp only[go_sem,I,J,L,m8,q,p,y,z,u,E];exact⟨(i+1,out++[(x.key,v)]),by simp only;omega,⟨by simp only;omega,by simp;omega⟩,by simp[tj],by simp,by simp only[w],j⟩
  ·have h:=YC W h;subst h;rw[GQ] at j;have j:(out,[],false)=qP hi s limit.toNat m []:=j;simp only[go_sem,q,p,<-j]
def LG {α β:Type} {l:List α} {f:α->Option β} {i:Nat} {x:α} (j:l[i]?=some x):(l.take (i+1)).filterMap f=(l.take i).filterMap f++(f x).toList:=by
 rw[YW j,List.filterMap_append];cases h:f x<;>simp[h]
def yX:=HpC 224 F224<|HpA E9<|ro
def Hk (h:yX Pg) (l:List aF) (lo hi:mp) (s:aB) (P:Sm l) (h1:lo.length<=10000) (U:hi.length<=10000):K' Pg 224 [Yf l,.str lo,.str hi,.agg (Ye s)]=some (CW (jz l lo hi s)):=by
 have⟨h,B,D⟩:=h;have Q:=P.len;refine aA h rfl ?_;simp only[go_sem];unfold l224_0;refine bu (fun (i:Nat) S=>i<=l.length/\S.ρ 0=Yf l/\S.ρ 1=.str lo/\S.ρ 2=.str hi/\S.ρ 7=.lref 7 0/\S.μ 7=some (Ye s,false)/\S.A 9=some (2,(jz (l.take i) lo hi s).map tj,.live)/\S.ρ 9=.own 9 2 (jz (l.take i) lo hi s).length/\S.ρ 10=iz i) (fun i=>l.length-i) 0 ?_ ?_
 ·simp[go_sem,jz]
 ·intro i S ⟨N,h0,u,w,M,m7,z,E,p⟩;simp only[go_sem,h0,p];refine aY (fun h=>?_) (fun h=>?_)
  ·have h:=Yj h;have⟨x,J,W⟩:=aZ h;have T:=P.at J;have L:=NZ B x.chain s (by omega);have o:=vN D x.key lo hi (by omega) (by omega) (by omega);simp only[Yd,Ye] at L;have q:IntKind.i64.wrap ((i:Int)+1)=((i+1:Nat):Int):=Yn h (by omega);have j:=LG (f:=oU lo hi s) J;have R:(jz (l.take i) lo hi s).length<=i:=GI OY (by simp;omega);have I:(jz (l.take i) lo hi s).length+1<=aU:=by simp only[aU];omega
   simp only[go_sem,h0,M,m7,p,J,Yd,L];cases O:gR s x.chain with
   |none=>
    have H:oU lo hi s x=none:=by simp[oU,O]
    rw[H] at j;simp only[Option.toList_none,GD] at j;simp only[go_sem,h0,u,w,M,m7,z,E,p,Option.isSome_none];exact⟨i+1,by omega,by omega,by simp only[jz] at j ⊢;rw[j],by simp only[jz] at j ⊢;rw[j],by rw[q]⟩
   |some v=>
    cases y:yx x.key lo hi with
    |false=>
     have H:oU lo hi s x=none:=by simp[oU,y]
     rw[H] at j;simp only[yx] at y;rw[y] at o;simp only[Option.toList_none,GD] at j;simp only[go_sem,h0,u,w,M,m7,z,E,p,J,Yd,o,Option.isSome_some];exact⟨i+1,by omega,by omega,by simp only[jz] at j ⊢;rw[j],by simp only[jz] at j ⊢;rw[j],by rw[q]⟩
    |true=>
     have H:oU lo hi s x=some (x.key,v):=by simp[oU,O,y]
     rw[H] at j;simp only[yx] at y;rw[y] at o;simp only[Option.toList_some] at j;simp only[go_sem,h0,u,w,M,m7,z,E,p,J,Yd,o,Option.isSome_some,Option.getD_some,I];exact⟨i+1,by omega,by omega,by simp only[jz] at j ⊢;rw[j];simp[tj],by simp only[jz] at j ⊢;rw[j];simp,by rw[q]⟩
  ·have h:=YC N h;subst h;rw[GB] at z E;simp only[go_sem,z,E]
def yS:=HpC 207 F207 yX
def Bf (h:yS Pg) (l:List aF) (lo hi:mp) (s:aB) (limit:Int) (D:Sm l) (h1:lo.length<=10000) (H:hi.length<=10000):K' Pg 207 [Yf l,.str lo,.str hi,.agg (Ye s),iz limit]=some (ET (lZ l lo hi s limit)):=by
 have⟨h,w⟩:=h;have j:=Hk w l lo hi s D h1 H;have y:=OY (l:=l) (lo:=lo) (hi:=hi) (s:=s);have E:=D.len;simp only[lZ];simp only[Yf,Ye,CW] at j;generalize jz l lo hi s=a at j y;refine aA h rfl ?_;have o:∀n:Nat,(decide (limit<0)=true/\n=0)\/(decide (limit<0)=false/\limit=(n:Int))->limit.toNat=n:=fun n z=>by
  rcases z with⟨h,rfl⟩|⟨-,rfl⟩
  ·have:=Gc h;omega
  ·rfl
 cases p:decide (limit<0) with
 |true=>
  rw[o 0 (.inl ⟨p,rfl⟩)];cases q:decide (a.length<=0) with
  |true=>
   have I:a=[]:=GJ (by have:=Gc q;omega);subst I;simp only[go_sem,j,p,wV]
  |false=>
   have u:=Ga q;obtain⟨x,B,-⟩:=aZ (l:=a) (i:=0) (by omega);have c3:decide ((a.length:Int)<=0)=false:=Gp (by omega);simp only[go_sem,j,p,c3,wV,u,B,tj,Option.getD_some,List.take_zero]
 |false=>
  obtain⟨n,rfl⟩:∃n:Nat,limit=(n:Int):=⟨limit.toNat,by have:=Ga p;omega⟩;rw[o n (.inr ⟨p,rfl⟩)];cases q:decide (a.length<=n) with
  |true=>
   have c3:decide ((a.length:Int)<=(n:Int))=true:=by rw[E3];exact q
   simp only[go_sem,j,p,c3,wV,Gc q]
  |false=>
   have u:=Ga q;have c3:decide ((a.length:Int)<=(n:Int))=false:=by rw[E3];exact q
   obtain⟨x,B,-⟩:=aZ (l:=a) (i:=n) (by omega);have z:n<=a.length:=by omega
   simp only[go_sem,j,p,c3,wV,u,B,tj,Option.getD_some,z,re]
def lw (s:aB) (e:aF):Option aF:=if decide (YY s e.chain=[]) then none else some ⟨e.key,YY s e.chain⟩
def fS (l:List aF) (s:aB):List aF:=l.filterMap (lw s)
def PS {l:List bz}:decide ((0:Int)<(l.length:Int))=!decide (l=[]):=by cases l<;>simp
def uT:=HpC 217 F217<|HpA Mh<|kd
def Bh (h:uT Pg) (l:List aF) (s:aB) (L:Sm l):K' Pg 217 [Yf l,.agg (Ye s)]=some (Yf (if ck l then fS l s else [])):=by
 have⟨h,H,y⟩:=h;have o:=kv y l L;have P:=L.len;simp only[Yf] at o;refine aA h rfl ?_;cases N:ck l with
 |false=>simp only[go_sem,o,N]
 |true=>
 simp only[go_sem,o,N];unfold l217_0;refine bu (fun (i:Nat) S=>i<=l.length/\S.ρ 3=.lref 3 0/\S.μ 3=some (Ye s,false)/\S.A 5=some (2,(fS (l.take i) s).map dk,.live)/\S.ρ 5=.own 5 2 (fS (l.take i) s).length/\S.μ 7=none/\S.ρ 12=Yf l/\S.ρ 13=iz l.length/\S.ρ 14=iz i) (fun i=>l.length-i) 0 ?_ ?_
 ·simp[go_sem,fS]
 ·intro i S ⟨hi,I,m3,D,E,m7,u,w,p⟩;simp only[go_sem,w,p];refine aY (fun h=>?_) (fun h=>?_)
  ·have h:=Yj h;have⟨x,M,R⟩:=aZ h;have B:=Vf H x.chain s (by have:=L.at M;omega);simp only[Yd,Ye] at B;have q:IntKind.i64.wrap ((i:Int)+1)=((i+1:Nat):Int):=Yn h (by omega);have j:=LG (f:=lw s) M;have Q:(fS (l.take i) s).length<=i:=GI (List.length_filterMap_le _ _) (by simp;omega);have z:(fS (l.take i) s).length+1<=aU:=by simp only[aU];omega
   simp only[go_sem,I,m3,m7,u,p,M,Yd,B,PS];cases O:decide (YY s x.chain=[]) with
   |true=>
    have J:lw s x=none:=by simp[lw,O]
    rw[J] at j;simp only[Option.toList_none,GD] at j;simp only[go_sem,I,m3,D,E,u,w,p];exact⟨i+1,by omega,by omega,by simp only[fS] at j ⊢;rw[j],by simp only[fS] at j ⊢;rw[j],by rw[q]⟩
   |false=>
    have J:lw s x=some ⟨x.key,YY s x.chain⟩:=by simp[lw,O]
    rw[J] at j;simp only[Option.toList_some] at j;simp only[go_sem,I,m3,D,E,u,w,p,z];exact⟨i+1,by omega,by omega,by simp only[fS] at j ⊢;rw[j];simp[dk,Yd],by simp only[fS] at j ⊢;rw[j];simp,by rw[q]⟩
  ·have h:=YC hi h;subst h;rw[GB] at D E;simp only[go_sem,D,E]
def uU:=HpC 218 F218 Mi
def Bi (h:uU Pg) (l:List aF) (s:aB) (L:ck l=true):K' Pg 218 [Yf l,.agg (Ye s)]=some (Yf (fS l s)):=by
 have⟨h,D⟩:=h;have J:=(KO L).len;refine aA h rfl ?_;simp only[go_sem];unfold l218_0;refine bu (fun (i:Nat) S=>i<=l.length/\S.ρ 0=Yf l/\S.ρ 3=.lref 3 0/\S.μ 3=some (Ye s,false)/\S.A 5=some (2,(fS (l.take i) s).map dk,.live)/\S.ρ 5=.own 5 2 (fS (l.take i) s).length/\S.ρ 6=iz i) (fun i=>l.length-i) 0 ?_ ?_
 ·simp[go_sem,fS]
 ·intro i S ⟨hi,h0,E,m3,w,y,z⟩;simp only[go_sem,h0,z];refine aY (fun h=>?_) (fun h=>?_)
  ·have h:=Yj h;have⟨x,B,N⟩:=aZ h;have u:=(oK.1 ((jv.1 L).2.2 x (List.mem_of_getElem? B))).2.2;have p:=Vg D x.chain s (by have:=Kw u;omega);rw[VQ u] at p;simp only[Yd,Ye] at p;have o:IntKind.i64.wrap ((i:Int)+1)=((i+1:Nat):Int):=Yn h (by omega);have j:=LG (f:=lw s) B;have M:(fS (l.take i) s).length<=i:=GI (List.length_filterMap_le _ _) (by simp;omega);have q:(fS (l.take i) s).length+1<=aU:=by simp only[aU];omega
   simp only[go_sem,h0,E,m3,z,B,Yd,p,PS];cases I:decide (YY s x.chain=[]) with
   |true=>
    have H:lw s x=none:=by simp[lw,I]
    rw[H] at j;simp only[Option.toList_none,GD] at j;simp only[go_sem,h0,E,m3,w,y,z];exact⟨i+1,by omega,by omega,by simp only[fS] at j ⊢;rw[j],by simp only[fS] at j ⊢;rw[j],by rw[o]⟩
   |false=>
    have H:lw s x=some ⟨x.key,YY s x.chain⟩:=by simp[lw,I]
    rw[H] at j;simp only[Option.toList_some] at j;simp only[go_sem,h0,E,m3,w,y,z,B,Yd,q];exact⟨i+1,by omega,by omega,by simp only[fS] at j ⊢;rw[j];simp[dk,Yd],by simp only[fS] at j ⊢;rw[j];simp,by rw[o]⟩
  ·have h:=YC hi h;subst h;rw[GB] at w y;simp only[go_sem,w,y]
def Od {l:List aF} {s:aB} (E:ck l=true):ck (fS l s)=true:=by
 have⟨h1,q,u⟩:=jv.1 E;refine jv.2 ⟨GI (List.length_filterMap_le _ _) h1,?_,fun e B=>?_⟩
 ·refine List.pairwise_filterMap.2 (q.imp fun {a b} j x H y I=>?_);have:∀{e z:aF},z∈lw s e->z.key=e.key:=fun {e z} hz=>by
   unfold lw at hz;split at hz
   ·simp at hz
   ·have hz:(⟨e.key,YY s e.chain⟩:aF)=z:=by simpa using hz
    rw[<-hz]
  rw[this H,this I];exact j
 ·have⟨a,w,hz⟩:=List.mem_filterMap.1 B;have⟨p,J,o⟩:=oK.1 (u a w);unfold lw at hz;split at hz
  ·simp at hz
  ·rename_i D;have hz:(⟨a.key,YY s a.chain⟩:aF)=e:=by simpa using hz
   rw[<-hz];refine oK.2 ⟨p,by simpa using D,?_⟩;simp only[YY,o,Gw];exact VN o
def yT:=HpC 211 F211<|HpA kd<|HpA nM<|ru
def Sm.take {l:List aF} (h:Sm l) {n:Nat}:Sm (l.take n):=⟨by have:=h.1;simp;omega,fun e j=>h.2 e (xn j)⟩
def Sm.drop {l:List aF} (h:Sm l) {n:Nat}:Sm (l.drop n):=⟨by have:=h.1;simp;omega,fun e j=>h.2 e (tH j)⟩
@[go_sem] def Qw (x:List aF×List aF):V:=.tuple [Yf x.1,Yf x.2]
def ma (l:List aF) (k:mp):List aF×List aF:=if ck l then (l.take (cw k l),l.drop (cw k l)) else ([],[])
def Hh (h:yT Pg) (l:List aF) (k:mp) (y:Sm l):K' Pg 211 [Yf l,.str k]=some (Qw (ma l k)):=by
 have⟨h,q,u,o⟩:=h;have j:=kv q l y;simp only[Yf] at j;refine aA h rfl ?_;cases w:ck l with
 |false=>simp only[go_sem,j,w,ma]
 |true=>
 have p:=so u l k w;have z:=oo o (l.take (cw k l)) y.take;have B:=oo o (l.drop (cw k l)) y.drop;have E:=wE (k:=k) l;have D:(l.map dk).take l.length=l.map dk:=tG (by simp);simp only[Yf,re,nJ] at p z B;simp only[go_sem,j,p,w,ma,E,D,z,B,re,nJ]
def eI (l:List aF) (k:mp) (b:Bool):List aF:=l.filter fun e=>bQ e.key k == b
def XO {α:Type} {l:List α} {p:α->Bool} {i:Nat} {x:α} (j:l[i]?=some x):(l.take (i+1)).filter p=if p x=true then (l.take i).filter p++[x] else (l.take i).filter p:=by
 rw[YW j,List.filter_append];by_cases h:p x=true<;>simp[h]
def yU:=HpC 212 F212 j9
def Bg (h:yU Pg) (l:List aF) (k:mp) (b:Bool) (J:Sm l) (O:k.length<=10000):K' Pg 212 [Yf l,.str k,.bool b]=some (Yf (eI l k b)):=by
 have⟨h,q⟩:=h;have L:=J.len;refine aA h rfl ?_;simp only[go_sem];unfold l212_0;refine bu (fun (i:Nat) S=>i<=l.length/\S.ρ 0=Yf l/\S.ρ 1=.str k/\S.ρ 2=.bool b/\S.A 7=some (2,(eI (l.take i) k b).map dk,.live)/\S.ρ 7=.own 7 2 (eI (l.take i) k b).length/\S.ρ 8=iz i) (fun i=>l.length-i) 0 ?_ ?_
 ·simp[go_sem,eI]
 ·intro i S ⟨hi,h0,h1,E,y,z,B⟩;simp only[go_sem,h0,B];refine aY (fun h=>?_) (fun h=>?_)
  ·have h:=Yj h;have⟨x,D,N⟩:=aZ h;have w:=ks q x.key k (by have:=J.at D;omega) (by omega);have o:IntKind.i64.wrap ((i:Int)+1)=((i+1:Nat):Int):=Yn h (by omega);have j:=XO (p:=fun e=>bQ e.key k == b) D;have M:(eI (l.take i) k b).length<=i:=GI (List.length_filter_le _ _) (by simp;omega);have u:(eI (l.take i) k b).length+1<=aU:=by simp only[aU];omega
   have H:decide (YD (Yu x.key) (Yu k)<0)=bQ x.key k:=rfl;simp only[go_sem,h0,h1,E,B,D,Yd,w,H];cases I:bQ x.key k == b with
   |false=>
    rw[Gn (by rw[I];simp)] at j;simp only[go_sem,h0,h1,E,y,z,B];exact⟨i+1,by omega,by omega,by simp only[eI] at j ⊢;rw[j],by simp only[eI] at j ⊢;rw[j],by rw[o]⟩
   |true=>
    rw[Gt I] at j;simp only[go_sem,h0,h1,E,y,z,B,D,Yd,u];exact⟨i+1,by omega,by omega,by simp only[eI] at j ⊢;rw[j];simp[dk,Yd],by simp only[eI] at j ⊢;rw[j];simp,by rw[o]⟩
  ·have h:=YC hi h;subst h;rw[GB] at y z;simp only[go_sem,y,z]
def Xn {k:mp}:∀{l:List aF} {p:Option aF},gc p l=true->eI l k true=l.take (cw k l)/\eI l k false=l.drop (cw k l):=by
 intro l p h;have u:∀b,∀m:List aF,(∀e∈m,bQ e.key k=b)->eI m k b=m/\eI m k (!b)=[]:=fun b m hm=>
  ⟨List.filter_eq_self.2 fun e j=>by rw[hm e j];simp,List.filter_eq_nil_iff.2 fun e j=>by rw[hm e j];cases b<;>simp⟩
 have h1:=u true (l.take (cw k l)) fun e j=>by
  have⟨i,hi⟩:=List.mem_iff_getElem?.1 j;have o:i<cw k l:=by have:=(List.getElem?_eq_some_iff.1 hi).1;rw[GK] at this;omega
  rw[List.getElem?_take_of_lt o] at hi;exact CC o hi
 have q:=u false (l.drop (cw k l)) fun e j=>by
  have⟨i,hi⟩:=List.mem_iff_getElem?.1 j;rw[List.getElem?_drop] at hi;exact yb h (by omega) hi
 have w:∀b,eI l k b=eI (l.take (cw k l)) k b++eI (l.drop (cw k l)) k b:=fun b=>by
  simp only[eI];rw[<-List.filter_append,G4]
 refine⟨?_,?_⟩
 ·rw[w true,h1.1];have:=q.2;simp only[GR] at this;rw[this,GD]
 ·rw[w false,q.1];have:=h1.2;simp only[Gx] at this;rw[this,List.nil_append]
def sP (a b:List aF):Bool:=match a.getLast?,b[0]? with
 |some x,some y=>!bQ x.key y.key
 |_,_=>false
def eA (a b:List aF):List aF×Int:=if ck a&&ck b then (if sP a b then ([],9) else if 64<a.length+b.length then ([],6) else (a++b,0)) else ([],1)
def yV:=HpC 213 F213<|HpA kc<|HpA kd<|ru
def Hi (h:yV Pg) (a b:List aF) (U:Sm a) (W:Sm b):K' Pg 213 [Yf a,Yf b]=some (uq (eA a b)):=by
 have⟨h,O,J,L⟩:=h;have u:=kv J a U;have B:=kv J b W;have R:=oo L a U;have T:=oo L b W;have z:=fun x y=>ku O x y;have aa:=U.len;have ab:=W.len;simp only[Yf] at u B R T;refine aA h rfl ?_;cases D:ck a with
 |false=>simp only[go_sem,u,D,eA]
 |true=>
 cases H:ck b with
 |false=>simp only[go_sem,u,B,D,H,eA]
 |true=>
 have hw:IntKind.i64.wrap ((a.length:Int)+b.length)=((a.length+b.length:Nat):Int):=by rw[bv (by omega) (by omega)];omega
 have j:a.length+b.length<=aU:=by simp only[aU];omega
 have Z:eA a b=if sP a b then ([],9) else if 64<a.length+b.length then ([],6) else (a++b,0):=by simp[eA,D,H]
 have E:decide ((64:Int)<((a.length+b.length:Nat):Int))=decide (64<a.length+b.length):=GO.2 (by omega);rw[Z];have Y:∀S:St,S.ρ 0=Yf a->S.ρ 1=Yf b->True:=fun _ _ _=>GN;cases I:a.getLast? with
 |none=>
  obtain rfl:=List.getLast?_eq_none_iff.1 I;have P:sP [] b=false:=rfl;rw[P];cases q:decide (64<([]:List aF).length+b.length) with
  |true=>simp only[List.length_nil,j8,Int.cast_ofNat_Int,Gk] at q hw E u;simp only[go_sem,u,B,D,H,hw,E,Gc q]
  |false=>simp only[List.length_nil,j8,Int.cast_ofNat_Int,Gk] at q hw E j R u;simp only[go_sem,u,B,R,T,D,H,hw,E,Ga q,j]
 |some x=>
 have o:decide ((0:Int)<(a.length:Int))=true:=by cases a<;>simp at I ⊢
 have Q:0<a.length:=by have:=Gc o;omega
 have w:IntKind.i64.wrap ((a.length:Int)-1)=((a.length-1:Nat):Int):=ug Q (by omega);have X:a[a.length-1]?=some x:=by rw[<-List.getLast?_eq_getElem?];exact I
 cases p:b[0]? with
 |none=>
  obtain rfl:b=[]:=by cases b<;>simp at p ⊢
  have P:sP a []=false:=by simp[sP]
  rw[P];cases q:decide (64<a.length+([]:List aF).length) with
  |true=>simp only[List.length_nil,Nat.add_zero,Int.cast_ofNat_Int,Gk] at q hw E B;simp only[go_sem,u,B,D,H,o,hw,E,Gc q]
  |false=>simp only[List.length_nil,Nat.add_zero,Int.cast_ofNat_Int,Gk] at q hw E j T B;simp only[go_sem,u,B,R,T,D,H,o,hw,E,Ga q,j]
 |some y=>
 have N:decide ((0:Int)<(b.length:Int))=true:=by cases b<;>simp at p ⊢
 have P:sP a b=!bQ x.key y.key:=by simp[sP,I,p]
 have M:decide (0<=YD (Yu x.key) (Yu y.key))=!bQ x.key y.key:=by
  simp only[bQ];by_cases c:YD (Yu x.key) (Yu y.key)<0<;>simp[c]<;>omega
 rw[P];cases c3:bQ x.key y.key with
 |false=>simp only[go_sem,u,B,D,H,o,N,w,X,p,z,M,c3]
 |true=>
  cases q:decide (64<a.length+b.length) with
  |true=>simp only[go_sem,u,B,D,H,o,N,w,X,p,z,M,c3,hw,E,Gc q]
  |false=>simp only[go_sem,u,B,R,T,D,H,o,N,w,X,p,z,M,c3,hw,E,Ga q,j,Gz]
def wH (a b:List aF):Bool:=a.any fun x=>b.any fun y=>!bQ x.key y.key
def O8 {a b:List aF} (H:ck a=true) (I:ck b=true):wH a b=sP a b:=by
 have J:=(jv.1 H).2.1;have L:=(jv.1 I).2.1;unfold sP;cases p:a.getLast? with
 |none=>obtain rfl:=List.getLast?_eq_none_iff.1 p;rfl
 |some x=>
 cases o:b[0]? with
 |none=>
  obtain rfl:b=[]:=by cases b<;>simp at o ⊢
  simp[wH]
 |some y=>
  simp only;have z:a[a.length-1]?=some x:=by rw[<-List.getLast?_eq_getElem?];exact p
  cases c:bQ x.key y.key with
  |false=>
   exact List.any_eq_true.2 ⟨x,List.mem_of_getElem? z,List.any_eq_true.2 ⟨y,List.mem_of_getElem? o,by simp[c]⟩⟩
  |true=>
   have:∀u∈a,∀v∈b,bQ u.key v.key=true:=fun u hu v w=>by
    have⟨i,hi⟩:=List.mem_iff_getElem?.1 hu;have⟨j,q⟩:=List.mem_iff_getElem?.1 w;have h1:YD (Yu u.key) (Yu x.key)<=0:=by
     by_cases e:i=a.length-1
     ·subst e;rw[z] at hi;obtain rfl:x=u:=by simpa using hi
      rw[tX];omega
     ·obtain⟨B,rfl⟩:=List.getElem?_eq_some_iff.1 hi;obtain⟨D,rfl⟩:=List.getElem?_eq_some_iff.1 z;have:=yE.1 J i (a.length-1) B D (by omega);rw[oM] at this;omega
    have E:YD (Yu y.key) (Yu v.key)<=0:=by
     by_cases e:j=0
     ·subst e;rw[o] at q;obtain rfl:y=v:=by simpa using q
      rw[tX];omega
     ·obtain⟨B,rfl⟩:=List.getElem?_eq_some_iff.1 q;obtain⟨D,rfl⟩:=List.getElem?_eq_some_iff.1 o;have:=yE.1 L 0 j D B (by omega);rw[oM] at this;omega
    rw[oM] at c ⊢;exact Oi (sN h1 c) E
   simp only[wH,Gx];refine List.any_eq_false.2 fun u hu=>?_;simp only[Bool.not_eq_true];exact List.any_eq_false.2 fun v w=>by simp[this u hu v w]
def yW:=HpC 214 F214<|HpA j9<|rr
def Hj (h:yW Pg) (a b:List aF) (M:Sm a) (N:Sm b):K' Pg 214 [Yf a,Yf b]=some (uq (eA a b)):=by
 have⟨h,D,q⟩:=h;have J:=sn q a M;have R:=sn q b N;have aa:=M.len;have ab:=N.len;simp only[Yf] at J R;refine aA h rfl ?_;cases B:ck a with
 |false=>simp only[go_sem,J,B,eA]
 |true=>
 cases I:ck b with
 |false=>simp only[go_sem,J,R,B,I,eA]
 |true=>
 have hw:IntKind.i64.wrap ((a.length:Int)+b.length)=((a.length+b.length:Nat):Int):=by rw[bv (by omega) (by omega)];omega
 have E:a.length+b.length<=aU:=by simp only[aU];omega
 have u:a.length<=aU:=by simp only[aU];omega
 have Z:eA a b=if wH a b then ([],9) else if 64<a.length+b.length then ([],6) else (a++b,0):=by simp[eA,B,I,O8 B I]
 have U:decide ((64:Int)<((a.length+b.length:Nat):Int))=decide (64<a.length+b.length):=GO.2 (by omega);rw[Z];simp only[go_sem,J,R,B,I];unfold l214_0;refine bu (fun (i:Nat) S=>i<=a.length/\S.ρ 0=Yf a/\S.ρ 1=Yf b/\S.ρ 6=iz i/\S.A 8=none/\((a.drop i).any fun x=>b.any fun y=>!bQ x.key y.key)=wH a b) (fun i=>a.length-i) 0 ?_ ?_
 ·simp[go_sem,wH]
 ·intro i S ⟨hi,h0,h1,w,z,o⟩;simp only[go_sem,h0,w];refine aY (fun h=>?_) (fun h=>?_)
  ·have h:=Yj h;have⟨x,W,Y⟩:=aZ h;rw[Y,List.any_cons] at o;simp only[go_sem];unfold l214_1;refine bu (fun (j:Nat) S=>j<=b.length/\S.ρ 0=Yf a/\S.ρ 1=Yf b/\S.ρ 6=iz i/\S.ρ 7=iz j/\S.A 8=none/\((b.drop j).any fun y=>!bQ x.key y.key)=b.any fun y=>!bQ x.key y.key) (fun j=>b.length-j) 0 ?_ ?_
   ·simp[go_sem,h0,h1,w,z]
   ·intro j S ⟨P,h0,h1,w,L,z,hw⟩;simp only[go_sem,h1,L];refine aY (fun p=>?_) (fun p=>?_)
    ·have p:=Yj p;have⟨y,X,O⟩:=aZ p;have H:=ks D x.key y.key (by have:=M.at W;omega) (by have:=N.at X;omega);have Q:decide (0<=YD (Yu x.key) (Yu y.key))=!bQ x.key y.key:=by
      simp only[bQ];by_cases c:YD (Yu x.key) (Yu y.key)<0<;>simp[c]<;>omega
     rw[O,List.any_cons] at hw;simp only[go_sem,h0,h1,w,L,W,X,H,Q];cases c3:bQ x.key y.key with
     |false=>
      rw[c3] at hw;rw[<-hw] at o;simp only[GR,jm] at o;simp only[go_sem,<-o]
     |true=>
      rw[c3] at hw;simp only[Gx,G7] at hw;simp only[go_sem,h0,h1,w,L,z];exact⟨j+1,by omega,by omega,by rw[Yn p (by omega)],hw⟩
    ·have p:=YC P p;subst p;rw[GQ] at hw;rw[<-hw] at o;simp only[List.any_nil,G7] at o;simp only[go_sem,h0,h1,w,z];exact⟨i+1,by omega,by omega,by rw[Yn h (by omega)],o⟩
  ·have h:=YC hi h;subst h;rw[GQ] at o;simp only[List.any_nil] at o;rw[<-o];cases T:decide (64<a.length+b.length) with
   |true=>simp only[go_sem,h0,h1,hw,U,Gc T]
   |false=>simp only[go_sem,h0,h1,z,hw,U,Ga T,E,u,Gz]
def fV (k:mp) (l:List aF):List bz:=match l.find? (fun e=>decide (e.key=k)) with|some e=>e.chain|none=>[]
def rv:=HpZ 223 F223
def vO (h:rv Pg) (l:List aF) (k:mp) (u:l.length<=10000):K' Pg 223 [Yf l,.str k]=some (Yd (fV k l)):=by
 refine aA h rfl ?_;simp only[go_sem];unfold l223_0;refine bu (fun (i:Nat) S=>i<=l.length/\S.ρ 0=Yf l/\S.ρ 1=.str k/\S.ρ 5=iz i/\fV k (l.drop i)=fV k l) (fun i=>l.length-i) 0 ?_ ?_
 ·simp[go_sem]
 ·intro i S ⟨hi,h0,h1,o,j⟩;simp only[go_sem,h0,o];refine aY (fun h=>?_) (fun h=>?_)
  ·have h:=Yj h;have⟨x,p,q⟩:=aZ h;rw[q] at j;simp only[fV,List.find?_cons] at j;simp only[go_sem,h0,h1,o,p];cases c:decide (x.key=k) with
   |true=>
    rw[c] at j;simp only at j;simp only[go_sem,h0,o,p,Yd,fV,<-j]
   |false=>
    rw[c] at j;simp only at j;simp only[go_sem,h0,h1,o];exact⟨i+1,by omega,by omega,by rw[Yn h (by omega)],j⟩
  ·have h:=YC hi h;subst h;rw[GQ] at j;have j:[]=fV k l:=j;simp only[go_sem,<-j,Yd,Gk]
def CB (k:mp):bQ k k=false:=by simp[bQ,tX]
def Qe {l:List aF} {k:mp} (D:ck l=true) (M:aS k=true):fV k l=cU k l/\fa k l=!decide (cU k l=[]):=by
 obtain⟨-,H,J⟩:=jv.1 D;have L:=ye D;cases c:fa k l with
 |true=>
  have⟨e,h1,o⟩:=Kr D M c;have u:cU k l=e.chain:=by simp only[cU,c,h1,Gw]
  have N:=(oK.1 (J e (List.mem_of_getElem? h1))).2.1;refine⟨?_,by rw[u];simp[N]⟩;rw[u];unfold fV;cases p:l.find? (fun e=>decide (e.key=k)) with
  |none=>
   have:=List.find?_eq_none.1 p e (List.mem_of_getElem? h1);simp[o] at this
  |some x=>
   have E:=List.mem_of_find?_eq_some p;have j:x.key=k:=by simpa using List.find?_some p
   have⟨i,hi⟩:=List.mem_iff_getElem?.1 E;have:i=cw k l:=by
    have hw:=yE.1 H;have⟨w,z⟩:=List.getElem?_eq_some_iff.1 hi;have⟨B,g4⟩:=List.getElem?_eq_some_iff.1 h1;rcases Nat.lt_trichotomy i (cw k l) with q|q|q
    ·have:=hw i _ w B q;rw[z,g4,j,o,CB] at this;simp at this
    ·exact q
    ·have:=hw _ i B w q;rw[z,g4,j,o,CB] at this;simp at this
   subst this;rw[h1] at hi;obtain rfl:e=x:=by simpa using hi
   rfl
 |false=>
  have u:cU k l=[]:=by simp only[cU,c,Gl,Gv]
  refine⟨?_,by rw[u];rfl⟩;rw[u];unfold fV;cases p:l.find? (fun e=>decide (e.key=k)) with
  |none=>rfl
  |some x=>
   exfalso
   have E:=List.mem_of_find?_eq_some p;have j:x.key=k:=by simpa using List.find?_some p
   have⟨i,hi⟩:=List.mem_iff_getElem?.1 E;rcases Nat.lt_trichotomy i (cw k l) with q|q|q
   ·have:=CC q hi;rw[j,CB] at this;simp at this
   ·subst q;unfold fa at c;rw[hi] at c;simp[j,tX] at c
   ·have⟨w,z⟩:=List.getElem?_eq_some_iff.1 hi;obtain⟨y,I,-⟩:=aZ (l:=l) (i:=cw k l) (by omega);have⟨B,g4⟩:=List.getElem?_eq_some_iff.1 I;have h1:=yE.1 H _ i B w q;rw[z,g4,j] at h1;have o:=yb L (GC _) I;rw[h1] at o;simp at o
def nA (k:mp) (one:aF):List aF->Bool->List aF
 |[],put=>if put then [] else [one]
 |e::l,put=>(if !put&&jf k e.key then [one] else [])++((if decide (e.key=k) then [] else [e])++nA k one l (put||jf k e.key))
theorem Qg {k:mp} {one:aF}:∀{l:List aF},(∀e∈l,e.key≠k)->nA k one l true=l
 |[],_=>rfl
 |e::l,h=>by
  have h1:decide (e.key=k)=false:=Gp (h e (by simp));simp only[nA,h1,Gx,Gm,Gl,Gv,jm,Qg (l:=l) fun x j=>h x (by simp[j])]
  rfl
theorem Lp {k:mp} {c:List bz} (z:aS k=true):∀{l:List aF} {p:Option aF},gc p l=true->nA k ⟨k,c⟩ l false=jC l k c
 |[],_,_=>rfl
 |e::t,p,h=>by
  have D:=CK h;simp only[gc,Ge] at h;have q:jf k e.key=!bQ e.key k:=by
   have:=xO (Yu e.key) (Yu k);simp only[jf,bQ];by_cases c:YD (Yu e.key) (Yu k)<0<;>simp[c]<;>omega
  cases j:bQ e.key k with
  |true=>
   have o:decide (e.key=k)=false:=Gp fun u=>by rw[u,CB] at j;simp at j
   have H:=Lp (c:=c) z h.2.2;have h1:cw k (e::t)=cw k t+1:=by simp[cw,j]
   have w:fa k (e::t)=fa k t:=by simp[fa,h1]
   simp only[nA,q,j,o,Gx,Gq,Bool.or_false,Gl,Gv,H,jC,h1,w];have B:cw k t+1+(if fa k t=true then 1 else 0)=cw k t+(if fa k t=true then 1 else 0)+1:=by omega
   rw[B];rfl
  |false=>
   have h1:cw k (e::t)=0:=by simp[cw,j]
   have o:∀x∈t,x.key≠k:=fun x E u=>by
    have:=(GT.1 D.2.1).1 x E;rw[u,j] at this;simp at this
   have w:fa k (e::t)=decide (e.key=k):=by
    simp only[fa,h1,List.getElem?_cons_zero];refine GO.2 ⟨fun y=>PJ (oK.1 h.1).1 z y,fun y=>by rw[y,tX]⟩
   simp only[nA,q,j,GR,GL,Bool.or_true,Gw,Qg o,jC,h1,w,List.take_zero,j8];cases I:decide (e.key=k)<;>simp
def rq:=HpC 201 F201<|HpA H5<|HpA H6<|HpA lA<|HpA j9<|HpA rr<|rv
def Ql (h:rq Pg) (l:List aF) (k:mp) (v:bz) (U:Sm l) (hk:k.length<=10000) (one:aF) (M:one.chain.length<=20000) (Q:Ex->St->Prop) (S:St)
  (h0:S.ρ 0=Yf l) (h1:S.ρ 1=.str k) (z:S.ρ 10=.lref 10 0) (dD:S.μ 10=some (dk one,false)) (o:S.A 11=some (2,[],.live)) (p:S.ρ 11=.own 11 2 0) (q:S.ρ 12=.bool false) (u:S.ρ 13=iz 0)
  (T:∀S',S'.ρ 6=.own 11 2 (nA k one l false).length->S'.ρ 7=iz 0->S'.A 11=some (2,(nA k one l false).map dk,.live)->Q .ret S') :
  Wp (K' Pg) (.seq (.block 0 l201_0) (.seq (.seq (.region false r201_20) (.cond (.g 104) (.region false r201_21) .skip)) (.seq (.region false r201_22) .ret))) S Q:=by
 have⟨h,Y,Z,O,L,P,R⟩:=h
 have W:=U.len
 simp only[go_sem]
 unfold l201_0
 refine bu (fun (x:Nat×Bool×List aF) S=>(x.1<=l.length/\x.2.2.length<=2*x.1)/\S.ρ 0=Yf l/\S.ρ 1=.str k/\S.ρ 10=.lref 10 0/\S.μ 10=some (dk one,false)/\S.A 11=some (2,x.2.2.map dk,.live)/\S.ρ 11=.own 11 2 x.2.2.length/\S.ρ 12=.bool x.2.1/\S.ρ 13=iz x.1/\x.2.2++nA k one (l.drop x.1) x.2.1=nA k one l false) (fun x=>l.length-x.1) (0,false,[]) ?_ ?_
 ·simp[go_sem,Yd,h0,h1,z,dD,o,p,q,u]
 ·rintro⟨i,put,out⟩ S ⟨⟨hi,N⟩,h0,h1,z,dD,o,p,q,u,j⟩
  simp only at hi N o p q u j
  simp only[go_sem,Yd,h0,u]
  refine aY (fun h=>?_) (fun h=>?_)
  ·have h:=Yj h
   have⟨x,I,X⟩:=aZ h
   have B:=ks L k x.key (by omega) (by have:=U.at I;omega)
   have w:IntKind.i64.wrap ((i:Int)+1)=((i+1:Nat):Int):=Yn h (by omega)
   have E:decide (YD (Yu k) (Yu x.key)<=0)=jf k x.key:=rfl
   have y:out.length+1<=aU:=by simp only[aU];omega
   have H:out.length+1+1<=aU:=by simp only[aU];omega
   rw[X] at j
   simp only[nA] at j
   cases D:put with
   |true=>
    rw[D] at j
    simp only[Gx,Gm,Gl,Gv,jm,List.nil_append] at j
    cases c3:decide (x.key=k) with
    |true=>
     rw[c3] at j
     simp only[Gw,List.nil_append] at j
     simp only[go_sem,Yd,h0,h1,z,dD,o,p,q,u,I,D,c3]
     exact⟨(i+1,true,out),by simp only;omega,⟨by simp only;omega,by simp only;omega⟩,rfl,rfl,rfl,by simp only[w],j⟩
    |false=>
     rw[c3] at j
     simp only[Gl,Gv] at j
     simp only[go_sem,Yd,h0,h1,z,dD,o,p,q,u,I,D,c3,y]
     exact⟨(i+1,true,out++[x]),by simp only;omega,⟨by simp only;omega,by simp;omega⟩,by simp[dk,Yd],by simp,rfl,by simp only[w],by simpa using j⟩
   |false=>
    rw[D] at j
    simp only[GR,Gy,G7] at j
    cases J:jf k x.key with
    |false=>
     rw[J] at j
     simp only[Gl,Gv,List.nil_append] at j
     cases c3:decide (x.key=k) with
     |true=>
      rw[c3] at j
      simp only[Gw,List.nil_append] at j
      simp only[go_sem,Yd,h0,h1,z,dD,o,p,q,u,I,D,c3,B,E,J]
      exact⟨(i+1,false,out),by simp only;omega,⟨by simp only;omega,by simp only;omega⟩,rfl,rfl,rfl,by simp only[w],j⟩
     |false=>
      rw[c3] at j
      simp only[Gl,Gv] at j
      simp only[go_sem,Yd,h0,h1,z,dD,o,p,q,u,I,D,c3,B,E,J,y]
      exact⟨(i+1,false,out++[x]),by simp only;omega,⟨by simp only;omega,by simp;omega⟩,by simp[dk,Yd],by simp,rfl,by simp only[w],by simpa using j⟩
    |true=>
     rw[J] at j
     simp only[Gw] at j
     cases c3:decide (x.key=k) with
     |true=>
      rw[c3] at j
      simp only[Gw,List.nil_append] at j
      simp only[go_sem,Yd,h0,h1,z,dD,o,p,q,u,I,D,c3,B,E,J,y]
      exact⟨(i+1,true,out++[one]),by simp only;omega,⟨by simp only;omega,by simp;omega⟩,by simp[dk,Yd],by simp,rfl,by simp only[w],by simpa using j⟩
     |false=>
      rw[c3] at j
      simp only[Gl,Gv] at j
      simp only[go_sem,Yd,h0,h1,z,dD,o,p,q,u,I,D,c3,B,E,J,y,H]
      exact⟨(i+1,true,out++[one]++[x]),by simp only;omega,⟨by simp only;omega,by simp;omega⟩,by simp[dk,Yd],by simp,rfl,by simp only[w],by simpa using j⟩
  ·have h:=YC hi h
   subst h
   rw[GQ] at j
   simp only[nA] at j
   have y:out.length+1<=aU:=by simp only[aU];omega
   cases D:put with
   |true=>
    rw[D] at j
    simp only[Gw,GD] at j
    simp only[go_sem,p,q,D]
    exact T _ (by simp only[go_sem,j]) (by simp only[go_sem]) (by simp only[go_sem,o,j])
   |false=>
    rw[D] at j
    simp only[Gl,Gv] at j
    simp only[go_sem,Yd,z,dD,o,p,q,D,y]
    exact T _ (by simp only[go_sem,<-j,Gf,List.length_cons]) (by simp only[go_sem]) (by simp only[go_sem,<-j,Gz,GA,Gk,dk,Yd])
def LD {κ:Nat->Eq->Option V} {id:Nat} {b c:C} {S:St} {R:Ex->St->Prop} (h:Wp κ (.seq (.block id b) c) S R):Wp κ b S (gm id (jl κ c R)):=by
 rw[NE,Ns] at h;exact h
def Bb (h:rq Pg) (l:List aF) (k:mp) (v:bz) (X:Sm l) (hk:k.length<=10000):K' Pg 201 [Yf l,.str k,.agg (dv v)]=some (uq (ej l k v)):=by
 have H:=h;have⟨h,h5,h6,T,aa,U,W⟩:=h;have o:=sn U l X;have y:=kq T k;have Q:=K5 h5 v;have k6:=fun a b=>K6 h6 a b;have p:=vO W l k X.len;have ab:=X.len;simp only[Yf] at o p;simp only[Yd,dv,Ye] at p Q k6;refine aA h rfl ?_;simp only[F201];cases I:ck l with
 |false=>simp only[go_sem,o,I,ej]
 |true=>
 cases J:aS k with
 |false=>simp only[go_sem,o,y,I,J,ej]
 |true=>
 have⟨ho,ht⟩:=Qe I J;rw[ho] at p;have N:Yh (cU k l)=true:=by
  cases c:fa k l with
  |true=>
   obtain⟨e,he,-⟩:=Ec c;have e1:cU k l=e.chain:=by simp only[cU,c,he,Gw]
   rw[e1];exact (oK.1 ((jv.1 I).2.2 e (List.mem_of_getElem? he))).2.2
  |false=>
   have e1:cU k l=[]:=by simp only[cU,c,Gl,Gv]
   rw[e1];rfl
 have z:ej l k v=if (bZ (cU k l) v).2=0 then (if (!fa k l&&decide (l.length=64))=true then ([],6) else (jC l k (bZ (cU k l) v).1,0)) else ([],(bZ (cU k l) v).2):=by
  simp only[ej,I,J,GL,Gw]
 rw[ht] at z;have ac:=N;generalize hc:cU k l=c at p ht N z;have ad:=Kw N;cases c3:YQ v with
 |false=>
  have hm:ej l k v=([],1):=by rw[z];simp[bZ,c3]
  rw[hm];simp only[go_sem,o,y,Q,I,J,c3]
 |true=>
 cases u:c.getLast? with
 |none=>
  obtain rfl:=List.getLast?_eq_none_iff.1 u;have j:bZ [] v=([v],0):=by
   have:Yh []=true:=rfl;simp[bZ,this,c3]
  rw[j] at z;simp only[Gw,jS,Gx,GR,Gy] at z;cases M:decide ((l.length:Int)=64) with
  |true=>
   have B:l.length=64:=by have:=Gc M;omega
   have hm:ej l k v=([],6):=by rw[z];simp[B]
   rw[hm];simp only[go_sem,o,y,Q,p,I,J,c3,M]
  |false=>
   have B:¬l.length=64:=by have:=Ga M;omega
   have hm:ej l k v=(jC l k [v],0):=by rw[z];simp[B]
   have E:0+1<=aU:=by simp only[aU];omega
   have D:0<=aU:=GY _;rw[hm,<-Lp J (ye I),c201];simp only[go_sem,o,y,Q,p,I,J,c3,M,E,D];refine LD (Ql H l k v X hk ⟨k,[v]⟩ (by simp) _ _ (by simp only[go_sem]) (by simp only[go_sem]) (by simp only[go_sem]) (by simp only[go_sem,Yd,GA,Gk]) (by simp only[go_sem]) (by simp only[go_sem]) (by simp only[go_sem]) (by simp only[go_sem]) ?_);intro S g6 g7 O;simp only[go_sem,g6,g7,O]
 |some w=>
  have Y:c≠[]:=fun e=>by rw[e] at u;simp at u
  have Z:0<c.length:=uK.2 Y;have hx:c[c.length-1]?=some w:=by rw[<-List.getLast?_eq_getElem?];exact u
  have P:decide ((0:Int)<(c.length:Int))=true:=Gu (by omega);have hz:decide ((c.length:Int)=0)=false:=Gp (by omega);have L:IntKind.i64.wrap ((c.length:Int)-1)=((c.length-1:Nat):Int):=ug Z (by omega);have hb:aV w.at_ v.at_=!decide (0<=Yc w.at_ v.at_):=by
   simp only[aV];by_cases q:Yc w.at_ v.at_<0<;>simp[q]<;>omega
  have j:bZ c v=if decide (0<=Yc w.at_ v.at_)=true then ([],9) else if c.length=64 then ([],6) else (c++[v],0):=by
   simp[bZ,N,c3,u]
  cases R:decide (0<=Yc w.at_ v.at_) with
  |true=>
   rw[R] at j;have hm:ej l k v=([],9):=by rw[z,j];simp
   rw[hm];simp only[go_sem,o,y,Q,k6,p,I,J,c3,P,L,hx,hb,R]
  |false=>
  rw[R] at j;simp only[Gl,Gv] at j;cases M:decide ((c.length:Int)=64) with
  |true=>
   have B:c.length=64:=by have:=Gc M;omega
   rw[Gt B] at j;have hm:ej l k v=([],6):=by rw[z,j];simp
   rw[hm];simp only[go_sem,o,y,Q,k6,p,I,J,c3,P,L,hx,hb,R,M]
  |false=>
   have B:¬c.length=64:=by have:=Ga M;omega
   rw[Gn B] at j;have hm:ej l k v=(jC l k (c++[v]),0):=by rw[z,j];simp[Y]
   have E:c.length+1<=aU:=by simp only[aU];omega
   have D:c.length<=aU:=by simp only[aU];omega
   rw[hm,<-Lp J (ye I),c201];simp only[go_sem,o,y,Q,k6,p,I,J,c3,P,hz,L,hx,hb,R,M,E,D];refine LD (Ql H l k v X hk ⟨k,c++[v]⟩ (by simp;omega) _ _ (by simp only[go_sem]) (by simp only[go_sem]) (by simp only[go_sem]) (by simp only[go_sem,Yd,Gz,GA,Gk]) (by simp only[go_sem]) (by simp only[go_sem]) (by simp only[go_sem]) (by simp only[go_sem]) ?_);intro S g6 g7 O;simp only[go_sem,g6,g7,O]
structure eE where
 err:Int
 at_:aB
 found:Bool
 val:mp
 items:List (mp×mp)
 next:mp
 more:Bool
 deriving DecidableEq
structure aH where
 client:Int
 req:Int
 ans:eE
 deriving DecidableEq
@[go_sem] def EI (p:mp×mp):Eq:=[.str p.1,.str p.2]
@[go_sem] def YB (l:List (mp×mp)):V:=.slice 2 (l.map EI)
@[go_sem] def dV (a:eE):Eq:=[iz a.err,iz a.at_.wall,iz a.at_.tick,iz a.at_.node,.bool a.found,.str a.val,YB a.items,.str a.next,.bool a.more]
@[go_sem] def YK (d:aH):Eq:=[iz d.client,iz d.req,iz d.ans.err,iz d.ans.at_.wall,iz d.ans.at_.tick,iz d.ans.at_.node,.bool d.ans.found,.str d.ans.val,YB d.ans.items,.str d.ans.next,.bool d.ans.more]
@[go_sem] def Yb (l:List aH):V:=.slice 11 (l.map YK)
def Ym (n:Int):Bool:=decide (1<=n)&&decide (n<=1099511627776)
def Fm:=HpZ 97 F97
def N7 (h:Fm Pg) (n:Int):K' Pg 97 [iz n]=some (.bool (Ym n)):=by
 refine aA h rfl ?_;simp only[go_sem];refine io (fun h=>?_) (fun h=>?_)<;>simp only[go_sem,h,Ym]
def MH:=HpZ 95 F95
def VG (h:MH Pg) (n:Int):K' Pg 95 [iz n]=some (.bool (Ym n)):=by
 refine aA h rfl ?_;have e:decide ((0:Int)<n)=decide (1<=n):=GO.2 (by omega);simp only[go_sem,e];refine io (fun h=>?_) (fun h=>?_)<;>simp only[go_sem,h,Ym]
def nn (a:eE):Bool:=decide (0<=a.err)&&(decide (a.err<=16)&&(Ya a.at_&&(decide (a.val.length<=16)&&(decide (a.items=[])&&(decide (a.next=[])&&!a.more)))))
def Zl {α:Type} [DecidableEq α] {l:List α}:decide ((l.length:Int)=0)=decide (l=[]):=by cases l<;>simp;omega
def ZF {n:Nat}:decide ((n:Int)<=16)=decide (n<=16):=GO.2 (by omega)
def MJ:=HpC 98 F98 lC
def VI (h:MJ Pg) (a:eE):K' Pg 98 [.agg (dV a)]=some (.bool (nn a)):=by
 have⟨h,j⟩:=h;have k:=lh j a.at_;simp only[Ye] at k;refine aA h rfl ?_;simp only[go_sem]
 repeat' (refine io (fun h=>?_) (fun h=>?_)<;>simp only[go_sem,h,k,Zl,ZF,nn])
def MI:=HpC 96 F96 nN
def VH (h:MI Pg) (a:eE):K' Pg 96 [.agg (dV a)]=some (.bool (nn a)):=by
 have⟨h,j⟩:=h;have k:=mD j a.at_;simp only[Ye] at k;have o:decide (a.err<0)=!decide (0<=a.err):=by by_cases h:0<=a.err<;>simp[h]<;>omega
 have p:decide (16<a.err)=!decide (a.err<=16):=by by_cases h:a.err<=16<;>simp[h]<;>omega
 have q:decide ((16:Int)<(a.val.length:Int))=!decide (a.val.length<=16):=by by_cases h:a.val.length<=16<;>simp[h]<;>omega
 have u:decide ((0:Int)<(a.items.length:Int))=!decide (a.items=[]):=by rw[Ly];cases a.items<;>simp
 have w:decide ((0:Int)<(a.next.length:Int))=!decide (a.next=[]):=by rw[Ly];cases a.next<;>simp
 refine aA h rfl ?_;simp only[go_sem,o,nn];cases h1:decide (0<=a.err)<;>simp only[go_sem,p];cases y:decide (a.err<=16)<;>simp only[go_sem,q];cases z:decide (a.val.length<=16)<;>simp only[go_sem,u];cases B:decide (a.items=[])<;>simp only[go_sem,w];cases D:decide (a.next=[])<;>simp only[go_sem];cases E:a.more<;>simp only[go_sem,k]
def cm (d:aH):Bool:=Ym d.client&&(Ym d.req&&nn d.ans)
def dj:Int->List aH->Bool
 |_,[]=>true
 |p,d::l=>decide (p<d.client)&&(cm d&&dj d.client l)
def YA (t:List aH):Bool:=dj 0 t&&decide (t.length<=8)
theorem Pm {p:Int} {d:aH} {l:List aH}:dj p (d::l)=(decide (p<d.client)&&(cm d&&dj d.client l)):=rfl
def kK (t:List aH) (i:Nat):Int:=if i=0 then 0 else (t[i-1]?.map aH.client).getD 0
def xr:=HpC 81 F81<|HpA Fm<|MJ
def wj (h:xr Pg) (t:List aH) (O:t.length<2^60):K' Pg 81 [Yb t]=some (.bool (YA t)):=by
 have⟨h,z,B⟩:=h;have p:=fun x=>N7 z x;have q:=fun x=>VI B x;simp only[dV,YB] at q;refine aA h rfl ?_;simp only[go_sem];unfold l81_0;refine bu (fun (i:Nat) S=>i<=t.length/\S.ρ 0=Yb t/\S.μ 5=none/\S.ρ 3=iz (kK t i)/\S.ρ 6=Yb t/\S.ρ 7=iz t.length/\S.ρ 8=iz i/\dj (kK t i) (t.drop i)=dj 0 t) (fun i=>t.length-i) 0 ?_ ?_
 ·simp[go_sem,kK]
 ·intro i S ⟨hi,h0,m5,M,E,H,y,j⟩;simp only[go_sem,H,y];refine aY (fun h=>?_) (fun h=>?_)
  ·have h:=Yj h;have⟨x,I,N⟩:=aZ h;have o:kK t (i+1)=x.client:=by simp[kK,I]
   rw[N,Pm] at j;have J:decide (x.client<=kK t i)=!decide (kK t i<x.client):=by by_cases h:kK t i<x.client<;>simp[h]<;>omega
   simp only[go_sem,m5,M,E,y,I,J];cases D:decide (kK t i<x.client) with
   |false=>rw[D] at j;simp only[go_sem,YA,<-j]
   |true=>
   cases u:Ym x.client with
   |false=>simp only[cm,u,Gm,Gq] at j;simp only[go_sem,u,YA,<-j,p]
   |true=>
   cases c3:Ym x.req with
   |false=>simp only[cm,c3,Gm,Gq] at j;simp only[go_sem,u,c3,YA,<-j,p]
   |true=>
   cases w:nn x.ans with
   |false=>simp only[cm,w,Gm,Gq] at j;simp only[go_sem,u,c3,w,YA,<-j,p,q]
   |true=>
    simp only[cm,D,u,c3,w,Gy] at j;simp only[go_sem,u,c3,w,h0,E,H,y,p,q];exact⟨i+1,by omega,by omega,by rw[o],by rw[Yn h O],by rw[o];exact j⟩
  ·have h:=YC hi h;subst h;simp only[GQ,dj] at j;have L:decide ((t.length:Int)<=8)=decide (t.length<=8):=GO.2 (by omega);simp only[go_sem,h0,YA,<-j,L]
def Do:=HpC 80 F80<|HpA MH<|MI
def Ca (h:Do Pg) (t:List aH) (O:t.length<2^60):K' Pg 80 [Yb t]=some (.bool (YA t)):=by
 have⟨h,J,L⟩:=h;have q:=fun x=>VG J x;have B:=fun x=>VH L x;simp only[dV,YB] at B;refine aA h rfl ?_;simp only[go_sem];refine aY (fun w=>?_) (fun w=>?_)
 ·have w:¬t.length<=8:=by have:=Gc w;omega
  simp only[go_sem,YA,w]
 have w:t.length<=8:=by have:=Ga w;omega
 have p:YA t=dj 0 t:=by simp[YA,w]
 simp only[go_sem];unfold l80_0;refine bu (fun (i:Nat) S=>i<=t.length/\S.ρ 0=Yb t/\S.ρ 3=iz i/\dj (kK t i) (t.drop i)=dj 0 t) (fun i=>t.length-i) 0 ?_ ?_
 ·simp[go_sem,kK]
 ·intro i S ⟨hi,h0,u,j⟩;simp only[go_sem,h0,u];refine aY (fun h=>?_) (fun h=>?_)
  ·have h:=Yj h;have⟨x,D,R⟩:=aZ h;have o:kK t (i+1)=x.client:=by simp[kK,D]
   rw[R,Pm] at j;simp only[go_sem,h0,u,D,q];cases I:Ym x.client with
   |false=>simp only[cm,I,Gm,Gq] at j;simp only[go_sem,p,<-j]
   |true=>
   cases c3:Ym x.req with
   |false=>simp only[cm,c3,Gm,Gq] at j;simp only[go_sem,c3,p,<-j,h0,u,D,q]
   |true=>
   cases H:nn x.ans with
   |false=>simp only[cm,H,Gm,Gq] at j;simp only[go_sem,c3,H,p,<-j,h0,u,D,q,B]
   |true=>
    simp only[cm,I,c3,H,Gy] at j;simp only[go_sem,c3,H,h0,u,D,q,B,Ly];rcases nI i with hz|hz
    ·have z:decide (i=0)=true:=by simp[hz]
     have M:decide (kK t i<x.client)=true:=by
      simp only[Ym,Ge,Gj] at I;simp[kK,hz];omega
     rw[M,Gy] at j;simp only[go_sem,z,h0,u];exact⟨i+1,by omega,by omega,by rw[Yn h O],by rw[o];exact j⟩
    ·have z:decide (i=0)=false:=by simp;omega
     obtain⟨y,P,-⟩:=aZ (l:=t) (i:=i-1) (by omega);have M:kK t i=y.client:=by simp[kK,P];omega
     have E:=ug hz (by omega);rw[M] at j;have Q:decide (x.client<=y.client)=!decide (y.client<x.client):=by by_cases h:y.client<x.client<;>simp[h]<;>omega
     simp only[go_sem,z,h0,u,D,E,P,Q];cases N:decide (y.client<x.client) with
     |false=>rw[N] at j;simp only[go_sem,p,<-j]
     |true=>
      rw[N,Gy] at j;simp only[go_sem,h0,u];exact⟨i+1,by omega,by omega,by rw[Yn h O],by rw[o];exact j⟩
  ·have h:=YC hi h;subst h;simp only[GQ,dj] at j;simp only[go_sem,p,<-j]
def gi (t:List aH):Bool:=decide (t.length<=40)&&t.all fun d=>decide (d.ans.items.length<=100)
def MB:=HpZ 78 F78
def Vz (h:MB Pg) (t:List aH):K' Pg 78 [Yb t]=some (.bool (gi t)):=by
 refine aA h rfl ?_;simp only[go_sem];refine aY (fun j=>?_) (fun j=>?_)
 ·have j:¬t.length<=40:=by have:=Gc j;omega
  simp only[go_sem,gi,j]
 have j:t.length<=40:=by have:=Ga j;omega
 have o:gi t=t.all fun d=>decide (d.ans.items.length<=100):=by simp[gi,j]
 simp only[go_sem];unfold l78_0;refine bu (fun (i:Nat) S=>i<=t.length/\S.ρ 0=Yb t/\S.ρ 3=iz i/\∀d∈t.take i,d.ans.items.length<=100) (fun i=>t.length-i) 0 ?_ ?_
 ·simp[go_sem]
 ·intro i S ⟨hi,h0,p,q⟩;simp only[go_sem,h0,p];refine aY (fun h=>?_) (fun h=>?_)
  ·have h:=Yj h;have⟨x,u,hd⟩:=aZ h;simp only[go_sem,h0,p,u];refine aY (fun j=>?_) (fun j=>?_)
   ·have j:¬x.ans.items.length<=100:=by have:=Gc j;omega
    have:(t.all fun d=>decide (d.ans.items.length<=100))=false:=by
     simp only[List.all_eq_false];exact⟨x,List.mem_of_getElem? u,by simpa using j⟩
    simp only[go_sem,o,this]
   ·have j:x.ans.items.length<=100:=by have:=Ga j;omega
    simp only[go_sem,h0,p];refine⟨i+1,by omega,by omega,by rw[Yn h (by omega)],fun d hd=>?_⟩;rw[YW u] at hd;rcases GS.1 hd with hd|hd
    ·exact q d hd
    ·have:d=x:=by simpa using hd
     rw[this];exact j
  ·have h:=YC hi h;rw[tW h] at q;have:(t.all fun d=>decide (d.ans.items.length<=100))=true:=by simpa using q
   simp only[go_sem,o,this]
def uM:=HpZ 101 F101
def A4 (h:uM Pg) (a:eE) (q:a.items.length<2^60):K' Pg 101 [.agg (dV a),.agg (dV a)]=some (.bool true):=by
 refine aA h rfl ?_;simp only[go_sem];unfold l101_0;refine bu (fun (i:Nat) S=>i<=a.items.length/\S.ρ 2=.lref 2 0/\S.ρ 3=.lref 3 0/\S.μ 2=some (dV a,false)/\S.μ 3=some (dV a,false)/\S.ρ 5=iz i) (fun i=>a.items.length-i) 0 ?_ ?_
 ·simp[go_sem]
 ·intro i S ⟨hi,j,o,m2,m3,p⟩;simp only[go_sem,j,m2,p];refine aY (fun h=>?_) (fun h=>?_)
  ·have h:=Yj h;have⟨x,u,w⟩:=aZ h;simp only[go_sem,j,o,m2,m3,p,u];exact⟨i+1,by omega,by omega,by rw[Yn h q]⟩
  ·simp only[go_sem,j,o,m2,m3]
def ME:=HpC 86 F86 uM
def N6 (h:ME Pg) (t:List aH) (u:t.length<2^60) (ht:∀d∈t,d.ans.items.length<2^60):K' Pg 86 [Yb t,Yb t]=some (.bool true):=by
 have⟨h,o⟩:=h;refine aA h rfl ?_;simp only[go_sem];unfold l86_0;refine bu (fun (i:Nat) S=>i<=t.length/\S.ρ 0=Yb t/\S.ρ 1=Yb t/\S.ρ 5=iz i) (fun i=>t.length-i) 0 ?_ ?_
 ·simp[go_sem]
 ·intro i S ⟨hi,h0,h1,p⟩;simp only[go_sem,h0,p];refine aY (fun h=>?_) (fun h=>?_)
  ·have h:=Yj h;have⟨x,q,w⟩:=aZ h;have j:=A4 o x.ans (ht x (List.mem_of_getElem? q));simp only[dV,YB] at j;simp only[go_sem,h0,h1,p,q,j];exact⟨i+1,by omega,by omega,by rw[Yn h u]⟩
  ·simp only[go_sem]
def eV:List aH->Int->Int
 |[],_=>0
 |d::l,c=>if d.client=c then d.req else eV l c
def Dp:=HpZ 99 F99
def DV (h:Dp Pg) (t:List aH) (c:Int) (w:t.length<2^60):K' Pg 99 [Yb t,iz c]=some (iz (eV t c)):=by
 refine aA h rfl ?_;simp only[go_sem];unfold l99_0;refine bu (fun (i:Nat) S=>i<=t.length/\S.ρ 0=Yb t/\S.ρ 1=iz c/\S.ρ 5=iz i/\eV (t.drop i) c=eV t c) (fun i=>t.length-i) 0 ?_ ?_
 ·simp[go_sem]
 ·intro i S ⟨hi,h0,h1,o,j⟩;simp only[go_sem,h0,o];refine aY (fun h=>?_) (fun h=>?_)
  ·have h:=Yj h;have⟨x,q,u⟩:=aZ h;rw[u] at j;simp only[go_sem,h0,h1,o,q];refine aY (fun p=>?_) (fun p=>?_)
   ·simp only[eV,Gc p,Gw] at j;simp only[go_sem,h0,o,q,<-j]
   ·simp only[eV,Ga p,Gv] at j;simp only[go_sem,h0,h1,o];exact⟨i+1,by omega,by omega,by rw[Yn h w],j⟩
  ·have h:=YC hi h;subst h;simp only[GQ,eV] at j;simp only[go_sem,<-j]
def Yo:List aH->Int->Option aH
 |[],_=>none
 |d::l,c=>if d.client=c then some d else Yo l c
def YR:aH:=⟨0,0,⟨0,⟨0,0,0⟩,false,[],[],[],false⟩⟩
@[go_sem] def C1 (o:Option aH):V:=.tuple [.agg (YK (o.getD YR)),.bool o.isSome]
def MD:=HpZ 85 F85
def VB (h:MD Pg) (t:List aH) (c:Int) (y:t.length<2^60):K' Pg 85 [Yb t,iz c]=some (C1 (Yo t c)):=by
 refine aA h rfl ?_;simp only[go_sem];unfold l85_0;refine bu (fun (i:Nat) S=>i<=t.length/\S.ρ 0=Yb t/\S.ρ 1=iz c/\S.ρ 4=.lref 4 0/\S.μ 4=some (YK YR,false)/\S.ρ 6=iz i/\Yo (t.drop i) c=Yo t c) (fun i=>t.length-i) 0 ?_ ?_
 ·simp[go_sem,YR]
 ·intro i S ⟨hi,h0,h1,p,m4,o,j⟩;simp only[go_sem,h0,o];refine aY (fun h=>?_) (fun h=>?_)
  ·have h:=Yj h;have⟨x,u,w⟩:=aZ h;rw[w] at j;simp only[go_sem,h0,h1,o,u];refine aY (fun q=>?_) (fun q=>?_)
   ·simp only[Yo,Gc q,Gw] at j;simp only[go_sem,h0,p,m4,o,u,<-j,Option.isSome_some]
   ·simp only[Yo,Ga q,Gv] at j;simp only[go_sem,h0,h1,p,m4,o];exact⟨i+1,by omega,by omega,by rw[Yn h y],j⟩
  ·have h:=YC hi h;subst h;simp only[GQ,Yo] at j;simp only[go_sem,p,m4,<-j,YR,Option.isSome_none]
def yG:=HpZ 105 F105
def FZ (h:yG Pg) (d:aH) (c:Int):K' Pg 105 [.agg (YK d),.cptr [iz c] 0]=some (.bool (decide (c<=d.client))):=by
 refine aA h rfl ?_;simp only[go_sem]
def pP:List aH->(aH->Bool)->Nat->Int
 |[],_,_=>-1
 |a::l,p,i=>if p a then i else pP l p (i+1)
def yH:=HpZ 106 F106
def F0 (h:yH Pg) (l:List aH) (g:Nat) (aN:Eq) (p:aH->Bool) (D:l.length<2^60) (y:∀x∈l,K' Pg g (.agg (YK x)::aN)=some (.bool (p x))) :
  K' Pg 106 [Yb l,.func g aN]=some (iz (pP l p 0)):=by
 refine aA h rfl ?_
 simp only[YK,YB] at y
 simp only[go_sem]
 unfold l106_0
 refine bu (fun (i:Nat) S=>i<=l.length/\S.ρ 0=Yb l/\S.ρ 1=.func g aN/\S.ρ 7=iz l.length/\S.ρ 8=iz i/\pP (l.drop i) p i=pP l p 0) (fun i=>l.length-i) 0 ?_ ?_
 ·simp[go_sem]
 ·intro i S ⟨hi,h0,h1,w,o,j⟩
  simp only[go_sem,w,o]
  refine aY (fun h=>?_) (fun h=>?_)
  ·have h:=Yj h
   have⟨x,z,B⟩:=aZ h
   rw[B] at j
   have u:=y x (List.mem_of_getElem? z)
   simp only[go_sem,h0,h1,o,z,u]
   refine aY (fun q=>?_) (fun q=>?_)
   ·simp only[pP,q,Gw] at j
    simp only[go_sem,<-j]
   ·simp only[pP,q,Gl,Gv] at j
    simp only[go_sem,h0,h1,w,o]
    exact⟨i+1,by omega,by omega,by rw[Yn h D],j⟩
  ·have h:=YC hi h
   subst h
   simp only[GQ,pP] at j
   simp only[go_sem,<-j]
def bD:List aH->Int->Nat
 |[],_=>0
 |d::l,c=>if c<=d.client then 0 else bD l c+1
theorem Lu {c:Int}:∀{l:List aH},bD l c<=l.length
 |[]=>by simp[bD]
 |d::l=>by
  have:=Lu (c:=c) (l:=l);simp only[bD];split<;>simp<;>omega
theorem Pp {c:Int}:∀{l:List aH} {i:Nat},pP l (fun d=>decide (c<=d.client)) i=if bD l c<l.length then ((i+bD l c:Nat):Int) else -1
 |[],i=>by simp[pP,bD]
 |d::l,i=>by
  simp only[pP,bD];by_cases h:c<=d.client
  ·simp[h]
  ·simp only[h,mu,Gl,Gv];rw[Pp];simp only[List.length_cons,Nat.add_lt_add_iff_right];split
   ·congr 1;omega
   ·rfl
def ep (t:List aH) (c:Int):Bool:=match t[bD t c]? with|some d=>decide (d.client=c)|none=>false
def uL:=HpC 100 F100<|HpA yG<|yH
def AZ (h:uL Pg) (t:List aH) (c:Int) (z:t.length<2^60):K' Pg 100 [Yb t,iz c]=some (.tuple [iz (bD t c),.bool (ep t c)]):=by
 have⟨h,o,p⟩:=h;have j:=F0 p t 105 [.cptr [iz c] 0] (fun d=>decide (c<=d.client)) z (fun x _=>FZ o x c);rw[Pp] at j;simp only[Yb] at j;have B:=Lu (c:=c) (l:=t);refine aA h rfl ?_;by_cases u:bD t c<t.length
 ·obtain⟨x,w,-⟩:=aZ u;have D:decide (((bD t c:Nat):Int)<0)=false:=by simp
  simp only[u,Gw,j8] at j;simp only[go_sem,j,D,w,ep]
 ·have y:bD t c=t.length:=by omega
  have w:t[bD t c]?=none:=by rw[y];simp
  simp only[u,Gv] at j;have q:ep t c=false:=by simp only[ep,w]
  simp only[go_sem,j,q];rw[y]
def nl {p:Int} {d:aH} {l:List aH} (h:dj p (d::l)=true):p<d.client/\cm d=true/\dj d.client l=true:=by
 simpa [dj] using h
theorem CN:∀{l:List aH} {p:Int} {d:aH},dj p l=true->d∈l->p<d.client
 |[],_,_,_,h=>by simp at h
 |a::l,p,d,h,hd=>by
  obtain⟨h1,-,j⟩:=nl h;rcases GH.1 hd with rfl|hd
  ·exact h1
  ·have:=CN j hd;omega
theorem KH:∀{l:List aH} {c:Int},(∀d∈l,d.client≠c)->Yo l c=none
 |[],_,_=>rfl
 |a::l,c,h=>by
  simp only[Yo,h a (G0 ..),Gv];exact KH fun d j=>h d (G2 _ j)
theorem KG {c:Int}:∀{l:List aH} {p:Int},dj p l=true->Yo l c=if ep l c then l[bD l c]? else none
 |[],_,_=>by simp[Yo,ep]
 |d::l,p,h=>by
  obtain⟨h1,-,q⟩:=nl h;by_cases o:c<=d.client
  ·by_cases j:d.client=c
   ·simp[Yo,ep,bD,j]
   ·have:Yo l c=none:=KH fun x u=>by have:=CN q u;omega
    simp[Yo,ep,bD,o,j,this]
  ·have j:d.client≠c:=by omega
   have:=KG (c:=c) q;have e:ep (d::l) c=ep l c:=by simp only[ep,bD,o,Gv,List.getElem?_cons_succ]
   rw[e];simp only[Yo,j,Gv,this,bD,o,List.getElem?_cons_succ]
def py {l:List aH} {c:Int} {d:aH} (h:Yo l c=some d):d.client=c/\d∈l:=by
 induction l with
 |nil=>simp[Yo] at h
 |cons a l j=>
  simp only[Yo] at h;split at h
  ·simp at h;subst h;exact⟨by assumption,G0 ..⟩
  ·exact⟨(j h).1,G2 _ (j h).2⟩
def DX {l:List aH} {c:Int}:eV l c=(match Yo l c with|some d=>d.req|none=>0):=by
 induction l with
 |nil=>rfl
 |cons a l j=>simp only[eV,Yo];split<;>simp_all
def sE {t:List aH} (h:YA t=true):dj 0 t=true/\t.length<=8:=by simpa [YA] using h
theorem Pt:∀{l:List aH} {p:Int} {d:aH},dj p l=true->d∈l->cm d=true
 |[],_,_,_,h=>by simp at h
 |a::l,p,d,h,hd=>by
  obtain⟨-,j,o⟩:=nl h;rcases GH.1 hd with rfl|hd
  ·exact j
  ·exact Pt o hd
def oS (t:List aH) (c:Int):Option aH:=if YA t then Yo t c else none
def Fj:=HpC 84 F84<|HpA xr<|uL
def N5 (h:Fj Pg) (t:List aH) (c:Int) (B:t.length<2^60):K' Pg 84 [Yb t,iz c]=some (C1 (oS t c)):=by
 have⟨h,y,u⟩:=h;have o:=wj y t B;have j:=AZ u t c B;simp only[Yb] at o j;refine aA h rfl ?_;cases w:YA t with
 |false=>simp only[go_sem,o,w,oS,YR,Option.isSome_none]
 |true=>
  have p:=KG (c:=c) (sE w).1;cases q:ep t c with
  |false=>
   rw[q] at p;simp only[Gl,Gv] at p;simp only[go_sem,o,w,j,q,oS,p,YR,Option.isSome_none]
  |true=>
   rw[q] at p;simp only[Gw] at p;have z:bD t c<t.length:=by
    rcases GF (bD t c) t.length with h|h
    ·exact h
    ·simp only[ep,List.getElem?_eq_none h] at q;simp at q
   obtain⟨x,D,-⟩:=aZ z;rw[D] at p;simp only[go_sem,o,w,j,q,oS,p,D,Option.isSome_some]
def li (t:List aH) (c r:Int):Int:=if YA t&&(Ym c&&Ym r) then (match Yo t c with|none=>1|some d=>if d.req<r then 1 else if r=d.req then 2 else 3) else 0
def MC:=HpC 82 F82<|HpA xr<|HpA Fm<|Fj
def VA (h:MC Pg) (t:List aH) (c r:Int) (H:t.length<2^60):K' Pg 82 [Yb t,iz c,iz r]=some (iz (li t c r)):=by
 have⟨h,B,E,D⟩:=h;have j:=wj B t H;have o:=N5 D t c H;have p:=fun x=>N7 E x;simp only[Yb,C1,YK,YB] at j o;refine aA h rfl ?_;cases q:YA t with
 |false=>simp only[go_sem,j,q,li]
 |true=>
 cases u:Ym c with
 |false=>simp only[go_sem,j,q,li,p,u]
 |true=>
 cases w:Ym r with
 |false=>simp only[go_sem,j,q,li,p,u,w]
 |true=>
  simp only[oS,q,Gw] at o;cases hw:Yo t c with
  |none=>
   simp only[hw,Option.getD_none,Option.isSome_none,YR,Gk] at o;simp only[go_sem,j,q,li,p,u,w,o,hw]
  |some d=>
   simp only[hw,Option.getD_some,Option.isSome_some] at o;by_cases h1:d.req<r
   ·simp only[go_sem,j,q,li,p,u,w,o,hw,h1]
   ·by_cases y:r=d.req
    ·have z:=Gu y;have e:li t c r=2:=by simp only[li,q,u,w,hw,GL,Gw,Gn h1,Gt y]
     rw[e];simp only[go_sem,j,q,p,u,w,o,h1,z]
    ·simp only[go_sem,j,q,li,p,u,w,o,hw,h1,y]
def yF (Pg:PgT):Prop:=Pg 102=some (.prim (some 0) (bJ 11))
def FY (h:yF Pg) (rows:List Eq) (j:rows.length<=aU):K' Pg 102 [.slice 11 rows]=some (.slice 11 rows):=by
 rw[tT h];simp[bJ,j]
def dQ (t:List aH) (d:aH):List aH×Int:=
 if YA t&&cm d then (match t[bD t d.client]? with
  |some x=>if x.client=d.client then (if d.req<=x.req then ([],9) else (t.set (bD t d.client) d,0)) else if t.length=8 then ([],6) else (t.take (bD t d.client)++d::t.drop (bD t d.client),0)
  |none=>if t.length=8 then ([],6) else (t.take (bD t d.client)++d::t.drop (bD t d.client),0)) else ([],1)
@[go_sem] def ut (x:List aH×Int):V:=.tuple [Yb x.1,iz x.2]
def ON {d:aH}:YA [d]=cm d:=by
 simp only[YA,dj,GE,List.length_singleton];cases h:cm d with
 |false=>simp
 |true=>
  simp only[cm,Ym,Ge,Gj] at h;simp;omega
def Fk:=HpC 88 F88<|HpA xr<|HpA uL<|yF
def VC (h:Fk Pg) (t:List aH) (d:aH) (Q:t.length<2^60):K' Pg 88 [Yb t,.agg (YK d)]=some (ut (dQ t d)):=by
 have⟨h,I,E,H⟩:=h;have p:=wj I t Q;have j:=wj I [d] (by simp);rw[ON] at j;have o:=AZ E t d.client Q;simp only[Yb,GA,Gk,YK,YB] at p j o;refine aA h rfl ?_;cases w:YA t with
 |false=>simp only[go_sem,p,w,dQ]
 |true=>
 cases y:cm d with
 |false=>simp only[go_sem,p,w,j,y,dQ]
 |true=>
  have⟨S,T⟩:=sE w;have z:=FY H (t.map YK) (by simp[aU];omega);have P:=Lu (c:=d.client) (l:=t);have R:decide ((t.length:Int)=8)=decide (t.length=8):=GO.2 (by omega);have L:t.length+1<=aU:=by simp only[aU];omega
  cases q:ep t d.client with
  |true=>
   have M:bD t d.client<t.length:=by
    rcases GF (bD t d.client) t.length with h|h
    ·exact h
    ·simp only[ep,List.getElem?_eq_none h] at q;simp at q
   obtain⟨x,D,-⟩:=aZ M;have N:x.client=d.client:=by simp only[ep,D] at q;simpa using q
   by_cases O:d.req<=x.req
   ·have e:dQ t d=([],9):=by simp only[dQ,w,y,D,N,O];rfl
    rw[e];simp only[go_sem,p,w,j,y,o,q,D,O]
   ·have e:dQ t d=(t.set (bD t d.client) d,0):=by simp only[dQ,w,y,D,N,O];rfl
    rw[e];simp only[go_sem,p,w,j,y,o,q,D,O,z,M,qX,List.map_set]
  |false=>
   have e:dQ t d=if t.length=8 then ([],6) else (t.take (bD t d.client)++d::t.drop (bD t d.client),0):=by
    simp only[dQ,w,y];simp only[ep] at q;cases D:t[bD t d.client]? with
    |none=>rfl
    |some x=>rw[D] at q;simp only[Gs] at q;simp[q]
   rw[e];by_cases B:t.length=8
   ·have u:decide ((t.length:Int)=8)=true:=by simp[B]
    simp only[go_sem,p,w,j,y,o,q,u,Gt B]
   ·have u:decide ((t.length:Int)=8)=false:=by simp;omega
    have J:(List.take (bD t d.client) (List.map YK t)).length+((List.drop (bD t d.client) (List.map YK t)).length+1)=t.length+1:=by simp;omega
    simp only[go_sem,p,w,j,y,o,q,u,Gn B,z,P,L,Gz,re,nJ,J]
def pq (l:List aH):Prop:=l.Pairwise fun a b=>a.client<b.client
structure eH (l o:List aH):Prop where
 inc:pq o
 first:∀x∈o,Yo l x.client=some x
 all:∀y∈l,∃x∈o,x.client=y.client
theorem Pq:∀{o q:List aH},pq o->pq q->(∀x,x∈o↔x∈q)->o=q
 |[],[],_,_,_=>rfl
 |[],b::s,_,_,h=>by have:=(h b).2 (G0 ..);simp at this
 |a::s,[],_,_,h=>by have:=(h a).1 (G0 ..);simp at this
 |a::s,b::s',h1,h2,h=>by
  simp only[pq,GT] at h1 h2;have p:a=b:=by
   rcases GH.1 ((h a).1 (G0 ..)) with e|e
   ·exact e
   ·rcases GH.1 ((h b).2 (G0 ..)) with e'|e'
    ·exact e'.symm
    ·have:=h2.1 a e;have:=h1.1 b e';omega
  subst p
  congr 1
  refine Pq h1.2 h2.2 fun x=>⟨fun j=>?_,fun j=>?_⟩
  ·rcases GH.1 ((h x).1 (G2 _ j)) with e|e
   ·subst e;have:=h1.1 x j;omega
   ·exact e
  ·rcases GH.1 ((h x).2 (G2 _ j)) with e|e
   ·subst e;have:=h2.1 x j;omega
   ·exact e
def WC {l o o':List aH} (h:eH l o) (j:eH l o'):o=o':=by
 have one:∀{o o':List aH},eH l o->eH l o'->∀x,x∈o->x∈o':=fun h j x w=>by
  have h1:=h.first x w;have⟨y,q,u⟩:=j.all x (py h1).2;have p:=j.first y q;rw[u,h1] at p;simp only[Gb] at p;rw[p];exact q
 exact Pq h.inc j.inc fun x=>⟨one h j x,one j h x⟩
def kZ:Option aH->aH->Bool
 |none,_=>true
 |some m,d=>decide (m.client<d.client)
structure j7 (l:List aH) (co:Option aH) (i:Nat) (b:Int):Prop where
 none:b<0->b=-1/\∀d∈l.take i,kZ co d=false
 some:0<=b->∃d,l[b.toNat]?=some d/\b.toNat<i/\kZ co d=true/\(∀j e,j<i->l[j]?=some e->kZ co e=true->d.client<=e.client)/\∀j e,j<b.toNat->l[j]?=some e->kZ co e=true->d.client<e.client
def WM {l:List aH} {co:Option aH}:j7 l co 0 (-1):=⟨fun _=>⟨rfl,fun d j=>by simp at j⟩,fun h=>by omega⟩
def Ee {l:List aH} {co:Option aH} {i:Nat} {b:Int} {x:aH} (h:j7 l co i b) (z:l[i]?=some x)
  (y:kZ co x=true/\(b<0\/∀d,l[b.toNat]?=some d->x.client<d.client)):j7 l co (i+1) (i:Int):=by
 refine⟨fun h=>by omega,fun _=>⟨x,by simpa using z,by omega,y.1,fun j e u p o=>?_,fun j e u p o=>?_⟩⟩
 ·rcases GF j i with xe|xe
  ·rcases y.2 with hb|hb
   ·have:=(h.none hb).2 e (List.mem_of_getElem? (by rw[List.getElem?_take_of_lt xe];exact p))
    rw[this] at o;simp at o
   ·by_cases q:b<0
    ·have:=(h.none q).2 e (List.mem_of_getElem? (by rw[List.getElem?_take_of_lt xe];exact p))
     rw[this] at o;simp at o
    ·have⟨d,h1,B,D,w,E⟩:=h.some (by omega)
     have:=hb d h1
     have:=w j e xe p o
     omega
  ·have:j=i:=by omega
   subst this
   rw[z] at p
   simp only[Gb] at p
   subst p;omega
 ·have u:j<i:=by simpa using u
  rcases y.2 with hb|hb
  ·have:=(h.none hb).2 e (List.mem_of_getElem? (by rw[List.getElem?_take_of_lt u];exact p))
   rw[this] at o;simp at o
  ·by_cases q:b<0
   ·have:=(h.none q).2 e (List.mem_of_getElem? (by rw[List.getElem?_take_of_lt u];exact p))
    rw[this] at o;simp at o
   ·have⟨d,h1,B,D,w,E⟩:=h.some (by omega)
    have:=hb d h1
    have:=w j e u p o
    omega
def KX {l:List aH} {co:Option aH} {i:Nat} {b:Int} {x:aH} (h:j7 l co i b) (z:l[i]?=some x)
  (y:¬(kZ co x=true/\(b<0\/∀d,l[b.toNat]?=some d->x.client<d.client))):j7 l co (i+1) b:=by
 refine⟨fun o=>⟨(h.none o).1,fun d hd=>?_⟩,fun o=>?_⟩
 ·rw[YW z] at hd
  rcases GS.1 hd with hd|hd
  ·exact (h.none o).2 d hd
  ·have:d=x:=by simpa using hd
   subst this
   cases q:kZ co d with
   |false=>rfl
   |true=>exact absurd ⟨q,.inl o⟩ y
 ·have⟨d,h1,I,B,D,E⟩:=h.some o
  refine⟨d,h1,by omega,B,fun j e J p q=>?_,E⟩
  rcases GF j i with xe|xe
  ·exact D j e xe p q
  ·have:j=i:=by omega
   subst this
   rw[z] at p
   simp only[Gb] at p
   subst p
   by_cases w:x.client<d.client
   ·exact absurd ⟨q,.inr fun H u=>by rw[h1] at u;simp at u;subst u;exact w⟩ y
   ·omega
structure oD (l o:List aH):Prop where
 inc:pq o
 first:∀x∈o,Yo l x.client=some x
 all:∀y∈l,kZ o.getLast? y=false->∃x∈o,x.client=y.client
def Ww {l:List aH} {b:Nat} {d:aH} (o:l[b]?=some d) (h:∀j e,j<b->l[j]?=some e->e.client≠d.client):Yo l d.client=some d:=by
 induction l generalizing b with
 |nil=>simp at o
 |cons a l q=>
  cases b with
  |zero=>simp at o;subst o;simp[Yo]
  |succ b=>
   have h0:=h 0 a (by omega) rfl;simp only[Yo,h0,Gv];exact q (by simpa using o) fun j e u p=>h (j+1) e (by omega) (by simpa using p)
def WX {l o:List aH} {b:Int} {d:aH} (h:oD l o) (R:j7 l o.getLast? l.length b) (h0:0<=b) (L:l[b.toNat]?=some d):oD l (o++[d])/\kZ o.getLast? d=true:=by
 have⟨U,h1,W,E,O,P⟩:=R.some h0;rw[L] at h1;simp only[Gb] at h1;subst h1;have u:∀x∈o,x.client<d.client:=fun x hx=>by
  cases H:o.getLast? with
  |none=>rw[List.getLast?_eq_none_iff] at H;rw[H] at hx;simp at hx
  |some m=>
   rw[H] at E;simp only[kZ,Gj] at E;have⟨X,J⟩:=List.getLast?_eq_some_iff.1 H;have p:=h.inc;rw[J] at hx p;rcases GS.1 hx with hx|hx
   ·rw[pq,List.pairwise_append] at p;have:=p.2.2 x hx m (by simp);omega
   ·have:x=m:=by simpa using hx
    rw[this];exact E
 refine⟨⟨?_,fun x hx=>?_,fun y N T=>?_⟩,E⟩
 ·rw[pq,List.pairwise_append];exact⟨h.inc,by simp,fun a Q c S=>by
   have:c=d:=by simpa using S
   rw[this];exact u a Q⟩
 ·rcases GS.1 hx with hx|hx
  ·exact h.first x hx
  ·have:x=d:=by simpa using hx
   subst this;refine Ww L fun j e q M=>?_;cases w:kZ o.getLast? e with
   |true=>have:=P j e q M w;omega
   |false=>
    have⟨z,hz,D⟩:=h.all e (List.mem_of_getElem? M) w;have:=u z hz;omega
 ·simp only[List.getLast?_append,List.getLast?_singleton,Option.some_or,kZ,Gs] at T;cases B:kZ o.getLast? y with
  |false=>
   have⟨z,hz,D⟩:=h.all y N B;exact⟨z,by simp[hz],D⟩
  |true=>
   have⟨j,q⟩:=List.mem_iff_getElem?.1 N;have I:j<l.length:=by
    rcases GF j l.length with h|h
    ·exact h
    ·rw[List.getElem?_eq_none h] at q;simp at q
   have:=O j y I q B;exact⟨d,by simp,by omega⟩
def Xc {l o:List aH} {b:Int} (h:oD l o) (p:j7 l o.getLast? l.length b) (h0:b<0):eH l o:=by
 refine⟨h.inc,h.first,fun y j=>h.all y j ?_⟩;have:=(p.none h0).2 y;rw[GB] at this;exact this j
theorem D6:∀{l m:List aH},l.Nodup->(∀x∈l,x∈m)->l.length<=m.length
 |[],m,_,_=>by simp
 |a::l,m,h,hs=>by
  rw[rl] at h;have o:=hs a (G0 ..);have h1:=D6 (l:=l) (m:=m.erase a) h.2 (fun x p=>by
   have j:x≠a:=fun e=>h.1 (e▸p);exact (List.mem_erase_of_ne j).2 (hs x (G2 _ p)))
  have q:=List.length_erase_of_mem o;have u:0<m.length:=List.length_pos_of_mem o;simp only[List.length_cons];omega
def OH {o:List aH} (h:pq o):o.Nodup:=by
 refine h.imp fun j e=>?_;subst e;omega
def Pj {l o:List aH} (h:oD l o):o.length<=l.length:=D6 (OH h.inc) fun x j=>(py (h.first x j)).2
def uN:=HpZ 104 F104
def A5 (h:uN Pg) (l:List aH) (hl:l.length<=10000) (o':List aH) (Y:eH l o'):K' Pg 104 [Yb l]=some (Yb o'):=by
 refine aA h rfl ?_;simp only[go_sem];unfold l104_0;refine bu (fun (o:List aH) S=>S.ρ 0=Yb l/\S.A 3=some (11,o.map YK,.live)/\S.ρ 3=.own 3 11 o.length/\oD l o) (fun o=>l.length-o.length) [] ?_ ?_
 ·simp only[go_sem];exact⟨List.Pairwise.nil,fun x I=>by simp at I,fun y hy X=>by simp[kZ] at X⟩
 ·intro o S ⟨h0,D,B,Z⟩;simp only[go_sem];unfold l104_1;refine bu (fun (p:Nat×Int) S=>p.1<=l.length/\S.ρ 0=Yb l/\S.A 3=some (11,o.map YK,.live)/\S.ρ 3=.own 3 11 o.length/\S.ρ 4=iz p.2/\S.ρ 5=iz p.1/\j7 l o.getLast? p.1 p.2) (fun p=>l.length-p.1) (0,-1) ?_ ?_
  ·simp only[go_sem,h0,D,B];exact WM
  ·intro⟨i,b⟩ S ⟨hi,h0,D,B,J,H,z⟩;simp only at hi J H z;simp only[go_sem,h0,H];refine aY (fun h=>?_) (fun h=>?_)
   ·have h:=Yj h;have⟨x,I,hd⟩:=aZ h;have u:=Yn h (by omega);cases W:o.getLast? with
    |none=>
     have X:o=[]:=List.getLast?_eq_none_iff.1 W;subst X;simp only[List.getLast?_nil] at z;have N:kZ none x=true:=rfl;simp only[go_sem,B,J];refine sj (fun w=>?_) (fun w=>?_)
     ·have q:0<=b:=by have:=Ga w;omega
      obtain⟨d,h1,h2,-⟩:=z.some q;have L:b=((b.toNat:Nat):Int):=by omega
      simp only[go_sem,h0,J,H,I,w];rw[L];simp only[go_sem,h1];refine aY (fun j=>?_) (fun j=>?_)
      ·have j:=Gc j;have E:=Ee z I ⟨N,.inr fun d' O=>by rw[h1] at O;simp at O;subst O;exact j⟩;simp only[go_sem,h0,D,B,H];exact⟨(i+1,(i:Int)),by simp only;omega,by simp only;omega,rfl,by rw[u],E⟩
      ·have j:=Ga j;have E:=KX z I (fun hh=>by
        rcases hh.2 with hh|hh
        ·omega
        ·exact j (hh d h1))
       simp only[go_sem,h0,D,B,J,H];exact⟨(i+1,b),by simp only;omega,by simp only;omega,rfl,by rw[u],E⟩
     ·have q:b<0:=Gc w;have E:=Ee z I ⟨N,.inl q⟩;simp only[go_sem,h0,D,B,H,q];exact⟨(i+1,(i:Int)),by simp only;omega,by simp only;omega,rfl,by rw[u],E⟩
    |some m=>
     rw[W] at z;have U:0<o.length:=by
      cases o with
      |nil=>simp at W
      |cons a s=>simp
     have hz:decide ((o.length:Int)=0)=false:=Gp (by omega);have P:=ug U (by have:=Pj Z;omega);have hm:o[o.length-1]?=some m:=by rw[<-List.getLast?_eq_getElem?];exact W
     have R:o.length-1<o.length:=by omega
     simp only[go_sem,h0,D,B,H,hz,I,P,R,hm];refine io (fun w=>?_) (fun w=>?_)
     ·have N:kZ (some m) x=true:=w;simp only[go_sem,J,w];refine sj (fun w=>?_) (fun w=>?_)
      ·have q:0<=b:=by have:=Ga w;omega
       obtain⟨d,h1,h2,-⟩:=z.some q;have L:b=((b.toNat:Nat):Int):=by omega
       simp only[go_sem,h0,J,H,I,w];rw[L];simp only[go_sem,h1];refine aY (fun j=>?_) (fun j=>?_)
       ·have j:=Gc j;have E:=Ee z I ⟨N,.inr fun d' O=>by rw[h1] at O;simp at O;subst O;exact j⟩;simp only[go_sem,h0,D,B,H];exact⟨(i+1,(i:Int)),by simp only;omega,by simp only;omega,rfl,by rw[u],E⟩
       ·have j:=Ga j;have E:=KX z I (fun hh=>by
        rcases hh.2 with hh|hh
        ·omega
        ·exact j (hh d h1))
        simp only[go_sem,h0,D,B,J,H];exact⟨(i+1,b),by simp only;omega,by simp only;omega,rfl,by rw[u],E⟩
      ·have q:b<0:=Gc w;have E:=Ee z I ⟨N,.inl q⟩;simp only[go_sem,h0,D,B,H,q];exact⟨(i+1,(i:Int)),by simp only;omega,by simp only;omega,rfl,by rw[u],E⟩
     ·have N:kZ (some m) x=false:=w;have E:=KX z I (by rw[N];simp);simp only[go_sem,h0,D,B,J,H,w];exact⟨(i+1,b),by simp only;omega,by simp only;omega,rfl,by rw[u],E⟩
   ·have h:=YC hi h;subst h;simp only[go_sem,h0,D,B,J];refine aY (fun w=>?_) (fun w=>?_)
    ·have q:b<0:=Gc w;have he:=WC (Xc Z z q) Y;simp only[go_sem,D,B,he]
    ·have q:0<=b:=by have:=Ga w;omega
     obtain⟨d,h1,h2,-⟩:=z.some q;have L:b=((b.toNat:Nat):Int):=by omega
     have⟨T,aa⟩:=WX Z z q h1;have M:=Pj T;have Q:o.length+1<=aU:=by simp at M;simp only[aU];omega
     rw[L] at J;simp only[go_sem,h0,D,B,J,h1,Q];refine⟨o++[d],?_,by simp[YK,YB],by simp,T⟩;simp at M ⊢;omega
end Sg
