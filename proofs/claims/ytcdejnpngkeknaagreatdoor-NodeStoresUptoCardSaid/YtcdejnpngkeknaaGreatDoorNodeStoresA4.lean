/- NodeStores, wherever what it reads is of bulk at most 1048576: proved over a checked abstract run of the translated code; no condition but that. A part. -/
import Derived.KernelRfl
import Derived.Test.YtcdejnpngkeknaaGreatDoorNodeStoresA3
set_option linter.unusedSimpArgs false
set_option linter.unusedVariables false
set_option linter.constructorNameAsVariable false
set_option linter.defProp false
set_option maxRecDepth 100000
set_option maxHeartbeats 4000000
namespace Sg
open _root_.Go (IntKind BinOp UnOp)
variable {Pg:PgT}
def Aq:=HpC 40 F40<|HpA wj<|wn
def L7 (h:Aq Pg) (r:dL) (ok:r.Ok):K' Pg 40 [.agg (YB r)]=some (.bool (bU r&&Yn r)):=by
 obtain⟨h,p,q⟩:=h;have j:=B5 p r ok;have o:=B9 q r;simp only[Yi,YB] at j o;refine aA h rfl ?_;simp only[go_sem,j];refine hJ (fun h=>?_) (fun h=>?_)<;>simp only[go_sem,h,o]
def Y4 (r:dL):Bool:=bU r&&(Yn r&&!iC r)
def yJ {r:dL} (h:bU r=true):cP r.members/\cP r.acks/\(∀x∈r.acks,x∈r.members)/\1<=r.id/\r.id<=255/\0<=r.view/\r.view<=1099511627776/\0<=r.n/\r.n<=1099511627776:=by
 rw[<-Cy] at h;simp only[gf,jw,Gg,GI,Bool.or_eq_false_iff,Bool.and_eq_false_iff,Bool.not_eq_false',GI,Gn,GM] at h;obtain⟨⟨h1,q,u,w,j,o⟩,y,p,-⟩:=h;refine⟨j,o,by simpa using p,?_⟩;omega
def MT {r:dL} (h:bU r=true):decide ((r.acks.length:Int)<(r.members.length:Int))=!iC r:=by
 obtain⟨h1,j,o,-⟩:=yJ h;exact C1 h1 j o
def Ar:=HpC 41 F41 Aq
theorem L8 (h:Ar Pg) (r:dL) (ok:r.Ok):K' Pg 41 [.agg (YB r)]=some (.bool (Y4 r)):=by
 obtain⟨h,o⟩:=h;have j:=L7 o r ok;simp only[Yi,YB] at j;refine aA h rfl ?_;simp only[go_sem,j];refine hJ (fun h=>?_) (fun h=>?_)<;>simp only[go_sem,h]
 ·simp only[Gg] at h;rw[MT h.1];simp only[Y4,h.1,h.2,GK]
 ·rw[Y4,<-Bool.and_assoc,h];rfl
def As:=HpC 45 F45 Ay
def L9 (h:As Pg) (r:dL) (ok:r.Ok):K' Pg 45 [.agg (YB r),.agg (YB r)]=some (.bool true):=by
 obtain⟨h,p⟩:=h;have o:=Ca p r.members r.members ok.m;have j:=Ca p r.acks r.acks ok.a;simp only[Yi,decide_true] at o j;refine aA h rfl ?_;simp only[go_sem,o,j]
structure RP (r:dL):Prop where
 id:1<=r.id/\r.id<=255
 view:0<=r.view/\r.view<=1099511627776
 n:0<=r.n/\r.n<=1099511627776
 sm:cP r.members
 sa:cP r.acks
 sub:∀a∈r.acks,a∈r.members
 inn:r.members≠[]->r.id∈r.members
 lead:Yn r=true->r.id∈r.acks/\(iC r=true->r.base=r.text)
 not:Yn r=false->r.acks=[]/\r.base=r.text
def mK (k:Nat):Int:=(k:Int)+1
structure Gh where
 V:Int
 who:Int->Nat
 mem:Int->List Int
 n0:Int->Int
 top:Int->Int
 τ:Int->Int->List UInt8
structure DZ (g:Gh):Prop where
 V1:1<=g.V
 who:∀v,1<=v->v<=g.V->g.who v<3
 set:∀v,1<=v->v<=g.V->cP (g.mem v)/\(∀m∈g.mem v,1<=m/\m<=3)/\(g.mem v).head?=some (mK (g.who v))
 n0:∀v,1<=v->v<=g.V->1<=g.n0 v/\g.n0 v<=g.top v
 chain:∀v,1<=v->v<=g.V->∀n m,g.n0 v<=n->n<=m->m<=g.top v->g.τ v n <+:g.τ v m
 next:∀v,1<=v->v+1<=g.V->mK (g.who (v+1))∈g.mem v/\g.n0 v<=g.n0 (v+1)-1/\g.n0 (v+1)-1<=g.top v/\g.τ (v+1) (g.n0 (v+1))=g.τ v (g.n0 (v+1)-1)
def mn (g:Gh) (r:Nat->dL) (j:Nat) (v n:Int):Prop:=
 v<=(r j).view/\((r j).view=v->n<=(r j).n)/\(v+1<=g.V->g.who (v+1)=j->n<=g.n0 (v+1)-1)
def Aj (g:Gh) (r:Nat->dL) (v b:Int):Prop:=
 b=g.n0 v\/∀j,j<3->mK j∈g.mem v->v<=(r j).view/\((r j).view=v->b<=(r j).n)
structure Mm (g:Gh) (r:Nat->dL) (k:Nat):Prop where
 id:(r k).id=mK k
 right:RP (r k)
 view:1<=(r k).view/\(r k).view<=g.V
 n:g.n0 (r k).view<=(r k).n/\(r k).n<=g.top (r k).view
 text:(r k).text=g.τ (r k).view (r k).n
 mem:(r k).members=[]\/(r k).members=g.mem (r k).view/\mK k∈g.mem (r k).view
 top:Yn (r k)=true->(r k).n=g.top (r k).view
 base:Yn (r k)=true->∃b,g.n0 (r k).view<=b/\b<=(r k).n/\(r k).base=g.τ (r k).view b/\((r k).view+1<=g.V->b<=g.n0 ((r k).view+1)-1)/\Aj g r (r k).view b
 acks:Yn (r k)=true->∀a∈(r k).acks,a≠(r k).id->∃j,j<3/\a=mK j/\mn g r j (r k).view (r k).n
structure Cg (g:Gh) (r:Nat->dL) (x:fv):Prop where
 ship:x.kind=1->1<=x.view/\x.view<=g.V/\g.n0 x.view<=x.n/\x.n<=g.top x.view/\x.text=g.τ x.view x.n/\x.members=g.mem x.view/\x.frm=mK (g.who x.view)
 ack:x.kind=2->∃j,j<3/\x.frm=mK j/\mn g r j x.view x.n
 past:x.kind=3->x.view<=g.V
structure jH where
 text:List UInt8
 at_:Int
structure DY (g:Gh) (r:Nat->dL) (x:jH):Prop where
 at_:1<=x.at_/\x.at_<=g.V
 b:∃b,g.n0 x.at_<=b/\b<=g.top x.at_/\x.text=g.τ x.at_ b/\(x.at_+1<=g.V->b<=g.n0 (x.at_+1)-1)/\Aj g r x.at_ b
 now:∀k,k<3->Yn (r k)=true->(r k).view=x.at_->x.text <+:(r k).base
structure j9 where
 view:Int
 who:Int
 members:List Int
structure jR (g:Gh) (r:Nat->dL) (net:List fv) (views:List j9) (fx:List jH):Prop where
 gk:DZ g
 rk:∀k,k<3->Mm g r k
 told:∀v,1<=v->v<=g.V->v<=(r (g.who v)).view
 netk:∀x∈net,Cg g r x
 viewk:∀t∈views,2<=t.view/\t.view<=g.V/\t.who=(g.who t.view:Int)
 all:∀v,2<=v->v<=g.V->∃t∈views,t.view=v
 fxk:∀x∈fx,DY g r x
section
variable {g:Gh} {r:Nat->dL} {net:List fv} {views:List j9} {fx:List jH}
def jR.say (h:jR g r net views fx) {ue:List fv} (hn:∀x∈ue,Cg g r x):jR g r ue views fx:=⟨h.gk,h.rk,h.told,hn,h.viewk,h.all,h.fxk⟩
end
section
variable {g:Gh} {r:Nat->dL} {net:List fv} {views:List j9} {fx:List jH}
end
structure kG where
 r:Nat->dL
 net:List fv
 views:List j9
 fx:List jH
 count:Int
def Dx (net:List fv) (i:Nat):List fv:=net.take i++net.drop (i+1)
def M0 {net:List fv} {i:Nat} {x:fv} (h:x∈Dx net i):x∈net:=by
 rcases GV.1 h with h|h
 ·exact pm h
 ·exact oE h
abbrev IT (g:Gh) (t:kG):Prop:=jR g t.r t.net t.views t.fx
section
variable {g:Gh} {t:kG}
def IT.off (h:IT g t) (i:Nat):IT g {t with net:=Dx t.net i}:=jR.say h fun y j=>h.netk y (M0 j)
end
section
variable {g:Gh} {t:kG} {N:Int} {T:List UInt8}
end
@[go_sem] def Mw (t:j9):List V:=[iz t.view,iz t.who,Yi t.members]
def gp (r:Nat->dL) (v1 v2 v3 v4 v5:V):List V:=YB (r 0)++(YB (r 1)++(YB (r 2)++[v1,v2,v3,v4,v5]))
@[go_sem] def vn (t:kG) (a b c d:Nat):List V:=gp t.r (.own a 7 t.net.length) (.own b 3 t.views.length) (.own c 1 t.fx.length) (.own d 1 t.fx.length) (iz t.count)
structure iR (A:AA) (t:kG) (a b c d:Nat):Prop where
 ra:A a=some (7,t.net.map Mo,.live)
 rb:A b=some (3,t.views.map Mw,.live)
 rc:A c=some (1,t.fx.map (fun f=>[.str f.text]),.live)
 rd:A d=some (1,t.fx.map (fun f=>[iz f.at_]),.live)
 rn:a≠b/\a≠c/\a≠d/\b≠c/\b≠d/\c≠d
def HT (S:St) (v:Nat) (t:kG) (a b c d:Nat):Prop:=S.μ v=some (vn t a b c d,false)/\iR S.A t a b c d
theorem Cn {A:AA}:∀{l m:List V},l.all V.datC=true->(∀z,V.nslice z∉l)->gm (l++m) A=(gm m A).map fun r=>(l++r.1,r.2)
 |[],m,_,_=>by cases h:gm m A<;>simp[h]
 |x::l,m,hd,hn=>by
  simp only[List.all_cons,Gg] at hd;have j:bK A x=some (x,A):=by
   cases x<;>first|rfl|(simp[V.datC] at hd;done)|(exact absurd (ni ..) (hn _))
  rw[List.cons_append,wP,j];simp only[Option.bind_some];rw[Cn hd.2 (fun z hz=>hn z (by simp[hz]))];cases gm m A<;>simp
theorem Co {A:AA}:∀{l m:List V} {d:Nat},l.all V.datC=true->JI d (l++m) A=(JI (d+l.length) m A).map fun r=>(l++r.1,r.2)
 |[],m,d,_=>by cases h:JI d m A<;>simp[h]
 |x::l,m,d,hd=>by
  simp only[List.all_cons,Gg] at hd;have j:dK d A x=some (x,A):=by
   cases x<;>first|rfl|(simp[V.datC] at hd;done)
  rw[List.cons_append,wO,j];simp only[Option.bind_some];rw[Co hd.2,show d+1+l.length=d+(x::l).length by simp;omega];cases JI (d+(x::l).length) m A<;>simp
theorem Mp (r:dL):(YB r).all V.datC=true:=rfl
section
variable {r:Nat->dL} {v1 v2 v3 v4 v5 w:V} {k s:Nat} {S:St}
theorem Qh:(gp r v1 v2 v3 v4 v5).length=26:=rfl
theorem O4:(gp r v1 v2 v3 v4 v5)[21]?=some v1:=rfl
theorem O5:(gp r v1 v2 v3 v4 v5)[22]?=some v2:=rfl
theorem OF:(gp r v1 v2 v3 v4 v5)[23]?=some v3:=rfl
theorem OG:(gp r v1 v2 v3 v4 v5)[24]?=some v4:=rfl
theorem OH:(gp r v1 v2 v3 v4 v5)[25]?=some v5:=rfl
theorem OP:gx S s 21 [w] (some (gp r v1 v2 v3 v4 v5,false))=some ⟨S.ρ,aE S.μ s (some (gp r w v2 v3 v4 v5,false)),S.A⟩:=rfl
theorem OQ:gx S s 22 [w] (some (gp r v1 v2 v3 v4 v5,false))=some ⟨S.ρ,aE S.μ s (some (gp r v1 w v3 v4 v5,false)),S.A⟩:=rfl
theorem OR:gx S s 23 [w] (some (gp r v1 v2 v3 v4 v5,false))=some ⟨S.ρ,aE S.μ s (some (gp r v1 v2 w v4 v5,false)),S.A⟩:=rfl
theorem OS:gx S s 24 [w] (some (gp r v1 v2 v3 v4 v5,false))=some ⟨S.ρ,aE S.μ s (some (gp r v1 v2 v3 w v5,false)),S.A⟩:=rfl
theorem Qj:gx S s 25 [w] (some (gp r v1 v2 v3 v4 v5,false))=some ⟨S.ρ,aE S.μ s (some (gp r v1 v2 v3 v4 w,false)),S.A⟩:=rfl
attribute [go_sem] O4 O5 OF OG OH Qh
attribute [go_sem high] OP OQ OR OS Qj
end
def mh {A:AA} {t:kG} {a b c d x h:Nat} (hA:iR A t a b c d):iR (fun i=>A (cJ x h i)) t (cJ x h a) (cJ x h b) (cJ x h c) (cJ x h d):=by
 obtain⟨n1,n2,n3,n4,n5,n6⟩:=hA.rn;have inj:∀{p q:Nat},p≠q->cJ x h p≠cJ x h q:=fun {p q} hn e=>hn (by
  have:∀r,cJ x h (cJ x h r)=r:=fun r=>by
   unfold cJ;by_cases e1:r=x
   ·subst e1;simp only[GS];split
    ·rename_i e;exact e
    ·rfl
   ·rw[Gu e1];by_cases e2:r=h
    ·subst e2;simp
    ·rw[Gu e2,Gu e1,Gu e2]
  rw[<-this p,e,this q])
 have inv:∀r,cJ x h (cJ x h r)=r:=fun r=>by
   unfold cJ;by_cases e1:r=x
   ·subst e1;simp only[GS];split
    ·rename_i e;exact e
    ·rfl
   ·rw[Gu e1];by_cases e2:r=h
    ·subst e2;simp
    ·rw[Gu e2,Gu e1,Gu e2]
 exact⟨by simp only[inv];exact hA.ra,by simp only[inv];exact hA.rb,by simp only[inv];exact hA.rc,by simp only[inv];exact hA.rd,inj n1,inj n2,inj n3,inj n4,inj n5,inj n6⟩
theorem HT.ren {S:St} {v x h:Nat} {t:kG} {a b c d:Nat} (j:HT S v t a b c d):HT (S.ren x h) v t (cJ x h a) (cJ x h b) (cJ x h c) (cJ x h d):=by
 refine⟨?_,mh j.2⟩
 show (S.μ v).map _=_
 rw[j.1];rfl
def kb {x h p:Nat} (h1:p≠x) (j:p≠h):cJ x h p=p:=by simp[cJ,h1,j]
def vB {T:List Nat} {x h y:Nat} (o:x∈T) (j:h∈T) (p:y∈T):cJ x h y∈T:=by
 unfold cJ;split
 ·exact j
 ·split
  ·exact o
  ·exact p
def HT.head {S:St} {v:Nat} {t:kG} {a b c d h1 h2 h3 h4:Nat} {Wv Wa:List Nat} (hT:HT S v t a b c d) (hh:h1≠h2/\h1≠h3/\h1≠h4/\h2≠h3/\h2≠h4/\h3≠h4)
  (hv:Wv.contains v=false) (hw:Wa.contains h1=false/\Wa.contains h2=false/\Wa.contains h3=false/\Wa.contains h4=false) :
  HT (S.head [] [v,21,h1,v,22,h2,v,23,h3,v,24,h4] Wv Wa) v t h1 h2 h3 h4/\(∀x,Wa.contains x=true->(S.head [] [v,21,h1,v,22,h2,v,23,h3,v,24,h4] Wv Wa).A x=none)/\
   (∀x,x∉[a,b,c,d,h1,h2,h3,h4]->S.A x=none->(S.head [] [v,21,h1,v,22,h2,v,23,h3,v,24,h4] Wv Wa).A x=none):=by
 obtain⟨q1,q2,q3,q4,q5,q6⟩:=hh
 have s1:=hT.ren (x:=a) (h:=h1)
 rw[oP] at s1
 have e1:S.swp1 v 21 h1=S.ren a h1:=by rw[oN,hT.1,oO];rfl
 have T0:∀y∈[a,b,c,d,h1,h2,h3,h4],cJ a h1 y∈[a,b,c,d,h1,h2,h3,h4]:=fun y hy=>vB (by simp) (by simp) hy
 have Ad:=T0 b (by simp)
 have P3:=T0 c (by simp)
 have P4:=T0 d (by simp)
 generalize cJ a h1 b=b1 at *
 generalize cJ a h1 c=c1 at *
 generalize cJ a h1 d=d1 at *
 obtain⟨n1,n2,n3,n4,n5,n6⟩:=s1.2.rn
 have s2:=s1.ren (x:=b1) (h:=h2)
 rw[oP,kb n1 q1] at s2
 have e2:(S.ren a h1).swp1 v 22 h2=(S.ren a h1).ren b1 h2:=by rw[oN,s1.1,oO];rfl
 have DV:=vB (h:=h2) Ad (by simp) P3
 have P5:=vB (h:=h2) Ad (by simp) P4
 generalize cJ b1 h2 c1=c2 at *
 generalize cJ b1 h2 d1=d2 at *
 obtain⟨m1,m2,m3,m4,m5,m6⟩:=s2.2.rn
 have s3:=s2.ren (x:=c2) (h:=h3)
 rw[oP,kb m2 q2,kb m4 q4] at s3
 have e3:((S.ren a h1).ren b1 h2).swp1 v 23 h3=((S.ren a h1).ren b1 h2).ren c2 h3:=by rw[oN,s2.1,oO];rfl
 have P6:=vB (h:=h3) DV (by simp) P5
 generalize cJ c2 h3 d2=d3 at *
 obtain⟨l1,l2,l3,l4,l5,l6⟩:=s3.2.rn
 have s4:=s3.ren (x:=d3) (h:=h4)
 rw[oP,kb l3 q3,kb l5 q5,kb l6 q6] at s4
 have e4:(((S.ren a h1).ren b1 h2).ren c2 h3).swp1 v 24 h4=(((S.ren a h1).ren b1 h2).ren c2 h3).ren d3 h4:=by rw[oN,s3.1,oO];rfl
 have eh:S.head [] [v,21,h1,v,22,h2,v,23,h3,v,24,h4] Wv Wa=((((S.ren a h1).ren b1 h2).ren c2 h3).ren d3 h4).scrub [] Wv Wa:=by
  rw[rP,e1,rP,e2,rP,e3,rP,e4];rfl
 rw[eh]
 refine⟨⟨?_,?_⟩,fun x hx=>?_,fun x hx h0=>?_⟩
 ·show (if Wv.contains v then none else _)=_
  rw[hv,s4.1]
  simp only[Gv,GO,Option.map_some]
  have:(vn t h1 h2 h3 h4).map (Jv Wa)=vn t h1 h2 h3 h4:=by
   unfold vn gp;simp only[GJ,AW (Mp _),GB,GF,Jv,hw.1,hw.2.1,hw.2.2.1,hw.2.2.2]
   rfl
  rw[this]
  cases Wa.isEmpty<;>rfl
 ·have keep:∀x,Wa.contains x=false->(((((S.ren a h1).ren b1 h2).ren c2 h3).ren d3 h4).scrub [] Wv Wa).A x=((((S.ren a h1).ren b1 h2).ren c2 h3).ren d3 h4).A x:=fun x hx=>by
   show (if Wa.contains x then none else _)=_
   rw[hx];rfl
  exact⟨by rw[keep _ hw.1];exact s4.2.ra,by rw[keep _ hw.2.1];exact s4.2.rb,by rw[keep _ hw.2.2.1];exact s4.2.rc,by rw[keep _ hw.2.2.2];exact s4.2.rd,q1,q2,q3,q4,q5,q6⟩
 ·show (if Wa.contains x then none else _)=_
  rw[hx];rfl
 ·show (if Wa.contains x then none else _)=_
  split
  ·rfl
  ·show S.A (cJ a h1 (cJ b1 h2 (cJ c2 h3 (cJ d3 h4 x))))=none
   have ne:∀{y},y∈[a,b,c,d,h1,h2,h3,h4]->x≠y:=fun hy e=>hx (e▸hy)
   rw[kb (ne P6) (ne (by simp)),kb (ne DV) (ne (by simp)),kb (ne Ad) (ne (by simp)),kb (ne (by simp)) (ne (by simp))]
   exact h0
def iR.of {A:AA} {t t':kG} {a b c d:Nat} (h:iR A t a b c d) (h1:t'.net=t.net) (o:t'.views=t.views) (j:t'.fx=t.fx):iR A t' a b c d:=
 ⟨by rw[h1];exact h.ra,by rw[o];exact h.rb,by rw[j];exact h.rc,by rw[j];exact h.rd,h.rn⟩
def yY {A:AA} {l:List V} (j:l.all V.datC=true) (o:∀z,V.nslice z∉l):gm l A=some (l,A):=by
 have:=Cn (A:=A) (m:=[]) j o;rw[GG] at this;rw[this,wT];simp
def yR {A:AA} {l:List V} {d:Nat} (j:l.all V.datC=true):JI d l A=some (l,A):=by
 have:=Co (A:=A) (m:=[]) (d:=d) j;rw[GG] at this;rw[this,wR];simp
structure sI (S:St) (aR cs:List V):Prop where
 r0:S.ρ 0=.lref 0 0
 r:∀i,S.ρ (i+1)=(aR[i]?).getD .undef
 h:S.μ 0=some (cs,false)
 m:∀i,(i == 0)=false->S.μ i=none
 a:∀x,S.A x=none
def sX {f:Nat} {F:F} (w:List nZ) {aR ws cs di:List V} (D:Pg f=some (.codeR F 0)) (H:aR.length+1=F.np) (q:F.res=w) (E:cs.all V.datC=true) (o:di.all V.datC=true) (p:∀z,V.nslice z∉di)
  (h:∀S,sI S aR cs->Wp (K' Pg) F.body S fun j S'=>(j=.norm\/j=.ret)/\S'.μ 0=some (di,false)/\∃vs,Jo (fL S') w=some vs/\Jo (dv S'.A) vs=some ws) :
  K' Pg f (.tuple (.lref 0 0::cs)::aR)=some (.tuple [jv ws,.tuple di]):=by
 have I:ea (.tuple (.lref 0 0::cs)::aR) 0 cs=some ⟨fun i=>if i=0 then .lref 0 0 else ((V.tuple (.lref 0 0::cs)::aR)[i]?).getD .undef,aE (fun _=>none) 0 (some (cs,false)),fun _=>none⟩:=by
  unfold ea;rw[yR E];rfl
 have hm:∀i,(i == 0)=false->(aE (fun _=>none) 0 (some (cs,false)):Nat->Option (List V×Bool)) i=none:=fun i hi=>fY hi
 refine fq D (by simpa using H) rfl I ((h _ ⟨rfl,fun i=>rfl,by simp[aE],hm,fun x=>rfl⟩).mono fun j S' u=>⟨u.1,?_⟩)
 obtain⟨h1,vs,y,B⟩:=u.2
 unfold nM
 rw[q,y]
 simp only[Option.bind_some,h1,yY o p,B]
def iD {f:Nat} {F:F} (w:List nZ) {aR ws cs di:List V} (B:Pg f=some (.codeR F 0)) (E:aR.length+1=F.np) (u:F.res=w) (D:cs.all V.datC=true) (o:di.all V.datC=true) (p:∀z,V.nslice z∉di)
  (h:∀S,sI S aR cs->Wp (K' Pg) F.body S fun j S'=>(j=.norm\/j=.ret)/\S'.μ 0=some (di,false)/\∃vs,Jo (fL S') w=some vs/\∀A,Jo (dv A) vs=some ws) :
  K' Pg f (.tuple (.lref 0 0::cs)::aR)=some (.tuple [jv ws,.tuple di]):=
 sX w B E u D o p fun S hS=>(h S hS).mono fun j S' q=>⟨q.1,q.2.1,q.2.2.elim fun vs y=>⟨vs,y.1,y.2 _⟩⟩
def MS {κ:Nat->List V->Option V} {S:St} {f v p:Nat} {aR cs di:List V} {r:V} (hm:S.μ v=some (cs,false)) (u:cs.all V.datC=true) (y:∀z,V.nslice z∉cs) (j:di.all V.datC=true)
  (w:∀A,Jo (dv A) aR=some aR) (B:aR.flatMap Jd=[])
  (o:κ f (.tuple (.lref 0 0::cs)::aR)=some (.tuple [r,.tuple di])) :
  kz κ p S f 0 v (.lref v 0::aR)=some (r,⟨S.ρ,aE S.μ v (some (di,false)),S.A⟩):=by
 have q:dQ S 0 v (.lref v 0::aR)=some (.tuple (.lref 0 0::cs)::aR,S.A):=by
  simp only[BA,kD,BQ,List.set_cons_zero,Jo,B2,w,Option.bind_some,hm,BR,Bx,BC,B,List.nil_append,BD,yY u y]
 rw[eT,q]
 simp only[Option.bind_some,o,BB,yR j]
abbrev Rd:=List UInt8×Bool
@[go_sem] def aW (r:Rd):List V:=[.str r.1,.bool r.2]
theorem Yw (r:Rd):(aW r).all V.datC=true:=rfl
def gR (r:Rd) (z:Nat):V.nslice z∉aW r:=by simp[aW]
def aF {κ:Nat->List V->Option V} {S:St} {f v p:Nat} {x:Rd} {r:V} {y:Rd} (hκ:κ f [.tuple (.lref 0 0::aW x)]=some (.tuple [r,.tuple (aW y)])) (hm:S.μ v=some (aW x,false)) :
  kz κ p S f 0 v [.lref v 0]=some (r,⟨S.ρ,aE S.μ v (some (aW y,false)),S.A⟩):=
 MS (aR:=[]) hm (Yw x) (gR x) (Yw y) (fun A=>rfl) rfl hκ
def rd {α:Type} (f:List UInt8->Option (α×List UInt8)) (d:α) (r:Rd):α×Rd:=match r.2,f r.1 with
 |false,some (n,s)=>(n,(s,false))
 |_,_=>(d,(r.1,true))
def cu {α:Type} (f:List UInt8->Option (α×List UInt8)) (d:α) (r:Rd):α×Rd:=match f r.1 with
 |some (n,s)=>(n,(s,r.2))
 |none=>(d,([],true))
def zS:aH:=⟨0,0,0⟩
def fy (s:aH):V:=.agg (Yg s)
def fV:=HpR 465 F465 0 jN
def eW (h:fV Pg) (x:Rd) (y:x.1.length<2 ^ 62):K' Pg 465 [.tuple (.lref 0 0::aW x)]=some (.tuple [iz (rd (tk 9) 0 x).1,.tuple (aW (rd (tk 9) 0 x).2)]):=by
 obtain⟨h,w⟩:=h;obtain⟨e,p,k⟩:=i4 w x.1 y;have o:decide (e=0)=false:=Gq p;obtain⟨s,b⟩:=x;refine iD [.t 2] (ws:=[iz _]) h rfl rfl (Yw _) (Yw _) (gR _) fun S ⟨r0,r,hm,m0,z⟩=>?_;simp only[go_sem] at hm k;cases j:(tk 9) s with
 |none=>
  rw[j] at k;simp only[eG] at k;cases b with
  |true=>
   simp only[F465,c465,go_sem,r0,hm,k,rd];exact⟨_,rfl,fun _=>rfl⟩
  |false=>
   simp only[F465,c465,go_sem,r0,hm,k,o,rd,j];exact⟨_,rfl,fun _=>rfl⟩
 |some q=>
  obtain⟨n,u⟩:=q;rw[j] at k;simp only[eG] at k;cases b with
  |true=>
   simp only[F465,c465,go_sem,r0,hm,k,rd];exact⟨_,rfl,fun _=>rfl⟩
  |false=>
   simp only[F465,c465,go_sem,r0,hm,k,rd,j];exact⟨_,rfl,fun _=>rfl⟩
def fX:=HpR 492 F492 0 nH
def i5 (h:fX Pg) (x:Rd) (y:x.1.length<2 ^ 62):K' Pg 492 [.tuple (.lref 0 0::aW x)]=some (.tuple [.str (rd bS [] x).1,.tuple (aW (rd bS [] x).2)]):=by
 obtain⟨h,w⟩:=h;obtain⟨e,p,k⟩:=sA w x.1 y;have o:decide (e=0)=false:=Gq p;obtain⟨s,b⟩:=x;refine iD [.t 2] (ws:=[.str _]) h rfl rfl (Yw _) (Yw _) (gR _) fun S ⟨r0,r,hm,m0,z⟩=>?_;simp only[go_sem] at hm k;cases j:bS s with
 |none=>
  rw[j] at k;simp only[iF] at k;cases b with
  |true=>
   simp only[F492,c492,go_sem,r0,hm,k,rd];exact⟨_,rfl,fun _=>rfl⟩
  |false=>
   simp only[F492,c492,go_sem,r0,hm,k,o,rd,j];exact⟨_,rfl,fun _=>rfl⟩
 |some q=>
  obtain⟨n,u⟩:=q;rw[j] at k;simp only[iF] at k;cases b with
  |true=>
   simp only[F492,c492,go_sem,r0,hm,k,rd];exact⟨_,rfl,fun _=>rfl⟩
  |false=>
   simp only[F492,c492,go_sem,r0,hm,k,rd,j];exact⟨_,rfl,fun _=>rfl⟩
def ik:=HpR 493 F493 0 rp
def nS (h:ik Pg) (x:Rd) (z:x.1.length<2 ^ 62):K' Pg 493 [.tuple (.lref 0 0::aW x)]=some (.tuple [.bool (rd dC false x).1,.tuple (aW (rd dC false x).2)]):=by
 obtain⟨h,w⟩:=h;obtain⟨e,p,k⟩:=yl w x.1;have o:decide (e=0)=false:=Gq p;obtain⟨s,b⟩:=x;refine iD [.t 2] (ws:=[.bool _]) h rfl rfl (Yw _) (Yw _) (gR _) fun S ⟨r0,r,hm,m0,y⟩=>?_;simp only[go_sem] at hm k;cases j:dC s with
 |none=>
  rw[j] at k;simp only[jx] at k;cases b with
  |true=>
   simp only[F493,c493,go_sem,r0,hm,k,rd];exact⟨_,rfl,fun _=>rfl⟩
  |false=>
   simp only[F493,c493,go_sem,r0,hm,k,o,rd,j];exact⟨_,rfl,fun _=>rfl⟩
 |some q=>
  obtain⟨n,u⟩:=q;rw[j] at k;simp only[jx] at k;cases b with
  |true=>
   simp only[F493,c493,go_sem,r0,hm,k,rd];exact⟨_,rfl,fun _=>rfl⟩
  |false=>
   simp only[F493,c493,go_sem,r0,hm,k,rd,j];exact⟨_,rfl,fun _=>rfl⟩
def gH:=HpR 464 F464 0 rh
def iZ (h:gH Pg) (x:Rd) (y:x.1.length<2 ^ 62):K' Pg 464 [.tuple (.lref 0 0::aW x)]=some (.tuple [fy (rd bY zS x).1,.tuple (aW (rd bY zS x).2)]):=by
 obtain⟨h,w⟩:=h;obtain⟨e,p,k⟩:=ye w x.1 y;have o:decide (e=0)=false:=Gq p;obtain⟨s,b⟩:=x;refine iD [.cell 2 (some 3)] (ws:=[fy _]) h rfl rfl (Yw _) (Yw _) (gR _) fun S ⟨r0,r,hm,m0,z⟩=>?_;have m2:=m0 2 rfl;have m3:=m0 3 rfl;simp only[go_sem] at hm k;cases j:bY s with
 |none=>
  rw[j] at k;simp only[iv] at k;cases b with
  |true=>
   simp only[F464,c464,go_sem,r0,hm,k,rd,m2,m3,fy,zS];exact⟨_,rfl,fun _=>rfl⟩
  |false=>
   simp only[F464,c464,go_sem,r0,hm,k,o,rd,j,m2,m3,fy,zS];exact⟨_,rfl,fun _=>rfl⟩
 |some q=>
  obtain⟨n,u⟩:=q;rw[j] at k;simp only[iv,Yg] at k;cases b with
  |true=>
   simp only[F464,c464,go_sem,r0,hm,k,rd,m2,m3,fy,zS];exact⟨_,rfl,fun _=>rfl⟩
  |false=>
   simp only[F464,c464,go_sem,r0,hm,k,rd,j,m2,m3,fy];exact⟨_,rfl,fun _=>rfl⟩
def jK:=HpR 435 F435 0 lj
def et (h:jK Pg) (x:Rd) (y:x.1.length<2 ^ 62):K' Pg 435 [.tuple (.lref 0 0::aW x)]=some (.tuple [iz (cu (tk 9) 0 x).1,.tuple (aW (cu (tk 9) 0 x).2)]):=by
 obtain⟨h,w⟩:=h;obtain⟨e,p,k⟩:=j3 w x.1 y;have o:decide (e=0)=false:=Gq p;obtain⟨s,b⟩:=x;refine iD [.t 2] (ws:=[iz _]) h rfl rfl (Yw _) (Yw _) (gR _) fun S ⟨r0,r,hm,m0,z⟩=>?_;simp only[go_sem] at hm k;cases j:(tk 9) s with
 |none=>
  rw[j] at k;simp only[eG] at k;cases b with
  |true=>
   simp only[F435,c435,go_sem,r0,hm,k,cu,j];exact⟨_,rfl,fun _=>rfl⟩
  |false=>
   simp only[F435,c435,go_sem,r0,hm,k,o,cu,j];exact⟨_,rfl,fun _=>rfl⟩
 |some q=>
  obtain⟨n,u⟩:=q;rw[j] at k;simp only[eG] at k;cases b with
  |true=>
   simp only[F435,c435,go_sem,r0,hm,k,cu,j];exact⟨_,rfl,fun _=>rfl⟩
  |false=>
   simp only[F435,c435,go_sem,r0,hm,k,cu,j];exact⟨_,rfl,fun _=>rfl⟩
def jL:=HpR 471 F471 0 ri
def j4 (h:jL Pg) (x:Rd) (y:x.1.length<2 ^ 62):K' Pg 471 [.tuple (.lref 0 0::aW x)]=some (.tuple [.str (cu bS [] x).1,.tuple (aW (cu bS [] x).2)]):=by
 obtain⟨h,w⟩:=h;obtain⟨e,p,k⟩:=yf w x.1 y;have o:decide (e=0)=false:=Gq p;obtain⟨s,b⟩:=x;refine iD [.t 2] (ws:=[.str _]) h rfl rfl (Yw _) (Yw _) (gR _) fun S ⟨r0,r,hm,m0,z⟩=>?_;simp only[go_sem] at hm k;cases j:bS s with
 |none=>
  rw[j] at k;simp only[iF] at k;cases b with
  |true=>
   simp only[F471,c471,go_sem,r0,hm,k,cu,j];exact⟨_,rfl,fun _=>rfl⟩
  |false=>
   simp only[F471,c471,go_sem,r0,hm,k,o,cu,j];exact⟨_,rfl,fun _=>rfl⟩
 |some q=>
  obtain⟨n,u⟩:=q;rw[j] at k;simp only[iF] at k;cases b with
  |true=>
   simp only[F471,c471,go_sem,r0,hm,k,cu,j];exact⟨_,rfl,fun _=>rfl⟩
  |false=>
   simp only[F471,c471,go_sem,r0,hm,k,cu,j];exact⟨_,rfl,fun _=>rfl⟩
def jM:=HpR 472 F472 0 rj
def sx (h:jM Pg) (x:Rd) (z:x.1.length<2 ^ 62):K' Pg 472 [.tuple (.lref 0 0::aW x)]=some (.tuple [.bool (cu dC false x).1,.tuple (aW (cu dC false x).2)]):=by
 obtain⟨h,w⟩:=h;obtain⟨e,p,k⟩:=yg w x.1;have o:decide (e=0)=false:=Gq p;obtain⟨s,b⟩:=x;refine iD [.t 2] (ws:=[.bool _]) h rfl rfl (Yw _) (Yw _) (gR _) fun S ⟨r0,r,hm,m0,y⟩=>?_;simp only[go_sem] at hm k;cases j:dC s with
 |none=>
  rw[j] at k;simp only[jx] at k;cases b with
  |true=>
   simp only[F472,c472,go_sem,r0,hm,k,cu,j];exact⟨_,rfl,fun _=>rfl⟩
  |false=>
   simp only[F472,c472,go_sem,r0,hm,k,o,cu,j];exact⟨_,rfl,fun _=>rfl⟩
 |some q=>
  obtain⟨n,u⟩:=q;rw[j] at k;simp only[jx] at k;cases b with
  |true=>
   simp only[F472,c472,go_sem,r0,hm,k,cu,j];exact⟨_,rfl,fun _=>rfl⟩
  |false=>
   simp only[F472,c472,go_sem,r0,hm,k,cu,j];exact⟨_,rfl,fun _=>rfl⟩
def iU:=HpR 434 F434 0 qZ
def jX (h:iU Pg) (x:Rd) (y:x.1.length<2 ^ 62):K' Pg 434 [.tuple (.lref 0 0::aW x)]=some (.tuple [fy (cu bY zS x).1,.tuple (aW (cu bY zS x).2)]):=by
 obtain⟨h,w⟩:=h;obtain⟨e,p,k⟩:=xW w x.1 y;have o:decide (e=0)=false:=Gq p;obtain⟨s,b⟩:=x;refine iD [.cell 2 (some 3)] (ws:=[fy _]) h rfl rfl (Yw _) (Yw _) (gR _) fun S ⟨r0,r,hm,m0,z⟩=>?_;have m2:=m0 2 rfl;have m3:=m0 3 rfl;simp only[go_sem] at hm k;cases j:bY s with
 |none=>
  rw[j] at k;simp only[iv] at k;cases b with
  |true=>
   simp only[F434,c434,go_sem,r0,hm,k,cu,j,m2,m3,fy,zS];exact⟨_,rfl,fun _=>rfl⟩
  |false=>
   simp only[F434,c434,go_sem,r0,hm,k,o,cu,j,m2,m3,fy,zS];exact⟨_,rfl,fun _=>rfl⟩
 |some q=>
  obtain⟨n,u⟩:=q;rw[j] at k;simp only[iv,Yg] at k;cases b with
  |true=>
   simp only[F434,c434,go_sem,r0,hm,k,cu,j,m2,m3,fy];exact⟨_,rfl,fun _=>rfl⟩
  |false=>
   simp only[F434,c434,go_sem,r0,hm,k,cu,j,m2,m3,fy];exact⟨_,rfl,fun _=>rfl⟩
structure bV {α:Type} (R:Rd->α×Rd) (W:α->List UInt8) (P:α->Prop):Prop where
 get:∀{s r:List UInt8} {a:α},R (s,false)=(a,(r,false))->s=W a++r/\P a
 put:∀{r:List UInt8} {a:α},P a->R (W a++r,false)=(a,(r,false))
 bad:∀{s:List UInt8},(R (s,true)).2.2=true
 len:∀x,(R x).2.1.length<=x.1.length
section
variable {α β:Type}
def bV.rd {f:List UInt8->Option (α×List UInt8)} {d:α} {W:α->List UInt8} {P:α->Prop} (o:∀{s r a},f s=some (a,r)↔s=W a++r/\P a):bV (rd f d) W P:=by
 refine⟨fun {s r a} h=>?_,fun {r a} h=>?_,fun {s}=>rfl,fun x=>?_⟩
 ·simp only[Sg.rd] at h;cases j:f s with
  |none=>rw[j] at h;simp at h
  |some q=>
   rw[j] at h;simp only[Gi,and_true] at h;exact o.1 (by rw[j,<-h.1,<-h.2])
 ·simp only[Sg.rd,o.2 ⟨rfl,h⟩]
 ·obtain⟨s,b⟩:=x;cases b with
  |true=>exact Gt _
  |false=>
   simp only[Sg.rd];cases j:f s with
   |none=>exact Gt _
   |some q=>
    obtain⟨a,r⟩:=q;have:=fp List.length (o.1 j).1;simp only[Gb] at this ⊢;omega
def bV.cu {f:List UInt8->Option (α×List UInt8)} {d:α} {W:α->List UInt8} {P:α->Prop} (o:∀{s r a},f s=some (a,r)↔s=W a++r/\P a):bV (cu f d) W P:=by
 refine⟨fun {s r a} h=>?_,fun {r a} h=>?_,fun {s}=>?_,fun x=>?_⟩
 ·simp only[Sg.cu] at h;cases j:f s with
  |none=>rw[j] at h;simp at h
  |some q=>
   rw[j] at h;simp only[Gi,and_true] at h;exact o.1 (by rw[j,<-h.1,<-h.2])
 ·simp only[Sg.cu,o.2 ⟨rfl,h⟩]
 ·simp only[Sg.cu];cases f s<;>rfl
 ·obtain⟨s,b⟩:=x;simp only[Sg.cu];cases j:f s with
  |none=>exact Gy _
  |some q=>
   obtain⟨a,r⟩:=q;have:=fp List.length (o.1 j).1;simp only[Gb] at this ⊢;omega
def bA (R1:Rd->α×Rd) (R2:Rd->β×Rd) (x:Rd):(α×β)×Rd:=(((R1 x).1,(R2 (R1 x).2).1),(R2 (R1 x).2).2)
def bV.pair {o:Rd->α×Rd} {B:Rd->β×Rd} {D:α->List UInt8} {E:β->List UInt8} {w:α->Prop} {z:β->Prop} (h1:bV o D w) (j:bV B E z) :
  bV (bA o B) (fun p=>D p.1++E p.2) (fun p=>w p.1/\z p.2):=by
 refine⟨fun {s r a} h=>?_,fun {r a} h=>?_,fun {s}=>?_,fun x=>?_⟩
 ·obtain⟨a,b⟩:=a
  simp only[bA,Gi] at h
  obtain⟨⟨H,I⟩,u⟩:=h
  cases J:o (s,false) with
  |mk S y=>
   obtain⟨L,b'⟩:=y
   rw[J] at H I u
   cases b' with
   |true=>
    have:=j.bad (s:=L)
    rw[u] at this;cases this
   |false=>
    obtain⟨M,N⟩:=h1.get J
    obtain⟨O,Q⟩:=j.get (s:=L) (r:=r) (a:=b) (Prod.ext I u)
    subst H
    rw[M,O]
    exact⟨by simp,N,Q⟩
 ·obtain⟨a,b⟩:=a
  simp only[bA,Gr]
  rw[h1.put h.1,j.put h.2]
 ·simp only[bA]
  have:=h1.bad (s:=s)
  generalize o (s,true)=q at *
  obtain⟨a,t,b⟩:=q
  simp only at this
  subst this
  exact j.bad
 ·exact Gj (j.len _) (h1.len x)
def eI (g:α->β) (R:Rd->α×Rd) (x:Rd):β×Rd:=(g (R x).1,(R x).2)
def bV.map {R:Rd->α×Rd} {W:α->List UInt8} {P:α->Prop} (h:bV R W P) {g:α->β} {k:β->α} (w:∀a,k (g a)=a):bV (eI g R) (fun b=>W (k b)) (fun b=>P (k b)/\g (k b)=b):=by
 refine⟨fun {s r b} j=>?_,fun {r b} j=>?_,fun {s}=>h.bad,fun x=>h.len x⟩
 ·simp only[eI,Gi] at j;obtain⟨o,p⟩:=j;obtain⟨q,u⟩:=h.get (Prod.ext (x:=R (s,false)) (y:=((R (s,false)).1,(r,false))) rfl p);subst o;rw[w];exact⟨q,u,rfl⟩
 ·simp only[eI];rw[h.put j.1];simp only[j.2]
def rL (x:Rd):Nat×Rd:=if (rd (tk 9) 0 x).2.1.length<(rd (tk 9) 0 x).1 then (0,((rd (tk 9) 0 x).2.1,true)) else rd (tk 9) 0 x
def YR (R:Rd->α×Rd):Nat->Rd->List α×Rd
 |0,x=>([],x)
 |k+1,x=>((R x).1::(YR R k (R x).2).1,(YR R k (R x).2).2)
def YJ (R:Rd->α×Rd):Nat->Rd->List α×Rd
 |0,x=>([],x)
 |k+1,x=>if x.2 then ([],x) else ((R x).1::(YJ R k (R x).2).1,(YJ R k (R x).2).2)
def lstP (R:Rd->α×Rd) (x:Rd):List α×Rd:=YR R (rL x).1 (rL x).2
def lstD (R:Rd->α×Rd) (x:Rd):List α×Rd:=YJ R (cu (tk 9) 0 x).1 (cu (tk 9) 0 x).2
def YC (W:α->List UInt8) (l:List α):List UInt8:=aC l.length++l.flatMap W
variable {R:Rd->α×Rd} {W:α->List UInt8} {P:α->Prop}
theorem oZ (h:bV R W P):∀{k:Nat} {s:List UInt8},(YR R k (s,true)).2.2=true
 |0,s=>rfl
 |k+1,s=>by
  simp only[YR];have:=h.bad (s:=s);generalize R (s,true)=q at *
  obtain⟨a,t,b⟩:=q;simp only at this;subst this;exact oZ h
theorem oT:∀{k:Nat} {s:List UInt8},YJ R k (s,true)=([],(s,true))
 |0,s=>rfl
 |k+1,s=>rfl
theorem Dq (h:bV R W P):∀{k:Nat} {x:Rd},(YJ R k x).2.2=false->YJ R k x=YR R k x
 |0,x,_=>rfl
 |k+1,(s,true),hf=>by rw[oT] at hf;cases hf
 |k+1,(s,false),hf=>by
  have e:YJ R (k+1) (s,false)=((R (s,false)).1::(YJ R k (R (s,false)).2).1,(YJ R k (R (s,false)).2).2):=rfl;rw[e] at hf ⊢;rw[Dq h hf];rfl
theorem zq (h:bV R W P):∀{k:Nat} {s r:List UInt8} {l:List α},YR R k (s,false)=(l,(r,false))->l.length=k/\s=l.flatMap W++r/\∀a∈l,P a
 |0,s,r,l,hr=>by
  simp only[YR,Gi,and_true] at hr;obtain⟨rfl,rfl⟩:=hr;exact⟨rfl,by simp,fun a ha=>by simp at ha⟩
 |k+1,s,r,l,hr=>by
  simp only[YR,Gi] at hr;obtain⟨p,j⟩:=hr;cases q:R (s,false) with
  |mk u y=>
   obtain⟨o,b'⟩:=y;rw[q] at p j;cases b' with
   |true=>
    have:=oZ h (k:=k) (s:=o);rw[j] at this;cases this
   |false=>
    obtain⟨w,z⟩:=h.get q;obtain⟨B,D,E⟩:=zq h (Prod.ext (x:=YR R k (o,false)) (y:=((YR R k (o,false)).1,(r,false))) rfl j);subst p;refine⟨by simp[B],by rw[w,GH,Gr];exact fp (W u++·) D,fun a ha=>?_⟩;rcases GN.1 ha with rfl|ha
    ·exact z
    ·exact E a ha
theorem Dr (h:bV R W P):∀{l:List α} {r:List UInt8},(∀a∈l,P a)->YR R l.length (l.flatMap W++r,false)=(l,(r,false))
 |[],r,_=>rfl
 |a::l,r,hl=>by
  simp only[List.length_cons,YR,GH,Gr];rw[h.put (hl a (by simp)),Dr h (fun b j=>hl b (by simp[j]))]
theorem CP (h:bV R W P):∀{l:List α} {r:List UInt8},(∀a∈l,P a)->YJ R l.length (l.flatMap W++r,false)=(l,(r,false))
 |[],r,_=>rfl
 |a::l,r,hl=>by
  have e:YJ R (a::l).length ((a::l).flatMap W++r,false)=((R ((a::l).flatMap W++r,false)).1::(YJ R l.length (R ((a::l).flatMap W++r,false)).2).1,(YJ R l.length (R ((a::l).flatMap W++r,false)).2).2):=rfl;rw[e];simp only[GH,Gr];rw[h.put (hl a (by simp)),CP h (fun b j=>hl b (by simp[j]))]
theorem sU (h:bV R W P):∀{k:Nat} {x:Rd},(YR R k x).2.1.length<=x.1.length
 |0,x=>Gt _
 |k+1,x=>Gj (sU h (k:=k)) (h.len x)
theorem vz (h:bV R W P):∀{k:Nat} {x:Rd},(YJ R k x).2.1.length<=x.1.length
 |0,x=>Gt _
 |k+1,x=>by
  simp only[YJ];split
  ·exact Gt _
  ·exact Gj (vz h (k:=k)) (h.len x)
def dF:bV (rd (tk 9) 0) aC (fun n=>n<2 ^ 63):=bV.rd fun {s r a}=>by rw[zy,YG]
def fN:bV (cu (tk 9) 0) aC (fun n=>n<2 ^ 63):=bV.cu fun {s r a}=>by rw[zy,YG]
theorem YE (j:∀a,P a->1<=(W a).length):∀{l:List α},(∀a∈l,P a)->l.length<=(l.flatMap W).length
 |[],_=>by simp
 |a::l,hl=>by
  have h1:=j a (hl a (by simp));have p:=YE j (l:=l) fun b o=>hl b (by simp[o]);simp only[GH,Gb,List.length_cons];omega
def bV.lstP (h:bV R W P) (B:∀a,P a->1<=(W a).length):bV (Sg.lstP R) (YC W) (fun l=>l.length<2 ^ 63/\∀a∈l,P a):=by
 refine⟨fun {s r l} j=>?_,fun {r l} j=>?_,fun {s}=>?_,fun x=>?_⟩
 ·simp only[Sg.lstP,rL] at j;split at j
  ·have:=oZ h (k:=0) (s:=(Sg.rd (tk 9) 0 (s,false)).2.1);rw[j] at this;cases this
  ·cases o:Sg.rd (tk 9) 0 (s,false) with
   |mk n y=>
    obtain⟨D,b'⟩:=y;rw[o] at j;cases b' with
    |true=>
     have:=oZ h (k:=n) (s:=D);simp only at j;rw[j] at this;cases this
    |false=>
     obtain⟨p,q⟩:=dF.get o;obtain⟨u,w,z⟩:=zq h j;subst u;rw[p,w];exact⟨by simp[YC],q,z⟩
 ·simp only[Sg.lstP,rL,YC,Gr];rw[dF.put j.1];have:=YE B j.2;rw[Gu (by simp only[Gb];omega)];exact Dr h j.2
 ·simp only[Sg.lstP,rL];split
  ·exact oZ h
  ·exact oZ h
 ·simp only[Sg.lstP,rL];split
  ·exact Gj (sU h) (dF.len x)
  ·exact Gj (sU h) (dF.len x)
def bV.lstD (h:bV R W P):bV (Sg.lstD R) (YC W) (fun l=>l.length<2 ^ 63/\∀a∈l,P a):=by
 refine⟨fun {s r l} j=>?_,fun {r l} j=>?_,fun {s}=>?_,fun x=>?_⟩
 ·simp only[Sg.lstD] at j;cases o:Sg.cu (tk 9) 0 (s,false) with
  |mk n y=>
   obtain⟨D,b'⟩:=y;rw[o] at j;cases b' with
   |true=>
    simp only[oT,Gi] at j;simp at j
   |false=>
    obtain⟨p,u⟩:=fN.get o;simp only at j;rw[Dq h (by rw[j])] at j;obtain⟨w,z,B⟩:=zq h j;subst w;rw[p,z];exact⟨by simp[YC],u,B⟩
 ·simp only[Sg.lstD,YC,Gr];rw[fN.put j.1];exact CP h j.2
 ·simp only[Sg.lstD];have:=fN.bad (s:=s);generalize Sg.cu (tk 9) 0 (s,true)=q at *
  obtain⟨a,t,b⟩:=q;simp only at this;subst this;simp only[oT]
 ·exact Gj (vz h) (fN.len x)
end
def CO {l:List UInt8} (h:l≠[]):(fK l).2=((dN l).2:Int):=by
 rw[vr h];by_cases c:dN l=(65533,1)
 ·rw[GE c,c];rfl
 ·rw[Gu c]
def MZ {l:List UInt8} (h:l≠[]) (j:(fK l).1<0):((dN l).1:Int)=65533:=by
 rw[vr h] at j;by_cases c:dN l=(65533,1)
 ·rw[c];rfl
 ·rw[Gu c] at j;simp at j;omega
def OB {l:List UInt8} (h:l≠[]) (j:¬(fK l).1<0):((dN l).1:Int)=(fK l).1:=by
 rw[vr h] at j ⊢;by_cases c:dN l=(65533,1)
 ·rw[GE c] at j;simp at j
 ·rw[Gu c]
def vG {l:List UInt8} (h:l≠[]):(dN l).2<=l.length:=by
 rcases CB h with x|⟨j,t,rfl,q,x⟩|⟨j,a1,t,rfl,q,o,x⟩|⟨j,a1,a2,t,rfl,q,o,p,u,x⟩|⟨j,a1,a2,a3,t,rfl,q,o,p,u,w,x⟩
 ·rw[x];have:=pn.2 h;simp only;omega
 all_goals rw[x];simp
@[go_sem] def vP (l:List Int):V:=.slice 1 (l.map fun x=>[iz x])
def pz:=HpC 195 F195 nq
def lP {l:List UInt8}:decide ((0:Int)<(l.length:Int))=!decide (l=[]):=by
 cases l<;>simp
def rV (h:pz Pg) (s:List UInt8) (D:s.length<=1000000):K' Pg 195 [.str s]=some (vP (Yo s)):=by
 obtain⟨h,q⟩:=h;refine aA h rfl ?_;simp only[go_sem];unfold l195_0;refine bE (fun (l:List UInt8) S=>∃bN:List Int,S.ρ 0=.str l/\S.A 3=some (1,bN.map (fun x=>[iz x]),.live)/\S.ρ 3=.own 3 1 bN.length/\bN++Yo l=Yo s/\bN.length+l.length<=s.length) (fun l=>l.length) s ?_ ?_
 ·exact⟨[],by simp[go_sem]⟩
 ·intro l S ⟨bN,h0,a3,w,j,B⟩;simp only[go_sem,h0,lP];by_cases o:l=[]
  ·subst o;rw[sL,GG] at j;subst j;simp only[go_sem,a3,w]
  ·have z:=mI o;have E:=pn.2 o;have k:=rT q l o;rw[show fK l=((fK l).1,((dN l).2:Int)) from Prod.ext rfl (CO o)] at k;simp only[zN] at k;have u:=vG o;have p:bN.length+1<=dj:=by simp only[dj];omega
   have y:=oV o;simp only[go_sem,o,h0,k];refine bL (fun c=>?_) (fun c=>?_)
   ·have e:=MZ o (Gk c);simp only[go_sem,h0,a3,w,p,u];refine⟨l.drop (dN l).2,z,bN++[65533],rfl,by simp,by simp,?_,by simp only[Gb,List.length_cons,List.length_nil];omega⟩;rw[<-j,y,e];simp
   ·have e:=OB o (Ge c);simp only[go_sem,h0,a3,w,p,u];refine⟨l.drop (dN l).2,z,bN++[(fK l).1],rfl,by simp,by simp,?_,by simp only[Gb,List.length_cons,List.length_nil];omega⟩;rw[<-j,y,e];simp
def k0:=HpC 168 F168<|HpA nq<|pw
def lB (h:k0 Pg) (s:List UInt8):K' Pg 168 [.str s]=some (.bool (cM s)):=by
 obtain⟨h,p,q⟩:=h;refine aA h rfl ?_;have B:decide ((s.length:Int)=0)=decide (s=[]):=by cases s<;>simp;omega
 simp only[go_sem,B];by_cases u:s=[]
 ·have e:cM s=false:=by rw[u];rfl
  rw[e];simp only[go_sem,u]
 simp only[go_sem,u];refine bL (fun c=>?_) (fun c=>?_)
 ·have e:cM s=false:=by
   have:=Gk c;have:decide (s.length<=16)=false:=Gq (by omega);simp[cM,this]
  rw[e];simp only[go_sem]
 have c:=Ge c;have H:=pn.2 u;have e:cM s=bx s.length s:=by
  have h1:decide (1<=s.length)=true:=GC (by omega);have D:decide (s.length<=16)=true:=GC (by omega);simp only[cM,h1,D,G0]
 rw[e];simp only[go_sem];unfold l168_0;refine bE (fun (l:List UInt8) S=>S.ρ 0=.str l/\bx l.length l=bx s.length s) (fun l=>l.length) s ?_ ?_
 ·simp[go_sem]
 ·intro l S ⟨h0,j⟩;simp only[go_sem,h0,lP];by_cases o:l=[]
  ·subst o;rw[<-j];simp only[go_sem,MB]
  ·have E:=mI o;have k:=rT p l o;rw[show fK l=((fK l).1,((dN l).2:Int)) from Prod.ext rfl (CO o)] at k;simp only[zN] at k;have z:=xj q (fK l).1;rw[MJ o] at z;have w:=vG o;rw[Mr o] at j;simp only[go_sem,o,h0,k,z];cases y:dk (dN l).1 (dN l).2 with
   |false=>
    rw[y,Gl] at j;rw[<-j];simp only[go_sem]
   |true=>
    rw[y,GK] at j;simp only[go_sem,h0,w];exact⟨l.drop (dN l).2,E,rfl,j⟩
def ld:=HpC 187 F187 pz
def lD (h:ld Pg) (a b:List UInt8) (P:a.length<=1000000) (Q:b.length<=1000000):K' Pg 187 [.str a,.str b]=some (iz (Yu (Yo a) (Yo b))):=by
 obtain⟨h,p⟩:=h;have N:=rV p a P;have O:=rV p b Q;simp only[vP] at N O;refine aA h rfl ?_;simp only[go_sem,N,O];have T:=yO a.length a (Gt _);have U:=yO b.length b (Gt _);generalize Yo a=x at *
 generalize Yo b=y at *
 unfold l187_0;refine bE (fun (i:Nat) S=>i<=x.length/\i<=y.length/\S.ρ 5=vP x/\S.ρ 6=vP y/\S.ρ 7=iz i/\Yu (x.drop i) (y.drop i)=Yu x y) (fun i=>x.length-i) 0 ?_ ?_
 ·simp[go_sem]
 ·intro i S ⟨hi,R,q,w,B,j⟩;simp only[go_sem,q,B];by_cases M:i<x.length
  ·have E:decide ((i:Int)<(x.length:Int))=true:=GC (by omega);obtain⟨u,hu,D⟩:=bO M;by_cases L:i<y.length
   ·have I:decide ((i:Int)<(y.length:Int))=true:=GC (by omega);obtain⟨v,J,o⟩:=bO L;rw[D,o] at j;simp only[go_sem,q,w,B,E,I,hu,J];refine bL (fun c=>?_) (fun c=>?_)
    ·rw[o7 (Gk c)] at j;simp only[go_sem,<-j]
    ·have c:=Ge c;simp only[go_sem,q,w,B,hu,J];refine bL (fun d=>?_) (fun d=>?_)
     ·rw[sR (Gk d)] at j;simp only[go_sem,<-j]
     ·have d:=Ge d;obtain rfl:u=v:=by omega
      rw[sQ] at j;simp only[go_sem,q,w,B];exact⟨i+1,by omega,by omega,by omega,by rw[Ym M (by omega)],j⟩
   ·have I:decide ((i:Int)<(y.length:Int))=false:=Gq (by omega);have z:decide ((x.length:Int)<(y.length:Int))=false:=Gq (by omega);have H:decide ((y.length:Int)<(x.length:Int))=true:=GC (by omega);have o:y.drop i=[]:=List.drop_eq_nil_of_le (by omega);rw[D,o] at j;have j:(1:Int)=Yu x y:=j;simp only[go_sem,q,w,B,E,I,z,H,<-j]
  ·have E:decide ((i:Int)<(x.length:Int))=false:=Gq (by omega);simp only[go_sem,q,w,E];rw[List.drop_eq_nil_of_le (by omega)] at j;by_cases L:i<y.length
   ·have z:decide ((x.length:Int)<(y.length:Int))=true:=GC (by omega);obtain⟨v,J,o⟩:=bO L;rw[o] at j;have j:(-1:Int)=Yu x y:=j;simp only[go_sem,z,<-j]
   ·have z:decide ((x.length:Int)<(y.length:Int))=false:=Gq (by omega);have H:decide ((y.length:Int)<(x.length:Int))=false:=Gq (by omega);rw[List.drop_eq_nil_of_le (by omega)] at j;have j:(0:Int)=Yu x y:=j;simp only[go_sem,q,w,z,H,<-j]
def lf:=HpC 192 F192 px
def lF (h:lf Pg) (a b:List UInt8):K' Pg 192 [.str a,.str b]=some (iz (Yu (Yo a) (Yo b))):=by
 obtain⟨h,q⟩:=h;refine aA h rfl ?_;simp only[go_sem];unfold l192_0;refine bE (fun (p:List UInt8×List UInt8) S=>S.ρ 0=.str p.1/\S.ρ 1=.str p.2/\Yu (Yo p.1) (Yo p.2)=Yu (Yo a) (Yo b)) (fun p=>p.1.length) (a,b) ?_ ?_
 ·simp[go_sem]
 ·intro⟨x,y⟩ S ⟨h0,h1,j⟩;simp only at h0 h1 j;have k:=rU q x;have k':=rU q y;simp only[go_sem,h0];by_cases u:x=[]
  ·subst u;rw[sL] at j;by_cases o:y=[]
   ·subst o;have j:(0:Int)=Yu (Yo a) (Yo b):=j;simp only[go_sem,h0,h1,<-j]
   ·rw[oV o] at j;have j:(-1:Int)=Yu (Yo a) (Yo b):=j;simp only[go_sem,h0,h1,o,<-j]
  ·by_cases o:y=[]
   ·subst o;rw[oV u,sL] at j;have j:(1:Int)=Yu (Yo a) (Yo b):=j;simp only[go_sem,h0,h1,u,<-j]
   ·rw[oV u,oV o] at j;have w:jW x=dN x:=by rw[jW,Gu u]
    have z:jW y=dN y:=by rw[jW,Gu o]
    rw[w] at k;rw[z] at k';have D:=vG u;have E:=vG o;have B:=mI u;simp only[go_sem,h0,h1,u,o,k,k'];refine bL (fun c=>?_) (fun c=>?_)
    ·rw[o7 (Gk c)] at j;simp only[go_sem,<-j]
    ·have c:=Ge c;simp only[go_sem];refine bL (fun d=>?_) (fun d=>?_)
     ·rw[sR (Gk d)] at j;simp only[go_sem,<-j]
     ·have d:=Ge d;have e:((dN x).1:Int)=((dN y).1:Int):=by omega
      rw[e,sQ] at j;simp only[go_sem,h0,h1,D,E];exact⟨(x.drop (dN x).2,y.drop (dN y).2),B,rfl,rfl,j⟩
structure fu where
 lo:List UInt8
 hi:List UInt8
 deriving DecidableEq
@[go_sem] def YL (s:fu):List V:=[.str s.lo,.str s.hi]
def fG (a b:List UInt8):Bool:=decide (Yu (Yo a) (Yo b)<0)
def vV (a b:List UInt8):Bool:=decide (Yu (Yo a) (Yo b)<=0)
def Yx (s:fu):Bool:=(decide (s.lo=[])||cM s.lo)&&(decide (s.hi=[])||(cM s.hi&&fG s.lo s.hi))
def zc {a b:List Int}:decide (Yu a b=-1)=decide (Yu a b<0):=by
 apply GU.2;have:=CI a b;omega
def Y9 {l:List UInt8}:decide ((l.length:Int)=0)=decide (l=[]):=by cases l<;>simp;omega
def YI {l:List UInt8} (h:cM l=true):l.length<=16/\l≠[]:=by
 simp only[cM,Gg,Gn] at h;exact⟨h.2.2,fun e=>by rw[e] at h;simp at h⟩
def nm:=HpC 186 F186<|HpA lc<|lf
def rS (h:nm Pg) (s:fu):K' Pg 186 [.agg (YL s)]=some (.bool (Yx s)):=by
 obtain⟨h,j,o⟩:=h;have w:=lC j s.lo;have y:=lC j s.hi;have k3:=lF o s.lo s.hi;refine aA h rfl ?_;cases p:decide (s.lo=[])<;>cases q:cM s.lo<;>cases c3:decide (s.hi=[])<;>cases u:cM s.hi <;>
  simp only[go_sem,p,q,c3,u,w,y,k3,Yx,fG]
def nl:=HpC 167 F167<|HpA k0<|ld
def rR (h:nl Pg) (s:fu):K' Pg 167 [.agg (YL s)]=some (.bool (Yx s)):=by
 obtain⟨h,o,u⟩:=h;have w:=lB o s.lo;have y:=lB o s.hi;have k3:s.lo.length<=1000000->s.hi.length<=1000000->_:=lD u s.lo s.hi;refine aA h rfl ?_;cases j:decide (s.lo=[]) with
 |true=>
  have z:s.lo.length<=1000000:=by rw[Gk j];simp
  cases c3:decide (s.hi=[]) with
  |true=>simp only[go_sem,j,c3,Y9,lP,Yx]
  |false=>
   cases p:cM s.hi with
   |false=>simp only[go_sem,j,c3,p,y,Y9,lP,Yx]
   |true=>simp only[go_sem,j,c3,p,y,k3 z (by have:=YI p;omega),Y9,lP,Yx,fG,zc]
 |false=>
 cases q:cM s.lo with
 |false=>simp only[go_sem,j,q,w,lP,Yx]
 |true=>
  have z:s.lo.length<=1000000:=by have:=YI q;omega
  cases c3:decide (s.hi=[]) with
  |true=>simp only[go_sem,j,q,c3,w,Y9,lP,Yx]
  |false=>
   cases p:cM s.hi with
   |false=>simp only[go_sem,j,q,c3,p,w,y,Y9,lP,Yx]
   |true=>simp only[go_sem,j,q,c3,p,w,y,k3 z (by have:=YI p;omega),Y9,lP,Yx,fG,zc]
def Mt {s:fu} (h:Yx s=true):s.lo.length<=16/\s.hi.length<=16:=by
 simp only[Yx,Gg,kZ,Gn] at h;constructor
 ·rcases h.1 with e|e
  ·rw[e];simp
  ·exact (YI e).1
 ·rcases h.2 with e|e
  ·rw[e];simp
  ·exact (YI e.1).1
def iu (s:fu) (k:List UInt8):Bool:=Yx s&&(cM k&&(vV s.lo k&&(decide (s.hi=[])||fG k s.hi)))
def pu:=HpC 171 F171<|HpA nm<|HpA lc<|lf
def xi (h:pu Pg) (s:fu) (k:List UInt8):K' Pg 171 [.agg (YL s),.str k]=some (.bool (iu s k)):=by
 obtain⟨h,p,o,j⟩:=h;have q:=rS p s;have z:=lC o k;have k3:=lF j s.lo k;have B:=lF j k s.hi;simp only[YL] at q;refine aA h rfl ?_;cases u:Yx s<;>cases w:cM k<;>cases c3:decide (Yu (Yo s.lo) (Yo k)<=0)<;>cases y:decide (s.hi=[]) <;>
  simp only[go_sem,u,w,c3,y,q,z,k3,B,iu,vV,fG]
def pt:=HpC 169 F169 ld
def O6 {a b:List Int}:decide (0<=Yu a b)=decide (Yu b a<=0):=by
 apply GU.2;have:=Cp a b;omega
def xh (h:pt Pg) (k lo hi:List UInt8) (h1:k.length<=1000000) (p:lo.length<=1000000) (q:hi.length<=1000000):K' Pg 169 [.str k,.str lo,.str hi]=some (.bool (vV lo k&&(decide (hi=[])||fG k hi))):=by
 obtain⟨h,j⟩:=h;have u:=lD j k lo h1 p;have w:=lD j k hi h1 q;refine aA h rfl ?_;cases c3:decide (Yu (Yo lo) (Yo k)<=0)<;>cases o:decide (hi=[]) <;>
  simp only[go_sem,c3,o,u,w,vV,fG,O6,Y9]
def nk:=HpC 142 F142<|HpA nl<|HpA k0<|pt
def rQ (h:nk Pg) (s:fu) (k:List UInt8):K' Pg 142 [.agg (YL s),.str k]=some (.bool (iu s k)):=by
 obtain⟨h,j,o,p⟩:=h;have u:=rR j s;have y:=lB o k;simp only[YL] at u;refine aA h rfl ?_;cases q:Yx s with
 |false=>simp only[go_sem,q,u,iu]
 |true=>
 cases w:cM k with
 |false=>simp only[go_sem,q,w,u,y,iu]
 |true=>
  have z:=Mt q;have B:=YI w;have k3:=xh p k s.lo s.hi (by omega) (by omega) (by omega);simp only[go_sem,q,w,u,y,k3,iu]
def Ms {a b:List UInt8}:fG a b=true↔Yu (Yo a) (Yo b)<0:=by simp[fG]
def Mx {a b c:List UInt8} (h1:Yu (Yo a) (Yo b)<=0) (j:Yu (Yo b) (Yo c)<0):Yu (Yo a) (Yo c)<0:=(C3 _ _ _ h1 (by omega)).2 (.inr j)
def later (a b:aH):aH:=if Ye a b<0 then b else a
def Mu {a b:aH}:0<=Ye a b↔Ye b a<=0:=by
 have h1:=@vi a b;have j:=@yK b a;have:Ye a b<0↔0<Ye b a:=by rw[h1,j]
 omega
structure aS where
 key:List UInt8
 chain:List dt
 deriving DecidableEq
@[go_sem] def YW (e:aS):List V:=[.str e.key,Yb e.chain]
@[go_sem] def Yq (l:List aS):V:=.slice 2 (l.map YW)
def Sm (l:List aS):Prop:=l.length<=10000/\∀e∈l,e.chain.length<=10000/\e.key.length<=10000
def Sm.len {l:List aS} (h:Sm l):l.length<=10000:=h.1
def Sm.at {l:List aS} (h:Sm l) {i:Nat} {e:aS} (j:l[i]?=some e):e.chain.length<=10000/\e.key.length<=10000:=h.2 e (List.mem_of_getElem? j)
def DO {a b:Nat}:decide ((a:Int)<(b:Int))=!decide (b<=a):=by
 by_cases h:b<=a<;>simp[h]<;>omega
def DD {n:Nat}:decide ((64:Int)<(n:Int))=!decide (n<=64):=DO (a:=64)
def PD {n:Nat}:decide ((n:Int)<=64)=decide (n<=64):=DT (b:=64)
def fF (e:aS):Bool:=cM e.key&&(!decide (e.chain=[])&&Yj e.chain)
def g0:Option aS->List aS->Bool
 |_,[]=>true
 |p,e::l=>fF e&&((match p with|none=>true|some q=>fG q.key e.key)&&g0 (some e) l)
def gb (l:List aS):Bool:=decide (l.length<=64)&&g0 none l
def jA (l:List aS) (i:Nat):Option aS:=if i=0 then none else l[i-1]?
def vt {l:List aS} {i:Nat} {x:aS} (h:l[i]?=some x):jA l (i+1)=some x:=by simp[jA,h]
def og {l:List dt}:decide ((l.length:Int)=0)=decide (l=[]):=by cases l<;>simp;omega
def pA:=HpC 203 F203<|HpA H7<|HpA lc<|lf
def xl (h:pA Pg) (l:List aS) (O:Sm l):K' Pg 203 [Yq l]=some (.bool (gb l)):=by
 obtain⟨h,R,w,z⟩:=h;have D:=fun x=>lC w x;have E:=fun x y=>lF z x y;have P:=O.len;refine aA h rfl ?_;simp only[go_sem];unfold l203_0;refine bE (fun (i:Nat) S=>i<=l.length/\S.ρ 0=Yq l/\S.ρ 5=Yq l/\S.ρ 6=iz l.length/\S.ρ 7=iz i/\S.μ 4=none/\g0 (jA l i) (l.drop i)=g0 none l) (fun i=>l.length-i) 0 ?_ ?_
 ·simp[go_sem,jA]
 ·intro i S ⟨hi,h0,L,M,o,m4,j⟩;simp only[go_sem,M,o];refine bL (fun h=>?_) (fun h=>?_)
  ·have h:=Yh h;obtain⟨x,J,T⟩:=bO h;have H:=K7 R x.chain (by have:=O.at J;omega);simp only[Yb] at H;have p:IntKind.i64.wrap ((i:Int)+1)=((i+1:Nat):Int):=Ym h (by omega);rw[T] at j;simp only[g0] at j;simp only[go_sem,L,o,m4,J,Yb,D];cases I:cM x.key with
   |false=>
    simp only[fF,I,Gl] at j;simp only[go_sem,gb,<-j]
   |true=>
   cases q:Yj x.chain with
   |false=>
    simp only[fF,I,q,Gl,Gm] at j;simp only[go_sem,q,H,gb,<-j]
   |true=>
   cases c3:decide (x.chain=[]) with
   |true=>
    simp only[fF,I,q,c3,Gl,Gm,GR] at j;simp only[go_sem,q,c3,H,og,gb,<-j]
   |false=>
   simp only[fF,I,q,c3,GK,G0,kw] at j;rcases G4 i with hz|hz
   ·have u:decide ((0:Int)<(i:Int))=false:=Gq (by omega);simp only[go_sem,u,h0,L,M,o,q,c3,H,og];exact⟨i+1,by omega,by omega,by rw[p],by rw[vt J];simpa [jA,hz] using j⟩
   ·have u:decide ((0:Int)<(i:Int))=true:=GC (by omega);have B:IntKind.i64.wrap ((i:Int)-1)=((i-1:Nat):Int):=sO hz (by omega);obtain⟨y,Q,-⟩:=bO (l:=l) (i:=i-1) (by omega);have U:jA l i=some y:=by simp[jA,Nat.ne_of_gt hz,Q]
    rw[U] at j;simp only at j;simp only[go_sem,h0,q,c3,H,og,Yb,u,B,Q,E];refine bL (fun N=>?_) (fun N=>?_)
    ·have:fG y.key x.key=false:=Gq (by have:=Gk N;omega);rw[this] at j;simp only[Gl] at j;simp only[go_sem,gb,<-j]
    ·have:fG y.key x.key=true:=GC (by have:=Ge N;omega);rw[this] at j;simp only[GK] at j;simp only[go_sem,h0,L,M,o];exact⟨i+1,by omega,by omega,by rw[p],by rw[vt J];exact j⟩
  ·have h:=Yr hi h;subst h;rw[GQ] at j;simp only[g0] at j;simp only[go_sem,h0,PD,gb,<-j]
def pB:=HpC 204 F204<|HpA H4<|HpA k0<|ld
def xm (h:pB Pg) (l:List aS) (N:Sm l):K' Pg 204 [Yq l]=some (.bool (gb l)):=by
 obtain⟨h,Q,B,D⟩:=h;have H:=fun x=>lB B x;refine aA h rfl ?_;cases M:decide (l.length<=64) with
 |false=>simp only[go_sem,DD,M,gb]
 |true=>
 have P:=Gk M;simp only[go_sem,DD,M,gb];unfold l204_0;refine bE (fun (i:Nat) S=>i<=l.length/\S.ρ 0=Yq l/\S.ρ 3=iz i/\g0 (jA l i) (l.drop i)=g0 none l) (fun i=>l.length-i) 0 ?_ ?_
 ·simp[go_sem,jA]
 ·intro i S ⟨hi,h0,q,j⟩;simp only[go_sem,h0,q];refine bL (fun h=>?_) (fun h=>?_)
  ·have h:=Yh h;obtain⟨x,o,R⟩:=bO h;have L:=K4 Q x.chain (by have:=N.at o;omega);simp only[Yb] at L;have p:IntKind.i64.wrap ((i:Int)+1)=((i+1:Nat):Int):=Ym h (by omega);rw[R] at j;simp only[g0] at j;simp only[go_sem,h0,q,o,Yb,H];cases J:cM x.key with
   |false=>
    simp only[fF,J,Gl] at j;simp only[go_sem,<-j]
   |true=>
   cases c3:decide (x.chain=[]) with
   |true=>
    simp only[fF,J,c3,Gl,Gm,GR] at j;simp only[go_sem,h0,q,o,c3,og,<-j,Yb]
   |false=>
   cases z:Yj x.chain with
   |false=>
    simp only[fF,J,z,Gl,Gm] at j;simp only[go_sem,h0,q,o,z,c3,L,og,<-j,Yb]
   |true=>
   simp only[fF,J,z,c3,GK,G0,kw] at j;rcases G4 i with hz|hz
   ·have u:decide ((0:Int)<(i:Int))=false:=Gq (by omega);simp only[go_sem,u,h0,q,o,z,c3,L,og,Yb];exact⟨i+1,by omega,by omega,by rw[p],by rw[vt o];simpa [jA,hz] using j⟩
   ·have u:decide ((0:Int)<(i:Int))=true:=GC (by omega);have E:IntKind.i64.wrap ((i:Int)-1)=((i-1:Nat):Int):=sO hz (by omega);obtain⟨y,O,-⟩:=bO (l:=l) (i:=i-1) (by omega);have T:jA l i=some y:=by simp[jA,Nat.ne_of_gt hz,O]
    have I:=lD D y.key x.key (by have:=N.at O;omega) (by have:=N.at o;omega);rw[T] at j;simp only at j;simp only[go_sem,h0,q,o,z,c3,L,og,Yb,u,E,O,I,zc];cases w:fG y.key x.key with
    |false=>
     rw[w] at j;simp only[fG] at w;simp only[Gl] at j;simp only[go_sem,w,<-j]
    |true=>
     rw[w] at j;simp only[fG] at w;simp only[GK] at j;simp only[go_sem,h0,q,w];exact⟨i+1,by omega,by omega,by rw[p],by rw[vt o];exact j⟩
  ·have h:=Yr hi h;subst h;rw[GQ] at j;simp only[g0] at j;simp only[go_sem,<-j]
theorem Ct:∀{l:List aS} {p:Option aS},g0 p l=true->(∀q,p=some q->∀e∈l,fG q.key e.key=true)/\l.Pairwise (fun a b=>fG a.key b.key=true)/\∀e∈l,fF e=true
 |[],_,_=>⟨fun _ _=>by simp,.nil,by simp⟩
 |e::l,p,h=>by
  simp only[g0,Gg] at h;obtain⟨h1,o,y⟩:=h;obtain⟨j,u,w⟩:=Ct y;have j:=j e rfl;refine⟨?_,G8.2 ⟨j,u⟩,fun x hx=>?_⟩
  ·rintro q rfl x hx;simp only at o;rcases GN.1 hx with rfl|hx
   ·exact o
   ·have:=j x hx;rw[Ms] at o this ⊢;exact Mx (by omega) this
  ·rcases GN.1 hx with rfl|hx
   ·exact h1
   ·exact w x hx
def OA:∀{l:List aS},g0 none l=true↔l.Pairwise (fun a b=>fG a.key b.key=true)/\∀e∈l,fF e=true:=by
 intro l;refine⟨fun h=>(Ct h).2,fun⟨h1,j⟩=>?_⟩
 suffices ∀(l:List aS) (p:Option aS),l.Pairwise (fun a b=>fG a.key b.key=true)->(∀e∈l,fF e=true)->(∀q,p=some q->∀e∈l,fG q.key e.key=true)->g0 p l=true from this l none h1 j (fun _ h=>by simp at h)
 intro l
 induction l with
 |nil=>intros;rfl
 |cons e l B=>
  intro p h1 j y;obtain⟨u,w⟩:=G8.1 h1;simp only[g0,Gg];refine⟨j e (by simp),?_,B (some e) w (fun x o=>j x (by simp[o])) (fun q z x o=>by
   obtain rfl:e=q:=by simpa using z
   exact u x o)⟩
  cases p with
  |none=>rfl
  |some q=>exact y q rfl e (by simp)
def Ch {l:List aS}:gb l=true↔l.length<=64/\l.Pairwise (fun a b=>fG a.key b.key=true)/\∀e∈l,fF e=true:=by
 simp only[gb,Gg,Gn,OA]
def Ci {e:aS}:fF e=true↔cM e.key=true/\e.chain≠[]/\Yj e.chain=true:=by simp[fF]
def vM (z n:Nat):Option (Nat×List (List V)×Fz)->Option V
 |some (z',rows,.live)=>if z'=z/\rows.length=n then some (.slice z rows) else none
 |_=>none
@[go_sem] theorem Ql {z n:Nat} {rows:List (List V)}:vM z n (some (z,rows,.live))=if rows.length=n then some (.slice z rows) else none:=by simp[vM]
@[go_sem] theorem Qo {A:Nat->Option (Nat×List (List V)×Fz)} {s z n:Nat}:jV A (some 0) 0 (.own s z n)=vM z n (A s):=by
 unfold jV vM;rw[GE rfl]
 rfl
def Sm.drop {l:List aS} (h:Sm l) {n:Nat}:Sm (l.drop n):=⟨by have:=h.1;simp;omega,fun e j=>h.2 e (oE j)⟩
def Oj {κ:Nat->List V->Option V} {id:Nat} {b c:C} {S:St} {R:Ex->St->Prop} (h:Wp κ (.seq (.block id b) c) S R):Wp κ b S (dU id (fU κ c R)):=by
 rw[BH,Bo] at h;exact h
structure kT where
 err:Int
 at_:aH
 found:Bool
 val:List UInt8
 items:List (List UInt8×List UInt8)
 next:List UInt8
 more:Bool
 deriving DecidableEq
structure bZ where
 client:Int
 req:Int
 ans:kT
 deriving DecidableEq
@[go_sem] def iG (p:List UInt8×List UInt8):List V:=[.str p.1,.str p.2]
@[go_sem] def YU (l:List (List UInt8×List UInt8)):V:=.slice 2 (l.map iG)
@[go_sem] def je (a:kT):List V:=[iz a.err,iz a.at_.wall,iz a.at_.tick,iz a.at_.node,.bool a.found,.str a.val,YU a.items,.str a.next,.bool a.more]
@[go_sem] def YP (d:bZ):List V:=[iz d.client,iz d.req,iz d.ans.err,iz d.ans.at_.wall,iz d.ans.at_.tick,iz d.ans.at_.node,.bool d.ans.found,.str d.ans.val,YU d.ans.items,.str d.ans.next,.bool d.ans.more]
@[go_sem] def Ys (l:List bZ):V:=.slice 11 (l.map YP)
def YN (n:Int):Bool:=decide (1<=n)&&decide (n<=1099511627776)
def AG:=HpZ 97 F97
def Mj (h:AG Pg) (n:Int):K' Pg 97 [iz n]=some (.bool (YN n)):=by
 refine aA h rfl ?_;simp only[go_sem];refine hJ (fun h=>?_) (fun h=>?_)<;>simp only[go_sem,h,YN]
def AE:=HpZ 95 F95
def Mh (h:AE Pg) (n:Int):K' Pg 95 [iz n]=some (.bool (YN n)):=by
 refine aA h rfl ?_;have e:decide ((0:Int)<n)=decide (1<=n):=GU.2 (by omega);simp only[go_sem,e];refine hJ (fun h=>?_) (fun h=>?_)<;>simp only[go_sem,h,YN]
def kI (a:kT):Bool:=decide (0<=a.err)&&(decide (a.err<=16)&&(Ya a.at_&&(decide (a.val.length<=16)&&(decide (a.items=[])&&(decide (a.next=[])&&!a.more)))))
def OC {α:Type} [DecidableEq α] {l:List α}:decide ((l.length:Int)=0)=decide (l=[]):=by cases l<;>simp;omega
def PC {n:Nat}:decide ((n:Int)<=16)=decide (n<=16):=GU.2 (by omega)
def AH:=HpC 98 F98 lg
def Mk (h:AH Pg) (a:kT):K' Pg 98 [.agg (je a)]=some (.bool (kI a)):=by
 obtain⟨h,j⟩:=h;have k:=kE j a.at_;simp only[Yg] at k;refine aA h rfl ?_;simp only[go_sem]
 repeat' (refine hJ (fun h=>?_) (fun h=>?_)<;>simp only[go_sem,h,k,OC,PC,kI])
def AF:=HpC 96 F96 nr
def Mi (h:AF Pg) (a:kT):K' Pg 96 [.agg (je a)]=some (.bool (kI a)):=by
 obtain⟨h,j⟩:=h;have k:=lG j a.at_;simp only[Yg] at k;have o:decide (a.err<0)=!decide (0<=a.err):=by by_cases h:0<=a.err<;>simp[h]<;>omega
 have p:decide (16<a.err)=!decide (a.err<=16):=by by_cases h:a.err<=16<;>simp[h]<;>omega
 have q:decide ((16:Int)<(a.val.length:Int))=!decide (a.val.length<=16):=by by_cases h:a.val.length<=16<;>simp[h]<;>omega
 have u:decide ((0:Int)<(a.items.length:Int))=!decide (a.items=[]):=by rw[zw];cases a.items<;>simp
 have w:decide ((0:Int)<(a.next.length:Int))=!decide (a.next=[]):=by rw[zw];cases a.next<;>simp
 refine aA h rfl ?_;simp only[go_sem,o,kI];cases h1:decide (0<=a.err)<;>simp only[go_sem,p];cases y:decide (a.err<=16)<;>simp only[go_sem,q];cases z:decide (a.val.length<=16)<;>simp only[go_sem,u];cases B:decide (a.items=[])<;>simp only[go_sem,w];cases D:decide (a.next=[])<;>simp only[go_sem];cases E:a.more<;>simp only[go_sem,k]
def dT (d:bZ):Bool:=YN d.client&&(YN d.req&&kI d.ans)
def jn:Int->List bZ->Bool
 |_,[]=>true
 |p,d::l=>decide (p<d.client)&&(dT d&&jn d.client l)
def YK (t:List bZ):Bool:=jn 0 t&&decide (t.length<=8)
theorem CQ {p:Int} {d:bZ} {l:List bZ}:jn p (d::l)=(decide (p<d.client)&&(dT d&&jn d.client l)):=rfl
def gP (t:List bZ) (i:Nat):Int:=if i=0 then 0 else (t[i-1]?.map bZ.client).getD 0
def AD:=HpC 81 F81<|HpA AG<|AH
def Mg (h:AD Pg) (t:List bZ) (O:t.length<2 ^ 60):K' Pg 81 [Ys t]=some (.bool (YK t)):=by
 obtain⟨h,z,B⟩:=h;have p:=fun x=>Mj z x;have q:=fun x=>Mk B x;simp only[je,YU] at q;refine aA h rfl ?_;simp only[go_sem];unfold l81_0;refine bE (fun (i:Nat) S=>i<=t.length/\S.ρ 0=Ys t/\S.μ 5=none/\S.ρ 3=iz (gP t i)/\S.ρ 6=Ys t/\S.ρ 7=iz t.length/\S.ρ 8=iz i/\jn (gP t i) (t.drop i)=jn 0 t) (fun i=>t.length-i) 0 ?_ ?_
 ·simp[go_sem,gP]
 ·intro i S ⟨hi,h0,m5,M,E,H,y,j⟩;simp only[go_sem,H,y];refine bL (fun h=>?_) (fun h=>?_)
  ·have h:=Yh h;obtain⟨x,I,N⟩:=bO h;have o:gP t (i+1)=x.client:=by simp[gP,I]
   rw[N,CQ] at j;have J:decide (x.client<=gP t i)=!decide (gP t i<x.client):=by by_cases h:gP t i<x.client<;>simp[h]<;>omega
   simp only[go_sem,m5,M,E,y,I,J];cases D:decide (gP t i<x.client) with
   |false=>rw[D] at j;simp only[go_sem,YK,<-j]
   |true=>
   cases u:YN x.client with
   |false=>simp only[dT,u,Gl,Gm] at j;simp only[go_sem,u,YK,<-j,p]
   |true=>
   cases c3:YN x.req with
   |false=>simp only[dT,c3,Gl,Gm] at j;simp only[go_sem,u,c3,YK,<-j,p]
   |true=>
   cases w:kI x.ans with
   |false=>simp only[dT,w,Gl,Gm] at j;simp only[go_sem,u,c3,w,YK,<-j,p,q]
   |true=>
    simp only[dT,D,u,c3,w,GK] at j;simp only[go_sem,u,c3,w,h0,E,H,y,p,q];exact⟨i+1,by omega,by omega,by rw[o],by rw[Ym h O],by rw[o];exact j⟩
  ·have h:=Yr hi h;subst h;simp only[GQ,jn] at j;have L:decide ((t.length:Int)<=8)=decide (t.length<=8):=GU.2 (by omega);simp only[go_sem,h0,YK,<-j,L]
def AC:=HpC 80 F80<|HpA AE<|AF
def Mf (h:AC Pg) (t:List bZ) (O:t.length<2 ^ 60):K' Pg 80 [Ys t]=some (.bool (YK t)):=by
 obtain⟨h,J,L⟩:=h;have q:=fun x=>Mh J x;have B:=fun x=>Mi L x;simp only[je,YU] at B;refine aA h rfl ?_;simp only[go_sem];refine bL (fun w=>?_) (fun w=>?_)
 ·have w:¬t.length<=8:=by have:=Gk w;omega
  simp only[go_sem,YK,w]
 have w:t.length<=8:=by have:=Ge w;omega
 have p:YK t=jn 0 t:=by simp[YK,w]
 simp only[go_sem];unfold l80_0;refine bE (fun (i:Nat) S=>i<=t.length/\S.ρ 0=Ys t/\S.ρ 3=iz i/\jn (gP t i) (t.drop i)=jn 0 t) (fun i=>t.length-i) 0 ?_ ?_
 ·simp[go_sem,gP]
 ·intro i S ⟨hi,h0,u,j⟩;simp only[go_sem,h0,u];refine bL (fun h=>?_) (fun h=>?_)
  ·have h:=Yh h;obtain⟨x,D,R⟩:=bO h;have o:gP t (i+1)=x.client:=by simp[gP,D]
   rw[R,CQ] at j;simp only[go_sem,h0,u,D,q];cases I:YN x.client with
   |false=>simp only[dT,I,Gl,Gm] at j;simp only[go_sem,p,<-j]
   |true=>
   cases c3:YN x.req with
   |false=>simp only[dT,c3,Gl,Gm] at j;simp only[go_sem,c3,p,<-j,h0,u,D,q]
   |true=>
   cases H:kI x.ans with
   |false=>simp only[dT,H,Gl,Gm] at j;simp only[go_sem,c3,H,p,<-j,h0,u,D,q,B]
   |true=>
    simp only[dT,I,c3,H,GK] at j;simp only[go_sem,c3,H,h0,u,D,q,B,zw];rcases G4 i with hz|hz
    ·have z:decide (i=0)=true:=by simp[hz]
     have M:decide (gP t i<x.client)=true:=by
      simp only[YN,Gg,Gn] at I;simp[gP,hz];omega
     rw[M,GK] at j;simp only[go_sem,z,h0,u];exact⟨i+1,by omega,by omega,by rw[Ym h O],by rw[o];exact j⟩
    ·have z:decide (i=0)=false:=by simp;omega
     obtain⟨y,P,-⟩:=bO (l:=t) (i:=i-1) (by omega);have M:gP t i=y.client:=by simp[gP,P];omega
     have E:=sO hz (by omega);rw[M] at j;have Q:decide (x.client<=y.client)=!decide (y.client<x.client):=by by_cases h:y.client<x.client<;>simp[h]<;>omega
     simp only[go_sem,z,h0,u,D,E,P,Q];cases N:decide (y.client<x.client) with
     |false=>rw[N] at j;simp only[go_sem,p,<-j]
     |true=>
      rw[N,GK] at j;simp only[go_sem,h0,u];exact⟨i+1,by omega,by omega,by rw[Ym h O],by rw[o];exact j⟩
  ·have h:=Yr hi h;subst h;simp only[GQ,jn] at j;simp only[go_sem,p,<-j]
def pq:=HpZ 101 F101
def xf (h:pq Pg) (a:kT) (q:a.items.length<2 ^ 60):K' Pg 101 [.agg (je a),.agg (je a)]=some (.bool true):=by
 refine aA h rfl ?_;simp only[go_sem];unfold l101_0;refine bE (fun (i:Nat) S=>i<=a.items.length/\S.ρ 2=.lref 2 0/\S.ρ 3=.lref 3 0/\S.μ 2=some (je a,false)/\S.μ 3=some (je a,false)/\S.ρ 5=iz i) (fun i=>a.items.length-i) 0 ?_ ?_
 ·simp[go_sem]
 ·intro i S ⟨hi,j,o,m2,m3,p⟩;simp only[go_sem,j,m2,p];refine bL (fun h=>?_) (fun h=>?_)
  ·have h:=Yh h;obtain⟨x,u,w⟩:=bO h;simp only[go_sem,j,o,m2,m3,p,u];exact⟨i+1,by omega,by omega,by rw[Ym h q]⟩
  ·simp only[go_sem,j,o,m2,m3]
structure cX where
 id:Int
 epoch:Int
 span:fu
 phase:Int
 ents:List aS
 mark:aH
 top:aH
 done:List bZ
 hold:Int
 seen:Int
 move:Int
 closed:Int
@[go_sem] def eg (s:cX):List V:=[iz s.id,iz s.epoch,.str s.span.lo,.str s.span.hi,iz s.phase,Yq s.ents,iz s.mark.wall,iz s.mark.tick,iz s.mark.node,iz s.top.wall,iz s.top.tick,iz s.top.node,Ys s.done,iz s.hold,iz s.seen,iz s.move,iz s.closed]
@[go_sem] def Dv (l:List cX):V:=.slice 17 (l.map eg)
structure fM where
 shards:List cX
 top:aH
 dropped:Int
@[go_sem] def mN (c:fM):List V:=[Dv c.shards,iz c.top.wall,iz c.top.tick,iz c.top.node,iz c.dropped]
structure Rq where
 client:Int
 req:Int
 kind:Int
 key:List UInt8
 value:List UInt8
 had:Bool
 old:List UInt8
 at_:aH
 hi:List UInt8
 limit:Int
def ff (n:Int):Bool:=decide (0<=n)&&decide (n<=1099511627776)
def bM (s:cX):Bool:=YN s.id&&(YN s.epoch&&(ff s.hold&&(ff s.seen&&(ff s.move&&(ff s.closed&&(decide (1<=s.phase)&&(decide (s.phase<=3)&&(Yx s.span&&(gb s.ents&&(Ya s.mark&&(Ya s.top&&YK s.done)))))))))))
def dm (s:cX):Bool:=bM s&&s.ents.all fun e=>iu s.span e.key
def eQ (s:cX) (top:aH):Bool:=s.ents.all fun e=>match e.chain.getLast? with|some v=>decide (Ye v.at_ top<=0)|none=>true
def ic (top:aH):Int->List cX->Bool
 |_,[]=>true
 |p,s::l=>decide (p<s.id)&&(dm s&&(eQ s top&&ic top s.id l))
def fd (c:fM):Bool:=decide (c.shards.length<=8)&&(Ya c.top&&(ff c.dropped&&ic c.top 0 c.shards))
def ve (s:cX):Prop:=Sm s.ents/\s.done.length<=10000/\(∀d∈s.done,d.ans.items.length<2 ^ 60)/\s.span.lo.length<=10000/\s.span.hi.length<=10000
def oS (c:fM):Prop:=c.shards.length<=10000/\∀s∈c.shards,ve s
def gN (D:Bool):Rd->Nat×Rd:=bif D then cu (tk 9) 0 else rd (tk 9) 0
def gT (D:Bool):Rd->List UInt8×Rd:=bif D then cu bS [] else rd bS []
def gF (D:Bool):Rd->Bool×Rd:=bif D then cu dC false else rd dC false
def gS (D:Bool):Rd->aH×Rd:=bif D then cu bY zS else rd bY zS
def gL (D:Bool) {α:Type} (R:Rd->α×Rd):Rd->List α×Rd:=bif D then lstD R else lstP R
def cN {D:Bool}:bV (gN D) aC (fun n=>n<2 ^ 63):=by
 cases D
 ·exact dF
 ·exact fN
def cT {D:Bool}:bV (gT D) Yk (fun t=>t.length<2 ^ 63):=by
 cases D
 ·exact bV.rd CG
 ·exact bV.cu CG
def cF {D:Bool}:bV (gF D) Yp (fun _=>True):=by
 have h:∀{s r:List UInt8} {b:Bool},dC s=some (b,r)↔s=Yp b++r/\True:=fun {s r b}=>by rw[NX];simp
 cases D
 ·exact bV.rd h
 ·exact bV.cu h
def cS {D:Bool}:bV (gS D) dh (fun s=>Ya s=true):=by
 cases D
 ·exact bV.rd MO
 ·exact bV.cu MO
def cL {D:Bool} {α:Type} {R:Rd->α×Rd} {W:α->List UInt8} {P:α->Prop} (h:bV R W P) (j:∀a,P a->1<=(W a).length):bV (gL D R) (YC W) (fun l=>l.length<2 ^ 63/\∀a∈l,P a):=by
 cases D
 ·exact h.lstP j
 ·exact h.lstD
def YO {t:List UInt8}:1<=(Yk t).length:=by
 have:=bH t.length;simp only[Yk,Gb];omega
def gV (D:Bool):Rd->dt×Rd:=eI (fun p:aH×Bool×List UInt8=>⟨p.1,p.2.1,p.2.2⟩) (bA (gS D) (bA (gF D) (gT D)))
def gQ (v:dt):List UInt8:=dh v.at_++(Yp v.gone++Yk v.val)
def vJ (v:dt):Prop:=(Ya v.at_=true/\True/\v.val.length<2 ^ 63)/\True
def cV {D:Bool}:bV (gV D) gQ vJ:=by
 have h:=((cS (D:=D)).pair ((cF (D:=D)).pair (cT (D:=D)))).map (g:=fun p:aH×Bool×List UInt8=>(⟨p.1,p.2.1,p.2.2⟩:dt)) (k:=fun v=>(v.at_,v.gone,v.val)) (fun a=>rfl);exact⟨fun j=>⟨(h.get j).1,(h.get j).2.1,Gs⟩,fun o=>h.put ⟨o.1,rfl⟩,h.bad,h.len⟩
def gE (D:Bool):Rd->aS×Rd:=eI (fun p:List UInt8×List dt=>⟨p.1,p.2⟩) (bA (gT D) (gL D (gV D)))
def fJ (e:aS):List UInt8:=Yk e.key++YC gQ e.chain
def pf (e:aS):Prop:=e.key.length<2 ^ 63/\e.chain.length<2 ^ 63/\∀v∈e.chain,vJ v
def zd (v:dt) (h:vJ v):1<=(gQ v).length:=by
 have:=YO (t:=v.val);simp only[gQ,Gb];omega
def cE {D:Bool}:bV (gE D) fJ pf:=by
 have h:=((cT (D:=D)).pair (cL (D:=D) (cV (D:=D)) zd)).map (g:=fun p:List UInt8×List dt=>(⟨p.1,p.2⟩:aS)) (k:=fun v=>(v.key,v.chain)) (fun a=>rfl);exact⟨fun j=>⟨(h.get j).1,(h.get j).2.1⟩,fun o=>h.put ⟨o,rfl⟩,h.bad,h.len⟩
def jl (p:Nat×Nat×Nat×aH×Bool×List UInt8):bZ:=⟨p.1,p.2.1,⟨p.2.2.1,p.2.2.2.1,p.2.2.2.2.1,p.2.2.2.2.2,[],[],false⟩⟩
def gD (D:Bool):Rd->bZ×Rd:=eI jl (bA (gN D) (bA (gN D) (bA (gN D) (bA (gS D) (bA (gF D) (gT D))))))
def Y5 (d:bZ):List UInt8:=aC d.client.toNat++(aC d.req.toNat++(aC d.ans.err.toNat++(dh d.ans.at_++(Yp d.ans.found++Yk d.ans.val))))
def Ag (d:bZ):Nat×Nat×Nat×aH×Bool×List UInt8:=(d.client.toNat,d.req.toNat,d.ans.err.toNat,d.ans.at_,d.ans.found,d.ans.val)
def vF (d:bZ):Prop:=(d.client.toNat<2 ^ 63/\d.req.toNat<2 ^ 63/\d.ans.err.toNat<2 ^ 63/\Ya d.ans.at_=true/\True/\d.ans.val.length<2 ^ 63)/\jl (Ag d)=d
def cD {D:Bool}:bV (gD D) Y5 vF:=
 ((cN (D:=D)).pair ((cN (D:=D)).pair ((cN (D:=D)).pair ((cS (D:=D)).pair ((cF (D:=D)).pair (cT (D:=D))))))).map (g:=jl) (k:=Ag) (fun a=>rfl)
def zl (e:aS) (h:pf e):1<=(fJ e).length:=by
 have:=YO (t:=e.key);simp only[fJ,Gb];omega
def yU (d:bZ) (h:vF d):1<=(Y5 d).length:=by
 have:=bH d.client.toNat;simp only[Y5,Gb];omega
abbrev Cf:=Nat×Nat×Nat×Nat×Nat×Nat×Nat×List UInt8×List UInt8×aH×aH×List aS×List bZ
def iK (p:Cf):cX:=
 ⟨p.1,p.2.1,⟨p.2.2.2.2.2.2.2.1,p.2.2.2.2.2.2.2.2.1⟩,p.2.2.1,p.2.2.2.2.2.2.2.2.2.2.2.1,p.2.2.2.2.2.2.2.2.2.1,p.2.2.2.2.2.2.2.2.2.2.1,p.2.2.2.2.2.2.2.2.2.2.2.2,p.2.2.2.1,p.2.2.2.2.1,p.2.2.2.2.2.1,p.2.2.2.2.2.2.1⟩
def Ah (s:cX):Cf:=(s.id.toNat,s.epoch.toNat,s.phase.toNat,s.hold.toNat,s.seen.toNat,s.move.toNat,s.closed.toNat,s.span.lo,s.span.hi,s.mark,s.top,s.ents,s.done)
def eC (D:Bool):Rd->cX×Rd:=eI iK (bA (gN D) (bA (gN D) (bA (gN D) (bA (gN D) (bA (gN D) (bA (gN D) (bA (gN D) (bA (gT D) (bA (gT D) (bA (gS D) (bA (gS D) (bA (gL D (gE D)) (gL D (gD D))))))))))))))
def fo (s:cX):List UInt8:=aC s.id.toNat++(aC s.epoch.toNat++(aC s.phase.toNat++(aC s.hold.toNat++(aC s.seen.toNat++(aC s.move.toNat++(aC s.closed.toNat++(Yk s.span.lo++(Yk s.span.hi++(dh s.mark++(dh s.top++(YC fJ s.ents++YC Y5 s.done)))))))))))
def sJ (s:cX):Prop:=(s.id.toNat<2 ^ 63/\s.epoch.toNat<2 ^ 63/\s.phase.toNat<2 ^ 63/\s.hold.toNat<2 ^ 63/\s.seen.toNat<2 ^ 63/\s.move.toNat<2 ^ 63/\s.closed.toNat<2 ^ 63/\s.span.lo.length<2 ^ 63/\s.span.hi.length<2 ^ 63/\
 Ya s.mark=true/\Ya s.top=true/\(s.ents.length<2 ^ 63/\∀e∈s.ents,pf e)/\(s.done.length<2 ^ 63/\∀d∈s.done,vF d))/\iK (Ah s)=s
def vO {D:Bool}:bV (eC D) fo sJ:=
 ((cN (D:=D)).pair ((cN (D:=D)).pair ((cN (D:=D)).pair ((cN (D:=D)).pair ((cN (D:=D)).pair ((cN (D:=D)).pair ((cN (D:=D)).pair ((cT (D:=D)).pair ((cT (D:=D)).pair ((cS (D:=D)).pair ((cS (D:=D)).pair
  ((cL (D:=D) (cE (D:=D)) zl).pair (cL (D:=D) (cD (D:=D)) yU))))))))))))).map (g:=iK) (k:=Ah) (fun a=>rfl)
def zx (s:cX) (h:sJ s):1<=(fo s).length:=by
 have:=bH s.id.toNat;simp only[fo,Gb];omega
def fH (p:aH×Nat×List cX):fM:=⟨p.2.2,p.1,p.2.1⟩
def Af (c:fM):aH×Nat×List cX:=(c.top,c.dropped.toNat,c.shards)
def gC (D:Bool):Rd->fM×Rd:=eI fH (bA (gS D) (bA (gN D) (gL D (eC D))))
def cB (c:fM):List UInt8:=dh c.top++(aC c.dropped.toNat++YC fo c.shards)
def CV (c:fM):Prop:=(Ya c.top=true/\c.dropped.toNat<2 ^ 63/\(c.shards.length<2 ^ 63/\∀s∈c.shards,sJ s))/\fH (Af c)=c
def cC {D:Bool}:bV (gC D) cB CV:=
 ((cS (D:=D)).pair ((cN (D:=D)).pair (cL (D:=D) (vO (D:=D)) zx))).map (g:=fH) (k:=Af) (fun a=>rfl)
def vA (l:List cX):Prop:=l.Pairwise fun a b=>a.id<b.id
theorem Dk {top:aH}:∀{l:List cX} {p:Int},ic top p l=true↔vA l/\∀s∈l,p<s.id/\dm s=true/\eQ s top=true
 |[],p=>by simp[ic,vA]
 |s::l,p=>by
  simp only[ic,Gg,Gn,Dk (l:=l),vA,G8,GN,forall_eq_or_imp];constructor
  ·rintro⟨h1,q,u,w,o⟩;exact⟨⟨fun x j=>(o x j).1,w⟩,⟨h1,q,u⟩,fun x j=>⟨by have:=(o x j).1;omega,(o x j).2⟩⟩
  ·rintro⟨⟨h1,q⟩,⟨u,w,o⟩,y⟩;exact⟨u,w,o,q,fun x j=>⟨h1 x j,(y x j).2⟩⟩
def MU {c:fM}:fd c=true↔c.shards.length<=8/\Ya c.top=true/\ff c.dropped=true/\vA c.shards/\∀s∈c.shards,0<s.id/\dm s=true/\eQ s c.top=true:=by
 simp only[fd,Gg,Gn,Dk]
theorem td:∀{l:List dt} {p:Option dt},eB p l=true->∀v∈l,Yy v=true
 |[],_,_,v,hv=>by simp at hv
 |a::l,p,h,v,hv=>by
  simp only[eB,Gg] at h;rcases GN.1 hv with rfl|hv
  ·exact h.1.1
  ·exact td h.2 v hv
theorem sN:∀{l:List aS} {p:Option aS},g0 p l=true->∀v∈l,fF v=true
 |[],_,_,v,hv=>by simp at hv
 |a::l,p,h,v,hv=>by
  simp only[g0,Gg] at h;rcases GN.1 hv with rfl|hv
  ·exact h.1
  ·exact sN h.2.2 v hv
theorem s8:∀{l:List bZ} {p:Int},jn p l=true->∀v∈l,dT v=true
 |[],_,_,v,hv=>by simp at hv
 |a::l,p,h,v,hv=>by
  simp only[jn,Gg] at h;rcases GN.1 hv with rfl|hv
  ·exact h.2.1
  ·exact s8 h.2.2 v hv
def OW {v:dt} (h:Yy v=true):vJ v:=by
 simp only[Yy,Gg,Gn] at h;exact⟨⟨h.1.1,Gs,by omega⟩,Gs⟩
def Dd {e:aS} (h:fF e=true):pf e:=by
 simp only[fF,Yj,Gg,Gn] at h;obtain⟨h1,p,j,q⟩:=h;exact⟨by have:=(YI h1).1;omega,by omega,fun v o=>OW (td j v o)⟩
def Y8 {n:Int} (h:0<=n):((n.toNat:Nat):Int)=n:=by omega
def Pp {d:bZ} (h:dT d=true):vF d:=by
 simp only[dT,YN,kI,Gg,Gn,GI] at h;obtain⟨⟨a1,a2⟩,⟨u,z⟩,j,B,c3,D,o,p,q⟩:=h;refine⟨⟨by omega,by omega,by omega,c3,Gs,by omega⟩,?_⟩;obtain⟨w,y,⟨E,at_,H,L,it,J,I⟩⟩:=d;simp only at a1 u j o p q;subst o;subst p;subst q;simp only[jl,Ag,Y8 (show (0:Int)<=w by omega),Y8 (show (0:Int)<=y by omega),Y8 j]
def C5 {s:cX} (h:dm s=true):sJ s:=by
 simp only[dm,bM,YN,ff,Yx,gb,YK,Gg,kZ,Gn,Gx] at h;obtain⟨⟨⟨a1,a2⟩,⟨u,L⟩,⟨j,M⟩,⟨o,O⟩,⟨p,Q⟩,⟨q,S⟩,y,T,⟨i1,i2⟩,⟨W,D⟩,E,H,I,X⟩,-⟩:=h;refine⟨⟨by omega,by omega,by omega,by omega,by omega,by omega,by omega,?_,?_,E,H,⟨by omega,fun e B=>Dd (sN D e B)⟩,⟨by omega,fun d z=>Pp (s8 I d z)⟩⟩,?_⟩
 ·rcases i1 with i1|i1
  ·rw[i1];simp
  ·have:=(YI i1).1;omega
 ·rcases i2 with i2|i2
  ·rw[i2];simp
  ·have:=(YI i2.1).1;omega
 ·obtain⟨id,w,⟨lo,hi⟩,J,R,mk,tp,P,U,Z,Y,N⟩:=s;simp only at a1 u j o p q y;simp only[iK,Ah,Y8 (show (0:Int)<=id by omega),Y8 (show (0:Int)<=w by omega),Y8 j,Y8 o,Y8 p,Y8 q,Y8 (show (0:Int)<=J by omega)]
def CE {c:fM} (h:fd c=true):CV c:=by
 obtain⟨h1,o,j,w,p⟩:=MU.1 h;simp only[ff,Gg,Gn] at j;refine⟨⟨o,by omega,by omega,fun s q=>C5 (p s q).2.1⟩,?_⟩;obtain⟨sh,y,u⟩:=c;simp only at j;simp only[fH,Af,Y8 j.1]
def fS (t:List UInt8):Option fM:=if (gC false (t,false)).2=([],false)/\fd (gC false (t,false)).1=true then some (gC false (t,false)).1 else none
def CF {t:List UInt8} {c:fM}:fS t=some c↔t=cB c/\fd c=true:=by
 unfold fS;constructor
 ·intro h;split at h
  ·rename_i p;simp only[Ga] at h;obtain⟨h1,j⟩:=p;obtain⟨o,q⟩:=(cC (D:=false)).get (s:=t) (r:=[]) (a:=c) (Prod.ext h h1);rw[h] at j;exact⟨by rw[o];simp,j⟩
  ·cases h
 ·rintro⟨rfl,h⟩;have:=(cC (D:=false)).put (r:=[]) (CE h);rw[GG] at this;rw[this,GE ⟨rfl,h⟩]
def ml {t:List UInt8}:(if (gC true (t,false)).2.2=false/\fd (gC true (t,false)).1=true/\cB (gC true (t,false)).1=t then some (gC true (t,false)).1 else none)=fS t:=by
 cases hq:fS t with
 |some c=>
  obtain⟨rfl,h⟩:=CF.1 hq;have:=(cC (D:=true)).put (r:=[]) (CE h);rw[GG] at this;rw[this,GE ⟨rfl,h,rfl⟩]
 |none=>
  rw[Gu];rintro⟨h1,h2,h3⟩;rw[CF.2 ⟨h3.symm,h2⟩] at hq;cases hq
structure Rb where
 s:List UInt8
 no:Bool
 h:s.length<=2 ^ 29
def Rb.d (x:Rb):Rd:=(x.s,x.no)
def eR (x:Rb):List V:=[.str x.s,.bool x.no]
theorem od (x:Rb):(eR x).all V.datC=true:=rfl
def zg (x:Rb) (z:Nat):V.nslice z∉eR x:=by simp[eR]
theorem Pd (x:Rb):(eR x).length=2:=rfl
theorem PA (x:Rb):(eR x)[0]?=some (.str x.s):=rfl
theorem PB (x:Rb):(eR x)[1]?=some (.bool x.no):=rfl
def Ov {A:AA} (x:Rb):gm (eR x) A=some (eR x,A):=yY (od x) (zg x)
def Qi {A:AA} {d:Nat} (x:Rb):JI d (eR x) A=some (eR x,A):=yR (od x)
variable {α β:Type}
structure Rg (α:Type) where
 f:Rd->α×Rd
 le:∀x,(f x).2.1.length<=x.1.length
def Rg.v (R:Rg α) (x:Rb):α:=(R.f x.d).1
def Rg.n (R:Rg α) (x:Rb):Rb:=⟨(R.f x.d).2.1,(R.f x.d).2.2,Gj (R.le x.d) x.h⟩
def Rg.k {R:Rg α} {f:Nat} {e:α->V} (k:∀x:Rd,x.1.length<2 ^ 62->K' Pg f [.tuple (.lref 0 0::aW x)]=some (.tuple [e (R.f x).1,.tuple (aW (R.f x).2)])) (x:Rb) :
  K' Pg f [.tuple (.lref 0 0::eR x)]=some (.tuple [e (R.v x),.tuple (eR (R.n x))]):=k x.d (by have:=x.h;show x.s.length<_;omega)
def uN (D:Bool):Rg Nat:=⟨gN D,cN.len⟩
def uT (D:Bool):Rg (List UInt8):=⟨gT D,cT.len⟩
def uF (D:Bool):Rg Bool:=⟨gF D,cF.len⟩
def uS (D:Bool):Rg aH:=⟨gS D,cS.len⟩
def Rg.pair (R:Rg α) (Q:Rg β):Rg (α×β):=⟨bA R.f Q.f,fun x=>Gj (Q.le _) (R.le x)⟩
def Rg.map (g:α->β) (R:Rg α):Rg β:=⟨eI g R.f,R.le⟩
theorem Rg.pair_v {R:Rg α} {Q:Rg β} {x:Rb}:(R.pair Q).v x=(R.v x,Q.v (R.n x)):=rfl
theorem Rg.pair_n {R:Rg α} {Q:Rg β} {x:Rb}:(R.pair Q).n x=Q.n (R.n x):=rfl
theorem Rg.map_v {g:α->β} {R:Rg α} {x:Rb}:(Rg.map g R).v x=g (R.v x):=rfl
theorem Rg.map_n {g:α->β} {R:Rg α} {x:Rb}:(Rg.map g R).n x=R.n x:=rfl
theorem zp {R:Rg α}:∀(k:Nat) (x:Rd),(YR R.f k x).2.1.length<=x.1.length
 |0,x=>Gt _
 |k+1,x=>Gj (zp k _) (R.le x)
theorem zn {R:Rg α}:∀(k:Nat) (x:Rd),(YJ R.f k x).2.1.length<=x.1.length
 |0,x=>Gt _
 |k+1,x=>by
  simp only[YJ];split
  ·exact Gt _
  ·exact Gj (zn k _) (R.le x)
def Rg.rep (D:Bool) (R:Rg α) (k:Nat):Rg (List α):=bif D then ⟨YJ R.f k,zn k⟩ else ⟨YR R.f k,zp k⟩
def C7 (x:Rd):(rL x).2.1.length<=x.1.length:=by
 unfold rL;split
 ·exact dF.len x
 ·exact dF.len x
def uL (D:Bool):Rg Nat:=bif D then uN true else ⟨rL,C7⟩
def Rg.lst (D:Bool) (R:Rg α):Rg (List α):=⟨gL D R.f,fun x=>by
 cases D
 ·exact Gj (zp _ _) (C7 x)
 ·exact Gj (zn _ _) (fN.len x)⟩
def Rg.lst_v {D:Bool} {R:Rg α} {x:Rb}:(R.lst D).v x=(R.rep D ((uL D).v x)).v ((uL D).n x)/\(R.lst D).n x=(R.rep D ((uL D).v x)).n ((uL D).n x):=by
 cases D<;>exact⟨rfl,rfl⟩
def o0 {x:Rb}:(uL false).v x<=2 ^ 29:=by
 have h1:=((uN false).n x).h
 show (rL x.d).1<=_
 unfold rL;split
 ·exact Gy _
 ·rename_i h;have j:(rd (tk 9) 0 x.d).2.1.length<=2 ^ 29:=h1;omega
def dJ {R:Rg α} {m j:Nat} {x y:Rb} {vs:List α} (hj:j<m) (h:(R.rep false m).v x=vs++(R.rep false (m-j)).v y/\(R.rep false m).n x=(R.rep false (m-j)).n y) :
  (R.rep false m).v x=(vs++[R.v y])++(R.rep false (m-(j+1))).v (R.n y)/\(R.rep false m).n x=(R.rep false (m-(j+1))).n (R.n y):=by
 rw[h.1,h.2,show m-j=(m-(j+1))+1 by omega,Gr]
 exact⟨rfl,rfl⟩
def oY {R:Rg α} {m:Nat} {x y:Rb} {vs:List α} (h:(R.rep false m).v x=vs++(R.rep false (m-m)).v y/\(R.rep false m).n x=(R.rep false (m-m)).n y) :
  (R.rep false m).v x=vs/\(R.rep false m).n x=y:=by
 rw[h.1,h.2,Nat.sub_self]
 exact⟨GG _,rfl⟩
structure aT where
 span:fu
 shard:Int
 cell:Int
 epoch:Int
 deriving DecidableEq
@[go_sem] def gu (p:aT):List V:=[.str p.span.lo,.str p.span.hi,iz p.shard,iz p.cell,iz p.epoch]
@[go_sem] def YF (l:List aT):V:=.slice 5 (l.map gu)
def oW:aT:=⟨⟨[],[]⟩,0,0,0⟩
@[go_sem] def PM (o:Option aT):V:=.tuple [.agg (gu (o.getD oW)),.bool o.isSome]
def lO (l:List aT) (k:List UInt8):Option aT:=l.find? fun p=>decide (k=[])||iu p.span k
structure sE where
 id:Int
 lft:Int
 at_:aH
 deriving DecidableEq
@[go_sem] def Ck (l:sE):List V:=[iz l.id,iz l.lft,iz l.at_.wall,iz l.at_.tick,iz l.at_.node]
@[go_sem] def Cl (l:List aH):V:=.slice 3 (l.map Yg)
theorem vj {T:Nat->Option Fn} (h:∀f x,T f=some x->Pg f=some x):∀n,Le (Jn T n) (Jn Pg n)
 |0=>fun f a r h=>by simp[Jn] at h
 |n+1=>fun f a r j=>by
  rw[Jn] at j ⊢;split at j
  ·simp at j
  ·rename_i o p q;rw[h _ _ q];exact j
  ·rename_i F k q;rw[h _ _ q];simp only;split at j<;>try (simp at j;done)
   rename_i w;rw[GE w];split at j<;>try (simp at j;done)
   simp only[Gc] at j ⊢;obtain⟨x,h0,y,h1,u⟩:=j;exact⟨x,h0,y,Jr (vj h n) (Gt n) h1,u⟩
  ·rename_i F q;rw[h _ _ q];simp only;split at j<;>try (simp at j;done)
   rename_i w;rw[GE w];simp only[Gc] at j ⊢;obtain⟨x,h1,u⟩:=j;exact⟨x,Jr (vj h n) (Gt n) h1,u⟩
def jc:List (Nat×Fn)->Nat->Option Fn
 |[],_=>none
 |a::l,n=>bif Nat.beq a.1 n then some a.2 else jc l n
theorem yG:∀{l:List (Nat×Fn)},(∀a∈l,Pg a.1=some a.2)->∀f x,jc l f=some x->Pg f=some x
 |[],_,f,x,h=>by simp[jc] at h
 |a::l,ha,f,x,h=>by
  rw[jc] at h;cases q:Nat.beq a.1 f with
  |true=>
   rw[q,cond_true] at h;rw[<-Nat.eq_of_beq_eq_true q,<-h];exact ha a (.head _)
  |false=>
   rw[q,cond_false] at h;exact yG (fun b j=>ha b (.tail _ j)) f x h
structure rE where
 view:Int
 mem:List Int
 whole:Bool
 deriving DecidableEq
structure Jb where
 kind:Int
 step:Int
 id:Int
 shard:Int
 other:Int
 cell:Int
 to:Int
 epoch:Int
 key:List UInt8
 parts:List (List UInt8)
 of_:Int
 client:Int
 req:Int
 span:fu
 wait:List Int
 at_:aH
 mem:List Int
structure sF where
 client:Int
 req:Int
 lease:Int
 at_:aH
 err:Int
def DN (a:Int):List V:=[iz a]
def PN (s:List UInt8):List V:=[.str s]
@[go_sem] def Mv (l:List (List UInt8)):V:=.slice 1 (l.map PN)
@[go_sem] def CA (i:rE):List V:=[iz i.view,Yi i.mem,.bool i.whole]
@[go_sem] def CC (r:sF):List V:=[iz r.client,iz r.req,iz r.lease,iz r.at_.wall,iz r.at_.tick,iz r.at_.node,iz r.err]
@[go_sem] def CH:List V:=[.slice 5 [],.slice 3 [],.int .i64 0,.slice 5 [],.slice 3 [],.int .i64 0,.int .i64 0,.int .i64 0,.int .i64 0,.int .i64 0,.int .i64 0,.int .i64 0,.int .i64 0,.int .i64 0,.int .i64 0,.int .i64 0,.str [],.slice 1 [],.int .i64 0,.int .i64 0,.int .i64 0,.str [],.str [],.slice 1 [],.int .i64 0,.int .i64 0,.int .i64 0,.slice 1 [],.slice 7 []]
def aK (s z n:Nat):V:=if n=0 then .nslice z else .own s z n
def Y2 (z:Nat) (rows:List (List V)) (n:Nat):Option (Nat×List (List V)×Fz):=if n=0 then none else some (z,rows,.live)
@[go_sem] theorem Qk {s z n:Nat}:(aK s z n).cells=some [aK s z n]:=by unfold aK;split<;>rfl
def vN (S:St) (s z n:Nat) (y:V) (a:Option (Nat×List (List V)×Fz)):Option (V×St):=if n=0 then rO S s z y a else tV S s z n y a
def YM {S:St} {s z n:Nat} {y:V}:fZ S s z (aK s z n) y=vN S s z n y (S.A s):=by
 unfold aK vN;split
 ·exact BO
 ·rw[BP,BX]
def YZ {S:St} {s z n:Nat} {rows:List (List V)} {r:List V} (j:rows.length=n) (o:n+1<=dj) :
  vN S s z n (.slice z [r]) (Y2 z rows n)=some (aK s z (n+1),⟨S.ρ,S.μ,aE S.A s (Y2 z (rows++[r]) (n+1))⟩):=by
 have p:aK s z (n+1)=.own s z (n+1):=rfl
 have q:Y2 z (rows++[r]) (n+1)=some (z,rows++[r],.live):=rfl
 rw[p,q]
 unfold vN Y2
 split
 ·rename_i h
  subst h
  have j:rows=[]:=GA j
  subst j
  have:1<=dj:=by simpa using o
  simp[rO,V.rowsOf,this]
 ·rw[BW]
  simp[V.rowsOf,j,o]
def Yv {A:Nat->Option (Nat×List (List V)×Fz)} {s z n:Nat} {rows:List (List V)} (o:A s=Y2 z rows n) (j:rows.length=n):aY A (aK s z n)=some (.slice z rows):=by
 unfold aK;split
 ·rename_i h;subst h;have j:rows=[]:=GA j;rw[j,BG]
 ·rename_i h;have:A s=some (z,rows,.live):=by rw[o,Y2,Gu h]
  simp[aY,this,j]
def ma (m n:Int):Bool:=!(decide (n<m)||decide (1099511627776<n))
def Yz (n:Int):Bool:=ma 0 n
theorem C2 {m:Int}:∀{l:List Int},(!(l.any fun n=>decide (n<m)||decide (1099511627776<n)))=l.all (ma m)
 |[]=>rfl
 |a::l=>by
  simp only[List.any_cons,List.all_cons,<-C2 (l:=l),ma,Bool.not_or]
def we:=HpC 149 F149 nk
def L0 (h:we Pg) (l:List aT) (k:List UInt8) (D:l.length<2 ^ 60) (E:l≠[]):K' Pg 149 [YF l,.str k]=some (PM (lO l k)):=by
 obtain⟨h,q⟩:=h;have o:=fun s=>rQ q s k;simp only[YL] at o;refine aA h rfl ?_;cases p:decide (k=[]) with
 |true=>
  obtain⟨x,t,rfl⟩:=List.exists_cons_of_ne_nil E;have e:lO (x::t) k=some x:=by simp[lO,p]
  rw[e];simp only[go_sem,Y9,p,Option.isSome_some,oW]
 |false=>
  simp only[go_sem,Y9,p];unfold l149_0;refine bE (fun (i:Nat) S=>i<=l.length/\S.ρ 0=YF l/\S.ρ 1=.str k/\S.ρ 4=.lref 4 0/\S.μ 4=some (gu oW,false)/\S.ρ 6=iz i/\lO (l.drop i) k=lO l k) (fun i=>l.length-i) 0 ?_ ?_
  ·simp[go_sem,oW]
  ·intro i S ⟨hi,h0,h1,w,m4,u,j⟩;simp only[go_sem,h0,u];refine bL (fun h=>?_) (fun h=>?_)
   ·have h:=Yh h;obtain⟨x,z,B⟩:=bO h;rw[B] at j;simp only[lO,List.find?_cons,p,jI] at j;simp only[go_sem,h0,h1,u,z,o];cases y:iu x.span k with
    |true=>
     rw[y] at j;simp only at j;simp only[go_sem,h0,w,m4,u,z,lO,p,jI,<-j,Option.isSome_some,oW]
    |false=>
     rw[y] at j;simp only at j;simp only[go_sem,h0,h1,w,m4,u];refine⟨i+1,by omega,by omega,by rw[Ym h D],?_⟩;simp only[lO,p,jI];exact j
   ·have h:=Yr hi h;subst h;rw[GQ] at j;have j:none=lO l k:=j;simp only[go_sem,w,m4,<-j,oW,Option.isSome_none]
def pr:=HpZ 153 F153
def xg (h:pr Pg) (t:List aT) (o:t.length<2 ^ 60):K' Pg 153 [YF t,YF t]=some (.bool true):=by
 refine aA h rfl ?_;simp only[go_sem];unfold l153_0;refine bE (fun (i:Nat) S=>i<=t.length/\S.ρ 0=YF t/\S.ρ 1=YF t/\S.ρ 5=iz i) (fun i=>t.length-i) 0 ?_ ?_
 ·simp[go_sem]
 ·intro i S ⟨hi,h0,h1,j⟩;simp only[go_sem,h0,j];refine bL (fun h=>?_) (fun h=>?_)
  ·have h:=Yh h;obtain⟨x,p,q⟩:=bO h;simp only[go_sem,h0,h1,j,p];exact⟨i+1,by omega,by omega,by rw[Ym h o]⟩
  ·simp only[go_sem]
def NV (n:Int):Prop:=n.toNat<2 ^ 63/\((n.toNat:Nat):Int)=n
def nv {n:Int} (h0:0<=n) (h1:n<=1099511627776):NV n:=⟨by omega,by omega⟩
def Mq {m n:Int} (hm:0<=m) (h:ma m n=true):NV n:=by
 simp only[ma,GI,Bool.or_eq_false_iff,GM] at h;exact nv (by omega) (by omega)
def nB (n:Int):List UInt8:=aC n.toNat
def uI (D:Bool):Rg Int:=.map (fun n:Nat=>(n:Int)) (uN D)
def cI {D:Bool}:bV (uI D).f nB NV:=by
 have h:=(cN (D:=D)).map (g:=fun n:Nat=>(n:Int)) (k:=Int.toNat) (fun a=>rfl);exact⟨fun o=>h.get o,fun j=>h.put j,h.bad,h.len⟩
def M6 (n:Int) (_:NV n):1<=(nB n).length:=bH _
def jD (D:Bool):Rg (List Int):=(uI D).lst D
abbrev LV {α:Type} (P:α->Prop) (l:List α):Prop:=l.length<2 ^ 63/\∀a∈l,P a
def zM {D:Bool}:bV (jD D).f (YC nB) (LV NV):=cL cI M6
abbrev TV (t:List UInt8):Prop:=t.length<2 ^ 63
def jm (p:List UInt8×List UInt8×Int×Int×Int):aT:=⟨⟨p.1,p.2.1⟩,p.2.2.1,p.2.2.2.1,p.2.2.2.2⟩
def DJ (x:aT):List UInt8×List UInt8×Int×Int×Int:=(x.span.lo,x.span.hi,x.shard,x.cell,x.epoch)
def g8 (D:Bool):Rg aT:=.map jm (.pair (uT D) (.pair (uT D) (.pair (uI D) (.pair (uI D) (uI D)))))
def dI (x:aT):List UInt8:=Yk x.span.lo++(Yk x.span.hi++(nB x.shard++(nB x.cell++nB x.epoch)))
def vd (x:aT):Prop:=(TV x.span.lo/\TV x.span.hi/\NV x.shard/\NV x.cell/\NV x.epoch)/\jm (DJ x)=x
def PL {D:Bool}:bV (g8 D).f dI vd:=(cT.pair (cT.pair (cI.pair (cI.pair cI)))).map (g:=jm) (k:=DJ) (fun a=>rfl)
def Cw (x:aT) (_:vd x):1<=(dI x).length:=by
 have:=YO (t:=x.span.lo);simp only[dI,Gb];omega
def bV.whole {α:Type} {R:Rd->α×Rd} {W:α->List UInt8} {P:α->Prop} {q:α->Bool} (h:bV R W P) {t:List UInt8} {c:α} :
  (if (R (t,false)).2=([],false)/\q (R (t,false)).1=true then some (R (t,false)).1 else none)=some c↔t=W c/\P c/\q c=true:=by
 constructor
 ·intro j
  split at j
  ·rename_i h0
   simp only[Ga] at j
   obtain⟨h1,o⟩:=h0
   obtain⟨p,u⟩:=h.get (s:=t) (r:=[]) (a:=c) (Prod.ext j h1)
   rw[j] at o
   exact⟨by rw[p];simp,u,o⟩
  ·cases j
 ·rintro⟨rfl,w,y⟩
  have:=h.put (r:=[]) w
  rw[GG] at this
  rw[this,GE ⟨rfl,y⟩]
def kp {α:Type} (z:α) (x:Rd) (v:α) (aR:List UInt8) (e:Int):α×Rd:=if x.2=true\/e≠0 then (z,(x.1,true)) else (v,(aR,false))
def rz:=HpQ 565 F565 0
def nU (h:rz Pg) (x:Rd) (v:Int) (aR:List UInt8) (e:Int):K' Pg 565 [.tuple (.lref 0 0::aW x),iz v,.str aR,iz e]=some (.tuple [iz (kp 0 x v aR e).1,.tuple (aW (kp 0 x v aR e).2)]):=by
 obtain⟨s,b⟩:=x;refine iD [.t 8] (ws:=[iz _]) h rfl rfl (Yw _) (Yw _) (gR _) fun S ⟨r0,r,hm,m0,o⟩=>?_;have j:=r 0;have r2:=r 1;have r3:=r 2;simp only[kD,BU,Option.getD_some] at j r2 r3;simp only[go_sem] at hm j;unfold kp;cases b with
 |true=>
  rw[GE (.inl rfl)];simp only[F565,c565,go_sem,r0,j,r2,r3,hm];exact⟨_,rfl,fun _=>rfl⟩
 |false=>
 cases c:decide (e=0) with
 |false=>
  rw[GE (.inr (Ge c))];simp only[F565,c565,go_sem,r0,j,r2,r3,hm,c];exact⟨_,rfl,fun _=>rfl⟩
 |true=>
  rw[Gu (by rintro (h|h)<;>first|(cases h;done)|exact h (Gk c))];simp only[F565,c565,go_sem,r0,j,r2,r3,hm,c];exact⟨_,rfl,fun _=>rfl⟩
def rC:=HpQ 567 F567 0
def nV (h:rC Pg) (x:Rd) (v:List UInt8) (aR:List UInt8) (e:Int):K' Pg 567 [.tuple (.lref 0 0::aW x),.str v,.str aR,iz e]=some (.tuple [.str (kp [] x v aR e).1,.tuple (aW (kp [] x v aR e).2)]):=by
 obtain⟨s,b⟩:=x;refine iD [.t 8] (ws:=[.str _]) h rfl rfl (Yw _) (Yw _) (gR _) fun S ⟨r0,r,hm,m0,o⟩=>?_;have j:=r 0;have r2:=r 1;have r3:=r 2;simp only[kD,BU,Option.getD_some] at j r2 r3;simp only[go_sem] at hm j;unfold kp;cases b with
 |true=>
  rw[GE (.inl rfl)];simp only[F567,c567,go_sem,r0,j,r2,r3,hm];exact⟨_,rfl,fun _=>rfl⟩
 |false=>
 cases c:decide (e=0) with
 |false=>
  rw[GE (.inr (Ge c))];simp only[F567,c567,go_sem,r0,j,r2,r3,hm,c];exact⟨_,rfl,fun _=>rfl⟩
 |true=>
  rw[Gu (by rintro (h|h)<;>first|(cases h;done)|exact h (Gk c))];simp only[F567,c567,go_sem,r0,j,r2,r3,hm,c];exact⟨_,rfl,fun _=>rfl⟩
def il:=HpR 530 F530 0<|HpA jN<|rz
def sB (h:il Pg) (x:Rd) (D:x.1.length<2 ^ 62):K' Pg 530 [.tuple (.lref 0 0::aW x)]=some (.tuple [iz (rd (tk 9) 0 x).1,.tuple (aW (rd (tk 9) 0 x).2)]):=by
 obtain⟨h,B,y⟩:=h;obtain⟨e,z,k⟩:=i4 B x.1 D;obtain⟨s,b⟩:=x;refine iD [.t 2] (ws:=[iz _]) h rfl rfl (Yw _) (Yw _) (gR _) fun S ⟨r0,r,hm,m0,E⟩=>?_;simp only[go_sem] at hm k;cases w:(tk 9) s with
 |none=>
  have p:=nU y (s,b) (0:Int) [] e;have j:kp (0:Int) (s,b) (0:Int) [] e=((0:Int),(s,true)):=GE (.inr z);rw[j] at p;rw[w] at k;simp only[eG] at k;have o:rd (tk 9) 0 (s,b)=(0,(s,true)):=by cases b<;>simp only[rd,w]
  rw[o];simp only[go_sem] at p;simp only[F530,c530,go_sem,eT,r0,hm,k,p];exact⟨_,rfl,fun _=>rfl⟩
 |some q=>
  obtain⟨n,u⟩:=q;rw[w] at k;simp only[eG] at k;cases b with
  |true=>
   have p:=nU y (s,true) (n:Int) u 0;have j:kp (0:Int) (s,true) (n:Int) u 0=((0:Int),(s,true)):=GE (.inl rfl);rw[j] at p;have o:rd (tk 9) 0 (s,true)=(0,(s,true)):=rfl;rw[o];simp only[go_sem] at p k;simp only[F530,c530,go_sem,eT,r0,hm,k,p];exact⟨_,rfl,fun _=>rfl⟩
  |false=>
   have p:=nU y (s,false) (n:Int) u 0;have j:kp (0:Int) (s,false) (n:Int) u 0=((n:Int),(u,false)):=Gu (by simp);rw[j] at p;have o:rd (tk 9) 0 (s,false)=(n,(u,false)):=by simp only[rd,w]
   rw[o];simp only[go_sem] at p k;simp only[F530,c530,go_sem,eT,r0,hm,k,p];exact⟨_,rfl,fun _=>rfl⟩
def sH (h:il Pg) (x:Rb):K' Pg 530 [.tuple (.lref 0 0::eR x)]=some (.tuple [iz ((uN false).v x),.tuple (eR ((uN false).n x))]):=
 (uN false).k (e:=fun a:Nat=>iz (a:Int)) (sB h) x
def lx:=HpR 539 F539 0<|HpA nH<|rC
def yx (h:lx Pg) (x:Rd) (D:x.1.length<2 ^ 62):K' Pg 539 [.tuple (.lref 0 0::aW x)]=some (.tuple [.str (rd bS [] x).1,.tuple (aW (rd bS [] x).2)]):=by
 obtain⟨h,B,y⟩:=h;obtain⟨e,z,k⟩:=sA B x.1 D;obtain⟨s,b⟩:=x;refine iD [.t 2] (ws:=[.str _]) h rfl rfl (Yw _) (Yw _) (gR _) fun S ⟨r0,r,hm,m0,E⟩=>?_;simp only[go_sem] at hm k;cases w:bS s with
 |none=>
  have p:=nV y (s,b) ([]:List UInt8) [] e;have j:kp ([]:List UInt8) (s,b) ([]:List UInt8) [] e=(([]:List UInt8),(s,true)):=GE (.inr z);rw[j] at p;rw[w] at k;simp only[iF] at k;have o:rd bS [] (s,b)=([],(s,true)):=by cases b<;>simp only[rd,w]
  rw[o];simp only[go_sem] at p;simp only[F539,c539,go_sem,eT,r0,hm,k,p];exact⟨_,rfl,fun _=>rfl⟩
 |some q=>
  obtain⟨n,u⟩:=q;rw[w] at k;simp only[iF] at k;cases b with
  |true=>
   have p:=nV y (s,true) n u 0;have j:kp ([]:List UInt8) (s,true) n u 0=(([]:List UInt8),(s,true)):=GE (.inl rfl);rw[j] at p;have o:rd bS [] (s,true)=([],(s,true)):=rfl;rw[o];simp only[go_sem] at p k;simp only[F539,c539,go_sem,eT,r0,hm,k,p];exact⟨_,rfl,fun _=>rfl⟩
  |false=>
   have p:=nV y (s,false) n u 0;have j:kp ([]:List UInt8) (s,false) n u 0=(n,(u,false)):=Gu (by simp);rw[j] at p;have o:rd bS [] (s,false)=(n,(u,false)):=by simp only[rd,w]
   rw[o];simp only[go_sem] at p k;simp only[F539,c539,go_sem,eT,r0,hm,k,p];exact⟨_,rfl,fun _=>rfl⟩
def nY (h:lx Pg) (x:Rb):K' Pg 539 [.tuple (.lref 0 0::eR x)]=some (.tuple [.str ((uT false).v x),.tuple (eR ((uT false).n x))]):=
 (uT false).k (e:=fun a:List UInt8=>.str a) (yx h) x
def jO:=HpR 531 F531 0 il
def yv (h:jO Pg) (x:Rd) (u:x.1.length<2 ^ 62):K' Pg 531 [.tuple (.lref 0 0::aW x)]=some (.tuple [iz (rL x).1,.tuple (aW (rL x).2)]):=by
 obtain⟨h,j⟩:=h;have k:=sB j x u;have o:=fun (S:St) (hm:S.μ 0=some (aW x,false))=>aF (p:=20000) k hm;unfold rL;generalize rd (tk 9) 0 x=y at o;obtain⟨n,s,b⟩:=y;simp only[go_sem] at o;refine iD [.t 2] (ws:=[iz _]) h rfl rfl (Yw _) (Yw _) (gR _) fun S ⟨r0,r,hm,m0,w⟩=>?_;simp only[go_sem] at hm;have c:decide (((s.length:Nat):Int)<(n:Int))=decide (s.length<n):=GU.2 (by omega);simp only;by_cases h1:s.length<n
 ·have q:decide (s.length<n)=true:=GC h1;rw[GE h1];simp only[F531,c531,go_sem,r0,hm,o,c,q];exact⟨_,rfl,fun _=>rfl⟩
 ·have q:decide (s.length<n)=false:=Gq h1;rw[Gu h1];simp only[F531,c531,go_sem,r0,hm,o,c,q];exact⟨_,rfl,fun _=>rfl⟩
def zi (h:jO Pg) (x:Rb):K' Pg 531 [.tuple (.lref 0 0::eR x)]=some (.tuple [iz ((uL false).v x),.tuple (eR ((uL false).n x))]):=
 (uL false).k (e:=fun a:Nat=>iz (a:Int)) (yv h) x
attribute [go_sem] Pd PA PB Ov Qi
def ry:=HpR 540 F540 0<|HpA il<|jO
def Db (h:ry Pg) (x:Rb):K' Pg 540 [.tuple (.lref 0 0::eR x)]=some (.tuple [Yi ((jD false).v x),.tuple (eR ((jD false).n x))]):=by
 obtain⟨h,q,u⟩:=h;have W:=sH q;have X:=zi u x;have Z:((uL false).v x)<=2 ^ 29:=o0;have L:=Rg.lst_v (D:=false) (R:=uI false) (x:=x)
 show _=some (V.tuple [Yi (((uI false).lst false).v x),V.tuple (eR (((uI false).lst false).n x))])
 rw[L.1,L.2];generalize (uL false).n x=y at *
 generalize (uL false).v x=m at *
 refine sX [.t 2] (ws:=[Yi _]) h rfl rfl (od _) (od _) (zg _) fun S ⟨r0,r,hm,m0,Q⟩=>?_;have a3:=Q 3;simp only[F540,c540,go_sem,eT,r0,hm,X,a3];unfold l540_0;refine bE (fun (j:Nat) S=>j<=m/\S.ρ 0=.lref 0 0/\S.ρ 5=iz m/\S.ρ 6=iz j/\∃(vs:List Int) (z:Rb),vs.length=j/\(((uI false).rep false m).v y=vs++((uI false).rep false (m-j)).v z/\((uI false).rep false m).n y=((uI false).rep false (m-j)).n z)/\S.μ 0=some (eR z,false)/\S.ρ 3=.own 3 1 j/\S.A 3=some (1,vs.map fun a=>[iz a],.live)) (fun j=>m-j) 0 ?_ ?_
 ·simp only[eS];exact⟨Gy _,by simp only[go_sem,r0],by simp only[go_sem],by simp only[go_sem],[],y,rfl,⟨rfl,rfl⟩,by simp only[go_sem],by simp only[go_sem],by simp only[go_sem,GF]⟩
 ·intro j S ⟨Y,M,O,P,vs,z,o,p,hm,N,a3⟩;cases H:decide ((j:Int)<(m:Int)) with
  |false=>
   have I:j=m:=by have:=Ge H;omega
   subst I;obtain⟨T,U⟩:=oY p;simp only[go_sem,M,N,O,P,hm,a3,H,T,U,o,Gf];exact⟨_,rfl,by simp only[go_sem,a3,o,Gf]⟩
  |true=>
   have J:=Yh H;have w:=inc64q (i:=j) (by omega)
   have E:=dJ J p;have k:=W z;have B:j+1<=dj:=by unfold dj;omega
   simp only[go_sem,eT,M,N,O,P,hm,a3,H,k,w,o,B,eS,Gf];exact⟨j+1,by omega,by omega,rfl,vs++[(((uN false).v z:Nat):Int)],(uN false).n z,by simp[o],E,rfl,rfl,by rw[GJ];rfl⟩
def iW:=HpR 466 F466 0 fV
def j0 (h:iW Pg) (x:Rd) (u:x.1.length<2 ^ 62):K' Pg 466 [.tuple (.lref 0 0::aW x)]=some (.tuple [iz (rL x).1,.tuple (aW (rL x).2)]):=by
 obtain⟨h,j⟩:=h;have k:=eW j x u;have o:=fun (S:St) (hm:S.μ 0=some (aW x,false))=>aF (p:=20000) k hm;unfold rL;generalize rd (tk 9) 0 x=y at o;obtain⟨n,s,b⟩:=y;simp only[go_sem] at o;refine iD [.t 2] (ws:=[iz _]) h rfl rfl (Yw _) (Yw _) (gR _) fun S ⟨r0,r,hm,m0,w⟩=>?_;simp only[go_sem] at hm;have c:decide (((s.length:Nat):Int)<(n:Int))=decide (s.length<n):=GU.2 (by omega);simp only;by_cases h1:s.length<n
 ·have q:decide (s.length<n)=true:=GC h1;rw[GE h1];simp only[F466,c466,go_sem,r0,hm,o,c,q];exact⟨_,rfl,fun _=>rfl⟩
 ·have q:decide (s.length<n)=false:=Gq h1;rw[Gu h1];simp only[F466,c466,go_sem,r0,hm,o,c,q];exact⟨_,rfl,fun _=>rfl⟩
def fl {α:Type} {R:Rd->α×Rd} {m j:Nat} {vs:List α} {y y':Rd} (hj:j<m) (h:YR R m y=(vs++(YR R (m-j) y').1,(YR R (m-j) y').2)) :
  YR R m y=((vs++[(R y').1])++(YR R (m-(j+1)) (R y').2).1,(YR R (m-(j+1)) (R y').2).2):=by
 rw[h,show m-j=(m-(j+1))+1 by omega]
 simp[YR]
def vu {α:Type} {R:Rd->α×Rd} {m:Nat} {vs:List α} {y j:Rd} (h:YR R m y=(vs++(YR R (m-m) j).1,(YR R (m-m) j).2)):YR R m y=(vs,j):=by
 rw[h,Nat.sub_self];simp[YR]
def OV (I:gH Pg) (L:ik Pg) (J:fX Pg) {y:Rd} {m:Nat} {key:List UInt8} (hy:y.1.length<=2 ^ 20) (hm:m<=2 ^ 20) {S:St} {Q:Ex->St->Prop}
  (s0:S.ρ 0=.lref 0 0) (s4:S.ρ 4=.lref 4 0) (aa:S.ρ 49=iz m) (ab:S.ρ 50=iz 0) (n0:S.μ 0=some (aW y,false)) (n4:S.μ 4=some ([.str key,.nslice 5],false)) (w:S.A 62=none)
  (hq:∀S',(∀i,i≠50->i≠51->S'.ρ i=S.ρ i)->S'.μ 0=some (aW (YR (gV false) m y).2,false)->S'.μ 4=some ([.str key,aK 62 5 m],false)->S'.A 62=Y2 5 ((YR (gV false) m y).1.map YX) m->(YR (gV false) m y).1.length=m->
   (∀i,i≠0->i≠4->S'.μ i=S.μ i)->(∀i,i≠62->S'.A i=S.A i)->Q .norm S'):Wp (K' Pg) l467_1 S (dU 2 Q):=by
 unfold l467_1
 refine bE (fun (j:Nat) S'=>j<=m/\(∀i,i≠50->i≠51->S'.ρ i=S.ρ i)/\S'.ρ 50=iz j/\(∀i,i≠0->i≠4->S'.μ i=S.μ i)/\(∀i,i≠62->S'.A i=S.A i)/\∃(vs:List dt) (o:Rd),vs.length=j/\o.1.length<=2 ^ 20/\
  YR (gV false) m y=(vs++(YR (gV false) (m-j) o).1,(YR (gV false) (m-j) o).2)/\S'.μ 0=some (aW o,false)/\S'.μ 4=some ([.str key,aK 62 5 j],false)/\S'.A 62=Y2 5 (vs.map YX) j) (fun j=>m-j) 0 ?_ ?_
 ·simp only[eS]
  exact⟨Gy _,by intros;first|rfl|trivial,ab,by intros;first|rfl|trivial,by intros;first|rfl|trivial,[],y,rfl,hy,rfl,n0,n4,w⟩
 ·intro j S' ⟨hj,u,P,N,hA,vs,o,H,Y,B,m0,m4,w⟩
  have t0:S'.ρ 0=.lref 0 0:=(u 0 (by omega) (by omega)).trans s0
  have t4:S'.ρ 4=.lref 4 0:=(u 4 (by omega) (by omega)).trans s4
  have O:S'.ρ 49=iz m:=(u 49 (by omega) (by omega)).trans aa
  cases R:decide ((j:Int)<(m:Int)) with
  |false=>
   have W:j=m:=by have:=Ge R;omega
   subst W
   have he:=vu B
   simp only[go_sem,P,O,R]
   rw[he] at hq
   refine hq _ (fun i h1 E=>?_) m0 m4 w H N hA
   show aE S'.ρ 51 _ i=_
   rw[fY (by simp;omega)]
   exact u i h1 E
  |true=>
   have X:=Yh R
   have M:=inc64q (i:=j) (by omega)
   have q:=fl X B
   have l1:(rd bY zS o).2.1.length<=2 ^ 20:=Gj ((cS (D:=false)).len o) Y
   have Z:(rd dC false (rd bY zS o).2).2.1.length<=2 ^ 20:=Gj ((cF (D:=false)).len _) l1
   have T:(rd bS [] (rd dC false (rd bY zS o).2).2).2.1.length<=2 ^ 20:=Gj ((cT (D:=false)).len _) Z
   have k1:=iZ I o (by omega)
   have k2:=nS L (rd bY zS o).2 (by omega)
   have k3:=i5 J (rd dC false (rd bY zS o).2).2 (by omega)
   have hR:gV false o=(⟨(rd bY zS o).1,(rd dC false (rd bY zS o).2).1,(rd bS [] (rd dC false (rd bY zS o).2).2).1⟩,(rd bS [] (rd dC false (rd bY zS o).2).2).2):=rfl
   rw[hR] at q
   generalize rd bY zS o=p1 at *
   obtain⟨b1,x1⟩:=p1
   simp only at k2 k3 q Z T l1
   generalize rd dC false x1=p2 at *
   obtain⟨b2,x2⟩:=p2
   simp only at k3 q T Z
   generalize rd bS [] x2=p3 at *
   obtain⟨b3,x3⟩:=p3
   simp only at q T
   have r1:=fun (S:St) (hm:S.μ 0=some (aW o,false))=>aF (p:=21400) k1 hm
   have r2:=fun (S:St) (hm:S.μ 0=some (aW x1,false))=>aF (p:=21500) k2 hm
   have r3:=fun (S:St) (hm:S.μ 0=some (aW x2,false))=>aF (p:=21600) k3 hm
   have U:(vs.map YX).length=j:=by simp[H]
   have ha:=fun S=>YZ (S:=S) (s:=62) (z:=5) (r:=YX ⟨b1,b2,b3⟩) U (by unfold dj;omega)
   simp only[go_sem,fy] at r1 r2 r3 m0 ha
   simp only[go_sem,t0,t4,P,O,R,m0,m4,w,r1,r2,r3,YM,ha,M,eS]
   refine⟨j+1,by omega,by omega,fun i h1 E=>?_,rfl,fun i h1 E=>?_,fun i h1=>?_,vs++[⟨b1,b2,b3⟩],x3,by simp[H],T,q,rfl,rfl,by rw[GJ];rfl⟩
   ·rw[fY (by simpa using h1),fY (by simpa using E)];exact u i h1 E
   ·rw[fY (by simpa using E),fY (by simpa using h1),fY (by simpa using h1),fY (by simpa using h1)];exact N i h1 E
   ·rw[fY (by simpa using h1)];exact hA i h1
def ii (s:cX) (e d:V):List V:=[iz s.id,iz s.epoch,.str s.span.lo,.str s.span.hi,iz s.phase,e,iz s.mark.wall,iz s.mark.tick,iz s.mark.node,iz s.top.wall,iz s.top.tick,iz s.top.node,d,iz s.hold,iz s.seen,iz s.move,iz s.closed]
def kv:List V:=[.int .i64 0,.int .i64 0,.str [],.str [],.int .i64 0,.slice 2 [],.int .i64 0,.int .i64 0,.int .i64 0,.int .i64 0,.int .i64 0,.int .i64 0,.slice 11 [],.int .i64 0,.int .i64 0,.int .i64 0,.int .i64 0]
def eY {Wa:List Nat} {s z n:Nat} (h:Wa.contains s=false):Jv Wa (aK s z n)=aK s z n:=by
 unfold aK;split
 ·rfl
 ·simp only[Jv,h,Gv,GO]
def o8 {S:St} {v:Nat} {Wv Wa:List Nat} {x:cX} {s z n j p o:Nat} (hm:S.μ v=some (ii x (aK s z n) (aK j p o),false)) (u:Wv.contains v=false) (h:Wa.contains s=false) (q:Wa.contains j=false) :
  (S.head [] [] Wv Wa).μ v=some (ii x (aK s z n) (aK j p o),false):=by
 show (if Wv.contains v then none else (S.μ v).map _)=_
 rw[u,hm]
 simp only[Gv,GO,Option.map_some]
 have:(ii x (aK s z n) (aK j p o)).map (Jv Wa)=ii x (aK s z n) (aK j p o):=by
  simp only[ii,GB,GF,eY h,eY q]
  rfl
 rw[this]
 cases Wa.isEmpty<;>rfl
theorem YA {S:St} {Wv Wa:List Nat} {x:Nat} (h:Wa.contains x=false):(S.head [] [] Wv Wa).A x=S.A x:=by
 show (if Wa.contains x then none else S.A x)=S.A x
 rw[h];rfl
theorem C4 {S:St} {Wv Wa:List Nat} {x:Nat} (h:Wa.contains x=true):(S.head [] [] Wv Wa).A x=none:=by
 show (if Wa.contains x then none else S.A x)=none
 rw[h];rfl
def Cz {s z n:Nat}:(Jc (aK s z n)).all (fun t=>t == s)=true:=by
 unfold aK;split<;>simp[Jc]
structure ng (S:St) (y:Rd) (sh:cX) (m j:Nat) (vs:List aS):Prop where
 r0:S.ρ 0=.lref 0 0
 r2:S.ρ 2=.lref 2 0
 r3:S.ρ 3=.lref 3 0
 m0:S.μ 0=some (aW y,false)
 m2:S.μ 2=some (kv,false)
 m3:S.μ 3=some (ii sh (aK 69 2 j) (aK 95 11 0),false)
 m5:S.μ 5=none
 a69:S.A 69=Y2 2 (vs.map YW) j
 a95:S.A 95=none
 vl:vs.length=j
def Ph (N:gH Pg) (P:ik Pg) (B:fX Pg) (O:iW Pg) {y:Rd} {m:Nat} {sh:cX} (hy:y.1.length<=2 ^ 20) (hm:m<=2 ^ 20) {S:St} {Q:Ex->St->Prop}
  (hS:ng S y sh m 0 []) (ag:S.ρ 42=iz m) (ah:S.ρ 43=iz 0) (n4:S.μ 4=none) (M:S.A 62=none)
  (hq:∀S',ng S' (YR (gE false) m y).2 sh m m (YR (gE false) m y).1->Q .norm S'):Wp (K' Pg) l467_0 S (dU 0 Q):=by
 unfold l467_0
 refine bE (fun (j:Nat) S'=>j<=m/\S'.ρ 42=iz m/\S'.ρ 43=iz j/\S'.μ 4=none/\S'.A 62=none/\∃(vs:List aS) (q:Rd),q.1.length<=2 ^ 20/\
  YR (gE false) m y=(vs++(YR (gE false) (m-j) q).1,(YR (gE false) (m-j) q).2)/\ng S' q sh m j vs) (fun j=>m-j) 0 ?_ ?_
 ·exact⟨Gy _,aM ag rfl,aM ah rfl,ej (.inl n4),C4 rfl,[],y,hy,rfl,aM hS.r0 rfl,aM hS.r2 rfl,aM hS.r3 rfl,fe hS.m0 rfl rfl,fe hS.m2 rfl rfl,o8 hS.m3 rfl rfl rfl,ej (.inl hS.m5),(YA rfl).trans hS.a69,(YA rfl).trans hS.a95,rfl⟩
 ·intro j S' ⟨hj,I,J,m4,M,vs,q,ae,E,hE⟩
  obtain⟨X,t2,t3,m0,m2,m3,m5,a69,a95,H⟩:=hE
  cases U:decide ((j:Int)<(m:Int)) with
  |false=>
   have ab:j=m:=by have:=Ge U;omega
   subst ab
   have he:=vu E
   simp only[go_sem,I,J,U]
   rw[he] at hq
   exact hq _ ⟨by simp only[go_sem,X],by simp only[go_sem,t2],by simp only[go_sem,t3],m0,m2,m3,m5,a69,a95,H⟩
  |true=>
   have ac:=Yh U
   have R:=inc64q (i:=j) (by omega)
   have o:=fl ac E
   have l1:(rd bS [] q).2.1.length<=2 ^ 20:=Gj ((cT (D:=false)).len q) ae
   have k1:=i5 B q (by omega)
   have k2:=j0 O (rd bS [] q).2 (by omega)
   have hR:gE false q=(⟨(rd bS [] q).1,(YR (gV false) (rL (rd bS [] q).2).1 (rL (rd bS [] q).2).2).1⟩,(YR (gV false) (rL (rd bS [] q).2).1 (rL (rd bS [] q).2).2).2):=rfl
   rw[hR] at o
   generalize rd bS [] q=p1 at *
   obtain⟨Y,T⟩:=p1
   simp only at k2 o l1
   have w:(rL T).1<=2 ^ 20/\(rL T).2.1.length<=2 ^ 20:=by
    have hc:=(dF).len T;unfold rL;split
    ·exact⟨Gy _,by simp only;omega⟩
    ·exact⟨by omega,by omega⟩
   generalize rL T=p2 at *
   obtain⟨W,x2⟩:=p2
   simp only at k2 o w
   have r1:=fun (S:St) (hm:S.μ 0=some (aW q,false))=>aF (p:=21200) k1 hm
   have r2:=fun (S:St) (hm:S.μ 0=some (aW T,false))=>aF (p:=21300) k2 hm
   simp only[go_sem] at r1 r2 m0
   simp only[go_sem,X,I,J,U,m0,m4,r1,r2]
   refine OV N P B (y:=x2) (m:=W) (key:=Y) w.2 w.1 (by simp only[go_sem,X]) (by simp only[go_sem]) (by simp only[go_sem]) (by simp only[go_sem]) (by simp only[go_sem]) (by simp only[go_sem]) M fun u L q2 q3 q4 q5 q6 q7=>?_
   have u0:u.ρ 0=.lref 0 0:=by rw[L 0 (by omega) (by omega)];simp only[go_sem,X]
   have u2:u.ρ 2=.lref 2 0:=by rw[L 2 (by omega) (by omega)];simp only[go_sem,t2]
   have u3:u.ρ 3=.lref 3 0:=by rw[L 3 (by omega) (by omega)];simp only[go_sem,t3]
   have u4:u.ρ 4=.lref 4 0:=by rw[L 4 (by omega) (by omega)];simp only[go_sem]
   have ai:u.ρ 42=iz m:=by rw[L 42 (by omega) (by omega)];simp only[go_sem,I]
   have aj:u.ρ 43=iz j:=by rw[L 43 (by omega) (by omega)];simp only[go_sem,J]
   have v2:u.μ 2=some (kv,false):=by rw[q6 2 (by omega) (by omega)];simp only[go_sem,m2]
   have v3:u.μ 3=some (ii sh (aK 69 2 j) (aK 95 11 0),false):=by rw[q6 3 (by omega) (by omega)];simp only[go_sem,m3]
   have v5:u.μ 5=none:=by rw[q6 5 (by omega) (by omega)];simp only[go_sem,m5]
   have ak:u.A 69=Y2 2 (vs.map YW) j:=(q7 69 (by omega)).trans a69
   have al:u.A 95=none:=(q7 95 (by omega)).trans a95
   generalize hz:YR (gV false) W x2=z at *
   obtain⟨z1,z2⟩:=z
   simp only at q2 q4 q5 o
   have Z:=Yv q4 (by simp[q5])
   have ad:=Cz (s:=62) (z:=5) (n:=W)
   have aa:(vs.map YW).length=j:=by simp[H]
   have ha:=fun S=>YZ (S:=S) (s:=69) (z:=2) (r:=YW ⟨Y,z1⟩) aa (by unfold dj;omega)
   simp only[go_sem,Yb] at ha
   simp only[ii] at v3
   simp only[go_sem,u3,u4,ai,aj,q3,v3,ak,Z,ad,YM,ha,R]
   have af:z2.1.length<=2 ^ 20:=by
    have:=sU (cV (D:=false)) (k:=W) (x:=x2);rw[hz] at this;exact Gj this w.2
   refine⟨j+1,by omega,by omega,rfl,vs++[⟨Y,z1⟩],z2,af,o,aM (by simp only[go_sem,u0]) rfl,aM (by simp only[go_sem,u2]) rfl,aM (by simp only[go_sem,u3]) rfl,fe (by simp only[go_sem,q2]) rfl rfl,fe (by simp only[go_sem,v2,kv]) rfl rfl,
    o8 (by simp only[go_sem];rfl) rfl rfl rfl,ej (.inl (by simp only[go_sem,v5])),(YA rfl).trans (by simp only[go_sem,GJ];rfl),(YA rfl).trans (by simp only[go_sem,al]),by simp[H]⟩
structure nX (S:St) (y:Rd) (sh:cX) (es:List aS) (ds:List bZ) (j:Nat):Prop where
 r0:S.ρ 0=.lref 0 0
 r2:S.ρ 2=.lref 2 0
 r3:S.ρ 3=.lref 3 0
 m0:S.μ 0=some (aW y,false)
 m2:S.μ 2=some (kv,false)
 m3:S.μ 3=some (ii sh (aK 69 2 es.length) (aK 95 11 j),false)
 a69:S.A 69=Y2 2 (es.map YW) es.length
 a95:S.A 95=Y2 11 (ds.map YP) j
 vl:ds.length=j
def Ou (E:gH Pg) (I:ik Pg) (H:fX Pg) (u:fV Pg) {y:Rd} {m:Nat} {sh:cX} {es:List aS} (hy:y.1.length<=2 ^ 20) (hm:m<=2 ^ 20) {S:St} {Q:Ex->St->Prop}
  (hS:nX S y sh es [] 0) (aa:S.ρ 73=iz m) (ab:S.ρ 74=iz 0) (n5:S.μ 5=none)
  (hq:∀S',nX S' (YR (gD false) m y).2 sh es (YR (gD false) m y).1 m->Q .norm S'):Wp (K' Pg) l467_2 S (dU 4 Q):=by
 unfold l467_2
 refine bE (fun (j:Nat) S'=>j<=m/\S'.ρ 73=iz m/\S'.ρ 74=iz j/\S'.μ 5=none/\∃(vs:List bZ) (q:Rd),q.1.length<=2 ^ 20/\
  YR (gD false) m y=(vs++(YR (gD false) (m-j) q).1,(YR (gD false) (m-j) q).2)/\nX S' q sh es vs j) (fun j=>m-j) 0 ?_ ?_
 ·exact⟨Gy _,aM aa rfl,aM ab rfl,ej (.inl n5),[],y,hy,rfl,aM hS.r0 rfl,aM hS.r2 rfl,aM hS.r3 rfl,fe hS.m0 rfl rfl,fe hS.m2 rfl rfl,o8 hS.m3 rfl rfl rfl,(YA rfl).trans hS.a69,(YA rfl).trans hS.a95,rfl⟩
 ·intro j S' ⟨hj,L,M,m5,vs,q,Z,w,hE⟩
  obtain⟨t0,t2,t3,m0,m2,m3,a69,a95,B⟩:=hE
  cases N:decide ((j:Int)<(m:Int)) with
  |false=>
   have X:j=m:=by have:=Ge N;omega
   subst X
   have he:=vu w
   simp only[go_sem,L,M,N]
   rw[he] at hq
   exact hq _ ⟨by simp only[go_sem,t0],by simp only[go_sem,t2],by simp only[go_sem,t3],m0,m2,m3,a69,a95,B⟩
  |true=>
   have Y:=Yh N
   have J:=inc64q (i:=j) (by omega)
   have o:=fl Y w
   have le:∀{α:Type} {R:Rd->α×Rd} {W:α->List UInt8} {P:α->Prop},bV R W P->∀{x:Rd},x.1.length<=2 ^ 20->(R x).2.1.length<=2 ^ 20:=fun h x hx=>Gj (h.len x) hx
   have k1:=eW u q (by omega)
   have hR:gD false q=(jl ((rd (tk 9) 0 q).1,(rd (tk 9) 0 (rd (tk 9) 0 q).2).1,(rd (tk 9) 0 (rd (tk 9) 0 (rd (tk 9) 0 q).2).2).1,(rd bY zS (rd (tk 9) 0 (rd (tk 9) 0 (rd (tk 9) 0 q).2).2).2).1,
     (rd dC false (rd bY zS (rd (tk 9) 0 (rd (tk 9) 0 (rd (tk 9) 0 q).2).2).2).2).1,(rd bS [] (rd dC false (rd bY zS (rd (tk 9) 0 (rd (tk 9) 0 (rd (tk 9) 0 q).2).2).2).2).2).1),
     (rd bS [] (rd dC false (rd bY zS (rd (tk 9) 0 (rd (tk 9) 0 (rd (tk 9) 0 q).2).2).2).2).2).2):=rfl
   rw[hR] at o
   have l1:=le dF Z
   generalize rd (tk 9) 0 q=p1 at *
   obtain⟨b1,x1⟩:=p1
   simp only at o l1
   have k2:=eW u x1 (by omega)
   have l2:=le dF l1
   generalize rd (tk 9) 0 x1=p2 at *
   obtain⟨b2,x2⟩:=p2
   simp only at o l2
   have k3:=eW u x2 (by omega)
   have l3:=le dF l2
   generalize rd (tk 9) 0 x2=p3 at *
   obtain⟨b3,x3⟩:=p3
   simp only at o l3
   have k4:=iZ E x3 (by omega)
   have l4:=le (cS (D:=false)) l3
   change (rd bY zS x3).2.1.length<=2 ^ 20 at l4
   generalize rd bY zS x3=p4 at *
   obtain⟨b4,O⟩:=p4
   simp only at o l4
   have k5:=nS I O (by omega)
   have l5:=le (cF (D:=false)) l4
   change (rd dC false O).2.1.length<=2 ^ 20 at l5
   generalize rd dC false O=p5 at *
   obtain⟨b5,T⟩:=p5
   simp only at o l5
   have k6:=i5 H T (by omega)
   have l6:=le (cT (D:=false)) l5
   change (rd bS [] T).2.1.length<=2 ^ 20 at l6
   generalize rd bS [] T=p6 at *
   obtain⟨b6,x6⟩:=p6
   simp only at o l6
   have r1:=fun (S:St) (hm:S.μ 0=some (aW q,false))=>aF (p:=21800) k1 hm
   have r2:=fun (S:St) (hm:S.μ 0=some (aW x1,false))=>aF (p:=21900) k2 hm
   have r3:=fun (S:St) (hm:S.μ 0=some (aW x2,false))=>aF (p:=22000) k3 hm
   have r4:=fun (S:St) (hm:S.μ 0=some (aW x3,false))=>aF (p:=22100) k4 hm
   have r5:=fun (S:St) (hm:S.μ 0=some (aW O,false))=>aF (p:=22200) k5 hm
   have r6:=fun (S:St) (hm:S.μ 0=some (aW T,false))=>aF (p:=22300) k6 hm
   have U:(vs.map YP).length=j:=by simp[B]
   have ha:=fun S=>YZ (S:=S) (s:=95) (z:=11) (r:=YP (jl (b1,b2,b3,b4,b5,b6))) U (by unfold dj;omega)
   have v3:=m3
   simp only[ii] at v3
   simp only[go_sem,fy,jl,GF] at r1 r2 r3 r4 r5 r6 m0 ha
   simp only[go_sem,t0,t3,L,M,N,m0,m5,v3,a95,r1,r2,r3,r4,r5,r6,YM,ha,J]
   refine⟨j+1,by omega,by omega,rfl,vs++[jl (b1,b2,b3,b4,b5,b6)],x6,l6,o,aM (by simp only[go_sem,t0]) rfl,aM (by simp only[go_sem,t2]) rfl,aM (by simp only[go_sem,t3]) rfl,fe (by simp only[go_sem]) rfl rfl,fe (by simp only[go_sem,m2,kv]) rfl rfl,
    o8 (by simp only[go_sem];rfl) rfl rfl rfl,(YA rfl).trans (by simp only[go_sem,a69]),(YA rfl).trans (by simp only[go_sem,GJ];rfl),by simp[B]⟩
def zr {x:Rd} (o:x.1.length<=2 ^ 20):(rL x).1<=2 ^ 20/\(rL x).2.1.length<=2 ^ 20:=by
 have j:=(dF).len x;unfold rL;split
 ·exact⟨Gy _,by simp only;omega⟩
 ·exact⟨by omega,by omega⟩
def nF:=HpR 467 F467 0<|HpA gH<|HpA ik<|HpA fX<|HpA fV<|iW
theorem xU (h:nF Pg) (x:Rd) (hx:x.1.length<=2 ^ 20):K' Pg 467 [.tuple (.lref 0 0::aW x)]=some (.tuple [.agg (eg (eC false x).1),.tuple (aW (eC false x).2)]):=by
 obtain⟨h,u,H,w,o,z⟩:=h;have le:∀{α:Type} {R:Rd->α×Rd} {W:α->List UInt8} {P:α->Prop},bV R W P->∀{x:Rd},x.1.length<=2 ^ 20->(R x).2.1.length<=2 ^ 20:=fun h x hx=>Gj (h.len x) hx;have hR:∀{a1 a2 a3 a4 a5 a6 a7:Nat} {b1 b2:List UInt8} {c1 c2:aH} {I J x3 L M N O Q T q j:Rd},rd (tk 9) 0 x=(a1,I)->rd (tk 9) 0 I=(a2,J)->rd (tk 9) 0 J=(a3,x3)->rd (tk 9) 0 x3=(a4,L)->rd (tk 9) 0 L=(a5,M)->rd (tk 9) 0 M=(a6,N)->rd (tk 9) 0 N=(a7,O)->
   rd bS [] O=(b1,Q)->rd bS [] Q=(b2,T)->rd bY zS T=(c1,q)->rd bY zS q=(c2,j)->
   eC false x=(iK (a1,a2,a3,a4,a5,a6,a7,b1,b2,c1,c2,(YR (gE false) (rL j).1 (rL j).2).1,(YR (gD false) (rL (YR (gE false) (rL j).1 (rL j).2).2).1 (rL (YR (gE false) (rL j).1 (rL j).2).2).2).1),(YR (gD false) (rL (YR (gE false) (rL j).1 (rL j).2).2).1 (rL (YR (gE false) (rL j).1 (rL j).2).2).2).2):=by
  intro a1 a2 a3 a4 a5 a6 a7 b1 b2 c1 c2 I J x3 L M N O Q T q j e1 e2 e3 e4 e5 e6 e7 e8 e9 B E
  have d1:gN false=rd (tk 9) 0:=rfl
  have d2:gT false=rd bS []:=rfl
  have d3:gS false=rd bY zS:=rfl
  simp only[eC,eI,bA,d1,d2,d3,e1,e2,e3,e4,e5,e6,e7,e8,e9,B,E]
  rfl
 have k1:=eW o x (by omega);have l1:(rd (tk 9) 0 x).2.1.length<=2 ^ 20:=le dF hx;cases e1:rd (tk 9) 0 x with
 |mk a1 I=>
 rw[e1] at k1 l1;simp only at k1 l1;have k2:=eW o I (by omega);have l2:(rd (tk 9) 0 I).2.1.length<=2 ^ 20:=le dF l1;cases e2:rd (tk 9) 0 I with
 |mk a2 J=>
 rw[e2] at k2 l2;simp only at k2 l2;have k3:=eW o J (by omega);have l3:(rd (tk 9) 0 J).2.1.length<=2 ^ 20:=le dF l2;cases e3:rd (tk 9) 0 J with
 |mk a3 x3=>
 rw[e3] at k3 l3;simp only at k3 l3;have k4:=eW o x3 (by omega);have l4:(rd (tk 9) 0 x3).2.1.length<=2 ^ 20:=le dF l3;cases e4:rd (tk 9) 0 x3 with
 |mk a4 L=>
 rw[e4] at k4 l4;simp only at k4 l4;have k5:=eW o L (by omega);have l5:(rd (tk 9) 0 L).2.1.length<=2 ^ 20:=le dF l4;cases e5:rd (tk 9) 0 L with
 |mk a5 M=>
 rw[e5] at k5 l5;simp only at k5 l5;have k6:=eW o M (by omega);have l6:(rd (tk 9) 0 M).2.1.length<=2 ^ 20:=le dF l5;cases e6:rd (tk 9) 0 M with
 |mk a6 N=>
 rw[e6] at k6 l6;simp only at k6 l6;have k7:=eW o N (by omega);have l7:(rd (tk 9) 0 N).2.1.length<=2 ^ 20:=le dF l6;cases e7:rd (tk 9) 0 N with
 |mk a7 O=>
 rw[e7] at k7 l7;simp only at k7 l7;have k8:=i5 w O (by omega);have l8:(rd bS [] O).2.1.length<=2 ^ 20:=le (cT (D:=false)) l7;cases e8:rd bS [] O with
 |mk b1 Q=>
 rw[e8] at k8 l8;simp only at k8 l8;have k9:=i5 w Q (by omega);have l9:(rd bS [] Q).2.1.length<=2 ^ 20:=le (cT (D:=false)) l8;cases e9:rd bS [] Q with
 |mk b2 T=>
 rw[e9] at k9 l9;simp only at k9 l9;have X:=iZ u T (by omega);have Z:(rd bY zS T).2.1.length<=2 ^ 20:=le (cS (D:=false)) l9;cases B:rd bY zS T with
 |mk c1 q=>
 rw[B] at X Z;simp only at X Z;have Y:=iZ u q (by omega);have aa:(rd bY zS q).2.1.length<=2 ^ 20:=le (cS (D:=false)) Z;cases E:rd bY zS q with
 |mk c2 j=>
 rw[E] at Y aa;simp only at Y aa;rw[hR e1 e2 e3 e4 e5 e6 e7 e8 e9 B E];have kL:=j0 z j (by omega);have lL:=zr aa;generalize rL j=pL at *
 obtain⟨m,y⟩:=pL;simp only at kL lL ⊢;have lE:=Gj (sU (cE (D:=false)) (k:=m) (x:=y)) lL.2;generalize hE:YR (gE false) m y=pE at *
 obtain⟨es,y2⟩:=pE;simp only at lE ⊢;have kM:=j0 z y2 (by omega);have lM:=zr lE;generalize rL y2=pM at *
 obtain⟨m2,y3⟩:=pM;simp only at kM lM ⊢;generalize hD:YR (gD false) m2 y3=pD at *
 obtain⟨ds,y4⟩:=pD;simp only;refine sX [.cell 2 (some 17)] (ws:=[.agg _]) h rfl rfl (Yw _) (Yw _) (gR _) fun S ⟨r0,r,hm,m0,a0⟩=>?_;have n2:=m0 2 rfl;have n3:=m0 3 rfl;have n4:=m0 4 rfl;have n5:=m0 5 rfl;have r1:=fun (S:St) (hm:S.μ 0=some (aW x,false))=>aF (p:=20000) k1 hm;have r2:=fun (S:St) (hm:S.μ 0=some (aW I,false))=>aF (p:=20100) k2 hm;have r3:=fun (S:St) (hm:S.μ 0=some (aW J,false))=>aF (p:=20200) k3 hm;have r4:=fun (S:St) (hm:S.μ 0=some (aW x3,false))=>aF (p:=20300) k4 hm;have r5:=fun (S:St) (hm:S.μ 0=some (aW L,false))=>aF (p:=20400) k5 hm;have r6:=fun (S:St) (hm:S.μ 0=some (aW M,false))=>aF (p:=20500) k6 hm;have r7:=fun (S:St) (hm:S.μ 0=some (aW N,false))=>aF (p:=20600) k7 hm;have r8:=fun (S:St) (hm:S.μ 0=some (aW O,false))=>aF (p:=20700) k8 hm;have r9:=fun (S:St) (hm:S.μ 0=some (aW Q,false))=>aF (p:=20800) k9 hm;have r10:=fun (S:St) (hm:S.μ 0=some (aW T,false))=>aF (p:=20900) X hm;have ae:=fun (S:St) (hm:S.μ 0=some (aW q,false))=>aF (p:=21000) Y hm;have rA:=fun (S:St) (hm:S.μ 0=some (aW j,false))=>aF (p:=21100) kL hm;have rB:=fun (S:St) (hm:S.μ 0=some (aW y2,false))=>aF (p:=21700) kM hm;simp only[go_sem,fy] at hm r1 r2 r3 r4 r5 r6 r7 r8 r9 r10 ae rA rB;simp only[F467,c467,go_sem,r0,hm,n2,n3,r1,r2,r3,r4,r5,r6,r7,r8,r9,r10,ae,rA];refine Ph u H w z (y:=y) (m:=m) (sh:=iK (a1,a2,a3,a4,a5,a6,a7,b1,b2,c1,c2,[],[])) lL.2 lL.1 ⟨by simp only[go_sem,r0],by simp only[go_sem],by simp only[go_sem],by simp only[go_sem],by simp only[go_sem,kv],by simp only[go_sem];rfl,by simp only[go_sem,n5],a0 69,a0 95,rfl⟩ (by simp only[go_sem]) (by simp only[go_sem]) (by simp only[go_sem,n4]) (a0 62) fun S1 ac=>?_;rw[hE] at ac;obtain⟨t0,t2,t3,u0,u2,u3,u5,af,aj,U⟩:=ac;simp only at U af u0;simp only[go_sem] at u0;simp only[go_sem,t0,u0,rB];refine Ou u H w o (y:=y3) (m:=m2) (sh:=iK (a1,a2,a3,a4,a5,a6,a7,b1,b2,c1,c2,[],[])) (es:=es) lM.2 lM.1 ⟨by simp only[go_sem,t0],by simp only[go_sem,t2],by simp only[go_sem,t3],by simp only[go_sem],by simp only[go_sem,u2],by simp only[go_sem,u3,U],by simp only[go_sem,af,U],by simp only[go_sem,aj];rfl,rfl⟩ (by simp only[go_sem]) (by simp only[go_sem]) (by simp only[go_sem,u5]) fun S2 ab=>?_;rw[hD] at ab;obtain⟨q0,q2,q3,v0,v2,v3,ak,ag,ad⟩:=ab;simp only at ad ag v0;have ah:=Yv ak (by simp);have ai:=Yv ag (by simp[ad]);simp only[ii,iK] at v3;simp only[kv] at v2;simp only[go_sem,q2,q3,v2,v3];refine⟨v0,_,rfl,?_⟩;simp only[go_sem,ah,ai,iK]
def mM {n:Int}:decide (n<1)=!decide (1<=n):=by by_cases h:1<=n<;>simp[h]<;>omega
def om {n:Int}:decide (3<n)=!decide (n<=3):=by by_cases h:n<=3<;>simp[h]<;>omega
def iO (m n:Int):Bool:=!(decide (n<m)||decide (1099511627776<n))
def P2 (n:Int):iO 1 n=YN n:=by
 simp only[iO,YN];by_cases h:1<=n<;>by_cases j:n<=1099511627776<;>simp[h,j]<;>omega
def DU (n:Int):iO 0 n=ff n:=by
 simp only[iO,ff];by_cases h:0<=n<;>by_cases j:n<=1099511627776<;>simp[h,j]<;>omega
def pN:=HpZ 313 F313
def xw (h:pN Pg) (n m:Int):K' Pg 313 [iz n,.cptr [iz m] 0]=some (.bool (decide (n<m)||decide (1099511627776<n))):=by
 refine aA h rfl ?_;cases c:decide (n<m)<;>simp only[go_sem,c,ky,jI]
def iT:=HpC 284 F284<|HpA uw<|pN
def nQ (h:iT Pg) (m:Int) (l:List Int) (p:l.length<2 ^ 60):K' Pg 284 [iz m,Yi l]=some (.bool (!(l.any fun n=>decide (n<m)||decide (1099511627776<n)))):=by
 obtain⟨h,o,j⟩:=h;have k:=yA o l 313 [.cptr [iz m] 0] (fun n=>decide (n<m)||decide (1099511627776<n)) p rfl (fun n _=>xw j n m);simp only[Yi] at k;refine aA h rfl ?_;simp only[go_sem,Yi,k]
def rW (h:iT Pg) (m a:Int):K' Pg 284 [iz m,.slice 1 [[iz a]]]=some (.bool (iO m a)):=by
 have:=nQ h m [a] (by simp);simpa [Yi,iO] using this
def rX (h:iT Pg) (m a b:Int):K' Pg 284 [iz m,.slice 1 [[iz a],[iz b]]]=some (.bool (iO m a&&iO m b)):=by
 have:=nQ h m [a,b] (by simp);simpa [Yi,iO,Bool.and_assoc] using this
def rY (h:iT Pg) (m a b c d:Int):K' Pg 284 [iz m,.slice 1 [[iz a],[iz b],[iz c],[iz d]]]=some (.bool (iO m a&&(iO m b&&(iO m c&&iO m d)))):=by
 have:=nQ h m [a,b,c,d] (by simp);simpa [Yi,iO,Bool.and_assoc] using this
def pI:=HpC 298 F298 pu
def xr (h:pI Pg) (e:aS) (s:cX):K' Pg 298 [.agg (YW e),.cptr (eg s) 0]=some (.bool (!iu s.span e.key)):=by
 obtain⟨h,j⟩:=h;have k:=xi j s.span e.key;simp only[YL] at k;refine aA h rfl ?_;simp only[go_sem,Yb,k]
def kK:List aS->(aS->Bool)->Nat->Int
 |[],_,_=>-1
 |a::l,p,i=>if p a then i else kK l p (i+1)
theorem CJ:∀{l:List aS} {p:aS->Bool} {i:Nat},decide (0<=kK l p i)=l.any p
 |[],p,i=>by simp[kK]
 |a::l,p,i=>by
  simp only[kK];split
  ·rename_i h;simp[h]
  ·rename_i h;rw[CJ];simp[h]
def pO:=HpZ 315 F315
def xx (h:pO Pg) (l:List aS) (g:Nat) (aJ:List V) (p:aS->Bool) (D:l.length<2 ^ 60) (y:∀x∈l,K' Pg g (.agg (YW x)::aJ)=some (.bool (p x))) :
  K' Pg 315 [Yq l,.func g aJ]=some (iz (kK l p 0)):=by
 refine aA h rfl ?_
 simp only[YW,Yb] at y
 simp only[go_sem]
 unfold l315_0
 refine bE (fun (i:Nat) S=>i<=l.length/\S.ρ 0=Yq l/\S.ρ 1=.func g aJ/\S.ρ 7=iz l.length/\S.ρ 8=iz i/\kK (l.drop i) p i=kK l p 0) (fun i=>l.length-i) 0 ?_ ?_
 ·simp[go_sem]
 ·intro i S ⟨hi,h0,h1,w,o,j⟩
  simp only[go_sem,w,o]
  refine bL (fun h=>?_) (fun h=>?_)
  ·have h:=Yh h
   obtain⟨x,z,B⟩:=bO h
   rw[B] at j
   have u:=y x (List.mem_of_getElem? z)
   simp only[go_sem,Yb,h0,h1,o,z,u]
   refine bL (fun q=>?_) (fun q=>?_)
   ·simp only[kK,q,GS] at j
    simp only[go_sem,<-j]
   ·simp only[kK,q,Gv,GO] at j
    simp only[go_sem,h0,h1,w,o]
    exact⟨i+1,by omega,by omega,by rw[Ym h D],j⟩
  ·have h:=Yr hi h
   subst h
   simp only[GQ,kK] at j
   simp only[go_sem,<-j]
def nw:=HpC 299 F299 pO
def sd (h:nw Pg) (l:List aS) (g:Nat) (aJ:List V) (p:aS->Bool) (q:l.length<2 ^ 60) (o:∀x∈l,K' Pg g (.agg (YW x)::aJ)=some (.bool (p x))) :
  K' Pg 299 [Yq l,.func g aJ]=some (.bool (l.any p)):=by
 obtain⟨h,j⟩:=h
 have k:=xx j l g aJ p q o
 simp only[Yq] at k
 refine aA h rfl ?_
 simp only[go_sem,k,CJ]
def Om {α:Type} {l:List α} {p:α->Bool}:(!(l.any fun x=>!p x))=l.all p:=by
 induction l with
 |nil=>rfl
 |cons a l j=>simp only[List.any_cons,List.all_cons,<-j];cases p a<;>simp
def pC:=HpC 244 F244<|HpA lg<|HpA AD<|HpA nm<|HpA pA<|HpA iT<|HpA pI<|nw
def xn (h:pC Pg) (s:cX) (J:ve s):K' Pg 244 [.agg (eg s)]=some (.bool (dm s)):=by
 obtain⟨h,w,z,o,p,j,q,u⟩:=h;have B:=J.1.len;have a1:=rX j 1 s.id s.epoch;have a2:=rY j 0 s.hold s.seen s.move s.closed;have D:=rS o s.span;have E:=xl p s.ents J.1;have y:=kE w s.mark;have I:=kE w s.top;have L:=Mg z s.done (by have:=J.2.1;omega);have H:=sd u s.ents 298 [.cptr (eg s) 0] (fun e=>!iu s.span e.key) (by omega) (fun e _=>xr q e s);simp only[P2] at a1;simp only[DU] at a2;simp only[eg,YL,Yg,Yq,Ys] at D E y I L H;clear J B w z o p j q u;refine aA h rfl ?_;clear h;cases Q:YN s.id with
 |false=>simp only[go_sem,dm,bM, *]
 |true=>
 cases R:YN s.epoch with
 |false=>simp only[go_sem,dm,bM, *]
 |true=>
 cases c3:ff s.hold with
 |false=>simp only[go_sem,dm,bM, *]
 |true=>
 cases S:ff s.seen with
 |false=>simp only[go_sem,dm,bM, *]
 |true=>
 cases T:ff s.move with
 |false=>simp only[go_sem,dm,bM, *]
 |true=>
 cases U:ff s.closed with
 |false=>simp only[go_sem,dm,bM, *]
 |true=>
 cases W:decide (1<=s.phase) with
 |false=>simp only[go_sem,dm,bM,mM, *]
 |true=>
 cases X:decide (s.phase<=3) with
 |false=>simp only[go_sem,dm,bM,mM,om, *]
 |true=>
 cases Y:Yx s.span with
 |false=>simp only[go_sem,dm,bM,mM,om, *]
 |true=>
 cases M:gb s.ents with
 |false=>simp only[go_sem,dm,bM,mM,om, *]
 |true=>
 cases N:Ya s.mark with
 |false=>simp only[go_sem,dm,bM,mM,om, *]
 |true=>
 cases O:Ya s.top with
 |false=>simp only[go_sem,dm,bM,mM,om, *]
 |true=>
 cases P:YK s.done with
 |false=>simp only[go_sem,dm,bM,mM,om, *]
 |true=>
 simp only[go_sem,dm,bM,mM,om,Om, *]
def ns:=HpZ 292 F292
def Py {n:Int}:decide (0<n)=decide (1<=n):=GU.2 (by omega)
def rZ (h:ns Pg) (n:Int):K' Pg 292 [iz n]=some (.bool (YN n)):=by
 refine aA h rfl ?_;simp only[go_sem,Py];cases j:decide (1<=n)<;>simp only[go_sem,j,YN]
def nt:=HpC 293 F293 ns
def sb (h:nt Pg) (n:Int):K' Pg 293 [iz n]=some (.bool (ff n)):=by
 obtain⟨h,j⟩:=h;have k:=rZ j n;have e:ff n=(decide (n=0)||YN n):=by
  simp only[ff,YN];by_cases h1:n=0<;>by_cases p:0<=n<;>by_cases q:n<=1099511627776<;>by_cases u:1<=n<;>simp[h1,p,q,u]<;>omega
 refine aA h rfl ?_;rw[e];cases o:decide (n=0)<;>simp only[go_sem,o,k,ky,jI]
def pF:=HpC 245 F245<|HpA nr<|HpA AC<|HpA nk<|HpA nl<|HpA pB<|HpA ns<|nt
def xo (h:pF Pg) (s:cX) (P:ve s):K' Pg 245 [.agg (eg s)]=some (.bool (dm s)):=by
 obtain⟨h,y,I,j,o,p,q,u⟩:=h;have Z:=P.1.len;have aa:=fun n=>rZ q n;have ab:=fun n=>sb u n;have J:=rR o s.span;have L:=xm p s.ents P.1;have B:=lG y s.mark;have M:=lG y s.top;have W:=Mf I s.done (by have:=P.2.1;omega);have w:=fun k=>rQ j s.span k;simp only[YL,Yg,Yq,Ys] at J L B M W w;clear P y I j o p q u;refine aA h rfl ?_;clear h;cases c1:YN s.id with
 |false=>simp only[go_sem,dm,bM, *]
 |true=>
 cases c2:YN s.epoch with
 |false=>simp only[go_sem,dm,bM, *]
 |true=>
 cases c3:ff s.hold with
 |false=>simp only[go_sem,dm,bM, *]
 |true=>
 cases c4:ff s.seen with
 |false=>simp only[go_sem,dm,bM, *]
 |true=>
 cases c5:ff s.move with
 |false=>simp only[go_sem,dm,bM, *]
 |true=>
 cases c6:ff s.closed with
 |false=>simp only[go_sem,dm,bM, *]
 |true=>
 cases Q:decide (1<=s.phase) with
 |false=>
  have T:decide (s.phase=1)=false:=Gq (by have:=Ge Q;omega);have X:decide (s.phase=2)=false:=Gq (by have:=Ge Q;omega);have q3:decide (s.phase=3)=false:=Gq (by have:=Ge Q;omega);simp only[go_sem,dm,bM, *]
 |true=>
 cases R:decide (s.phase<=3) with
 |false=>
  have T:decide (s.phase=1)=false:=Gq (by have:=Ge R;omega);have X:decide (s.phase=2)=false:=Gq (by have:=Ge R;omega);have q3:decide (s.phase=3)=false:=Gq (by have:=Ge R;omega);simp only[go_sem,dm,bM, *]
 |true=>
 have D:∀S:St,S.ρ 1=.lref 1 0->S.μ 1=some (eg s,false)->S.ρ 3=iz 0->bM s=true->Wp (K' Pg) (.seq (.block 0 l245_0) (.seq (.region false r245_10) .ret)) S (fun Y S=>(Y=.norm\/Y=.ret)/\mu F245 S=some (.bool (dm s))):=by
  intro S E N H O;have e:dm s=s.ents.all fun e=>iu s.span e.key:=by simp[dm,O]
  rw[e];simp only[go_sem];unfold l245_0;refine bE (fun (i:Nat) S=>i<=s.ents.length/\S.ρ 1=.lref 1 0/\S.μ 1=some (eg s,false)/\S.ρ 3=iz i/\((s.ents.drop i).all fun e=>iu s.span e.key)=s.ents.all fun e=>iu s.span e.key) (fun i=>s.ents.length-i) 0 ?_ ?_
  ·simp[go_sem,E,N,H]
  ·intro i S ⟨hi,E,N,H,z⟩;simp only[go_sem,E,N,H];refine bL (fun h=>?_) (fun h=>?_)
   ·have h:=Yh h;obtain⟨x,hx,hd⟩:=bO h;rw[hd,List.all_cons] at z;simp only[go_sem,E,N,H,hx,Yb,w];cases c:iu s.span x.key with
    |false=>
     rw[c,Gl] at z;simp only[go_sem,<-z]
    |true=>
     rw[c,GK] at z;simp only[go_sem,E,N,H];exact⟨i+1,by omega,by omega,by rw[Ym h (by omega)],z⟩
   ·have h:=Yr hi h;subst h;rw[GQ,List.all_nil] at z;simp only[go_sem,<-z]
 have U:∀b,(decide (s.phase=1)=true\/(decide (s.phase=1)=false/\decide (s.phase=2)=true)\/(decide (s.phase=1)=false/\decide (s.phase=2)=false/\decide (s.phase=3)=true))\/b=true:=fun b=>by
  have:=Gk Q;have:=Gk R;left;by_cases h1:s.phase=1
  ·left;simp[h1]
  ·by_cases h2:s.phase=2
   ·right;left;simp[h2]
   ·right;right;have:s.phase=3:=by omega
    simp[this]
 have U:=(U false).resolve_right (by simp);rcases U with T|⟨T,X⟩|⟨T,X,q3⟩
 all_goals
  cases c9:Yx s.span with
  |false=>simp only[go_sem,dm,bM, *]
  |true=>
  cases ac:gb s.ents with
  |false=>simp only[go_sem,dm,bM, *]
  |true=>
  cases ad:Ya s.mark with
  |false=>simp only[go_sem,dm,bM, *]
  |true=>
  cases ae:Ya s.top with
  |false=>simp only[go_sem,dm,bM, *]
  |true=>
  cases af:YK s.done with
  |false=>simp only[go_sem,dm,bM, *]
  |true=>
  have O:bM s=true:=by simp only[bM,Bool.and_self, *]
  simp only[go_sem, *,-D,-O]
  exact Oj (D _ (by simp only[go_sem]) (by simp only[go_sem]) (by simp only[go_sem]) O)
def pP:=HpC 316 F316 wg
def xy (h:pP Pg) (e:aS) (t:aH) (v:dt) (u:e.chain.getLast?=some v) (z:e.chain.length<=10000):K' Pg 316 [.agg (YW e),.cptr (Yg t) 0]=some (.bool (decide (0<Ye v.at_ t))):=by
 obtain⟨h,q⟩:=h;have p:=B3 q v.at_ t;have o:0<e.chain.length:=pn.2 fun w=>by rw[w] at u;simp at u
 have y:e.chain[e.chain.length-1]?=some v:=by rw[<-List.getLast?_eq_getElem?];exact u
 have j:IntKind.i64.wrap ((e.chain.length:Int)-1)=((e.chain.length-1:Nat):Int):=sO o (by omega);simp only[Yg] at p;refine aA h rfl ?_;simp only[go_sem,Yb,j,y,p]
def mR (t:aH) (e:aS):Bool:=match e.chain.getLast? with|some v=>decide (0<Ye v.at_ t)|none=>false
def C0 {s:cX} {t:aH}:eQ s t=!(s.ents.any (mR t)):=by
 rw[List.not_any_eq_all_not];simp only[eQ]
 congr 1
 funext e
 unfold mR;cases e.chain.getLast? with
 |none=>rfl
 |some v=>by_cases h:Ye v.at_ t<=0<;>simp[h]<;>omega
def pK:=HpC 301 F301<|HpA nw<|pP
def xv (h:pK Pg) (s:cX) (t:aH) (w:Sm s.ents) (y:∀e∈s.ents,e.chain≠[]):K' Pg 301 [.agg (eg s),.agg (Yg t)]=some (.bool (eQ s t)):=by
 obtain⟨h,j,o⟩:=h;have u:=w.len;have k:=sd j s.ents 316 [.cptr (Yg t) 0] (mR t) (by omega) (fun e q=>by
  cases p:e.chain.getLast? with
  |none=>exact absurd (List.getLast?_eq_none_iff.1 p) (y e q)
  |some v=>rw[xy o e t v p (w.2 e q).1];simp only[mR,p])
 simp only[Yq,Yg] at k;refine aA h rfl ?_;simp only[go_sem,k,C0]
def CU {s:cX} (h:dm s=true):gb s.ents=true/\∀e∈s.ents,e.chain≠[]:=by
 simp only[dm,bM,Gg] at h;exact⟨h.1.2.2.2.2.2.2.2.2.2.1,fun e j=>(Ci.1 ((Ch.1 h.1.2.2.2.2.2.2.2.2.2.1).2.2 e j)).2.1⟩
def Pq {s:cX} (h:dm s=true):1<=s.id/\s.id<=1099511627776:=by
 simp only[dm,bM,Gg,YN,Gn] at h;exact h.1.1
def jy (l:List cX) (i:Nat):Int:=if i=0 then 0 else (l[i-1]?.map cX.id).getD 0
def vq {l:List cX} {i:Nat} {x:cX} (h:l[i]?=some x):jy l (i+1)=x.id:=by simp[jy,h]
def pH:=HpC 249 F249<|HpA lg<|HpA pC<|HpA iT<|pK
def PZ {n:Nat}:decide ((n:Int)<=8)=decide (n<=8):=DT (b:=8)
def vR {n:Nat}:decide ((8:Int)<(n:Int))=!decide (n<=8):=DO (a:=8)
def Df {a b:Int}:decide (a<=b)=!decide (b<a):=by by_cases h:b<a<;>simp[h]<;>omega
def xq (h:pH Pg) (c:fM) (P:oS c):K' Pg 249 [.agg (mN c)]=some (.bool (fd c)):=by
 obtain⟨h,L,z,B,D⟩:=h;have Q:=P.1;have y:=kE L c.top;have w:=rW B 0 c.dropped;simp only[DU] at w;simp only[Yg] at y;refine aA h rfl ?_;simp only[go_sem];unfold l249_0;refine bE (fun (i:Nat) S=>i<=c.shards.length/\S.ρ 1=.lref 1 0/\S.μ 1=some (mN c,false)/\S.ρ 3=iz (jy c.shards i)/\S.μ 5=none/\S.ρ 7=Dv c.shards/\S.ρ 8=iz c.shards.length/\S.ρ 9=iz i/\ic c.top (jy c.shards i) (c.shards.drop i)=ic c.top 0 c.shards) (fun i=>c.shards.length-i) 0 ?_ ?_
 ·simp[go_sem,jy]
 ·intro i S ⟨hi,h1,I,R,m5,N,O,M,o⟩;simp only[go_sem,O,M];refine bL (fun h=>?_) (fun h=>?_)
  ·have h:=Yh h;obtain⟨x,J,T⟩:=bO h;have H:=P.2 x (List.mem_of_getElem? J);have j:=xn z x H;have E:IntKind.i64.wrap ((i:Int)+1)=((i+1:Nat):Int):=Ym h (by omega);rw[T] at o;simp only[ic] at o;simp only[eg,Yq,Ys] at j;simp only[go_sem,R,m5,N,M,J,Df];cases u:decide (jy c.shards i<x.id) with
   |false=>
    simp only[u,Gl] at o;simp only[go_sem,fd,<-o]
   |true=>
   cases q:dm x with
   |false=>
    simp only[u,q,Gl,Gm] at o;simp only[go_sem,q,j,fd,<-o]
   |true=>
   have p:=xv D x c.top H.1 (CU q).2;simp only[eg,Yq,Ys,Yg] at p;cases c3:eQ x c.top with
   |false=>
    simp only[u,q,c3,Gl,Gm] at o;simp only[go_sem,h1,I,q,c3,j,p,fd,<-o]
   |true=>
   simp only[u,q,c3,GK] at o;simp only[go_sem,h1,I,N,O,M,q,c3,j,p];exact⟨i+1,by omega,by omega,by rw[vq J],by rw[E],by rw[vq J];exact o⟩
  ·have h:=Yr hi h;subst h;rw[GQ] at o;simp only[ic] at o;simp only[go_sem,h1,I,PZ];cases u:decide (c.shards.length<=8) with
   |false=>simp only[go_sem,u,fd]
   |true=>
   cases q:Ya c.top with
   |false=>simp only[go_sem,h1,I,u,q,y,fd]
   |true=>simp only[go_sem,h1,I,u,q,y,w,fd,<-o]
def MA {c:List dt} {v:dt} {t:aH} (H:Yj c=true) (I:c.getLast?=some v):(c.any fun x=>cA t x.at_)=decide (0<Ye v.at_ t):=by
 have D:=(Y1 H).1;have p:c[c.length-1]?=some v:=by rw[<-List.getLast?_eq_getElem?];exact I
 have j:∀{a b:aH},cA a b=decide (0<Ye b a):=fun {a b}=>by
  simp only[cA];refine GU.2 ?_;have:=@Mu a b;constructor
  ·intro h;rcases Int.lt_trichotomy (Ye b a) 0 with q|q|q
   ·have:=this.2 (by omega);omega
   ·have:=this.2 (by omega);omega
   ·exact q
  ·intro h;rcases Int.lt_trichotomy (Ye a b) 0 with q|q|q
   ·exact q
   ·have:=this.1 (by omega);omega
   ·have:=this.1 (by omega);omega
 cases q:decide (0<Ye v.at_ t) with
 |true=>exact List.any_eq_true.2 ⟨v,List.mem_of_getElem? p,by rw[j];exact q⟩
 |false=>
  refine List.any_eq_false.2 fun y J=>?_;obtain⟨i,hi⟩:=List.mem_iff_getElem?.1 J;have E:=(List.getElem?_eq_some_iff.1 hi).1;rw[j];have w:=Ge q;by_cases e:i=c.length-1
  ·subst e;rw[p] at hi;obtain rfl:v=y:=by simpa using hi
   simpa using w
  ·have o:=Cm D (show i<c.length-1 by omega) hi p;have h1:=vi.1 o;have z:¬0<Ye y.at_ t:=fun u=>by
    have u:=yK.1 u;have B:¬0<Ye v.at_ t:=w;rw[yK] at B;omega
   simpa using z
def pJ:=HpC 300 F300 H6
def xu (h:pJ Pg) (s:cX) (t:aH) (M:Sm s.ents) (U:gb s.ents=true):K' Pg 300 [.agg (eg s),.agg (Yg t)]=some (.bool (eQ s t)):=by
 obtain⟨h,O⟩:=h;have L:=M.len;have N:=fun x=>K6 O t x;simp only[Yg] at N;have I:∀e∈s.ents,(e.chain.any fun x=>cA t x.at_)=mR t e:=fun e I=>by
  obtain⟨-,T,P⟩:=Ci.1 ((Ch.1 U).2.2 e I);cases J:e.chain.getLast? with
  |none=>exact absurd (List.getLast?_eq_none_iff.1 J) T
  |some v=>rw[MA P J];simp only[mR,J]
 refine aA h rfl ?_;rw[C0];simp only[go_sem];unfold l300_0;refine bE (fun (i:Nat) S=>i<=s.ents.length/\S.ρ 2=.lref 2 0/\S.μ 2=some (eg s,false)/\S.ρ 3=.lref 3 0/\S.μ 3=some (Yg t,false)/\S.ρ 5=iz i/\(s.ents.drop i).any (mR t)=s.ents.any (mR t)) (fun i=>s.ents.length-i) 0 ?_ ?_
 ·simp[go_sem]
 ·intro i S ⟨hi,p,m2,B,m3,u,z⟩;simp only[go_sem,p,m2,u];refine bL (fun h=>?_) (fun h=>?_)
  ·have h:=Yh h;obtain⟨x,E,Q⟩:=bO h;have D:IntKind.i64.wrap ((i:Int)+1)=((i+1:Nat):Int):=Ym h (by omega);have W:=(M.at E).1;rw[Q,List.any_cons,<-I x (List.mem_of_getElem? E)] at z;simp only[go_sem];unfold l300_1;refine bE (fun (j:Nat) S=>j<=x.chain.length/\S.ρ 2=.lref 2 0/\S.μ 2=some (eg s,false)/\S.ρ 3=.lref 3 0/\S.μ 3=some (Yg t,false)/\S.ρ 5=iz i/\S.ρ 6=iz j/\((x.chain.drop j).any fun y=>cA t y.at_)=x.chain.any fun y=>cA t y.at_) (fun j=>x.chain.length-j) 0 ?_ ?_
   ·simp[go_sem,p,m2,B,m3,u]
   ·intro j S ⟨R,p,m2,B,m3,u,w,hw⟩;simp only[go_sem,p,m2,u,w,E,Yb];refine bL (fun o=>?_) (fun o=>?_)
    ·have o:=Yh o;obtain⟨y,X,H⟩:=bO o;rw[H,List.any_cons] at hw;simp only[go_sem,p,m2,B,m3,u,w,E,X,Yb,N];cases q:cA t y.at_ with
     |true=>
      rw[q,ky] at hw;rw[<-hw,ky] at z;simp only[go_sem,<-z]
     |false=>
      rw[q,jI] at hw;simp only[go_sem,p,m2,B,m3,u,w];exact⟨j+1,by omega,by omega,by rw[Ym o (by omega)],hw⟩
    ·have o:=Yr R o;subst o;rw[GQ,List.any_nil] at hw;rw[<-hw,jI] at z;simp only[go_sem,p,m2,B,m3,u,D];exact⟨i+1,by omega,by omega,rfl,z⟩
  ·have h:=Yr hi h;subst h;rw[GQ,List.any_nil] at z;simp only[go_sem,<-z]
def pG:=HpC 246 F246<|HpA nr<|HpA pF<|HpA nt<|pJ
def xp (h:pG Pg) (c:fM) (X:oS c):K' Pg 246 [.agg (mN c)]=some (.bool (fd c)):=by
 obtain⟨h,T,J,L,M⟩:=h;have p:=lG T c.top;have z:=sb L c.dropped;simp only[Yg] at p;refine aA h rfl ?_;cases E:decide (c.shards.length<=8) with
 |false=>simp only[go_sem,vR,E,fd]
 |true=>
 cases R:Ya c.top with
 |false=>simp only[go_sem,vR,E,R,p,fd]
 |true=>
 cases c3:ff c.dropped with
 |false=>simp only[go_sem,vR,E,R,c3,p,z,fd]
 |true=>
 have U:=Gk E;have e:fd c=ic c.top 0 c.shards:=by simp only[fd,E,R,c3,GK]
 rw[e];simp only[go_sem,vR,E,R,c3,p,z];unfold l246_0;refine bE (fun (i:Nat) S=>i<=c.shards.length/\S.ρ 1=.lref 1 0/\S.μ 1=some (mN c,false)/\S.ρ 3=iz i/\ic c.top (jy c.shards i) (c.shards.drop i)=ic c.top 0 c.shards) (fun i=>c.shards.length-i) 0 ?_ ?_
 ·simp[go_sem,jy]
 ·intro i S ⟨hi,h1,I,H,j⟩;simp only[go_sem,h1,I,H];refine bL (fun h=>?_) (fun h=>?_)
  ·have h:=Yh h;obtain⟨x,D,Y⟩:=bO h;have O:=X.2 x (List.mem_of_getElem? D);have w:=xo J x O;have u:IntKind.i64.wrap ((i:Int)+1)=((i+1:Nat):Int):=Ym h (by omega);rw[Y] at j;simp only[ic] at j;simp only[eg,Yq,Ys] at w;simp only[go_sem,h1,I,H,D,w];cases P:dm x with
   |false=>
    simp only[P,Gl,Gm] at j;simp only[go_sem,<-j]
   |true=>
   have o:=xu M x c.top O.1 (CU P).1;simp only[eg,Yq,Ys,Yg] at o;cases Q:eQ x c.top with
   |false=>
    simp only[P,Q,Gl,Gm] at j;simp only[go_sem,h1,I,H,D,Q,o,<-j]
   |true=>
   simp only[P,Q,GK] at j;rcases G4 i with hz|hz
   ·have B:decide ((0:Int)<(i:Int))=false:=Gq (by omega);have Z:decide (jy c.shards i<x.id)=true:=GC (by
     have:=(Pq P).1;simp[jy,hz];omega)
    rw[Z,GK] at j;simp only[go_sem,h1,I,H,D,Q,o,B];exact⟨i+1,by omega,by omega,by rw[u],by rw[vq D];exact j⟩
   ·have B:decide ((0:Int)<(i:Int))=true:=GC (by omega);have N:IntKind.i64.wrap ((i:Int)-1)=((i-1:Nat):Int):=sO hz (by omega);obtain⟨y,W,-⟩:=bO (l:=c.shards) (i:=i-1) (by omega);have hp:jy c.shards i=y.id:=by simp[jy,Nat.ne_of_gt hz,W]
    rw[hp] at j;simp only[go_sem,h1,I,H,D,Q,o,B,N,W,Df];cases q:decide (y.id<x.id) with
    |false=>
     rw[q,Gl] at j;simp only[go_sem,<-j]
    |true=>
     rw[q,GK] at j;simp only[go_sem,h1,I,H];exact⟨i+1,by omega,by omega,by rw[u],by rw[vq D];exact j⟩
  ·have h:=Yr hi h;subst h;rw[GQ] at j;simp only[ic] at j;simp only[go_sem,<-j]
def tg {α:Type} {W:α->List UInt8} {P:α->Prop} (o:∀a,P a->1<=(W a).length) {l:List α} (j:∀a∈l,P a):l.length<=(YC W l).length/\∀a∈l,(W a).length<=(YC W l).length:=by
 have h1:=YE o j;refine⟨by simp only[YC,Gb];omega,fun a ha=>?_⟩;have:(W a).length<=(l.flatMap W).length:=by
  clear h1 j
  induction l with
  |nil=>simp at ha
  |cons b l p=>
   simp only[GH,Gb];rcases GN.1 ha with rfl|ha
   ·omega
   ·have:=p ha;omega
 simp only[YC,Gb];omega
def sV {t:List UInt8}:t.length<=(Yk t).length:=by simp[Yk]
def Ow {e:aS} (h:pf e):e.key.length<=(fJ e).length/\e.chain.length<=(fJ e).length:=by
 have h1:=sV (t:=e.key);have j:=(tg zd h.2.2).1;simp only[fJ,Gb];omega
def M4 {s:cX} (h:sJ s) (D:(fo s).length<=10000):ve s:=by
 obtain⟨⟨a1,a2,a3,a4,a5,a6,a7,a8,E,q,u,⟨w,j⟩,⟨y,o⟩⟩,-⟩:=h;obtain⟨J,z⟩:=tg zl j;obtain⟨H,I⟩:=tg yU o;have L:=sV (t:=s.span.lo);have M:=sV (t:=s.span.hi);simp only[fo,Gb] at D;refine⟨⟨by omega,fun e p=>?_⟩,by omega,fun d B=>?_,by omega,by omega⟩
 ·have:=z e p;have:=Ow (j e p);omega
 ·have:=(o d B).2;rw[<-this];simp[jl]
def Dc {c:fM} (h:CV c) (p:(cB c).length<=10000):oS c:=by
 obtain⟨⟨a1,a2,a3,a4⟩,-⟩:=h;obtain⟨q,o⟩:=tg zx a4;simp only[cB,Gb] at p;exact⟨by omega,fun s j=>M4 (a4 s j) (by have:=o s j;omega)⟩
def pg (t:aH) (d:Int) (e:V):List V:=[e,iz t.wall,iz t.tick,iz t.node,iz d]
structure nf (S:St) (y:Rd) (t:aH) (d:Int) (vs:List cX) (j:Nat):Prop where
 r2:S.ρ 2=.lref 2 0
 r4:S.ρ 4=.lref 8 0
 r5:S.ρ 5=.lref 5 0
 m8:S.μ 8=some (aW y,false)
 m2:S.μ 2=some ([.slice 17 [],.int .i64 0,.int .i64 0,.int .i64 0,.int .i64 0],false)
 m5:S.μ 5=some (pg t d (aK 23 17 j),false)
 jC:S.A 23=Y2 17 (vs.map eg) j
 vl:vs.length=j
def OM (B:nF Pg) {y:Rd} {m:Nat} {t:aH} {d:Int} (hy:y.1.length<=2 ^ 20) (hm:m<=2 ^ 20) {S:St} {Q:Ex->St->Prop} (hS:nf S y t d [] 0) (P:S.ρ 15=iz m) (R:S.ρ 16=iz 0)
  (Y:∀S',nf S' (YR (eC false) m y).2 t d (YR (eC false) m y).1 m->Q .norm S'):Wp (K' Pg) l428_0 S (dU 0 Q):=by
 unfold l428_0
 refine bE (fun (j:Nat) S'=>j<=m/\S'.ρ 15=iz m/\S'.ρ 16=iz j/\∃(vs:List cX) (o:Rd),o.1.length<=2 ^ 20/\
  YR (eC false) m y=(vs++(YR (eC false) (m-j) o).1,(YR (eC false) (m-j) o).2)/\nf S' o t d vs j) (fun j=>m-j) 0 ?_ ?_
 ·simp only[eS]
  exact⟨Gy _,P,R,[],y,hy,rfl,hS⟩
 ·intro j S' ⟨hj,I,J,vs,o,H,u,hE⟩
  obtain⟨t2,T,U,m8,m2,m5,jC,w⟩:=hE
  cases L:decide ((j:Int)<(m:Int)) with
  |false=>
   have N:j=m:=by have:=Ge L;omega
   subst N
   have he:=vu u
   simp only[go_sem,I,J,L]
   rw[he] at Y
   exact Y _ ⟨by simp only[go_sem,t2],by simp only[go_sem,T],by simp only[go_sem,U],m8,m2,m5,jC,w⟩
  |true=>
   have O:=Yh L
   have E:=inc64q (i:=j) (by omega)
   have q:=fl O u
   have k1:=xU B o H
   have Z:=Gj ((vO (D:=false)).len o) H
   generalize eC false o=p1 at *
   obtain⟨W,x1⟩:=p1
   simp only at q Z
   have r1:=fun (S:St) (hm:S.μ 8=some (aW o,false))=>aF (p:=20300) k1 hm
   have M:(vs.map eg).length=j:=by simp[w]
   have X:=fun S=>YZ (S:=S) (s:=23) (z:=17) (r:=eg W) M (by unfold dj;omega)
   have v5:=m5
   simp only[pg] at v5
   simp only[go_sem] at r1 m8 X
   simp only[go_sem,T,U,I,J,L,m8,v5,jC,r1,YM,X,E,eS]
   exact⟨j+1,by omega,by omega,rfl,vs++[W],x1,Z,q,by simp only[go_sem,t2],by simp only[go_sem,T],by simp only[go_sem,U],by simp only[go_sem],by simp only[go_sem,m2],by simp only[go_sem]<;>rfl,by simp only[go_sem,GJ]<;>rfl,by simp[w]⟩
def mS (o:Option fM):V:=match o with
 |some c=>.tuple [.agg (mN c),iz 0]
 |none=>.tuple [.agg [.slice 17 [],iz 0,iz 0,iz 0,iz 0],iz 3]
def nA:=HpC 428 F428<|HpA gH<|HpA fV<|HpA iW<|HpA nF<|pH
theorem su (h:nA Pg) (t:List UInt8) (ht:t.length<=2 ^ 20) (U:∀c,CV c->cB c=t->oS c):K' Pg 428 [.str t]=some (mS (fS t)):=by
 obtain⟨h,B,E,H,I,z⟩:=h;have hR:∀{a:aH} {n:Nat} {q o:Rd},rd bY zS (t,false)=(a,q)->rd (tk 9) 0 q=(n,o)->
   gC false (t,false)=(fH (a,n,(YR (eC false) (rL o).1 (rL o).2).1),(YR (eC false) (rL o).1 (rL o).2).2):=by
  intro a n q o N O
  have d1:gN false=rd (tk 9) 0:=rfl
  have d3:gS false=rd bY zS:=rfl
  simp only[gC,eI,bA,d1,d3,N,O]
  rfl
 have W:=iZ B (t,false) (by simp only;omega);have Y:=(cS (D:=false)).len (t,false);change (rd bY zS (t,false)).2.1.length<=t.length at Y;cases N:rd bY zS (t,false) with
 |mk a q=>
 rw[N] at W Y;simp only at W Y;have X:=eW E q (by omega);have l2:=dF.len q;cases O:rd (tk 9) 0 q with
 |mk n o=>
 rw[O] at X l2;simp only at X l2;have k3:=j0 H o (by omega);have Z:=zr (x:=o) (by omega);have P:=hR N O;generalize rL o=pL at *
 obtain⟨m,y⟩:=pL;simp only at k3 Z P;generalize hD:YR (eC false) m y=pD at *
 obtain⟨sh,u,b⟩:=pD;simp only at P;have T:b=false->u=[]->oS (fH (a,n,sh)):=fun hb hu=>by
  subst hb;subst hu;obtain⟨g1,g2⟩:=(cC (D:=false)).get P;exact U _ g2 (by rw[GG] at g1;exact g1.symm)
 refine aA h rfl ?_;have r1:=fun (S:St) (hm:S.μ 8=some (aW (t,false),false))=>aF (p:=20000) W hm;have r2:=fun (S:St) (hm:S.μ 8=some (aW q,false))=>aF (p:=20100) X hm;have r3:=fun (S:St) (hm:S.μ 8=some (aW o,false))=>aF (p:=20200) k3 hm;simp only[go_sem,fy] at r1 r2 r3;simp only[F428,c428,go_sem,r1,r2,r3];refine OM I (y:=y) (m:=m) (t:=a) (d:=n) Z.2 Z.1 ⟨by simp only[go_sem],by simp only[go_sem],by simp only[go_sem],by simp only[go_sem],by simp only[go_sem],by simp only[go_sem]<;>rfl,rfl,rfl⟩ (by simp only[go_sem]) (by simp only[go_sem]) fun S1 J=>?_;rw[hD] at J;obtain⟨Q,R,t5,m8,m2,m5,jC,M⟩:=J;simp only at m8 jC M;have L:=Yv jC (by simp[M]);simp only[pg] at m5;simp only[go_sem] at m8;have e0:fS t=if (b=false/\u=[])/\fd (fH (a,n,sh))=true then some (fH (a,n,sh)) else none:=by
  unfold fS;rw[P];simp only[Gi,and_comm]
 rw[e0];cases b with
 |true=>
  rw[Gu (by simp)];simp only[go_sem,Q,R,m8,m2,mS]
 |false=>
  cases w:decide (u=[]) with
  |false=>
   rw[Gu (by simp[Ge w])];simp only[go_sem,Q,R,m8,m2,w,mS]
  |true=>
   have hu:=Gk w;have j:=xq z (fH (a,n,sh)) (T rfl hu);cases c3:fd (fH (a,n,sh)) with
   |false=>
    rw[c3] at j;rw[Gu (by simp)];simp only[go_sem,fH] at j;simp only[go_sem,Q,R,t5,m8,m2,m5,w,L,j,mS]
   |true=>
    rw[c3] at j;rw[GE ⟨⟨rfl,hu⟩,rfl⟩];simp only[go_sem,fH] at j;simp only[go_sem,Q,R,t5,m8,m2,m5,w,L,j,mS,fH]
def xM (h:nA Pg) (t:List UInt8) (ht:t.length<=10000):K' Pg 428 [.str t]=some (mS (fS t)):=
 su h t (by omega) fun c j e=>Dc j (by rw[e];exact ht)
def eN {α:Type} {R:Rd->α×Rd} {m j:Nat} {vs:List α} {y y':Rd} (hj:j<m) (hn:y'.2=false) (h:YJ R m y=(vs++(YJ R (m-j) y').1,(YJ R (m-j) y').2)) :
  YJ R m y=((vs++[(R y').1])++(YJ R (m-(j+1)) (R y').2).1,(YJ R (m-(j+1)) (R y').2).2):=by
 rw[h,show m-j=(m-(j+1))+1 by omega]
 simp[YJ,hn]
def vy {α:Type} {R:Rd->α×Rd} {m j:Nat} {vs:List α} {y o:Rd} (h:YJ R m y=(vs++(YJ R (m-j) o).1,(YJ R (m-j) o).2)) (hs:m<=j\/o.2=true):YJ R m y=(vs,o):=by
 rw[h];rcases hs with hs|hs
 ·rw[show m-j=0 by omega];simp[YJ]
 ·obtain⟨s,b⟩:=o;simp only at hs;subst hs;rw[oT];simp
def tf {S:St} {Wv:List Nat} {v:Nat} (j:Wv.contains v=false):(S.head [] [] Wv []).μ v=S.μ v:=by
 show (if Wv.contains v then none else (S.μ v).map _)=_
 rw[j];cases S.μ v<;>rfl
structure er (S:St) (y:Rd) (sh:cX) (es:List aS) (ds:List bZ):Prop where
 r0:S.ρ 0=.lref 0 0
 r2:S.ρ 2=.lref 2 0
 r3:S.ρ 3=.lref 3 0
 m0:S.μ 0=some (aW y,false)
 m2:S.μ 2=some (kv,false)
 m3:S.μ 3=some (ii sh (aK 97 2 es.length) (aK 139 11 ds.length),false)
 m11:S.μ 11=none
 a97:S.A 97=Y2 2 (es.map YW) es.length
 a139:S.A 139=Y2 11 (ds.map YP) ds.length
def er.head {S:St} {y:Rd} {sh:cX} {es:List aS} {ds:List bZ} {Wv Wa:List Nat} (h:er S y sh es ds) (h0:Wv.contains 0=false) (p:Wv.contains 2=false) (q:Wv.contains 3=false) (o:Wa.contains 97=false) (j:Wa.contains 139=false) :
  er (S.head [] [] Wv Wa) y sh es ds:=
 ⟨aM h.r0 (by simp only[dR,h0];rfl),aM h.r2 (by simp only[dR,p];rfl),aM h.r3 (by simp only[dR,q];rfl),fe h.m0 rfl h0,fe h.m2 rfl p,o8 h.m3 q o j,ej (.inl h.m11),(YA o).trans h.a97,(YA j).trans h.a139⟩
structure n7 (S:St) (M I m j:Nat) (key:List UInt8) (vs:List dt):Prop where
 r4:S.ρ 4=iz M
 r5:S.ρ 5=iz I
 r6:S.ρ 6=.lref 6 0
 r7:S.ρ 7=iz m
 r8:S.ρ 8=iz j
 m6:S.μ 6=some ([.str key,aK 91 5 vs.length],false)
 m9:S.μ 9=none
 a91:S.A 91=Y2 5 (vs.map YX) vs.length
 vl:vs.length=j
def OT (L:iU Pg) (O:jM Pg) (N:jL Pg) {y:Rd} {M I m:Nat} {key:List UInt8} {sh:cX} {es:List aS} {ds:List bZ} (hy:y.1.length<=2 ^ 21) {S:St} {Q:Ex->St->Prop}
  (hB:er S y sh es ds) (w:n7 S M I m 0 key [])
  (hm:(YJ (gV true) m y).1.length<=2 ^ 21)
  (hq:∀S' j,er S' (YJ (gV true) m y).2 sh es ds->n7 S' M I m j key (YJ (gV true) m y).1->Q .norm S'):Wp (K' Pg) l436_1 S (dU 2 Q):=by
 unfold l436_1
 refine bE (fun (j:Nat) S'=>j<=m/\∃(vs:List dt) (E:Rd),E.1.length<=2 ^ 21/\
  YJ (gV true) m y=(vs++(YJ (gV true) (m-j) E).1,(YJ (gV true) (m-j) E).2)/\er S' E sh es ds/\n7 S' M I m j key vs) (fun j=>m-j) 0 ?_ ?_
 ·exact⟨Gy _,[],y,hy,rfl,hB.head rfl rfl rfl rfl rfl,aM w.r4 rfl,aM w.r5 rfl,aM w.r6 rfl,aM w.r7 rfl,aM w.r8 rfl,(tf rfl).trans w.m6,ej (.inr rfl),(YA rfl).trans w.a91,rfl⟩
 ·intro j S' ⟨hj,vs,E,T,B,hB,w⟩
  obtain⟨Y,t2,t3,m0,m2,m3,m11,a97,a139⟩:=hB
  obtain⟨t4,t5,t6,U,Z,m6,m9,a91,R⟩:=w
  obtain⟨u,b⟩:=E
  simp only[go_sem] at m0
  have J:(m<=j\/b=true)->∀(ρ':Nat->V),(∀i,i≠75->ρ' i=S'.ρ i)->Q .norm ⟨ρ',S'.μ,S'.A⟩:=fun hs ρ' q=>by
   have he:=vy B hs;rw[he] at hq;exact hq _ j ⟨(q 0 (by omega)).trans Y,(q 2 (by omega)).trans t2,(q 3 (by omega)).trans t3,m0,m2,m3,m11,a97,a139⟩ ⟨(q 4 (by omega)).trans t4,(q 5 (by omega)).trans t5,(q 6 (by omega)).trans t6,(q 7 (by omega)).trans U,(q 8 (by omega)).trans Z,m6,m9,a91,R⟩
  cases H:decide ((j:Int)<(m:Int)) with
  |false=>
   have aa:m<=j:=by have:=Ge H;omega
   simp only[go_sem,U,Z,H]
   exact J (.inl aa) _ fun i hi=>fY (by simpa using hi)
  |true=>
   cases b with
   |true=>
    simp only[go_sem,Y,U,Z,m0,H]
    exact J (.inr rfl) _ fun i hi=>fY (by simpa using hi)
   |false=>
    have ab:=Yh H
    have o:=eN ab rfl B
    have ac:j+1<=2 ^ 21:=by
     have:=fp (fun p=>p.1.length) o;simp only[Gb,List.length_singleton] at this;omega
    have P:=inc64q (i:=j) (by omega)
    have k1:=jX L (u,false) (by simp only at T ⊢;omega)
    have l1:(cu bY zS (u,false)).2.1.length<=2 ^ 21:=Gj ((cS (D:=true)).len (u,false)) T
    have hR:gV true (u,false)=(⟨(cu bY zS (u,false)).1,(cu dC false (cu bY zS (u,false)).2).1,(cu bS [] (cu dC false (cu bY zS (u,false)).2).2).1⟩,(cu bS [] (cu dC false (cu bY zS (u,false)).2).2).2):=rfl
    rw[hR] at o
    generalize cu bY zS (u,false)=p1 at *
    obtain⟨b1,W⟩:=p1
    simp only at o l1
    have k2:=sx O W (by omega)
    have l2:(cu dC false W).2.1.length<=2 ^ 21:=Gj ((cF (D:=true)).len W) l1
    generalize cu dC false W=p2 at *
    obtain⟨b2,X⟩:=p2
    simp only at o l2
    have k3:=j4 N X (by omega)
    have l3:(cu bS [] X).2.1.length<=2 ^ 21:=Gj ((cT (D:=true)).len X) l2
    generalize cu bS [] X=p3 at *
    obtain⟨b3,x3⟩:=p3
    simp only at o l3
    have r1:=fun (S:St) (hm:S.μ 0=some (aW (u,false),false))=>aF (p:=21400) k1 hm
    have r2:=fun (S:St) (hm:S.μ 0=some (aW W,false))=>aF (p:=21500) k2 hm
    have r3:=fun (S:St) (hm:S.μ 0=some (aW X,false))=>aF (p:=21600) k3 hm
    have ha:=fun S=>YZ (S:=S) (s:=91) (z:=5) (n:=vs.length) (rows:=vs.map YX) (r:=YX ⟨b1,b2,b3⟩) (by simp) (by unfold dj;omega)
    simp only[go_sem,fy] at r1 r2 r3 ha
    simp only[go_sem,Y,t6,U,Z,H,m0,m6,m9,a91,r1,r2,r3,YM,ha,P]
    refine⟨j+1,by omega,by omega,vs++[⟨b1,b2,b3⟩],x3,l3,o,er.head ⟨by simp only[go_sem,Y],by simp only[go_sem,t2],by simp only[go_sem,t3],by simp only[go_sem],by simp only[go_sem,m2],by simp only[go_sem,m3],by simp only[go_sem,m11],by simp only[go_sem,a97],by simp only[go_sem,a139]⟩ rfl rfl rfl rfl rfl,
     aM (by simp only[go_sem,t4]) rfl,aM (by simp only[go_sem,t5]) rfl,aM (by simp only[go_sem,t6]) rfl,aM (by simp only[go_sem,U]) rfl,aM (by simp only[go_sem]) rfl,(tf rfl).trans (by simp only[go_sem,Gb]<;>rfl),ej (.inr rfl),(YA rfl).trans (by simp only[go_sem,GJ,Gb]<;>rfl),by simp[R]⟩
theorem sT {α:Type} {R:Rd->α×Rd} {W:α->List UInt8} {P:α->Prop} (h:bV R W P) (j:∀a,P a->1<=(W a).length):∀{k:Nat} {x:Rd},(YJ R k x).1.length<=x.1.length+1
 |0,x=>by simp[YJ]
 |k+1,(s,true)=>by rw[oT];simp
 |k+1,(s,false)=>by
  have e:YJ R (k+1) (s,false)=((R (s,false)).1::(YJ R k (R (s,false)).2).1,(YJ R k (R (s,false)).2).2):=rfl;rw[e];simp only[List.length_cons];cases w:R (s,false) with
  |mk a y=>
   obtain⟨r,b⟩:=y;cases b with
   |true=>simp only[oT,List.length_nil];omega
   |false=>
    obtain⟨o,p⟩:=h.get w;have h1:=j a p;have q:=sT h j (k:=k) (x:=(r,false));have u:=fp List.length o;simp only[Gb] at u;simp only at q ⊢;omega
def Pe (L:iU Pg) (O:jM Pg) (q:jL Pg) (N:jK Pg) {y:Rd} {m:Nat} {sh:cX} {ds:List bZ} (hy:y.1.length<=2 ^ 20) {S:St} {Q:Ex->St->Prop}
  (hB:er S y sh [] ds) (s4:S.ρ 4=iz m) (s5:S.ρ 5=iz 0) (n6:S.μ 6=none) (n9:S.μ 9=none) (a91:S.A 91=none)
  (hq:∀S',er S' (YJ (gE true) m y).2 sh (YJ (gE true) m y).1 ds->Q .norm S'):Wp (K' Pg) l436_0 S (dU 0 Q):=by
 have aj:=sT (cE (D:=true)) zl (k:=m) (x:=y)
 unfold l436_0
 refine bE (fun (j:Nat) S'=>j<=m/\S'.ρ 4=iz m/\S'.ρ 5=iz j/\S'.μ 6=none/\S'.μ 9=none/\S'.A 91=none/\∃(vs:List aS) (E:Rd),vs.length=j/\E.1.length<=2 ^ 20/\
  YJ (gE true) m y=(vs++(YJ (gE true) (m-j) E).1,(YJ (gE true) (m-j) E).2)/\er S' E sh vs ds) (fun j=>m-j) 0 ?_ ?_
 ·exact⟨Gy _,aM s4 rfl,aM s5 rfl,ej (.inl n6),ej (.inl n9),C4 rfl,[],y,rfl,hy,rfl,hB.head rfl rfl rfl rfl rfl⟩
 ·intro j S' ⟨hj,t4,t5,m6,m9,a91,vs,E,af,U,w,hB⟩
  obtain⟨t0,t2,t3,m0,m2,m3,m11,a97,a139⟩:=hB
  obtain⟨u,b⟩:=E
  simp only[go_sem] at m0
  have J:(m<=j\/b=true)->∀(ρ':Nat->V),(∀i,i≠58->ρ' i=S'.ρ i)->Q .norm ⟨ρ',S'.μ,S'.A⟩:=fun hs ρ' B=>by
   have he:=vy w hs;rw[he] at hq;exact hq _ ⟨(B 0 (by omega)).trans t0,(B 2 (by omega)).trans t2,(B 3 (by omega)).trans t3,m0,m2,m3,m11,a97,a139⟩
  cases H:decide ((j:Int)<(m:Int)) with
  |false=>
   have ac:m<=j:=by have:=Ge H;omega
   simp only[go_sem,t4,t5,H]
   exact J (.inl ac) _ fun i hi=>fY (by simpa using hi)
  |true=>
   cases b with
   |true=>
    simp only[go_sem,t0,t4,t5,m0,H]
    exact J (.inr rfl) _ fun i hi=>fY (by simpa using hi)
   |false=>
    have ad:=Yh H
    have o:=eN ad rfl w
    have ak:vs.length+1<=2 ^ 21:=by
     have:=fp (fun p=>p.1.length) o;simp only[Gb,List.length_singleton] at this;omega
    have T:=inc64q (i:=j) (by omega)
    have k1:=j4 q (u,false) (by simp only at U ⊢;omega)
    have l1:(cu bS [] (u,false)).2.1.length<=2 ^ 20:=Gj ((cT (D:=true)).len (u,false)) U
    have hR:gE true (u,false)=(⟨(cu bS [] (u,false)).1,(YJ (gV true) (cu (tk 9) 0 (cu bS [] (u,false)).2).1 (cu (tk 9) 0 (cu bS [] (u,false)).2).2).1⟩,(YJ (gV true) (cu (tk 9) 0 (cu bS [] (u,false)).2).1 (cu (tk 9) 0 (cu bS [] (u,false)).2).2).2):=rfl
    rw[hR] at o
    generalize cu bS [] (u,false)=p1 at *
    obtain⟨b1,Y⟩:=p1
    simp only at o l1
    have k2:=et N Y (by omega)
    have l2:(cu (tk 9) 0 Y).2.1.length<=2 ^ 20:=Gj (fN.len Y) l1
    generalize cu (tk 9) 0 Y=p2 at *
    obtain⟨Z,x2⟩:=p2
    simp only at o l2
    have r1:=fun (S:St) (hm:S.μ 0=some (aW (u,false),false))=>aF (p:=21200) k1 hm
    have r2:=fun (S:St) (hm:S.μ 0=some (aW Y,false))=>aF (p:=21300) k2 hm
    have aa:=sT (cV (D:=true)) zd (k:=Z) (x:=x2)
    have lz:=Gj (vz (cV (D:=true)) (k:=Z) (x:=x2)) l2
    simp only[go_sem] at r1 r2
    simp only[go_sem,t0,t4,t5,H,m0,m6,r1,r2]
    refine OT L O q (y:=x2) (M:=m) (I:=j) (m:=Z) (key:=b1) (sh:=sh) (es:=vs) (ds:=ds) (by omega) ⟨by simp only[go_sem,t0],by simp only[go_sem,t2],by simp only[go_sem,t3],by simp only[go_sem],by simp only[go_sem,m2],by simp only[go_sem,m3],by simp only[go_sem,m11],by simp only[go_sem,a97],by simp only[go_sem,a139]⟩
     ⟨by simp only[go_sem,t4],by simp only[go_sem,t5],by simp only[go_sem],by simp only[go_sem],by simp only[go_sem],by simp only[go_sem]<;>rfl,by simp only[go_sem,m9],a91,rfl⟩ (by omega) fun S2 j2 P R=>?_
    generalize hz:YJ (gV true) Z x2=z at *
    obtain⟨z1,z2⟩:=z
    simp only at P R o aa lz
    obtain⟨u0,u2,u3,v0,v2,v3,ag,ai,X⟩:=P
    obtain⟨u4,u5,u6,u7,u8,v6,v9,ah,al⟩:=R
    have ab:=Yv ah (by simp)
    have ae:=Cz (s:=91) (z:=5) (n:=z1.length)
    have ha:=fun S=>YZ (S:=S) (s:=97) (z:=2) (n:=vs.length) (rows:=vs.map YW) (r:=YW ⟨b1,z1⟩) (by simp) (by unfold dj;omega)
    simp only[go_sem,Yb] at ha
    have W:=v3
    simp only[ii] at W
    simp only[go_sem,u3,u4,u5,u6,W,v6,ai,ab,ae,YM,ha,T]
    refine⟨j+1,by omega,by omega,rfl,vs++[⟨b1,z1⟩],z2,by simp[af],lz,o,?_⟩
    refine er.head ?_ rfl rfl rfl rfl rfl
    exact⟨by simp only[go_sem,u0],by simp only[go_sem,u2],by simp only[go_sem,u3],by simp only[go_sem,v0],by simp only[go_sem,v2],by simp only[go_sem,Gb]<;>rfl,by simp only[go_sem,ag],by simp only[go_sem,GJ,Gb]<;>rfl,by simp only[go_sem,X]⟩
def Pi {S:St} {y:Rd} {sh:cX} {es:List aS} {ds:List bZ} (r0:S.ρ 0=.lref 0 0) (r2:S.ρ 2=.lref 2 0) (r3:S.ρ 3=.lref 3 0) (m0:S.μ 0=some (aW y,false)) (m2:S.μ 2=some (kv,false))
  (m3:S.μ 3=some (ii sh (aK 97 2 es.length) (aK 139 11 ds.length),false)) (a97:S.A 97=Y2 2 (es.map YW) es.length) (a139:S.A 139=Y2 11 (ds.map YP) ds.length):er (S.head [] [] [11] []) y sh es ds:=
 ⟨aM r0 rfl,aM r2 rfl,aM r3 rfl,fe m0 rfl rfl,fe m2 rfl rfl,o8 m3 rfl rfl rfl,ej (.inr rfl),(YA rfl).trans a97,(YA rfl).trans a139⟩
def Oq (L:iU Pg) (N:jM Pg) (M:jL Pg) (w:jK Pg) {y:Rd} {m:Nat} {sh:cX} {es:List aS} (hy:y.1.length<=2 ^ 20) {S:St} {Q:Ex->St->Prop}
  (Z:er S y sh es []) (s4:S.ρ 4=iz m) (af:S.ρ 10=iz 0)
  (hq:∀S',er S' (YJ (gD true) m y).2 sh es (YJ (gD true) m y).1->Q .norm S'):Wp (K' Pg) l436_2 S (dU 4 Q):=by
 have ag:=sT (cD (D:=true)) yU (k:=m) (x:=y)
 unfold l436_2
 refine bE (fun (j:Nat) S'=>j<=m/\S'.ρ 4=iz m/\S'.ρ 10=iz j/\∃(vs:List bZ) (q:Rd),vs.length=j/\q.1.length<=2 ^ 20/\
  YJ (gD true) m y=(vs++(YJ (gD true) (m-j) q).1,(YJ (gD true) (m-j) q).2)/\er S' q sh es vs) (fun j=>m-j) 0 ?_ ?_
 ·exact⟨Gy _,aM s4 rfl,aM af rfl,[],y,rfl,hy,rfl,Z.head rfl rfl rfl rfl rfl⟩
 ·intro j S' ⟨hj,t4,H,vs,q,ac,ae,B,Z⟩
  obtain⟨U,t2,t3,m0,m2,m3,m11,a97,a139⟩:=Z
  obtain⟨u,b⟩:=q
  simp only[go_sem] at m0
  have J:(m<=j\/b=true)->∀(ρ':Nat->V),(∀i,i≠110->ρ' i=S'.ρ i)->Q .norm ⟨ρ',S'.μ,S'.A⟩:=fun hs ρ' E=>by
   have he:=vy B hs;rw[he] at hq;exact hq _ ⟨(E 0 (by omega)).trans U,(E 2 (by omega)).trans t2,(E 3 (by omega)).trans t3,m0,m2,m3,m11,a97,a139⟩
  cases I:decide ((j:Int)<(m:Int)) with
  |false=>
   have aa:m<=j:=by have:=Ge I;omega
   simp only[go_sem,t4,H,I]
   exact J (.inl aa) _ fun i hi=>fY (by simpa using hi)
  |true=>
   cases b with
   |true=>
    simp only[go_sem,U,t4,H,m0,I]
    exact J (.inr rfl) _ fun i hi=>fY (by simpa using hi)
   |false=>
    have ab:=Yh I
    have o:=eN ab rfl B
    have ah:vs.length+1<=2 ^ 21:=by
     have:=fp (fun p=>p.1.length) o;simp only[Gb,List.length_singleton] at this;omega
    have O:=inc64q (i:=j) (by omega)
    have le:∀{α:Type} {R:Rd->α×Rd} {W:α->List UInt8} {P:α->Prop},bV R W P->∀{x:Rd},x.1.length<=2 ^ 20->(R x).2.1.length<=2 ^ 20:=fun h x hx=>Gj (h.len x) hx
    generalize ad:((u,false):Rd)=q at *
    have T:q.1.length<=2 ^ 20:=ae
    have k1:=et w q (by omega)
    have hR:gD true q=(jl ((cu (tk 9) 0 q).1,(cu (tk 9) 0 (cu (tk 9) 0 q).2).1,(cu (tk 9) 0 (cu (tk 9) 0 (cu (tk 9) 0 q).2).2).1,(cu bY zS (cu (tk 9) 0 (cu (tk 9) 0 (cu (tk 9) 0 q).2).2).2).1,
      (cu dC false (cu bY zS (cu (tk 9) 0 (cu (tk 9) 0 (cu (tk 9) 0 q).2).2).2).2).1,(cu bS [] (cu dC false (cu bY zS (cu (tk 9) 0 (cu (tk 9) 0 (cu (tk 9) 0 q).2).2).2).2).2).1),
      (cu bS [] (cu dC false (cu bY zS (cu (tk 9) 0 (cu (tk 9) 0 (cu (tk 9) 0 q).2).2).2).2).2).2):=rfl
    rw[hR] at o
    have l1:=le fN T
    generalize cu (tk 9) 0 q=p1 at *
    obtain⟨b1,x1⟩:=p1
    simp only at o l1
    have k2:=et w x1 (by omega)
    have l2:=le fN l1
    generalize cu (tk 9) 0 x1=p2 at *
    obtain⟨b2,x2⟩:=p2
    simp only at o l2
    have k3:=et w x2 (by omega)
    have l3:=le fN l2
    generalize cu (tk 9) 0 x2=p3 at *
    obtain⟨b3,x3⟩:=p3
    simp only at o l3
    have k4:=jX L x3 (by omega)
    have l4:=le (cS (D:=true)) l3
    change (cu bY zS x3).2.1.length<=2 ^ 20 at l4
    generalize cu bY zS x3=p4 at *
    obtain⟨b4,X⟩:=p4
    simp only at o l4
    have k5:=sx N X (by omega)
    have l5:=le (cF (D:=true)) l4
    change (cu dC false X).2.1.length<=2 ^ 20 at l5
    generalize cu dC false X=p5 at *
    obtain⟨b5,Y⟩:=p5
    simp only at o l5
    have k6:=j4 M Y (by omega)
    have l6:=le (cT (D:=true)) l5
    change (cu bS [] Y).2.1.length<=2 ^ 20 at l6
    generalize cu bS [] Y=p6 at *
    obtain⟨b6,x6⟩:=p6
    simp only at o l6
    have r1:=fun (S:St) (hm:S.μ 0=some (aW q,false))=>aF (p:=21800) k1 hm
    have r2:=fun (S:St) (hm:S.μ 0=some (aW x1,false))=>aF (p:=21900) k2 hm
    have r3:=fun (S:St) (hm:S.μ 0=some (aW x2,false))=>aF (p:=22000) k3 hm
    have r4:=fun (S:St) (hm:S.μ 0=some (aW x3,false))=>aF (p:=22100) k4 hm
    have r5:=fun (S:St) (hm:S.μ 0=some (aW X,false))=>aF (p:=22200) k5 hm
    have r6:=fun (S:St) (hm:S.μ 0=some (aW Y,false))=>aF (p:=22300) k6 hm
    have ha:=fun S=>YZ (S:=S) (s:=139) (z:=11) (n:=vs.length) (rows:=vs.map YP) (r:=YP (jl (b1,b2,b3,b4,b5,b6))) (by simp) (by unfold dj;omega)
    have v3:=m3
    simp only[ii] at v3
    subst ad
    simp only[go_sem,fy,jl,GF] at r1 r2 r3 r4 r5 r6 ha
    simp only[go_sem,U,t3,t4,H,I,m0,m11,v3,a139,r1,r2,r3,r4,r5,r6,YM,ha,O]
    refine⟨j+1,by omega,by omega,rfl,vs++[jl (b1,b2,b3,b4,b5,b6)],x6,by simp[ac],l6,o,?_⟩
    exact Pi (by simp only[go_sem,U]) (by simp only[go_sem,t2]) (by simp only[go_sem,t3]) (by simp only[go_sem]) (by simp only[go_sem,m2]) (by simp only[go_sem,Gb]<;>rfl) (by simp only[go_sem,a97]) (by simp only[go_sem,GJ,Gb]<;>rfl)
def nC:=HpR 436 F436 0<|HpA iU<|HpA jM<|HpA jL<|jK
theorem xP (h:nC Pg) (x:Rd) (hx:x.1.length<=2 ^ 20):K' Pg 436 [.tuple (.lref 0 0::aW x)]=some (.tuple [.agg (eg (eC true x).1),.tuple (aW (eC true x).2)]):=by
 obtain⟨h,u,E,w,j⟩:=h;have le:∀{α:Type} {R:Rd->α×Rd} {W:α->List UInt8} {P:α->Prop},bV R W P->∀{x:Rd},x.1.length<=2 ^ 20->(R x).2.1.length<=2 ^ 20:=fun h x hx=>Gj (h.len x) hx;have hR:∀{a1 a2 a3 a4 a5 a6 a7:Nat} {b1 b2:List UInt8} {c1 c2:aH} {H I x3 J L M N O Q q o:Rd},cu (tk 9) 0 x=(a1,H)->cu (tk 9) 0 H=(a2,I)->cu (tk 9) 0 I=(a3,x3)->cu (tk 9) 0 x3=(a4,J)->cu (tk 9) 0 J=(a5,L)->cu (tk 9) 0 L=(a6,M)->cu (tk 9) 0 M=(a7,N)->
   cu bS [] N=(b1,O)->cu bS [] O=(b2,Q)->cu bY zS Q=(c1,q)->cu bY zS q=(c2,o)->
   eC true x=(iK (a1,a2,a3,a4,a5,a6,a7,b1,b2,c1,c2,(lstD (gE true) o).1,(lstD (gD true) (lstD (gE true) o).2).1),(lstD (gD true) (lstD (gE true) o).2).2):=by
  intro a1 a2 a3 a4 a5 a6 a7 b1 b2 c1 c2 H I x3 J L M N O Q q o e1 e2 e3 e4 e5 e6 e7 e8 e9 z B
  have d1:gN true=cu (tk 9) 0:=rfl
  have d2:gT true=cu bS []:=rfl
  have d3:gS true=cu bY zS:=rfl
  simp only[eC,eI,bA,d1,d2,d3,e1,e2,e3,e4,e5,e6,e7,e8,e9,z,B]
  rfl
 have k1:=et j x (by omega);have l1:(cu (tk 9) 0 x).2.1.length<=2 ^ 20:=le fN hx;cases e1:cu (tk 9) 0 x with
 |mk a1 H=>
 rw[e1] at k1 l1;simp only at k1 l1;have k2:=et j H (by omega);have l2:(cu (tk 9) 0 H).2.1.length<=2 ^ 20:=le fN l1;cases e2:cu (tk 9) 0 H with
 |mk a2 I=>
 rw[e2] at k2 l2;simp only at k2 l2;have k3:=et j I (by omega);have l3:(cu (tk 9) 0 I).2.1.length<=2 ^ 20:=le fN l2;cases e3:cu (tk 9) 0 I with
 |mk a3 x3=>
 rw[e3] at k3 l3;simp only at k3 l3;have k4:=et j x3 (by omega);have l4:(cu (tk 9) 0 x3).2.1.length<=2 ^ 20:=le fN l3;cases e4:cu (tk 9) 0 x3 with
 |mk a4 J=>
 rw[e4] at k4 l4;simp only at k4 l4;have k5:=et j J (by omega);have l5:(cu (tk 9) 0 J).2.1.length<=2 ^ 20:=le fN l4;cases e5:cu (tk 9) 0 J with
 |mk a5 L=>
 rw[e5] at k5 l5;simp only at k5 l5;have k6:=et j L (by omega);have l6:(cu (tk 9) 0 L).2.1.length<=2 ^ 20:=le fN l5;cases e6:cu (tk 9) 0 L with
 |mk a6 M=>
 rw[e6] at k6 l6;simp only at k6 l6;have k7:=et j M (by omega);have l7:(cu (tk 9) 0 M).2.1.length<=2 ^ 20:=le fN l6;cases e7:cu (tk 9) 0 M with
 |mk a7 N=>
 rw[e7] at k7 l7;simp only at k7 l7;have k8:=j4 w N (by omega);have l8:(cu bS [] N).2.1.length<=2 ^ 20:=le (cT (D:=true)) l7;cases e8:cu bS [] N with
 |mk b1 O=>
 rw[e8] at k8 l8;simp only at k8 l8;have k9:=j4 w O (by omega);have l9:(cu bS [] O).2.1.length<=2 ^ 20:=le (cT (D:=true)) l8;cases e9:cu bS [] O with
 |mk b2 Q=>
 rw[e9] at k9 l9;simp only at k9 l9;have U:=jX u Q (by omega);have Y:(cu bY zS Q).2.1.length<=2 ^ 20:=le (cS (D:=true)) l9;cases z:cu bY zS Q with
 |mk c1 q=>
 rw[z] at U Y;simp only at U Y;have X:=jX u q (by omega);have Z:(cu bY zS q).2.1.length<=2 ^ 20:=le (cS (D:=true)) Y;cases B:cu bY zS q with
 |mk c2 o=>
 rw[B] at X Z;simp only at X Z;rw[hR e1 e2 e3 e4 e5 e6 e7 e8 e9 z B];unfold lstD;have kL:=et j o (by omega);have lL:=le fN Z;generalize cu (tk 9) 0 o=pL at *
 obtain⟨m,y⟩:=pL;simp only at kL lL ⊢;have lE:=Gj (vz (cE (D:=true)) (k:=m) (x:=y)) lL;generalize hE:YJ (gE true) m y=pE at *
 obtain⟨es,y2⟩:=pE;simp only at lE ⊢;have kM:=et j y2 (by omega);have lM:=le fN lE;generalize cu (tk 9) 0 y2=pM at *
 obtain⟨m2,y3⟩:=pM;simp only at kM lM ⊢;generalize hD:YJ (gD true) m2 y3=pD at *
 obtain⟨ds,y4⟩:=pD;simp only;refine sX [.cell 2 (some 17)] (ws:=[.agg _]) h rfl rfl (Yw _) (Yw _) (gR _) fun S ⟨r0,r,hm,m0,a0⟩=>?_;have n2:=m0 2 rfl;have n3:=m0 3 rfl;have n6:=m0 6 rfl;have n9:=m0 9 rfl;have ah:=m0 11 rfl;have r1:=fun (S:St) (hm:S.μ 0=some (aW x,false))=>aF (p:=20000) k1 hm;have r2:=fun (S:St) (hm:S.μ 0=some (aW H,false))=>aF (p:=20100) k2 hm;have r3:=fun (S:St) (hm:S.μ 0=some (aW I,false))=>aF (p:=20200) k3 hm;have r4:=fun (S:St) (hm:S.μ 0=some (aW x3,false))=>aF (p:=20300) k4 hm;have r5:=fun (S:St) (hm:S.μ 0=some (aW J,false))=>aF (p:=20400) k5 hm;have r6:=fun (S:St) (hm:S.μ 0=some (aW L,false))=>aF (p:=20500) k6 hm;have r7:=fun (S:St) (hm:S.μ 0=some (aW M,false))=>aF (p:=20600) k7 hm;have r8:=fun (S:St) (hm:S.μ 0=some (aW N,false))=>aF (p:=20700) k8 hm;have r9:=fun (S:St) (hm:S.μ 0=some (aW O,false))=>aF (p:=20800) k9 hm;have r10:=fun (S:St) (hm:S.μ 0=some (aW Q,false))=>aF (p:=20900) U hm;have ac:=fun (S:St) (hm:S.μ 0=some (aW q,false))=>aF (p:=21000) X hm;have rA:=fun (S:St) (hm:S.μ 0=some (aW o,false))=>aF (p:=21100) kL hm;have rB:=fun (S:St) (hm:S.μ 0=some (aW y2,false))=>aF (p:=21700) kM hm;simp only[go_sem,fy] at hm r1 r2 r3 r4 r5 r6 r7 r8 r9 r10 ac rA rB;simp only[F436,c436,go_sem,r0,hm,n2,n3,r1,r2,r3,r4,r5,r6,r7,r8,r9,r10,ac,rA];refine Pe u E w j (y:=y) (m:=m) (sh:=iK (a1,a2,a3,a4,a5,a6,a7,b1,b2,c1,c2,[],[])) (ds:=[]) lL ⟨by simp only[go_sem,r0],by simp only[go_sem],by simp only[go_sem],by simp only[go_sem],by simp only[go_sem,kv],by simp only[go_sem]<;>rfl,by simp only[go_sem,ah],a0 97,a0 139⟩ (by simp only[go_sem]) (by simp only[go_sem]) (by simp only[go_sem,n6]) (by simp only[go_sem,n9]) (a0 91) fun S1 ab=>?_;rw[hE] at ab;obtain⟨t0,t2,t3,u0,u2,u3,ai,ae,ad⟩:=ab;simp only at ae u0 u3;simp only[go_sem] at u0;simp only[go_sem,t0,u0,rB];refine Oq u E w j (y:=y3) (m:=m2) (sh:=iK (a1,a2,a3,a4,a5,a6,a7,b1,b2,c1,c2,[],[])) (es:=es) lM ⟨by simp only[go_sem,t0],by simp only[go_sem,t2],by simp only[go_sem,t3],by simp only[go_sem],by simp only[go_sem,u2],by simp only[go_sem,u3],by simp only[go_sem,ai],by simp only[go_sem,ae],by simp only[go_sem,ad]⟩ (by simp only[go_sem]) (by simp only[go_sem]) fun S2 aa=>?_;rw[hD] at aa;obtain⟨q0,q2,q3,v0,v2,v3,ak,aj,T⟩:=aa;simp only at T v0 v3;have af:=Yv aj (by simp);have ag:=Yv T (by simp);simp only[ii,iK] at v3;simp only[kv] at v2;simp only[go_sem,q2,q3,v2,v3];refine⟨v0,_,rfl,?_⟩;simp only[go_sem,af,ag,iK]
structure HW (S:St) (v:Nat) (b:List UInt8) (a:Nat):Prop where
 m:S.μ v=some ([.own a 1 b.length],false)
 a:S.A a=some (1,b.map cW,.live)
def ja (b:List UInt8):List V:=[.tuple [.slice 1 (b.map cW)]]
def MN {args:List V} {b:List UInt8}:ea args 0 (ja b)=some ⟨fun i=>if i=0 then .lref 0 0 else (args[i]?).getD .undef,aE (fun _=>none) 0 (some ([.own 9000 1 b.length],false)),aE (fun _=>none) 9000 (some (1,b.map cW,.live))⟩:=by
 unfold ea ja;simp only[wO,BF,B1,wR,Option.bind_some,Gf]
theorem M5 {A:AA} {b:List UInt8} {a:Nat} (h:A a=some (1,b.map cW,.live)):gm [.own a 1 b.length] A=some (ja b,aE A a (some (1,[],.dead))):=by
 simp only[wP,wT,BE,h,BV,Gf,GS,Option.bind_some]
 rfl
structure Mn (S:St) (aR:List V) (b:List UInt8):Prop where
 r0:S.ρ 0=.lref 0 0
 r:∀i,S.ρ (i+1)=(aR[i]?).getD .undef
 h:HW S 0 b 9000
 m:∀i,(i == 0)=false->S.μ i=none
 a:∀x,x≠9000->S.A x=none
theorem tc {f:Nat} {F:F} {aR:List V} {b b':List UInt8} (q:Pg f=some (.codeR F 0)) (u:aR.length+1=F.np) (o:F.res=[])
  (h:∀S,Mn S aR b->Wp (K' Pg) F.body S fun j S'=>(j=.norm\/j=.ret)/\∃a,HW S' 0 b' a) :
  K' Pg f (.tuple (.lref 0 0::ja b)::aR)=some (.tuple [.tuple [],.tuple (ja b')]):=by
 have hm:∀i,(i == 0)=false->(aE (fun _=>none) 0 (some ([V.own 9000 1 b.length],false)):Nat->Option (List V×Bool)) i=none:=fun i hi=>fY hi
 refine fq q (by simpa using u) rfl MN ((h _ ⟨rfl,fun i=>rfl,⟨by simp[aE],by simp[aE]⟩,hm,fun x w=>by simp only[aE];rw[Gu w]⟩).mono fun j S' p=>⟨p.1,?_⟩)
 obtain⟨a,h1⟩:=p.2
 unfold nM
 rw[o]
 simp only[Jo,Option.bind_some,h1.m,M5 h1.a]
 rfl
def HW.head {S:St} {v:Nat} {b:List UInt8} {a h1:Nat} {Wv Wa:List Nat} (hT:HW S v b a) (hv:Wv.contains v=false) (hw:Wa.contains h1=false) :
  HW (S.head [] [v,0,h1] Wv Wa) v b h1/\(∀x,Wa.contains x=true->(S.head [] [v,0,h1] Wv Wa).A x=none)/\(∀x,x≠a->x≠h1->S.A x=none->(S.head [] [v,0,h1] Wv Wa).A x=none):=by
 have e1:S.swp1 v 0 h1=S.ren a h1:=by rw[oN,hT.m,oO];rfl
 have eh:S.head [] [v,0,h1] Wv Wa=(S.ren a h1).scrub [] Wv Wa:=by rw[rP,e1];rfl
 rw[eh]
 refine⟨⟨?_,?_⟩,fun x hx=>?_,fun x h2 h3 h0=>?_⟩
 ·show (if Wv.contains v then none else ((S.μ v).map _).map _)=_
  rw[hv,hT.m]
  have:cJ a h1 a=h1:=oP
  simp only[Gv,GO,Option.map_some,GB,GF,JT,this,Jv,hw]
  cases Wa.isEmpty<;>rfl
 ·show (if Wa.contains h1 then none else S.A (cJ a h1 h1))=_
  rw[hw,B0];exact hT.a
 ·show (if Wa.contains x then none else _)=_
  rw[hx];rfl
 ·show (if Wa.contains x then none else S.A (cJ a h1 x))=_
  split
  ·rfl
  ·rw[kb h2 h3];exact h0
theorem Cs (l:List UInt8):(l.map fun b=>[V.int .u8 (b.toNat:Int)])=l.map cW:=rfl
def nz:=HpR 422 F422 0 iV
def mB {f:Nat} (h:Pg f=some (.codeR F422 0)) (o:iV Pg) (b:List UInt8) (l:List Int) (M:∀n∈l,0<=n/\n<2 ^ 63) (U:b.length+9*l.length<=2 ^ 29) :
  K' Pg f [.tuple (.lref 0 0::ja b),Yi l]=some (.tuple [.tuple [],.tuple (ja (b++Yc l))]):=by
 refine tc h rfl rfl fun R ⟨r0,r,q,m0,T⟩=>?_
 have J:=r 0
 simp only[kD,Option.getD_some] at J
 simp only[go_sem] at J
 simp only[F422,c422,go_sem,J,Gf]
 unfold l422_0
 refine bE (fun (i:Nat) S=>i<=l.length/\S.ρ 0=.lref 0 0/\S.ρ 8=Yi l/\S.ρ 9=iz l.length/\S.ρ 10=iz i/\HW S 0 (b++Yc (l.take i)) 9000) (fun i=>l.length-i) 0 ?_ ?_
 ·exact⟨Gy _,aM (by simp only[go_sem,r0]) rfl,aM (by simp only[go_sem]) rfl,aM (by simp only[go_sem]) rfl,aM (by simp only[go_sem]) rfl,(HW.head (a:=9000) (h1:=9000) ⟨by simp only[go_sem,q.m]<;>simp[Yc],by simp only[q.a]<;>simp[Yc]⟩ rfl rfl).1⟩
 ·intro i S ⟨hi,N,O,L,y,p⟩
  have hm:=p.m
  have P:=p.a
  cases z:decide ((i:Int)<(l.length:Int)) with
  |false=>
   have D:i=l.length:=by have:=Ge z;omega
   rw[D,Gw] at p
   simp only[go_sem,L,y,z]
   exact⟨9000,p.m,p.a⟩
  |true=>
   have E:=Yh z
   obtain⟨n,H,-⟩:=bO E
   have u:=inc64q (i:=i) (by omega)
   obtain⟨n0,X⟩:=M n (List.mem_of_getElem? H)
   have k:K' Pg 456 [iz n]=some (.tuple [.str (aC n.toNat),iz 0]):=by
    have:=nR o n.toNat (by omega);rw[show ((n.toNat:Nat):Int)=n by omega] at this;exact this
   have I:l.take (i+1)=l.take i++[n]:=by rw[GW,H];rfl
   have B:=vg (l:=l.take i) fun m hm=>by have:=M m (pm hm);omega
   rw[GP] at B
   have W:=YG.2 (show n.toNat<2 ^ 63 by omega)
   have w:(b++Yc (l.take i)).length+(aC n.toNat).length<=dj:=by rw[Gb];unfold dj;omega
   generalize Q:b++Yc (l.take i)=g at *
   have j:b++Yc (l.take (i+1))=g++aC n.toNat:=by rw[I,zm,<-Gr,Q]
   simp only[go_sem,N,O,L,y,z,H,k,u,hm,P,w,Gf]
   refine⟨i+1,by omega,by omega,aM (by simp only[go_sem,N]) rfl,aM (by simp only[go_sem,O]) rfl,aM (by simp only[go_sem,L]) rfl,aM (by simp only[go_sem]) rfl,(HW.head (a:=9000) (h1:=9000) ⟨?_,?_⟩ rfl rfl).1⟩
   ·rw[j];simp only[go_sem,Gb]
   ·rw[j];simp only[go_sem,GJ]<;>rfl
def Dm (l:List (List UInt8)):V:=.slice 1 (l.map fun t=>[.str t])
attribute [go_sem] Dm
def Yd (l:List (List UInt8)):List UInt8:=l.flatMap Yk
def CD {l:List (List UInt8)} {n:List UInt8}:Yd (l++[n])=Yd l++Yk n:=by simp[Yd]
def li:=HpR 457 F457 0 lk
def mC {f:Nat} (h:Pg f=some (.codeR F457 0)) (p:lk Pg) (b:List UInt8) (l:List (List UInt8)) (R:∀n∈l,n.length<=2 ^ 30) (X:b.length+(Yd l).length<=2 ^ 29) :
  K' Pg f [.tuple (.lref 0 0::ja b),Dm l]=some (.tuple [.tuple [],.tuple (ja (b++Yd l))]):=by
 have T:l.length<=(Yd l).length:=YE (P:=fun _=>True) (fun a _=>YO) (fun _ _=>Gs)
 refine tc h rfl rfl fun U ⟨r0,r,u,m0,W⟩=>?_
 have M:=r 0
 simp only[kD,Option.getD_some] at M
 simp only[go_sem] at M
 simp only[F457,c457,go_sem,M,Gf]
 unfold l457_0
 refine bE (fun (i:Nat) S=>i<=l.length/\S.ρ 0=.lref 0 0/\S.ρ 6=Dm l/\S.ρ 7=iz l.length/\S.ρ 8=iz i/\HW S 0 (b++Yd (l.take i)) 9000) (fun i=>l.length-i) 0 ?_ ?_
 ·exact⟨Gy _,aM (by simp only[go_sem,r0]) rfl,aM (by simp only[go_sem]) rfl,aM (by simp only[go_sem]) rfl,aM (by simp only[go_sem]) rfl,(HW.head (a:=9000) (h1:=9000) ⟨by simp only[go_sem,u.m]<;>simp[Yd],by simp only[u.a]<;>simp[Yd]⟩ rfl rfl).1⟩
 ·intro i S ⟨hi,N,B,o,D,q⟩
  have hm:=q.m
  have O:=q.a
  cases E:decide ((i:Int)<(l.length:Int)) with
  |false=>
   have I:i=l.length:=by have:=Ge E;omega
   rw[I,Gw] at q
   simp only[go_sem,o,D,E]
   exact⟨9000,q.m,q.a⟩
  |true=>
   have J:=Yh E
   obtain⟨n,L,-⟩:=bO J
   have w:=inc64q (i:=i) (by omega)
   have n0:=R n (List.mem_of_getElem? L)
   have k:=xY p n (by omega)
   have z:l.take (i+1)=l.take i++[n]:=by rw[GW,L];rfl
   have H:(Yd (l.take (i+1))).length<=(Yd l).length:=by
    conv=>rhs;rw[<-GZ (i+1) l]
    simp only[Yd,G7,Gb];omega
   rw[z,CD,Gb] at H
   have y:(b++Yd (l.take i)).length+(Yk n).length<=dj:=by rw[Gb];unfold dj;omega
   generalize Q:b++Yd (l.take i)=g at *
   have j:b++Yd (l.take (i+1))=g++Yk n:=by rw[z,CD,<-Gr,Q]
   simp only[go_sem,N,B,o,D,E,L,k,w,hm,O,y,Gf]
   refine⟨i+1,by omega,by omega,aM (by simp only[go_sem,N]) rfl,aM (by simp only[go_sem,B]) rfl,aM (by simp only[go_sem,o]) rfl,aM (by simp only[go_sem]) rfl,(HW.head (a:=9000) (h1:=9000) ⟨?_,?_⟩ rfl rfl).1⟩
   ·rw[j];simp only[go_sem,Gb]
   ·rw[j];simp only[go_sem,GJ]<;>rfl
def oA {s:aH}:1<=(dh s).length:=by
 have:=bH s.wall.toNat;simp only[dh,Gb];omega
def Yf (l:List aH):List UInt8:=l.flatMap dh
def CZ {l:List aH} {n:aH}:Yf (l++[n])=Yf l++dh n:=by simp[Yf]
def pZ:=HpR 421 F421 0 nD
def so {f:Nat} (h:Pg f=some (.codeR F421 0)) (p:nD Pg) (b:List UInt8) (l:List aH) (R:∀n∈l,Ya n=true) (Y:b.length+(Yf l).length<=2 ^ 29) :
  K' Pg f [.tuple (.lref 0 0::ja b),Cl l]=some (.tuple [.tuple [],.tuple (ja (b++Yf l))]):=by
 have T:l.length<=(Yf l).length:=YE (P:=fun _=>True) (fun a _=>oA) (fun _ _=>Gs)
 refine tc h rfl rfl fun W ⟨r0,r,u,m0,X⟩=>?_
 have M:=r 0
 simp only[kD,Option.getD_some] at M
 simp only[go_sem] at M
 simp only[F421,c421,go_sem,M,Gf]
 unfold l421_0
 refine bE (fun (i:Nat) S=>i<=l.length/\S.ρ 0=.lref 0 0/\S.ρ 8=Cl l/\S.ρ 9=iz l.length/\S.ρ 10=iz i/\HW S 0 (b++Yf (l.take i)) 9000/\S.μ 5=none) (fun i=>l.length-i) 0 ?_ ?_
 ·exact⟨Gy _,aM (by simp only[go_sem,r0]) rfl,aM (by simp only[go_sem]) rfl,aM (by simp only[go_sem]) rfl,aM (by simp only[go_sem]) rfl,(HW.head (a:=9000) (h1:=9000) ⟨by simp only[go_sem,u.m]<;>simp[Yf],by simp only[u.a]<;>simp[Yf]⟩ rfl rfl).1,ej (.inr rfl)⟩
 ·intro i S ⟨hi,N,B,o,D,q,U⟩
  have hm:=q.m
  have O:=q.a
  cases E:decide ((i:Int)<(l.length:Int)) with
  |false=>
   have I:i=l.length:=by have:=Ge E;omega
   rw[I,Gw] at q
   simp only[go_sem,o,D,E]
   exact⟨9000,q.m,q.a⟩
  |true=>
   have J:=Yh E
   obtain⟨n,L,-⟩:=bO J
   have w:=inc64q (i:=i) (by omega)
   have n0:=R n (List.mem_of_getElem? L)
   have k:=xR p n n0
   simp only[go_sem] at k
   have z:l.take (i+1)=l.take i++[n]:=by rw[GW,L];rfl
   have H:(Yf (l.take (i+1))).length<=(Yf l).length:=by
    conv=>rhs;rw[<-GZ (i+1) l]
    simp only[Yf,G7,Gb];omega
   rw[z,CZ,Gb] at H
   have y:(b++Yf (l.take i)).length+(dh n).length<=dj:=by rw[Gb];unfold dj;omega
   generalize Q:b++Yf (l.take i)=g at *
   have j:b++Yf (l.take (i+1))=g++dh n:=by rw[z,CZ,<-Gr,Q]
   simp only[go_sem,N,B,o,D,E,L,k,w,hm,O,U,y,Gf]
   refine⟨i+1,by omega,by omega,aM (by simp only[go_sem,N]) rfl,aM (by simp only[go_sem,B]) rfl,aM (by simp only[go_sem,o]) rfl,aM (by simp only[go_sem]) rfl,(HW.head (a:=9000) (h1:=9000) ⟨?_,?_⟩ rfl rfl).1,ej (.inr rfl)⟩
   ·rw[j];simp only[go_sem,Gb]
   ·rw[j];simp only[go_sem,GJ]<;>rfl
def nE:=HpR 458 F458 0 rg
def xS (h:nE Pg) (b:List UInt8) (x:Bool) (B:b.length<=2 ^ 24) :
  K' Pg 458 [.tuple (.lref 0 0::ja b),.bool x]=some (.tuple [.tuple [],.tuple (ja (b++Yp x))]):=by
 obtain⟨h,j⟩:=h
 have k:=xZ j x
 have w:(Yp x).length=1:=by simp[Yp]
 refine tc h rfl rfl fun y ⟨r0,r,o,m0,z⟩=>?_
 have q:=r 0
 simp only[kD,Option.getD_some] at q
 have hm:=o.m
 have u:=o.a
 have p:b.length+(Yp x).length<=dj:=by unfold dj;omega
 generalize Yp x=g at *
 simp only[F458,c458,go_sem,r0,q,hm,u,k,p,Gf]
 exact⟨9000,by simp only[go_sem,Gb],by simp only[go_sem,GJ]<;>rfl⟩
def ze (h:nE Pg) (g:List UInt8) (x:Bool) (j:g.length<=2 ^ 24) :
  K' Pg 458 [.tuple [.lref 0 0,.tuple [.slice 1 (g.map cW)]],.bool x]=some (.tuple [.tuple [],.tuple [.tuple [.slice 1 ((g++Yp x).map cW)]]]):=xS h g x j
def YT {α:Type} {W:α->List UInt8} {l:List α} {i:Nat}:((l.take i).flatMap W).length<=(l.flatMap W).length:=by
 conv=>rhs;rw[<-GZ i l]
 simp only[G7,Gb];omega
def wd (e:aS):Prop:=pf e/\e.key.length<=2 ^ 20/\(∀v∈e.chain,v.val.length<=2 ^ 20)/\e.chain.length<2 ^ 60
def HW.out {S:St} {v:Nat} {b b':List UInt8} {a:Nat} (h:HW S v b a) (e:b=b'):HW S v b' a:=e▸h
def vZ (d:bZ):Prop:=(0<=d.client/\d.client<2 ^ 63)/\(0<=d.req/\d.req<2 ^ 63)/\(0<=d.ans.err/\d.ans.err<2 ^ 63)/\Ya d.ans.at_=true/\d.ans.val.length<=2 ^ 20
def yE (s:cX):Prop:=(∀n∈[s.id,s.epoch,s.phase,s.hold,s.seen,s.move,s.closed],0<=n/\n<2 ^ 63)/\s.span.lo.length<=2 ^ 20/\s.span.hi.length<=2 ^ 20/\Ya s.mark=true/\Ya s.top=true/\
 (∀e∈s.ents,wd e)/\s.ents.length<2 ^ 60/\(∀d∈s.done,vZ d)/\s.done.length<2 ^ 60
def Y3 {n:Int} (h:NV n):0<=n/\n<2 ^ 63:=by
 obtain⟨h1,j⟩:=h;omega
def lm:=HpR 526 F422 0 iV
def lp:=HpR 528 F457 0 lk
def oU (h:lm Pg) (g:List UInt8) (l:List Int) (o:∀n∈l,0<=n/\n<2 ^ 63) (j:g.length+9*l.length<=2 ^ 29) :
  K' Pg 526 [.tuple [.lref 0 0,.tuple [.slice 1 (g.map cW)]],.slice 1 (l.map fun a=>[iz a])]=some (.tuple [.tuple [],.tuple [.tuple [.slice 1 ((g++Yc l).map cW)]]]):=mB h.1 h.2 g l o j
def CY (h:lp Pg) (g:List UInt8) (l:List (List UInt8)) (o:∀n∈l,n.length<=2 ^ 30) (j:g.length+(Yd l).length<=2 ^ 29) :
  K' Pg 528 [.tuple [.lref 0 0,.tuple [.slice 1 (g.map cW)]],.slice 1 (l.map fun t=>[.str t])]=some (.tuple [.tuple [],.tuple [.tuple [.slice 1 ((g++Yd l).map cW)]]]):=mC h.1 h.2 g l o j
def Y6 (l:List Int):List UInt8:=Yc [(l.length:Int)]++Yc l
theorem sM {l:List Int}:Y6 l=YC nB l:=by simp only[Y6,Yc,YC,GH,G1,GG,Int.toNat_natCast];rfl
def nI:=HpR 527 F527 0 lm
def CN (h:nI Pg) (b:List UInt8) (l:List Int) (B:∀n∈l,NV n) (J:b.length+9*l.length+20<=2 ^ 29) :
  K' Pg 527 [.tuple [.lref 0 0,.tuple [.slice 1 (b.map cW)]],.slice 1 (l.map fun a=>[iz a])]=some (.tuple [.tuple [],.tuple [.tuple [.slice 1 ((b++Y6 l).map cW)]]]):=by
 obtain⟨h,j⟩:=h
 have h1:=vg (l:=[(l.length:Int)]) (by intro n q;have:=List.mem_singleton.1 q;subst this;omega)
 simp only[List.length_cons,List.length_nil] at h1
 have y:=oU j b [(l.length:Int)] (by intro n q;have:=List.mem_singleton.1 q;subst this;omega) (by simp only[List.length_cons,List.length_nil];omega)
 have D:=oU j (b++Yc [(l.length:Int)]) l (fun n q=>Y3 (B n q)) (by simp only[Gb];omega)
 refine tc (b:=b) (b':=b++Y6 l) (aR:=[Yi l]) h rfl rfl fun E ⟨r0,r,p,m0,w⟩=>?_
 have u:=r 0
 simp only[kD,Option.getD_some] at u
 have hm:=p.m
 have z:=p.a
 have a1:=w 20000 (by decide)
 have a2:=w 20100 (by decide)
 simp only[GB,GF] at y
 simp only[go_sem] at u
 have o:b++Y6 l=b++Yc [(l.length:Int)]++Yc l:=by simp[Y6]
 rw[o]
 generalize Yc [(l.length:Int)]=H at *
 generalize Yc l=I at *
 simp only[F527,c527,go_sem,eT,r0,u,hm,z,a1,a2,y,D,Gf]
 exact⟨20100,by simp only[go_sem,Gb],by simp only[go_sem]⟩
def Fr.up {A:AA} {n k:Nat} {v:Option (Nat×List (List V)×Fz)} (h:Fr A n) (o:k<n):Fr (aE A k v) n:=fun x j=>by
 simp only[aE];rw[Gu (by omega)];exact h x j
def va (p:aT):Prop:=vd p/\p.span.lo.length<=2 ^ 30/\p.span.hi.length<=2 ^ 30
set_option maxHeartbeats 1000000
def sP {n:Nat} (h:n<2 ^ 63):∀m∈[(n:Int)],0<=m/\m<2 ^ 63:=by
 intro m hm;have:=List.mem_singleton.1 hm;subst this;omega
def vh (h:il Pg) (x:Rb):K' Pg 530 [.tuple (.lref 0 0::eR x)]=some (.tuple [iz ((uI false).v x),.tuple (eR ((uI false).n x))]):=sH h x
def DM (a b:V) (n:Int) (c d:V) (m:aH) (j:Jb) (o:V):List V:=[a,b,iz n,c,d,iz m.wall,iz m.tick,iz m.node,iz j.kind,iz j.step,iz j.id,iz j.shard,iz j.other,iz j.cell,iz j.to,iz j.epoch,.str j.key,Mv j.parts,iz j.of_,iz j.client,iz j.req,.str j.span.lo,.str j.span.hi,Yi j.wait,iz j.at_.wall,iz j.at_.tick,iz j.at_.node,Yi j.mem,o]
structure TD (S:St) (y:Rb) (ps:List aT) (is:List rE) (n:Int) (ls:List sE) (ss:List aH) (m:aH) (j:Jb) (os:List sF):Prop where
 r2:S.ρ 2=.lref 2 0
 r4:S.ρ 4=.lref 9 0
 r5:S.ρ 5=.lref 5 0
 m9:S.μ 9=some (eR y,false)
 m2:S.μ 2=some (CH,false)
 m5:S.μ 5=some (DM (aK 33 5 ps.length) (aK 50 3 is.length) n (aK 70 5 ls.length) (aK 82 3 ss.length) m j (aK 109 7 os.length),false)
 a33:S.A 33=Y2 5 (ps.map gu) ps.length
 a50:S.A 50=Y2 3 (is.map CA) is.length
 a70:S.A 70=Y2 5 (ls.map Ck) ls.length
 a82:S.A 82=Y2 3 (ss.map Yg) ss.length
 a109:S.A 109=Y2 7 (os.map CC) os.length
theorem YD {S:St} {v:Nat} {Wv:List Nat} {cs:List V} {b:Bool} (hm:S.μ v=some (cs,b)) (j:Wv.contains v=false):(S.head [] [] Wv []).μ v=some (cs,b):=by
 show (if Wv.contains v then none else (S.μ v).map _)=_
 rw[j,hm];rfl
def TD.head {S:St} {y:Rb} {ps:List aT} {is:List rE} {n:Int} {ls:List sE} {ss:List aH} {m:aH} {j:Jb} {os:List sF} (h:TD S y ps is n ls ss m j os):TD (S.head [] [] [6] []) y ps is n ls ss m j os:=
 ⟨aM h.r2 rfl,aM h.r4 rfl,aM h.r5 rfl,YD h.m9 rfl,YD h.m2 rfl,YD h.m5 rfl,(YA rfl).trans h.a33,(YA rfl).trans h.a50,(YA rfl).trans h.a70,(YA rfl).trans h.a82,(YA rfl).trans h.a109⟩
set_option maxHeartbeats 1000000
def Rg.good {α:Type} {R:Rg α} {W:α->List UInt8} {P:α->Prop} (h:bV R.f W P) {t:List UInt8} (ht:t.length<=2 ^ 29) (h1:(R.n ⟨t,false,ht⟩).no=false) (j:(R.n ⟨t,false,ht⟩).s=[]):t=W (R.v ⟨t,false,ht⟩)/\P (R.v ⟨t,false,ht⟩):=by
 have o:(R.f (t,false)).2.2=false:=h1;have p:(R.f (t,false)).2.1=[]:=j;have:=h.get (s:=t) (r:=[]) (a:=(R.f (t,false)).1) (Prod.ext rfl (Prod.ext p o));rw[GG] at this;exact this
def oj {n:Nat} (h:n<128):(aC n).length<=1:=(o9 0 n).2 (by simpa using h)
def Pn {n:Nat} (h:n<2 ^ 21):(aC n).length<=3:=(o9 2 n).2 (by simpa using h)
def Pm {n:Nat} (h:n<2 ^ 14):(aC n).length<=2:=(o9 1 n).2 (by simpa using h)
def kJ {n:Nat} (h:n<2 ^ 42):(aC n).length<=6:=(o9 5 n).2 (by simpa using h)
theorem ob {α:Type} {W:α->List UInt8} {k:Nat}:∀{l:List α},(∀a∈l,(W a).length<=k)->(l.flatMap W).length<=k*l.length
 |[],_=>by simp
 |a::l,h=>by
  have h1:=h a (ni ..);have o:=ob (l:=l) fun b j=>h b (nh _ j);simp only[GH,Gb,List.length_cons,Nat.mul_succ];omega
def mJ {s:aH} (h:Ya s=true):(dh s).length<=11:=by
 simp only[Ya,mL,Gg,Gn] at h;have h1:=kJ (n:=s.wall.toNat) (by omega);have j:=Pn (n:=s.tick.toNat) (by omega);have o:=Pm (n:=s.node.toNat) (by omega);simp only[dh,Gb];omega
def sW {t:List UInt8} (h:t.length<=16):(Yk t).length<=17:=by
 have:=oj (n:=t.length) (by omega);simp only[Yk,Gb];omega
def sZ {x:Bool}:(Yp x).length=1:=by simp[Yp]
def NZ {v:dt} (h:Yy v=true):(gQ v).length<=29:=by
 simp only[Yy,Gg,Gn] at h;have h1:=mJ h.1.1;have j:=sW h.1.2;have o:=sZ (x:=v.gone);simp only[gQ,Gb];omega
def Ox {e:aS} (h:fF e=true):(fJ e).length<=1874:=by
 simp only[fF,Yj,Gg,Gn] at h;obtain⟨h1,p,j,q⟩:=h;have u:=sW (YI h1).1;have w:=oj (n:=e.chain.length) (by omega);have k3:=ob (W:=gQ) (l:=e.chain) (k:=29) fun v o=>NZ (td j v o);simp only[fJ,YC,Gb];omega
def Ds {d:bZ} (h:dT d=true):(0<=d.client/\d.client<=1099511627776)/\(0<=d.req/\d.req<=1099511627776)/\(0<=d.ans.err/\d.ans.err<128)/\Ya d.ans.at_=true/\d.ans.val.length<=16:=by
 simp only[dT,YN,kI,Gg,Gn,GI] at h;obtain⟨⟨h1,y⟩,⟨z,B⟩,o,p,c3,j,q,u,w⟩:=h;exact⟨⟨by omega,by omega⟩,⟨by omega,by omega⟩,⟨by omega,by omega⟩,c3,j⟩
def MX {d:bZ} (h:dT d=true):(Y5 d).length<=42:=by
 obtain⟨h1,p,q,j,o⟩:=Ds h;have u:=kJ (n:=d.client.toNat) (by omega);have w:=kJ (n:=d.req.toNat) (by omega);have k3:=oj (n:=d.ans.err.toNat) (by omega);have y:=mJ j;have z:=sW o;have B:=sZ (x:=d.ans.found);simp only[Y5,Gb];omega
def ta {n:Int} (h:ff n=true):0<=n/\n<=1099511627776:=by simpa [ff] using h
def CW {s:cX} (z:dm s=true):yE s/\(fo s).length<=121000:=by
 simp only[dm,bM,YN,Yx,gb,YK,Gg,kZ,Gn,Gx] at z;obtain⟨⟨⟨a1,a2⟩,⟨R,S⟩,p,q,u,w,T,U,⟨i1,i2⟩,⟨j1,B⟩,D,E,H,l2⟩,-⟩:=z;have p:=ta p;have q:=ta q;have u:=ta u;have w:=ta w;have lo:s.span.lo.length<=16:=by
  rcases i1 with i1|i1
  ·rw[i1];simp
  ·exact (YI i1).1
 have hi:s.span.hi.length<=16:=by
  rcases i2 with i2|i2
  ·rw[i2];simp
  ·exact (YI i2.1).1
 have q1:=kJ (n:=s.id.toNat) (by omega);have q2:=kJ (n:=s.epoch.toNat) (by omega);have q3:=oj (n:=s.phase.toNat) (by omega);have q4:=kJ (n:=s.hold.toNat) (by omega);have q5:=kJ (n:=s.seen.toNat) (by omega);have q6:=kJ (n:=s.move.toNat) (by omega);have q7:=kJ (n:=s.closed.toNat) (by omega);have q8:=sW lo;have q9:=sW hi;have L:=mJ D;have M:=mJ E;have N:=oj (n:=s.ents.length) (by omega);have O:=oj (n:=s.done.length) (by omega);have P:=ob (W:=fJ) (l:=s.ents) (k:=1874) fun e o=>Ox (sN B e o);have Q:=ob (W:=Y5) (l:=s.done) (k:=42) fun d j=>MX (s8 H d j);refine⟨⟨?_,by omega,by omega,D,E,fun e o=>?_,by omega,fun d j=>?_,by omega⟩,?_⟩
 ·intro n y;simp only[GN,List.not_mem_nil,or_false] at y;rcases y with rfl|rfl|rfl|rfl|rfl|rfl|rfl<;>omega
 ·have h0:=sN B e o;have h1:=h0;simp only[fF,Yj,Gg,Gn] at h1;refine⟨Dd h0,by have:=(YI h1.1).1;omega,fun v J=>?_,by omega⟩;have:=td h1.2.2.1 v J;simp only[Yy,Gg,Gn] at this;omega
 ·obtain⟨h1,X,Y,I,Z⟩:=Ds (s8 H d j);exact⟨by omega,by omega,by omega,I,by omega⟩
 ·simp only[fo,YC,Gb];omega
theorem Dj {top:aH}:∀{l:List cX} {p:Int},ic top p l=true->∀s∈l,dm s=true
 |[],_,_,s,hs=>by cases hs
 |x::l,p,h,s,hs=>by
  simp only[ic,Gg] at h;rcases GN.1 hs with rfl|hs
  ·exact h.2.1
  ·exact Dj h.2.2.2 s hs
def Di {c:fM} (h:fd c=true):c.shards.length<=8/\Ya c.top=true/\(0<=c.dropped/\c.dropped<=1099511627776)/\∀s∈c.shards,dm s=true:=by
 simp only[fd,Gg,Gn] at h;exact⟨h.1,h.2.1,ta h.2.2.1,Dj h.2.2.2⟩
def MD {c:fM} (h:fd c=true):(cB c).length<=968030:=by
 obtain⟨h1,j,q,o⟩:=Di h;have u:=mJ j;have w:=kJ (n:=c.dropped.toNat) (by omega);have k3:=oj (n:=c.shards.length) (by omega);have y:=ob (W:=fo) (l:=c.shards) (k:=121000) fun s p=>(CW (o s p)).2;simp only[cB,YC,Gb];omega
def sy (h:gI Pg) (n:Int) (h0:0<=n) (h1:n<2 ^ 63):K' Pg 487 [iz n]=some (.tuple [.str (aC n.toNat),iz 0]):=by
 have:=lH h n.toNat (by omega);rw[show ((n.toNat:Nat):Int)=n by omega] at this;exact this
def fI:=HpC 460 F460 gI
def mD {f:Nat} (h:Pg f=some (.code F460)) (j:gI Pg) (n:Int) (h0:0<=n) (h1:n<2 ^ 63):K' Pg f [iz n]=some (.str (aC n.toNat)):=by
 have k:=sy j n h0 h1;refine aA h rfl ?_;simp only[F460,c460,go_sem,k]
def ef (h:fI Pg) (n:Int) (h0:0<=n) (h1:n<2 ^ 63):K' Pg 460 [iz n]=some (.str (aC n.toNat)):=mD h.1 h.2 n h0 h1
def ll:=HpC 503 F503 gI
def yi (h:ll Pg) (t:List UInt8) (ht:t.length<2 ^ 61):K' Pg 503 [.str t]=some (.str (Yk t)):=by
 obtain⟨h,j⟩:=h;have k:=lH j t.length (by omega);have o:(aC t.length).length+t.length<=4611686018427387904:=by have:=YG.2 (show t.length<2 ^ 63 by omega);omega
 refine aA h rfl ?_;simp only[F503,c503,go_sem,k,o,Yk]
def fW:=HpC 488 F488 ll
def mE {f:Nat} (h:Pg f=some (.code F488)) (j:ll Pg) (t:List UInt8) (ht:t.length<2 ^ 61):K' Pg f [.str t]=some (.str (Yk t)):=by
 have k:=yi j t ht;refine aA h rfl ?_;simp only[F488,c488,go_sem,k]
def i3 (h:fW Pg) (t:List UInt8) (ht:t.length<2 ^ 61):K' Pg 488 [.str t]=some (.str (Yk t)):=mE h.1 h.2 t ht
def rm:=HpZ 504 F504
def yj (h:rm Pg) (b:Bool):K' Pg 504 [.bool b]=some (.str (Yp b)):=by
 refine aA h rfl ?_;cases b<;>simp only[F504,c504,go_sem,Yp]<;>rfl
def iX:=HpC 489 F489 rm
def j5 (h:iX Pg) (b:Bool):K' Pg 489 [.bool b]=some (.str (Yp b)):=by
 obtain⟨h,j⟩:=h;have k:=yj j b;refine aA h rfl ?_;simp only[F489,c489,go_sem,k]
def gG:=HpC 459 F459 nG
def sw {f:Nat} (h:Pg f=some (.code F459)) (j:nG Pg) (s:aH) (o:Ya s=true):K' Pg f [.agg (Yg s)]=some (.str (dh s)):=by
 have k:=yd j s o;simp only[go_sem] at k;refine aA h rfl ?_;simp only[F459,c459,go_sem,k]
def iY (h:gG Pg) (s:aH) (j:Ya s=true):K' Pg 459 [.agg (Yg s)]=some (.str (dh s)):=sw h.1 h.2 s j
def jP:=HpC 533 F460 gI
def lv:=HpC 535 F488 ll
def i6 (h:jP Pg) (n:Int) (j:NV n):K' Pg 533 [iz n]=some (.str (nB n)):=mD h.1 h.2 n (Y3 j).1 (Y3 j).2
def j6 (h:jP Pg) (n:Nat) (j:n<2 ^ 63):K' Pg 533 [iz n]=some (.str (aC n)):=i6 h n ⟨by omega,by omega⟩
def nT (h:lv Pg) (t:List UInt8) (ht:t.length<=2 ^ 30):K' Pg 535 [.str t]=some (.str (Yk t)):=mE h.1 h.2 t (by omega)
def Y7 {α:Type} {W:α->List UInt8} {l:List α} {i:Nat} {x:α} (h:l[i]?=some x):(l.take (i+1)).flatMap W=(l.take i).flatMap W++W x:=by
 rw[GW,h];simp
def nK:=HpC 534 F534 jP
def sC (h:nK Pg) (l:List Int) (H:∀n∈l,NV n) (O:l.length<=2 ^ 40):K' Pg 534 [.slice 1 (l.map fun a=>[iz a])]=some (.str (YC nB l)):=by
 obtain⟨h,j⟩:=h;have k:=j6 j l.length (by omega);have u:∀i,(aC l.length++(l.take i).flatMap nB).length<=2 ^ 50:=fun i=>by
  have h1:=YG.2 (show l.length<2 ^ 63 by omega);have L:=ob (W:=nB) (l:=l.take i) (k:=9) fun n N=>YG.2 (H n (pm N)).1;simp only[Gb,GP] at L ⊢;omega
 refine aA h rfl ?_;simp only[F534,c534,go_sem,k,Gf];unfold l534_0;refine bE (fun (i:Nat) S=>i<=l.length/\S.ρ 0=.slice 1 (l.map fun a=>[iz a])/\S.ρ 3=.str (aC l.length++(l.take i).flatMap nB)/\S.ρ 4=iz i) (fun i=>l.length-i) 0 ?_ ?_
 ·simp[go_sem,JD]
 ·intro i S ⟨hi,I,D,J⟩;cases w:decide ((i:Int)<(l.length:Int)) with
  |false=>
   have y:i=l.length:=by have:=Ge w;omega
   rw[y,Gw] at D;simp only[go_sem,I,D,J,w,Gf,YC]
  |true=>
   have z:=Yh w;obtain⟨e,B,-⟩:=bO z;have p:=inc64q (i:=i) (by omega)
   have q:=i6 j e (H e (List.mem_of_getElem? B));have o:=u (i+1);have E:aC l.length++(l.take (i+1)).flatMap nB=aC l.length++(l.take i).flatMap nB++nB e:=by rw[Y7 B,Gr]
   rw[E,Gb] at o;have M:(aC l.length).length+((l.take i).flatMap nB).length+(nB e).length<=4611686018427387904:=by simp only[Gb] at o;omega
   simp only[go_sem,I,D,J,w,B,q,p,M,eS,Gf];refine⟨i+1,by omega,by omega,?_⟩
   and_intros
   all_goals first|rfl|rw[E]
set_option maxHeartbeats 1000000
def yX {α:Type} {W:α->List UInt8} {l:List α} {j:Nat}:((l.take j).flatMap W).length<=(l.flatMap W).length:=by
 conv=>rhs;rw[<-GZ j l]
 simp only[G7,Gb];omega
def yW {α:Type} {W:α->List UInt8} {l:List α} {j:Nat} {x:α} (h:l[j]?=some x):(l.take (j+1)).flatMap W=(l.take j).flatMap W++W x:=by
 rw[GW,h];simp
def OU (o:gG Pg) (q:iX Pg) (p:fW Pg) {sh:cX} {key g:List UInt8} {chain:List dt} {I:Nat} (Z:∀v∈chain,Ya v.at_=true/\v.val.length<=2 ^ 20) (hn:chain.length<=2 ^ 20) (hg:g.length+(chain.flatMap gQ).length<=2 ^ 40)
  {S:St} {Q:Ex->St->Prop} (s1:S.ρ 1=.lref 1 0) (s3:S.ρ 3=.str g) (s4:S.ρ 4=iz I) (s5:S.ρ 5=.lref 5 0) (s6:S.ρ 6=iz 0) (n1:S.μ 1=some (eg sh,false)) (n5:S.μ 5=some ([.str key,Yb chain],false)) (n8:S.μ 8=none)
  (hq:∀S',S'.ρ 1=.lref 1 0->S'.ρ 3=.str (g++chain.flatMap gQ)->S'.ρ 4=iz I->S'.μ 1=some (eg sh,false)->S'.μ 8=none->Q .norm S'):Wp (K' Pg) l461_1 S (dU 2 Q):=by
 unfold l461_1
 refine bE (fun (j:Nat) S'=>j<=chain.length/\S'.ρ 1=.lref 1 0/\S'.ρ 3=.str (g++(chain.take j).flatMap gQ)/\S'.ρ 4=iz I/\S'.ρ 5=.lref 5 0/\S'.ρ 6=iz j/\S'.μ 1=some (eg sh,false)/\S'.μ 5=some ([.str key,Yb chain],false)/\S'.μ 8=none) (fun j=>chain.length-j) 0 ?_ ?_
 ·simp only[eS]
  exact⟨Gy _,s1,by rw[s3];simp,s4,s5,s6,n1,n5,n8⟩
 ·intro j S' ⟨hj,N,H,O,P,R,M,m5,m8⟩
  simp only[Yb] at m5
  cases z:decide ((j:Int)<(chain.length:Int)) with
  |false=>
   have B:j=chain.length:=by have:=Ge z;omega
   subst B
   rw[Gw] at H
   simp only[go_sem,P,R,m5,z,Gf]
   exact hq _ (by simp only[go_sem,N]) (by simp only[go_sem,H]) (by simp only[go_sem,O]) M m8
  |true=>
   have D:=Yh z
   obtain⟨v,E,-⟩:=bO D
   obtain⟨v1,v2⟩:=Z v (List.mem_of_getElem? E)
   have u:=inc64q (i:=j) (by omega)
   have L:=iY o v.at_ v1
   have k2:=j5 q v.gone
   have k3:=i3 p v.val (by omega)
   have y:=yW (W:=gQ) E
   have w:=yX (W:=gQ) (l:=chain) (j:=j+1)
   rw[y,Gb] at w
   simp only[gQ,Gb] at w
   generalize J:g++(chain.take j).flatMap gQ=G at *
   have Y:G.length=g.length+((chain.take j).flatMap gQ).length:=by rw[<-J,Gb]
   have T:G.length+(dh v.at_).length<=4611686018427387904:=by omega
   have U:G.length+(dh v.at_).length+(Yp v.gone).length<=4611686018427387904:=by omega
   have X:G.length+(dh v.at_).length+(Yp v.gone).length+(Yk v.val).length<=4611686018427387904:=by omega
   simp only[go_sem] at L
   simp only[go_sem,N,H,O,P,R,m5,z,E,L,k2,k3,u,T,U,X,Gf,Gb,eS]
   refine⟨j+1,by omega,by omega,by rw[y,<-Gr,J];simp[gQ],rfl,M,rfl,m8⟩
def Pf (q:gG Pg) (w:iX Pg) (p:fW Pg) (u:fI Pg) {sh:cX} {g:List UInt8} (hc:∀e∈sh.ents,e.key.length<=2 ^ 20/\e.chain.length<=2 ^ 20/\∀v∈e.chain,Ya v.at_=true/\v.val.length<=2 ^ 20) (hn:sh.ents.length<=2 ^ 20) (hg:g.length+(sh.ents.flatMap fJ).length<=2 ^ 40)
  {S:St} {Q:Ex->St->Prop} (s1:S.ρ 1=.lref 1 0) (s3:S.ρ 3=.str g) (s4:S.ρ 4=iz 0) (n1:S.μ 1=some (eg sh,false)) (n5:S.μ 5=none) (n8:S.μ 8=none)
  (hq:∀S',S'.ρ 1=.lref 1 0->S'.ρ 3=.str (g++sh.ents.flatMap fJ)->S'.μ 1=some (eg sh,false)->S'.μ 8=none->Q .norm S'):Wp (K' Pg) l461_0 S (dU 0 Q):=by
 unfold l461_0
 refine bE (fun (j:Nat) S'=>j<=sh.ents.length/\S'.ρ 1=.lref 1 0/\S'.ρ 3=.str (g++(sh.ents.take j).flatMap fJ)/\S'.ρ 4=iz j/\S'.μ 1=some (eg sh,false)/\S'.μ 5=none/\S'.μ 8=none) (fun j=>sh.ents.length-j) 0 ?_ ?_
 ·exact⟨Gy _,aM s1 rfl,aM (by rw[s3];simp) rfl,aM s4 rfl,(tf rfl).trans n1,ej (.inr rfl),ej (.inl n8)⟩
 ·intro j S' ⟨hj,H,O,P,X,m5,m8⟩
  have o:=X
  simp only[go_sem] at o
  cases E:decide ((j:Int)<(sh.ents.length:Int)) with
  |false=>
   have L:j=sh.ents.length:=by have:=Ge E;omega
   rw[L,Gw] at O
   simp only[go_sem,H,P,o,E,Gf]
   exact hq _ (by simp only[go_sem,H]) (by simp only[go_sem,O]) X m8
  |true=>
   have M:=Yh E
   obtain⟨e,J,-⟩:=bO M
   obtain⟨v1,v2,v3⟩:=hc e (List.mem_of_getElem? J)
   have z:=inc64q (i:=j) (by omega)
   have k1:=i3 p e.key (by omega)
   have U:=ef u e.chain.length (by omega) (by omega)
   have N:((e.chain.length:Int)).toNat=e.chain.length:=by omega
   rw[N] at U
   have D:=yW (W:=fJ) J
   have B:=yX (W:=fJ) (l:=sh.ents) (j:=j+1)
   rw[D,Gb] at B
   simp only[fJ,YC,Gb] at B
   generalize T:g++(sh.ents.take j).flatMap fJ=G at *
   have aa:G.length=g.length+((sh.ents.take j).flatMap fJ).length:=by rw[<-T,Gb]
   have Y:G.length+(Yk e.key).length<=4611686018427387904:=by omega
   have Z:G.length+(Yk e.key).length+(aC e.chain.length).length<=4611686018427387904:=by omega
   simp only[go_sem,Yb,H,O,P,o,m5,E,J,k1,U,Y,Z,Gf,Gb]
   refine OU q w p (sh:=sh) (key:=e.key) (g:=G++Yk e.key++aC e.chain.length) (chain:=e.chain) (I:=j) v3 v2 (by simp only[Gb];omega) (by simp only[go_sem,H]) (by simp only[go_sem]) (by simp only[go_sem,P]) (by simp only[go_sem]) (by simp only[go_sem]) (by simp only[go_sem,o]) (by simp only[go_sem,Yb]) (by simp only[go_sem,m8]) fun S2 u1 u3 u4 w1 w8=>?_
   have R:=w1
   have y:g++(sh.ents.take (j+1)).flatMap fJ=G++Yk e.key++aC e.chain.length++e.chain.flatMap gQ:=by rw[D,<-Gr,T];simp[fJ,YC]
   simp only[go_sem,u4,z,u1,u3,R,w8,Option.map_some,Option.map_none]
   exact⟨j+1,by omega,by omega,by rw[y],rfl⟩
def Ot (q:gG Pg) (w:iX Pg) (u:fW Pg) (o:fI Pg) {sh:cX} {g:List UInt8} (hc:∀d∈sh.done,dT d=true) (hn:sh.done.length<=2 ^ 20) (hg:g.length+(sh.done.flatMap Y5).length<=2 ^ 40)
  {S:St} {Q:Ex->St->Prop} (s1:S.ρ 1=.lref 1 0) (s3:S.ρ 3=.str g) (s7:S.ρ 7=iz 0) (n1:S.μ 1=some (eg sh,false)) (n8:S.μ 8=none)
  (hq:∀S',S'.ρ 3=.str (g++sh.done.flatMap Y5)->Q .norm S'):Wp (K' Pg) l461_2 S (dU 4 Q):=by
 unfold l461_2
 refine bE (fun (j:Nat) S'=>j<=sh.done.length/\S'.ρ 1=.lref 1 0/\S'.ρ 3=.str (g++(sh.done.take j).flatMap Y5)/\S'.ρ 7=iz j/\S'.μ 1=some (eg sh,false)/\S'.μ 8=none) (fun j=>sh.done.length-j) 0 ?_ ?_
 ·exact⟨Gy _,aM s1 rfl,aM (by rw[s3];simp) rfl,aM s7 rfl,(tf rfl).trans n1,ej (.inr rfl)⟩
 ·intro j S' ⟨hj,P,L,R,m1,m8⟩
  have p:=m1
  simp only[go_sem] at p
  cases E:decide ((j:Int)<(sh.done.length:Int)) with
  |false=>
   have I:j=sh.done.length:=by have:=Ge E;omega
   rw[I,Gw] at L
   simp only[go_sem,P,R,p,E,Gf]
   exact hq _ (by simp only[go_sem,L])
  |true=>
   have J:=Yh E
   obtain⟨d,H,-⟩:=bO J
   have N:=hc d (List.mem_of_getElem? H)
   simp only[dT,YN,kI,Gg,Gn,GI] at N
   obtain⟨⟨a1,a2⟩,⟨a3,a4⟩,a5,a6,a7,a8,-⟩:=N
   have z:=inc64q (i:=j) (by omega)
   have k1:=ef o d.client (by omega) (by omega)
   have k2:=ef o d.req (by omega) (by omega)
   have k3:=ef o d.ans.err a5 (by omega)
   have O:=iY q d.ans.at_ a7
   have k5:=j5 w d.ans.found
   have k6:=i3 u d.ans.val (by omega)
   have D:=yW (W:=Y5) H
   have B:=yX (W:=Y5) (l:=sh.done) (j:=j+1)
   rw[D,Gb] at B
   simp only[Y5,Gb] at B
   generalize M:g++(sh.done.take j).flatMap Y5=G at *
   have aa:G.length=g.length+((sh.done.take j).flatMap Y5).length:=by rw[<-M,Gb]
   have T:G.length+(aC d.client.toNat).length<=4611686018427387904:=by omega
   have U:G.length+(aC d.client.toNat).length+(aC d.req.toNat).length<=4611686018427387904:=by omega
   have X:G.length+(aC d.client.toNat).length+(aC d.req.toNat).length+(aC d.ans.err.toNat).length<=4611686018427387904:=by omega
   have Y:G.length+(aC d.client.toNat).length+(aC d.req.toNat).length+(aC d.ans.err.toNat).length+(dh d.ans.at_).length<=4611686018427387904:=by omega
   have Z:G.length+(aC d.client.toNat).length+(aC d.req.toNat).length+(aC d.ans.err.toNat).length+(dh d.ans.at_).length+(Yp d.ans.found).length<=4611686018427387904:=by omega
   have b6:G.length+(aC d.client.toNat).length+(aC d.req.toNat).length+(aC d.ans.err.toNat).length+(dh d.ans.at_).length+(Yp d.ans.found).length+(Yk d.ans.val).length<=4611686018427387904:=by omega
   have y:g++(sh.done.take (j+1)).flatMap Y5=G++aC d.client.toNat++aC d.req.toNat++aC d.ans.err.toNat++dh d.ans.at_++Yp d.ans.found++Yk d.ans.val:=by rw[D,<-Gr,M];simp[Y5]
   simp only[go_sem] at O
   simp only[go_sem,P,L,R,p,m8,E,H,k1,k2,k3,O,k5,k6,T,U,X,Y,Z,b6,z,Gf,Gb,Option.map_some]
   exact⟨j+1,by omega,by omega,by rw[y],rfl⟩
def qW:=HpC 461 F461<|HpA gG<|HpA iX<|HpA fW<|fI
theorem xT (h:qW Pg) (s:cX) (M:dm s=true) (T:(fo s).length<=2 ^ 40):K' Pg 461 [.agg (eg s)]=some (.str (fo s)):=by
 obtain⟨h,o,q,p,j⟩:=h;have P:=C5 M;simp only[dm,bM,YN,ff,Yx,gb,YK,Gg,kZ,Gn,Gx] at M;obtain⟨⟨⟨a1,a2⟩,⟨b1,b2⟩,⟨c1,c2⟩,⟨d1,d2⟩,⟨e1,e2⟩,⟨f1,f2⟩,g1,g2,⟨i1,i2⟩,⟨j1,X⟩,Y,Z,l1,l2⟩,-⟩:=M;have lo:s.span.lo.length<=16:=by
  rcases i1 with i1|i1
  ·rw[i1];simp
  ·exact (YI i1).1
 have hi:s.span.hi.length<=16:=by
  rcases i2 with i2|i2
  ·rw[i2];simp
  ·exact (YI i2.1).1
 have u:∀e∈s.ents,e.key.length<=2 ^ 20/\e.chain.length<=2 ^ 20/\∀v∈e.chain,Ya v.at_=true/\v.val.length<=2 ^ 20:=fun e W=>by
  have:=sN X e W;simp only[fF,Yj,Gg,Gn] at this;obtain⟨h1,h2,S,h4⟩:=this;refine⟨by have:=(YI h1).1;omega,by omega,fun v P=>?_⟩;have:=td S v P;simp only[Yy,Gg,Gn] at this;exact⟨this.1.1,by omega⟩
 have q1:=ef j s.id (by omega) (by omega);have q2:=ef j s.epoch (by omega) (by omega);have q3:=ef j s.phase (by omega) (by omega);have q4:=ef j s.hold (by omega) (by omega);have q5:=ef j s.seen (by omega) (by omega);have q6:=ef j s.move (by omega) (by omega);have q7:=ef j s.closed (by omega) (by omega);have q8:=i3 p s.span.lo (by omega);have q9:=i3 p s.span.hi (by omega);have B:=iY o s.mark Y;have D:=iY o s.top Z;have E:=ef j s.ents.length (by omega) (by omega);have H:=ef j s.done.length (by omega) (by omega);rw[show ((s.ents.length:Int)).toNat=s.ents.length by omega] at E;rw[show ((s.done.length:Int)).toNat=s.done.length by omega] at H;simp only[go_sem] at B D;have I:=T;simp only[fo,YC,Gb] at I;have w1:(aC s.id.toNat).length+(aC s.epoch.toNat).length<=4611686018427387904:=by omega
 have w2:(aC s.id.toNat).length+(aC s.epoch.toNat).length+(aC s.phase.toNat).length<=4611686018427387904:=by omega
 have w3:(aC s.id.toNat).length+(aC s.epoch.toNat).length+(aC s.phase.toNat).length+(aC s.hold.toNat).length<=4611686018427387904:=by omega
 have w4:(aC s.id.toNat).length+(aC s.epoch.toNat).length+(aC s.phase.toNat).length+(aC s.hold.toNat).length+(aC s.seen.toNat).length<=4611686018427387904:=by omega
 have w5:(aC s.id.toNat).length+(aC s.epoch.toNat).length+(aC s.phase.toNat).length+(aC s.hold.toNat).length+(aC s.seen.toNat).length+(aC s.move.toNat).length<=4611686018427387904:=by omega
 have w6:(aC s.id.toNat).length+(aC s.epoch.toNat).length+(aC s.phase.toNat).length+(aC s.hold.toNat).length+(aC s.seen.toNat).length+(aC s.move.toNat).length+(aC s.closed.toNat).length<=4611686018427387904:=by omega
 have w7:(aC s.id.toNat).length+(aC s.epoch.toNat).length+(aC s.phase.toNat).length+(aC s.hold.toNat).length+(aC s.seen.toNat).length+(aC s.move.toNat).length+(aC s.closed.toNat).length+(Yk s.span.lo).length<=4611686018427387904:=by omega
 have w8:(aC s.id.toNat).length+(aC s.epoch.toNat).length+(aC s.phase.toNat).length+(aC s.hold.toNat).length+(aC s.seen.toNat).length+(aC s.move.toNat).length+(aC s.closed.toNat).length+(Yk s.span.lo).length+(Yk s.span.hi).length<=4611686018427387904:=by omega
 have w9:(aC s.id.toNat).length+(aC s.epoch.toNat).length+(aC s.phase.toNat).length+(aC s.hold.toNat).length+(aC s.seen.toNat).length+(aC s.move.toNat).length+(aC s.closed.toNat).length+(Yk s.span.lo).length+(Yk s.span.hi).length+(dh s.mark).length<=4611686018427387904:=by omega
 have N:(aC s.id.toNat).length+(aC s.epoch.toNat).length+(aC s.phase.toNat).length+(aC s.hold.toNat).length+(aC s.seen.toNat).length+(aC s.move.toNat).length+(aC s.closed.toNat).length+(Yk s.span.lo).length+(Yk s.span.hi).length+(dh s.mark).length+(dh s.top).length<=4611686018427387904:=by omega
 have O:(aC s.id.toNat).length+(aC s.epoch.toNat).length+(aC s.phase.toNat).length+(aC s.hold.toNat).length+(aC s.seen.toNat).length+(aC s.move.toNat).length+(aC s.closed.toNat).length+(Yk s.span.lo).length+(Yk s.span.hi).length+(dh s.mark).length+(dh s.top).length+(aC s.ents.length).length<=4611686018427387904:=by omega
 refine aA h rfl ?_;simp only[F461,c461,go_sem,q1,q2,q3,q4,q5,q6,q7,q8,q9,B,D,E,w1,w2,w3,w4,w5,w6,w7,w8,w9,N,O,Gf,Gb];refine Pf o q p j (sh:=s) (g:=aC s.id.toNat++aC s.epoch.toNat++aC s.phase.toNat++aC s.hold.toNat++aC s.seen.toNat++aC s.move.toNat++aC s.closed.toNat++Yk s.span.lo++Yk s.span.hi++dh s.mark++dh s.top++aC s.ents.length) u (by omega) (by simp only[Gb];omega) (by simp only[go_sem]) (by simp only[go_sem]) (by simp only[go_sem]) (by simp only[go_sem]<;>rfl) (by simp only[go_sem]) (by simp only[go_sem]) fun S1 Q R v1 v8=>?_;have w:=v1;simp only[go_sem] at w;generalize J:aC s.id.toNat++aC s.epoch.toNat++aC s.phase.toNat++aC s.hold.toNat++aC s.seen.toNat++aC s.move.toNat++aC s.closed.toNat++Yk s.span.lo++Yk s.span.hi++dh s.mark++dh s.top++aC s.ents.length++s.ents.flatMap fJ=g at R;have L:g.length+(aC s.done.length).length<=4611686018427387904:=by rw[<-J];simp only[Gb];omega
 have z:(g++aC s.done.length).length+(s.done.flatMap Y5).length<=2 ^ 40:=by rw[<-J];simp only[Gb];omega
 simp only[go_sem,Q,R,w,H,L,Gf];refine Ot o q p j (sh:=s) (g:=g++aC s.done.length) (fun d U=>s8 l1 d U) (by omega) z (by simp only[go_sem,Q]) (by simp only[go_sem]) (by simp only[go_sem]) (by simp only[go_sem,w]) (by simp only[go_sem,v8]) fun S2 z3=>?_;have y:g++aC s.done.length++s.done.flatMap Y5=fo s:=by rw[<-J];simp[fo,YC]
 simp only[go_sem,z3,y]
def p0:=HpC 424 F424<|HpA gG<|HpA fI<|qW
theorem xK (h:p0 Pg) (c:fM) (L:fd c=true):K' Pg 424 [.agg (mN c)]=some (.str (cB c)):=by
 obtain⟨h,u,o,w⟩:=h;obtain⟨r1,r2,r3,r4⟩:=Di L;have Z:=MD L;simp only[cB,YC,Gb] at Z;have O:=iY u c.top r2;have q2:=ef o c.dropped (by omega) (by omega);have P:=ef o c.shards.length (by omega) (by omega);rw[show ((c.shards.length:Int)).toNat=c.shards.length by omega] at P;simp only[go_sem] at O;have w1:(dh c.top).length+(aC c.dropped.toNat).length<=4611686018427387904:=by omega
 have w2:(dh c.top).length+(aC c.dropped.toNat).length+(aC c.shards.length).length<=4611686018427387904:=by omega
 refine aA h rfl ?_;simp only[F424,c424,go_sem,O,q2,P,w1,w2,Gf,Gb];have X:cB c=dh c.top++aC c.dropped.toNat++aC c.shards.length++c.shards.flatMap fo:=by simp[cB,YC]
 have Y:(dh c.top++aC c.dropped.toNat++aC c.shards.length).length+(c.shards.flatMap fo).length<=968030:=by simp only[Gb];omega
 rw[X];generalize dh c.top++aC c.dropped.toNat++aC c.shards.length=g at *
 unfold l424_0;refine bE (fun (j:Nat) S'=>j<=c.shards.length/\S'.ρ 1=.lref 1 0/\S'.ρ 3=.str (g++(c.shards.take j).flatMap fo)/\S'.ρ 4=iz j/\S'.μ 1=some (mN c,false)) (fun j=>c.shards.length-j) 0 ?_ ?_
 ·simp[go_sem]
 ·intro j S' ⟨hj,Q,J,R,m1⟩;have q:=m1;simp only[go_sem] at q;cases D:decide ((j:Int)<(c.shards.length:Int)) with
  |false=>
   have H:j=c.shards.length:=by have:=Ge D;omega
   rw[H,Gw] at J;simp only[go_sem,Q,J,R,q,D,Gf]
  |true=>
   have I:=Yh D;obtain⟨e,E,-⟩:=bO I;have M:=r4 e (List.mem_of_getElem? E);have y:=inc64q (i:=j) (by omega)
   have N:=xT w e M (by have:=(CW M).2;omega);simp only[go_sem] at N;have B:c.shards.take (j+1)=c.shards.take j++[e]:=by rw[GW,E];rfl
   have z:=YT (W:=fo) (l:=c.shards) (i:=j+1);have p:g++(c.shards.take (j+1)).flatMap fo=g++(c.shards.take j).flatMap fo++fo e:=by rw[B];simp
   rw[B,G7,Gb] at z;simp only[GH,G1,GG] at z;generalize T:g++(c.shards.take j).flatMap fo=G at *
   have U:G.length=g.length+((c.shards.take j).flatMap fo).length:=by rw[<-T,Gb]
   have S:G.length+(fo e).length<=4611686018427387904:=by omega
   simp only[go_sem,Q,J,R,q,D,E,N,S,y,Gf,eS];exact⟨j+1,by omega,by omega,by rw[p],rfl⟩
structure iS (S:St) (y:Rd) (t:aH) (d:Int) (vs:List cX):Prop where
 r2:S.ρ 2=.lref 2 0
 r4:S.ρ 4=.lref 10 0
 r5:S.ρ 5=.lref 5 0
 ig:S.μ 10=some (aW y,false)
 m2:S.μ 2=some ([.slice 17 [],.int .i64 0,.int .i64 0,.int .i64 0,.int .i64 0],false)
 m5:S.μ 5=some (pg t d (aK 36 17 vs.length),false)
 kQ:S.A 36=Y2 17 (vs.map eg) vs.length
def iS.head {S:St} {y:Rd} {t:aH} {d:Int} {vs:List cX} (h:iS S y t d vs):iS (S.head [] [] [] []) y t d vs:=by rw[eS];exact h
def Pr {tt:List UInt8} (I:nC Pg) {y:Rd} {m:Nat} {t:aH} {d:Int} (hy:y.1.length<=2 ^ 20) {S:St} {Q:Ex->St->Prop} (hS:iS S y t d []) (s6:S.ρ 6=iz m) (s7:S.ρ 7=iz 0) (s0:S.ρ 0=.str tt)
  (Z:∀S',iS S' (YJ (eC true) m y).2 t d (YJ (eC true) m y).1->S'.ρ 0=.str tt->Q .norm S'):Wp (K' Pg) l411_0 S (dU 0 Q):=by
 have Y:=sT (vO (D:=true)) zx (k:=m) (x:=y)
 unfold l411_0
 refine bE (fun (j:Nat) S'=>j<=m/\S'.ρ 0=.str tt/\S'.ρ 6=iz m/\S'.ρ 7=iz j/\∃(vs:List cX) (B:Rd),vs.length=j/\B.1.length<=2 ^ 20/\
  YJ (eC true) m y=(vs++(YJ (eC true) (m-j) B).1,(YJ (eC true) (m-j) B).2)/\iS S' B t d vs) (fun j=>m-j) 0 ?_ ?_
 ·simp only[eS]
  exact⟨Gy _,s0,s6,s7,[],y,rfl,hy,rfl,hS⟩
 ·intro j S' ⟨hj,t0,T,U,vs,B,P,L,w,hE⟩
  obtain⟨t2,M,R,ig,m2,m5,kQ⟩:=hE
  obtain⟨u,b⟩:=B
  simp only[go_sem] at ig
  have H:(m<=j\/b=true)->∀(ρ':Nat->V),(∀i,i≠28->ρ' i=S'.ρ i)->Q .norm ⟨ρ',S'.μ,S'.A⟩:=fun hs ρ' q=>by
   have he:=vy w hs;rw[he] at Z;exact Z _ ⟨(q 2 (by omega)).trans t2,(q 4 (by omega)).trans M,(q 5 (by omega)).trans R,ig,m2,m5,kQ⟩ ((q 0 (by omega)).trans t0)
  cases E:decide ((j:Int)<(m:Int)) with
  |false=>
   have N:m<=j:=by have:=Ge E;omega
   simp only[go_sem,T,U,E]
   exact H (.inl N) _ fun i hi=>fY (by simpa using hi)
  |true=>
   cases b with
   |true=>
    simp only[go_sem,M,T,U,ig,E]
    exact H (.inr rfl) _ fun i hi=>fY (by simpa using hi)
   |false=>
    have O:=Yh E
    have o:=eN O rfl w
    have aa:vs.length+1<=2 ^ 21:=by
     have:=fp (fun p=>p.1.length) o;simp only[Gb,List.length_singleton] at this;omega
    have J:=inc64q (i:=j) (by omega)
    have k1:=xP I (u,false) L
    have l1:=Gj ((vO (D:=true)).len (u,false)) L
    generalize eC true (u,false)=p1 at *
    obtain⟨W,x1⟩:=p1
    simp only at o l1
    have r1:=fun (S:St) (hm:S.μ 10=some (aW (u,false),false))=>aF (p:=20300) k1 hm
    have X:=fun S=>YZ (S:=S) (s:=36) (z:=17) (r:=eg W) (n:=vs.length) (rows:=vs.map eg) (by simp) (by unfold dj;omega)
    have v5:=m5
    simp only[pg] at v5
    simp only[go_sem] at r1 X
    simp only[go_sem,M,R,T,U,E,ig,v5,kQ,r1,YM,X,J,eS]
    exact⟨j+1,by omega,by omega,t0,rfl,vs++[W],x1,by simp[P],l1,o,by simp only[go_sem,t2],by simp only[go_sem,M],by simp only[go_sem,R],by simp only[go_sem],by simp only[go_sem,m2],by simp only[go_sem,Gb]<;>rfl,by simp only[go_sem,GJ,Gb]<;>rfl⟩
def iw (o:Option fM):V:=match o with
 |some c=>.tuple [.agg (mN c),.bool true]
 |none=>.tuple [.agg [.slice 17 [],iz 0,iz 0,iz 0,iz 0],.bool false]
def ny:=HpC 411 F411<|HpA iU<|HpA jK<|HpA nC<|HpA pG<|p0
theorem sn (h:ny Pg) (t:List UInt8) (ht:t.length<=2 ^ 20) (E:(gC true (t,false)).2.2=false->oS (gC true (t,false)).1):K' Pg 411 [.str t]=some (iw (fS t)):=by
 obtain⟨h,J,q,L,H,I⟩:=h;have hR:∀{a:aH} {n m:Nat} {w z x3:Rd},cu bY zS (t,false)=(a,w)->cu (tk 9) 0 w=(n,z)->cu (tk 9) 0 z=(m,x3)->
   gC true (t,false)=(fH (a,n,(YJ (eC true) m x3).1),(YJ (eC true) m x3).2):=by
  intro a n m w z x3 O P Q
  have d1:gN true=cu (tk 9) 0:=rfl
  have d3:gS true=cu bY zS:=rfl
  have d4:gL true (eC true)=lstD (eC true):=rfl
  simp only[gC,eI,bA,d1,d3,d4,O,P,Q,lstD]
 have U:=jX J (t,false) (by simp only;omega);have X:=(cS (D:=true)).len (t,false);change (cu bY zS (t,false)).2.1.length<=t.length at X;cases O:cu bY zS (t,false) with
 |mk a w=>
 rw[O] at U X;simp only at U X;have W:=et q w (by omega);have l2:=fN.len w;cases P:cu (tk 9) 0 w with
 |mk n z=>
 rw[P] at W l2;simp only at W l2;have k3:=et q z (by omega);have l3:=fN.len z;cases Q:cu (tk 9) 0 z with
 |mk m y=>
 rw[Q] at k3 l3;simp only at k3 l3;have hg:=hR O P Q;have Z:=ml (t:=t);rw[<-Z];rw[hg] at E ⊢;clear Z;generalize hD:YJ (eC true) m y=pD at *
 obtain⟨sh,u,b⟩:=pD;simp only at hg E ⊢;refine aA h rfl ?_;have r1:=fun (S:St) (hm:S.μ 10=some (aW (t,false),false))=>aF (p:=20000) U hm;have r2:=fun (S:St) (hm:S.μ 10=some (aW w,false))=>aF (p:=20100) W hm;have r3:=fun (S:St) (hm:S.μ 10=some (aW z,false))=>aF (p:=20200) k3 hm;simp only[go_sem,fy] at r1 r2 r3;simp only[F411,c411,go_sem,r1,r2,r3];refine Pr (tt:=t) L (y:=y) (m:=m) (t:=a) (d:=n) (by omega) ⟨by simp only[go_sem],by simp only[go_sem],by simp only[go_sem],by simp only[go_sem],by simp only[go_sem],by simp only[go_sem]<;>rfl,rfl⟩ (by simp only[go_sem]) (by simp only[go_sem]) (by simp only[go_sem]) fun S1 M t0=>?_;rw[hD] at M;obtain⟨R,T,Y,ig,m2,m5,kQ⟩:=M;simp only at ig kQ m5;have B:=Yv kQ (by simp);simp only[pg] at m5;simp only[go_sem] at ig;cases b with
 |true=>
  rw[Gu (by simp)];simp only[go_sem,R,T,ig,m2,iw]
 |false=>
  have j:=xp H (fH (a,n,sh)) (E rfl);cases c3:fd (fH (a,n,sh)) with
  |false=>
   rw[c3] at j;rw[Gu (by simp)];simp only[go_sem,fH] at j;simp only[go_sem,R,T,Y,ig,m2,m5,B,j,iw]
  |true=>
   rw[c3] at j;have o:=xK I (fH (a,n,sh)) c3;simp only[go_sem,fH] at j o;cases N:decide (cB ⟨sh,a,(n:Int)⟩=t) with
   |false=>
    rw[Gu (by simpa [fH] using Ge N)];simp only[go_sem,t0,R,T,Y,ig,m2,m5,B,j,o,N,iw]
   |true=>
    rw[GE ⟨rfl,rfl,by simpa [fH] using Gk N⟩];simp only[go_sem,t0,R,T,Y,ig,m2,m5,B,j,o,N,iw,fH]
def xI (h:ny Pg) (t:List UInt8) (ht:t.length<=10000):K' Pg 411 [.str t]=some (iw (fS t)):=sn h t (by omega) fun j=>by
 cases o:gC true (t,false) with
 |mk c y=>
 obtain⟨u,b⟩:=y;rw[o] at j;simp only at j;subst j;obtain⟨p,q⟩:=(cC (D:=true)).get o;have:=fp List.length p;rw[Gb] at this;exact Dc (c:=c) q (by omega)
def p9:=HpC 425 F425 ny
def sr (h:p9 Pg) (t:List UInt8) (ht:t.length<=10000):K' Pg 425 [.str t]=some (iw (fS t)):=by
 obtain⟨h,j⟩:=h;have k:=xI j t ht;refine aA h rfl ?_;cases e:fS t with
 |none=>
  rw[e] at k;simp only[iw] at k ⊢;simp only[F425,c425,go_sem,k]
 |some c=>
  rw[e] at k;simp only[iw] at k ⊢;simp only[go_sem] at k;simp only[F425,c425,go_sem,k]
structure bQ where
 kind:Int
 from_:Int
 to:Int
 shard:Int
 epoch:Int
 move:Int
 lease:Int
 n:Int
 of_:Int
 at_:aH
 text:List UInt8
 req:Rq
 ans:kT
 places:List aT
 mem:List Int
@[go_sem] def YS (m:bQ):List V:=[iz m.kind,iz m.from_,iz m.to,iz m.shard,iz m.epoch,iz m.move,iz m.lease,iz m.n,iz m.of_,iz m.at_.wall,iz m.at_.tick,iz m.at_.node,.str m.text,iz m.req.client,iz m.req.req,iz m.req.kind,.str m.req.key,.str m.req.value,.bool m.req.had,.str m.req.old,iz m.req.at_.wall,iz m.req.at_.tick,iz m.req.at_.node,.str m.req.hi,iz m.req.limit,iz m.ans.err,iz m.ans.at_.wall,iz m.ans.at_.tick,iz m.ans.at_.node,.bool m.ans.found,.str m.ans.val,YU m.ans.items,.str m.ans.next,.bool m.ans.more,YF m.places,Yi m.mem]
@[go_sem] def kd (l:List bQ):V:=.slice 36 (l.map YS)
def lJ (m:bQ):Prop:=m.ans.items.length<=10000/\m.places.length<=10000/\m.mem.length<=10000
def pV:=HpC 372 F372<|HpA pq<|pr
theorem xE (h:pV Pg) (m:bQ) (hm:lJ m):K' Pg 372 [.agg (YS m),.agg (YS m)]=some (.bool true):=by
 obtain⟨h,j,o⟩:=h;have p:=xf j m.ans (by have:=hm.1;omega);have q:=xg o m.places (by have:=hm.2.1;omega);have z:m.mem.length<2 ^ 60:=by have:=hm.2.2;omega
 simp only[je,YU,YF] at p q;clear hm j o;refine aA h rfl ?_;simp only[go_sem];unfold l372_0;refine bE (fun (i:Nat) S=>i<=m.mem.length/\S.ρ 2=.lref 2 0/\S.μ 2=some (YS m,false)/\S.ρ 3=.lref 3 0/\S.μ 3=some (YS m,false)/\S.ρ 5=iz i) (fun i=>m.mem.length-i) 0 ?_ ?_
 ·simp[go_sem]
 ·intro i S ⟨hi,u,m2,w,m3,y⟩;simp only[go_sem,u,m2,y];refine bL (fun h=>?_) (fun h=>?_)
  ·have h:=Yh h;obtain⟨x,B,D⟩:=bO h;simp only[go_sem,u,m2,w,m3,y,B];exact⟨i+1,by omega,by omega,by rw[Ym h z]⟩
  ·simp only[go_sem,u,m2,w,m3,p,q,beq_self_eq_true]
def pR:=HpC 360 F360 pV
def xA (h:pR Pg) (l:List bQ) (z:l.length<=10000) (hm:∀m∈l,lJ m):K' Pg 360 [kd l,kd l]=some (.bool true):=by
 obtain⟨h,o⟩:=h;have j:∀m∈l,K' Pg 372 [.agg (YS m),.agg (YS m)]=some (.bool true):=fun m h=>xE o m (hm m h);simp only[YS,YU,YF,Yi] at j;refine aA h rfl ?_;simp only[go_sem];unfold l360_0;refine bE (fun (i:Nat) S=>i<=l.length/\S.ρ 0=kd l/\S.ρ 1=kd l/\S.ρ 5=iz i) (fun i=>l.length-i) 0 ?_ ?_
 ·simp[go_sem]
 ·intro i S ⟨hi,q,w,u⟩;simp only[go_sem,q,u];refine bL (fun h=>?_) (fun h=>?_)
  ·have h:=Yh h;obtain⟨x,p,y⟩:=bO h;have k:=j x (List.mem_of_getElem? p);simp only[go_sem,q,w,u,p,k];exact⟨i+1,by omega,by omega,by rw[Ym h (by omega)]⟩
  ·simp only[go_sem]
def fO (m:bQ):Bool:=(!decide (m.kind<1)&&(!decide (37<m.kind)&&(!decide (m.ans.err<0)&&(!decide (16<m.ans.err)&&(!decide (8<(m.ans.items.length:Int))&&(!decide (8<(m.places.length:Int))&&!decide (8<(m.mem.length:Int))))))))&&(([m.kind,m.from_,m.to,m.shard,m.epoch,m.move,m.lease,m.n,m.of_,m.req.client,m.req.req,m.req.kind,m.req.limit]++(m.places.flatMap fun p=>[p.shard,p.cell,p.epoch])++m.mem).all Yz&&(Ya m.at_&&(Ya m.req.at_&&Ya m.ans.at_)))
def oh (m:bQ):List Int:=[m.kind,m.from_,m.to,m.shard,m.epoch,m.move,m.lease,m.n,m.of_,m.req.client,m.req.req,m.req.kind,m.req.limit]
def jz (l:List aT):List Int:=l.flatMap fun p=>[p.shard,p.cell,p.epoch]
def kf (m:bQ):List Int:=oh m++jz m.places++m.mem
def OD {l:List aT} {i:Nat} {x:aT} (h:l[i]?=some x):jz (l.take (i+1))=jz (l.take i)++[x.shard,x.cell,x.epoch]:=by
 rw[YH h];simp[jz]
def yQ (l:List aT):(jz l).length=3*l.length:=by
 induction l with
 |nil=>rfl
 |cons x l j=>
  have:jz (x::l)=[x.shard,x.cell,x.epoch]++jz l:=by simp[jz]
  rw[this,Gb,j];simp;omega
def pS:=HpZ 366 F366
theorem xB (h:pS Pg) (m:bQ) (E:m.places.length<=4194304) (hm:m.mem.length<=4194304):K' Pg 366 [.agg (YS m)]=some (Yi (kf m)):=by
 refine aA h rfl ?_;simp only[go_sem];unfold l366_0;refine bE (fun (i:Nat) S=>i<=m.places.length/\S.ρ 1=.lref 1 0/\S.μ 1=some (YS m,false)/\S.ρ 3=.own 36 1 (13+3*i)/\S.A 36=some (1,(oh m++jz (m.places.take i)).map (fun a=>[iz a]),.live)/\S.μ 5=none/\S.ρ 38=YF m.places/\S.ρ 39=iz m.places.length/\S.ρ 40=iz i) (fun i=>m.places.length-i) 0 ?_ ?_
 ·simp[go_sem,oh,jz]
 ·intro i S ⟨hi,B,z,D,kQ,m5,w,p,q⟩;simp only[go_sem,p,q];refine bL (fun j=>?_) (fun j=>?_)
  ·have j:=Yh j;obtain⟨x,y,-⟩:=bO j;have u:(oh m).length+(jz (m.places.take i)).length=13+3*i:=by
    rw[yQ,GP];have:(oh m).length=13:=rfl;omega
   have o:13+3*i+3<=dj:=by simp only[dj];omega
   simp only[go_sem,B,z,D,kQ,m5,w,p,q,y,u,o,Gf];exact⟨i+1,by omega,by omega,by congr 1,by rw[OD y];simp,by rw[Ym j (by omega)]⟩
  ·have j:=Yr hi j;subst j;rw[Gw] at kQ;have u:(oh m).length+(jz m.places).length=13+3*m.places.length:=by rw[yQ];rfl
   have o:13+3*m.places.length+m.mem.length<=dj:=by simp only[dj];omega
   simp only[go_sem,B,z,D,kQ,u,o,Gf,kf,GJ]
def pT:=HpZ 367 F367
def xC (h:pT Pg) (n:Int):K' Pg 367 [iz n]=some (.bool (decide (n<0)||decide (1099511627776<n))):=by
 refine aA h rfl ?_;cases c:decide (n<0)<;>simp only[go_sem,c]
def jJ:=HpC 341 F341<|HpA lg<|HpA uw<|HpA pS<|pT
theorem mA (h:jJ Pg) (m:bQ) (hm:m.places.length<=4194304/\m.mem.length<=4194304):K' Pg 341 [.agg (YS m)]=some (.bool (fO m)):=by
 obtain⟨h,y,L,B,D⟩:=h;obtain⟨P,M⟩:=hm;have j:=xB B m P M;have o:=yA L (kf m) 367 [] (fun n=>decide (n<0)||decide (1099511627776<n)) (by
  unfold kf;rw[Gb,Gb,yQ];have:(oh m).length=13:=rfl;omega) rfl (fun x _=>xC D x)
 have e:(kf m).any (fun n=>decide (n<0)||decide (1099511627776<n))=!(kf m).all Yz:=by
  have:=C2 (m:=0) (l:=kf m);have S:(fun n=>Yz n)=ma 0:=rfl
  show _=!(kf m).all (ma 0)
  rw[<-this,Bool.not_not]
 rw[e] at o;have p:=kE y m.at_;have u:=kE y m.req.at_;have E:=kE y m.ans.at_;have Q:fO m=((!decide (m.kind<1)&&(!decide (37<m.kind)&&(!decide (m.ans.err<0)&&(!decide (16<m.ans.err)&&(!decide (8<(m.ans.items.length:Int))&&(!decide (8<(m.places.length:Int))&&!decide (8<(m.mem.length:Int))))))))&&((kf m).all Yz&&(Ya m.at_&&(Ya m.req.at_&&Ya m.ans.at_)))):=rfl;rw[Q];generalize (kf m).all Yz=R at o ⊢;generalize kf m=T at j o;simp only[Yi,Yg,YS,YU,YF] at j o p u E;clear P M e Q y L B D;refine aA h rfl ?_;clear h;cases q:decide (m.kind<1) with
 |true=>simp only[go_sem,q]
 |false=>
 cases w:decide (37<m.kind) with
 |true=>simp only[go_sem,q,w]
 |false=>
 cases c3:decide (m.ans.err<0) with
 |true=>simp only[go_sem,q,w,c3]
 |false=>
 cases z:decide (16<m.ans.err) with
 |true=>simp only[go_sem,q,w,c3,z]
 |false=>
 cases H:decide (8<(m.ans.items.length:Int)) with
 |true=>simp only[go_sem,q,w,c3,z,H]
 |false=>
 cases I:decide (8<(m.places.length:Int)) with
 |true=>simp only[go_sem,q,w,c3,z,H,I]
 |false=>
 cases J:decide (8<(m.mem.length:Int)) with
 |true=>simp only[go_sem,q,w,c3,z,H,I,J]
 |false=>
 cases R with
 |false=>simp only[go_sem,q,w,c3,z,H,I,J,j,o]
 |true=>
 cases N:Ya m.at_ with
 |false=>simp only[go_sem,q,w,c3,z,H,I,J,j,o,p,N]
 |true=>
 cases O:Ya m.req.at_ with
 |false=>simp only[go_sem,q,w,c3,z,H,I,J,j,o,p,u,N,O]
 |true=>simp only[go_sem,q,w,c3,z,H,I,J,j,o,p,u,E,N,O]
def se (h:jJ Pg) (m:bQ) (hm:lJ m):K' Pg 341 [.agg (YS m)]=some (.bool (fO m)):=mA h m ⟨by have:=hm.2.1;omega,by have:=hm.2.2;omega⟩
def mj (m:bQ):Bool:=decide ((m.ans.items.length:Int)<=40)&&(decide ((m.places.length:Int)<=40)&&(decide ((m.mem.length:Int)<=40)&&decide ((m.text.length:Int)<=8192)))
def pQ:=HpZ 339 F339
def xz (h:pQ Pg) (m:bQ):K' Pg 339 [.agg (YS m)]=some (.bool (mj m)):=by
 refine aA h rfl ?_;cases j:decide ((m.ans.items.length:Int)<=40) with
 |false=>simp only[go_sem,mj,j]
 |true=>
 cases o:decide ((m.places.length:Int)<=40) with
 |false=>simp only[go_sem,mj,j,o]
 |true=>
 cases c3:decide ((m.mem.length:Int)<=40) with
 |false=>simp only[go_sem,mj,j,o,c3]
 |true=>
 cases p:decide ((m.text.length:Int)<=8192)<;>simp only[go_sem,mj,j,o,c3,p]
def ON {m:bQ} (h:mj m=true):lJ m/\m.text.length<=1048576:=by
 simp only[mj,Gg,Gn] at h;exact⟨⟨by omega,by omega,by omega⟩,by omega⟩
structure dB where
 cell:Int
 rep:dL
 outs:List bQ
structure ek where
 id:Int
 owns:List dB
@[go_sem] def ed (o:dB):List V:=[iz o.cell,iz o.rep.id,iz o.rep.view,Yi o.rep.members,iz o.rep.n,.str o.rep.base,.str o.rep.text,Yi o.rep.acks,kd o.outs]
@[go_sem] def mO (l:List dB):V:=.slice 9 (l.map ed)
@[go_sem] def YV (s:ek):List V:=[iz s.id,mO s.owns]
def sg {f:Nat} (h:Pg f=some (.code F398)) (s:ek) (N:s.owns.length<=1048576):K' Pg f [.agg (YV s)]=some (.agg (YV s)):=by
 refine aA h rfl ?_;simp only[F398,c398,go_sem,Gf];unfold l398_0;refine bE (fun (i:Nat) S=>i<=s.owns.length/\S.ρ 2=.lref 2 0/\S.ρ 3=.lref 3 0/\S.ρ 10=.slice 9 (s.owns.map ed)/\S.ρ 11=iz s.owns.length/\S.ρ 12=iz i/\S.μ 2=some ([iz 0,.slice 9 []],false)/\S.μ 3=some ([iz s.id,aK 26 9 i],false)/\S.μ 5=none/\S.A 26=Y2 9 ((s.owns.take i).map ed) i) (fun i=>s.owns.length-i) 0 ?_ ?_
 ·refine⟨Gy _,aM (by simp only[go_sem]) rfl,aM (by simp only[go_sem]) rfl,aM (by simp only[go_sem]) rfl,aM (by simp only[go_sem]) rfl,aM (by simp only[go_sem]) rfl,fe (by simp only[go_sem]) rfl rfl,?_,ej (.inr rfl),(YA rfl).trans rfl⟩;rw[tf rfl];simp only[go_sem];rfl
 ·intro i S ⟨hi,J,L,E,u,w,m2,m3,m5,j⟩;cases y:decide ((i:Int)<(s.owns.length:Int)) with
  |false=>
   have p:i=s.owns.length:=by have:=Ge y;omega
   rw[p,Gw] at j;rw[p] at m3;have M:=Yv j (by simp);simp only[go_sem,J,L,u,w,m2,m3,y,M]
  |true=>
   have B:=Yh y;obtain⟨o,I,-⟩:=bO B;have q:=inc64q (i:=i) (by omega)
   have H:=fun S=>YZ (S:=S) (s:=26) (z:=9) (r:=ed o) (n:=i) (rows:=(s.owns.take i).map ed) (by simp;omega) (by unfold dj;omega);have D:s.owns.take (i+1)=s.owns.take i++[o]:=YH I;simp only[go_sem] at H;simp only[go_sem,J,L,E,u,w,m2,m3,m5,j,y,I,YM,H,q];exact⟨i+1,by omega,by omega,rfl,rfl,by rw[D,GJ];rfl⟩
def iB (r:dL):Prop:=r.members.length<=10000/\r.acks.length<=10000
def iB.ok {r:dL} (h:iB r):r.Ok:=⟨by have:=h.1;omega,by have:=h.2;omega⟩
def OX (o:dB):Prop:=iB o.rep/\o.outs.length<=10000/\∀m∈o.outs,lJ m
def lQ (s:ek):Prop:=s.owns.length<=10000/\∀o∈s.owns,OX o
def pW:=HpC 399 F399<|HpA As<|pR
def xF (h:pW Pg) (s:ek) (L:lQ s):K' Pg 399 [.agg (YV s),.agg (YV s)]=some (.bool true):=by
 obtain⟨h,B,q⟩:=h;obtain⟨Q,J⟩:=L;refine aA h rfl ?_;simp only[F399,c399,go_sem,Gf];unfold l399_0;refine bE (fun (i:Nat) S=>i<=s.owns.length/\S.ρ 2=.lref 2 0/\S.ρ 3=.lref 3 0/\S.μ 2=some (YV s,false)/\S.μ 3=some (YV s,false)/\S.ρ 5=iz i) (fun i=>s.owns.length-i) 0 ?_ ?_
 ·simp[go_sem]
 ·intro i S ⟨hi,H,P,m2,m3,I⟩;have p:=m2;have y:=m3;simp only[go_sem] at p y;cases z:decide ((i:Int)<(s.owns.length:Int)) with
  |false=>simp only[go_sem,H,p,I,z,Gf]
  |true=>
   have D:=Yh z;obtain⟨o,E,-⟩:=bO D;have u:=inc64q (i:=i) (by omega)
   obtain⟨M,N,O⟩:=J o (List.mem_of_getElem? E);have w:=L9 B o.rep M.ok;have j:=xA q o.outs N O;simp only[YB,Yi,kd] at w j;simp only[go_sem,H,P,p,y,I,z,E,w,j,u,Gf];exact⟨i+1,by omega,by omega,rfl⟩
def lU (o:dB):Bool:=!decide (10<(o.outs.length:Int))&&(!decide (40<(o.rep.members.length:Int))&&(!decide (40<(o.rep.acks.length:Int))&&(!decide (8192<(o.rep.base.length:Int))&&!decide (8192<(o.rep.text.length:Int)))))
def ks (o:dB):Bool:=lU o&&o.outs.all mj
def oo (s:ek):Bool:=!decide (6<(s.owns.length:Int))&&s.owns.all ks
def pX:=HpC 404 F404 pQ
def mH {α:Type} {p:α->Bool} {l:List α} {i:Nat} {x:α} (h:l[i]?=some x) (j:p x=false):l.all p=false:=by
 rw[List.all_eq_false];exact⟨x,List.mem_of_getElem? h,by simp[j]⟩
def sY {α:Type} {p:α->Bool} {l:List α} {i:Nat} {x:α} (h:l[i]?=some x) (j:p x=true) (ht:(l.take i).all p=true):(l.take (i+1)).all p=true:=by
 rw[YH h,List.all_append,ht];simp[j]
theorem xG (h:pX Pg) (s:ek):K' Pg 404 [.agg (YV s)]=some (.bool (oo s)):=by
 obtain⟨h,N⟩:=h;refine aA h rfl ?_;cases U:decide (6<(s.owns.length:Int)) with
 |true=>simp only[F404,c404,go_sem,oo,U,Gf]
 |false=>
 have ab:s.owns.length<=6:=by have:=Ge U;omega
 simp only[F404,c404,go_sem,oo,U,Gf];unfold l404_0;refine bE (fun (i:Nat) S=>i<=s.owns.length/\S.ρ 1=.lref 1 0/\S.μ 1=some (YV s,false)/\S.ρ 3=iz i/\S.μ 4=none/\(s.owns.take i).all ks=true) (fun i=>s.owns.length-i) 0 ?_ ?_
 ·simp[go_sem]
 ·intro i S ⟨hi,z,T,B,m4,y⟩;have p:=T;simp only[go_sem] at p;cases E:decide ((i:Int)<(s.owns.length:Int)) with
  |false=>
   have W:i=s.owns.length:=by have:=Ge E;omega
   rw[W,Gw] at y;simp only[go_sem,z,p,B,E,y,Gf]
  |true=>
   have Z:=Yh E;obtain⟨o,J,-⟩:=bO Z;have O:=inc64q (i:=i) (by omega)
   have bad:=fun (hb:ks o=false)=>mH J hb;cases w:decide (10<(o.outs.length:Int)) with
   |true=>
    have:=bad (by simp only[ks,lU,w,GR,Gl]);simp only[go_sem,z,p,B,m4,E,J,this,w,Gf]
   |false=>
   cases D:decide (40<(o.rep.members.length:Int)) with
   |true=>
    have:=bad (by simp only[ks,lU,w,D,Gl,Gm,GR]);simp only[go_sem,z,p,B,m4,E,J,this,w,D,Gf]
   |false=>
   cases I:decide (40<(o.rep.acks.length:Int)) with
   |true=>
    have:=bad (by simp only[ks,lU,w,D,I,Gl,Gm,GR]);simp only[go_sem,z,p,B,m4,E,J,this,w,D,I,Gf]
   |false=>
   cases L:decide (8192<(o.rep.base.length:Int)) with
   |true=>
    have:=bad (by simp only[ks,lU,w,D,I,L,Gl,Gm,GR]);simp only[go_sem,z,p,B,m4,E,J,this,w,D,I,L,Gf]
   |false=>
   cases Q:decide (8192<(o.rep.text.length:Int)) with
   |true=>
    have:=bad (by simp only[ks,lU,w,D,I,L,Q,Gl,Gm,GR]);simp only[go_sem,z,p,B,m4,E,J,this,w,D,I,L,Q,Gf]
   |false=>
    have h0:lU o=true:=by simp only[lU,w,D,I,L,Q,kw,G0]
    simp only[go_sem,z,p,B,m4,E,J,w,D,I,L,Q,Gf];have ac:o.outs.length<=10:=by have:=Ge w;omega
    unfold l404_1;refine bE (fun (j:Nat) S=>j<=o.outs.length/\S.ρ 1=.lref 1 0/\S.μ 1=some (YV s,false)/\S.ρ 3=iz i/\S.ρ 4=.lref 4 0/\S.μ 4=some (ed o,false)/\S.ρ 5=iz j/\(o.outs.take j).all mj=true) (fun j=>o.outs.length-j) 0 ?_ ?_
    ·simp[go_sem,z,T,B]
    ·intro j S ⟨hj,z,T,B,s4,m4,s5,u⟩;have H:=m4;have p:=T;simp only[go_sem] at p H;cases M:decide ((j:Int)<(o.outs.length:Int)) with
     |false=>
      have X:j=o.outs.length:=by have:=Ge M;omega
      rw[X,Gw] at u;have aa:ks o=true:=by simp only[ks,h0,u,G0]
      simp only[go_sem,z,p,B,s4,H,s5,M,O,Gf];exact⟨i+1,by omega,by omega,rfl,sY J aa y⟩
     |true=>
      have Y:=Yh M;obtain⟨m,hm,-⟩:=bO Y;have P:=inc64q (i:=j) (by omega)
      have q:=xz N m;simp only[YS,YU,YF,Yi] at q;cases R:mj m with
      |false=>
       rw[R] at q;have:=bad (by simp only[ks,h0,mH hm R,GK]);simp only[go_sem,s4,H,s5,M,hm,q,this,Gf]
      |true=>
       rw[R] at q;simp only[go_sem,z,p,B,s4,H,s5,M,hm,q,P,Gf];exact⟨j+1,by omega,by omega,rfl,sY hm R u⟩
def Dt {s:ek} (h:oo s=true):lQ s/\s.owns.length<=6/\∀o∈s.owns,o.rep.base.length<=8192/\o.rep.text.length<=8192/\o.rep.members.length<=40/\o.rep.acks.length<=40/\o.outs.length<=10:=by
 simp only[oo,ks,lU,Gg,GI,GM,Gx] at h;obtain⟨h1,p⟩:=h;refine⟨⟨by omega,fun o j=>?_⟩,by omega,fun o j=>?_⟩
 ·obtain⟨⟨a1,a2,a3,a4,a5⟩,a6⟩:=p o j;exact⟨⟨by omega,by omega⟩,by omega,fun m hm=>(ON (a6 m hm)).1⟩
 ·obtain⟨⟨a1,a2,a3,a4,a5⟩,a6⟩:=p o j;omega
def kH {α:Type} (p:α->Bool):List α->Nat->Int
 |[],_=>-1
 |a::l,i=>if p a then i else kH p l (i+1)
theorem CM {α:Type} {p:α->Bool}:∀{l:List α} {i:Nat},decide (0<=kH p l i)=l.any p
 |[],i=>by simp[kH]
 |a::l,i=>by
  simp only[kH];split
  ·rename_i h;simp[h]
  ·rename_i h;rw[CM];simp[h]
def qX:=HpZ 468 F468
def xV (h:qX Pg) (l:List bQ) (g:Nat) (aJ:List V) (p:bQ->Bool) (D:l.length<2 ^ 60) (B:∀x∈l,K' Pg g (.agg (YS x)::aJ)=some (.bool (p x))) :
  K' Pg 468 [.slice 36 (l.map YS),.func g aJ]=some (iz (kH p l 0)):=by
 refine aA h rfl ?_
 simp only[F468,c468,go_sem,Gf]
 unfold l468_0
 refine bE (fun (i:Nat) S=>i<=l.length/\S.ρ 0=.slice 36 (l.map YS)/\S.ρ 1=.func g aJ/\S.ρ 7=iz l.length/\S.ρ 8=iz i/\kH p (l.drop i) i=kH p l 0) (fun i=>l.length-i) 0 ?_ ?_
 ·simp[go_sem]
 ·intro i S ⟨hi,h0,h1,w,q,j⟩
  simp only[go_sem,w,q]
  refine bL (fun h=>?_) (fun h=>?_)
  ·have h:=Yh h
   obtain⟨x,y,z⟩:=bO h
   rw[z] at j
   have o:=B x (List.mem_of_getElem? y)
   simp only[go_sem] at o
   simp only[go_sem,h0,h1,q,y,o]
   refine bL (fun u=>?_) (fun u=>?_)
   ·simp only[kH,u,GS] at j
    simp only[go_sem,<-j]
   ·simp only[kH,u,Gv,GO] at j
    simp only[go_sem,h0,h1,w,q]
    exact⟨i+1,by omega,by omega,by rw[Ym h D],j⟩
  ·have h:=Yr hi h
   subst h
   simp only[GQ,kH] at j
   simp only[go_sem,<-j]
def tj (r:dL):Bool:=Yn r&&!iC r
def qI:=HpC 426 F426<|HpA wi<|wk
def xL (h:qI Pg) (r:dL) (w:iB r):K' Pg 426 [.agg (YB r)]=some (.bool (tj r)):=by
 obtain⟨h,p,q⟩:=h;have j:=B4 p r;have o:=B6 q r w.ok;simp only[YB,Yi] at j o;refine aA h rfl ?_;cases u:Yn r<;>rw[u] at j<;>simp only[F426,c426,go_sem,j,o,tj,u]
theorem vx {r:dL}:Y4 r=(bU r&&tj r):=rfl
def hU (t:List UInt8):Bool:=(fS t).isSome
def qL:=HpC 430 F430 nA
def sv (h:qL Pg) (t:List UInt8) (ht:t.length<=10000):K' Pg 430 [.str t]=some (.bool (hU t)):=by
 obtain⟨h,j⟩:=h;have k:=xM j t ht;refine aA h rfl ?_;unfold hU;cases e:fS t with
 |none=>
  rw[e] at k;simp only[mS] at k;simp only[F430,c430,go_sem,k,Option.isSome_none]
 |some c=>
  rw[e] at k;simp only[mS] at k;simp only[go_sem] at k;simp only[F430,c430,go_sem,k,Option.isSome_some]
def lS (c:Int):Bool:=decide (1<=c)&&decide (c<=3)
def pU:=HpZ 368 F368
def xD (h:pU Pg) (c:Int):K' Pg 368 [iz c]=some (.bool (lS c)):=by
 refine aA h rfl ?_;cases j:decide (1<=c)<;>simp only[F368,c368,go_sem,j,lS]
def ei (id:Int) (m:bQ):Bool:=fO m&&decide (m.from_=id)
def qM:=HpC 431 F431 jJ
def xN (h:qM Pg) (m:bQ) (s:ek) (hm:lJ m):K' Pg 431 [.agg (YS m),.cptr (YV s) 0]=some (.bool (!ei s.id m)):=by
 obtain⟨h,j⟩:=h;have k:=se j m hm;simp only[YS,YU,YF,Yi] at k;refine aA h rfl ?_;cases o:fO m<;>rw[o] at k<;>simp only[F431,c431,go_sem,k,ei,o]
def qP:=HpC 432 F432 qX
def xO (h:qP Pg) (l:List bQ) (g:Nat) (aJ:List V) (p:bQ->Bool) (q:l.length<2 ^ 60) (o:∀x∈l,K' Pg g (.agg (YS x)::aJ)=some (.bool (p x))) :
  K' Pg 432 [kd l,.func g aJ]=some (.bool (l.any p)):=by
 obtain⟨h,j⟩:=h
 have k:=xV j l g aJ p q o
 simp only[kd]
 refine aA h rfl ?_
 simp only[F432,c432,go_sem,k,CM]
def bG (id gc:Int) (o:dB):Bool:=!decide (o.cell<=gc)&&(lS o.cell&&(decide (o.rep.id=id)&&(bU o.rep&&(hU o.rep.base&&hU o.rep.text))))
def iH (id:Int) (o:dB):Bool:=(decide ((o.outs.length:Int)<=0)||Y4 o.rep)&&o.outs.all (ei id)
def eb (id gc:Int) (o:dB):Bool:=bG id gc o&&iH id o
def gO (id:Int):Int->List dB->Bool
 |_,[]=>true
 |gc,o::l=>eb id gc o&&gO id o.cell l
def mZ (id:Int):Bool:=decide (1<=id)&&decide (id<=3)
def eD (s:ek):Bool:=gO s.id 0 s.owns&&mZ s.id
def On {id:Int} {l:List bQ}:(l.any fun m=>!ei id m)=!l.all (ei id):=by
 induction l with
 |nil=>rfl
 |cons a l j=>simp only[List.any_cons,List.all_cons,j,Bool.not_and]
def i8 (s:ek):Prop:=∀o∈s.owns,o.rep.base.length<=10000/\o.rep.text.length<=10000
def lh:=HpC 408 F408<|HpA pU<|HpA wj<|HpA qL<|HpA Ar<|HpA qM<|qP
theorem sk (h:lh Pg) (s:ek) (hs:lQ s) (hk:∀o∈s.owns,K' Pg 430 [.str o.rep.base]=some (.bool (hU o.rep.base))/\K' Pg 430 [.str o.rep.text]=some (.bool (hU o.rep.text))):K' Pg 408 [.agg (YV s)]=some (.bool (eD s)):=by
 obtain⟨h,W,aa,ae,ab,X,Y⟩:=h;obtain⟨hl,ho⟩:=hs;refine aA h rfl ?_;simp only[F408,c408,go_sem,Gf];unfold l408_0;refine bE (fun (p:Nat×Int×Bool) S=>p.1<=s.owns.length/\S.ρ 1=.lref 1 0/\S.μ 1=some (YV s,p.2.2)/\S.ρ 3=iz p.2.1/\S.ρ 7=.slice 9 (s.owns.map ed)/\S.ρ 8=iz s.owns.length/\S.ρ 9=iz p.1/\S.μ 5=none/\gO s.id p.2.1 (s.owns.drop p.1)=gO s.id 0 s.owns) (fun p=>s.owns.length-p.1) (0,0,false) ?_ ?_
 ·refine⟨Gy _,?_⟩;simp[go_sem]
 ·intro p S ⟨hi,M,E,H,L,I,D,m5,U⟩;obtain⟨i,gc,fz⟩:=p;simp only at hi E H D U;simp only[go_sem] at E;cases w:decide ((i:Int)<(s.owns.length:Int)) with
  |false=>
   have ac:i=s.owns.length:=by have:=Ge w;omega
   subst ac;simp only[GQ,gO] at U;have hr:eD s=mZ s.id:=by simp only[eD,<-U,GK]
   rw[hr];cases c2:decide (1<=s.id)<;>simp only[go_sem,M,E,I,D,w,c2,mZ]
  |true=>
   have ad:=Yh w;obtain⟨o,z,hd⟩:=bO ad;have P:=inc64q (i:=i) (by omega)
   obtain⟨o1,o2,o3⟩:=ho o (List.mem_of_getElem? z);obtain⟨O,Q⟩:=hk o (List.mem_of_getElem? z);rw[hd,gO] at U;have j:=xD W o.cell;have u:=B5 aa o.rep o1.ok;have B:=L8 ab o.rep o1.ok;have q:=xO Y o.outs 431 [.cptr (YV s) 0] (fun m=>!ei s.id m) (by omega) fun m hm=>xN X m s (o3 m hm);rw[On] at q;simp only[YB,Yi,kd,YV,mO] at u B q;have bad:eb s.id gc o=false->eD s=false:=fun hb=>by
    rw[hb,Gl] at U;simp only[eD,<-U,Gl]
   cases y:decide (o.cell<=gc) with
   |true=>
    have:=bad (by simp only[eb,bG,y,GR,Gl]);simp only[go_sem,H,L,I,D,m5,w,z,this,y]
   |false=>
   cases Z:lS o.cell with
   |false=>
    have:=bad (by simp only[eb,bG,Z,Gl,Gm]);rw[Z] at j;simp only[go_sem,H,L,I,D,m5,w,z,this,y,j]
   |true=>
   rw[Z] at j;cases J:decide (o.rep.id=s.id) with
   |false=>
    have:=bad (by simp only[eb,bG,J,Gl,Gm]);simp only[go_sem,M,E,H,L,I,D,m5,w,z,this,y,j,J]
   |true=>
   cases d4:bU o.rep with
   |false=>
    have:=bad (by simp only[eb,bG,d4,Gl,Gm]);rw[d4] at u;simp only[go_sem,M,E,H,L,I,D,m5,w,z,this,y,j,J,u]
   |true=>
   rw[d4] at u;cases d5:hU o.rep.base with
   |false=>
    have:=bad (by simp only[eb,bG,d5,Gl,Gm]);rw[d5] at O;simp only[go_sem,M,E,H,L,I,D,m5,w,z,this,y,j,J,u,O]
   |true=>
   rw[d5] at O;cases d6:hU o.rep.text with
   |false=>
    have:=bad (by simp only[eb,bG,d6,Gl,Gm]);rw[d6] at Q;simp only[go_sem,M,E,H,L,I,D,m5,w,z,this,y,j,J,u,O,Q]
   |true=>
   rw[d6] at Q;have h1:bG s.id gc o=true:=by simp only[bG,y,Z,J,d4,d5,d6,kw,G0]
   have go:iH s.id o=true->gO s.id o.cell (s.owns.drop (i+1))=gO s.id 0 s.owns:=fun h2=>by
    rw[<-U];simp only[eb,h1,h2,GK]
   have R:decide (0<(o.outs.length:Int))=!decide ((o.outs.length:Int)<=0):=by
    by_cases hz:(o.outs.length:Int)<=0
    ·rw[GC hz,Gq (by omega)];rfl
    ·rw[Gq hz,GC (by omega)];rfl
   cases d7:decide ((o.outs.length:Int)<=0) with
   |true=>
    rw[d7] at R;cases N:o.outs.all (ei s.id) with
    |false=>
     have:=bad (by simp only[eb,iH,N,Gm]);rw[N] at q;simp only[go_sem,M,E,H,L,I,D,m5,w,z,this,y,j,J,u,O,Q,R,q,Gf]
    |true=>
     have T:=go (by simp only[iH,d7,N,ky,G0]);rw[N] at q;simp only[go_sem,M,E,H,L,I,D,m5,w,z,y,j,J,u,O,Q,R,q,P,Gf];exact⟨(i+1,o.cell,_),by simp only;omega,by simp only;omega,rfl,rfl,rfl,T⟩
   |false=>
    rw[d7] at R;cases d9:Y4 o.rep with
    |false=>
     have:=bad (by simp only[eb,iH,d7,d9,jI,Gl,Gm]);rw[d9] at B;simp only[go_sem,M,E,H,L,I,D,m5,w,z,this,y,j,J,u,O,Q,R,B,Gf]
    |true=>
    rw[d9] at B;cases N:o.outs.all (ei s.id) with
    |false=>
     have:=bad (by simp only[eb,iH,N,Gm]);rw[N] at q;simp only[go_sem,M,E,H,L,I,D,m5,w,z,this,y,j,J,u,O,Q,R,B,q,Gf]
    |true=>
     have T:=go (by simp only[iH,N,d9,Bool.or_true,G0]);rw[N] at q;simp only[go_sem,M,E,H,L,I,D,m5,w,z,y,j,J,u,O,Q,R,B,q,P,Gf];exact⟨(i+1,o.cell,_),by simp only;omega,by simp only;omega,rfl,rfl,rfl,T⟩
def sj (h:lh Pg) (s:ek) (p:lQ s) (ht:i8 s):K' Pg 408 [.agg (YV s)]=some (.bool (eD s)):=
 sk h s p fun o j=>⟨sv h.2.2.2.1 _ (ht o j).1,sv h.2.2.2.1 _ (ht o j).2⟩
def aN {a:Nat} {b:Fn} {l:List (Nat×Fn)} (h1:Pg a=some b) (h2:∀x∈l,Pg x.1=some x.2):∀x∈(a,b)::l,Pg x.1=some x.2:=Gp.2 ⟨h1,h2⟩
end Sg
