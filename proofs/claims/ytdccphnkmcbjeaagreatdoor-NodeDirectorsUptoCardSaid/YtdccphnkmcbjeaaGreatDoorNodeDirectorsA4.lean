/- NodeDirectors, wherever what it reads is of bulk at most 1048576: proved over a checked abstract run of the translated code; no condition but that. A part. -/
import Derived.KernelRfl
import Derived.Test.YtdccphnkmcbjeaaGreatDoorNodeDirectorsA3
set_option linter.unusedSimpArgs false
set_option linter.unusedVariables false
set_option linter.constructorNameAsVariable false
set_option linter.defProp false
set_option maxRecDepth 100000
set_option maxHeartbeats 4000000
namespace Sg
open _root_.Go (IntKind BinOp UnOp)
variable {Pg:PgT}
structure RP (r:Rep):Prop where
 id:1≤r.id∧r.id≤255
 view:0≤r.view∧r.view≤1099511627776
 n:0≤r.n∧r.n≤1099511627776
 sm:SetP r.members
 sa:SetP r.acks
 sub:∀a∈r.acks,a∈r.members
 inn:r.members≠[]→r.id∈r.members
 lead:Yk r=true→r.id∈r.acks∧(Yan r=true→r.base=r.text)
 not:Yk r=false→r.acks=[]∧r.base=r.text
def YY (k:Nat):Int:=(k:Int)+1
structure Gh where
 V:Int
 who:Int→Nat
 mem:Int→List Int
 n0:Int→Int
 top:Int→Int
 τ:Int→Int→List UInt8
structure GOK (g:Gh):Prop where
 V1:1≤g.V
 who:∀v,1≤v→v≤g.V→g.who v<3
 set:∀v,1≤v→v≤g.V→SetP (g.mem v)∧(∀m∈g.mem v,1≤m∧m≤3)∧(g.mem v).head?=some (YY (g.who v))
 n0:∀v,1≤v→v≤g.V→1≤g.n0 v∧g.n0 v≤g.top v
 chain:∀v,1≤v→v≤g.V→∀n m,g.n0 v≤n→n≤m→m≤g.top v→g.τ v n <+:g.τ v m
 next:∀v,1≤v→v+1≤g.V→YY (g.who (v+1))∈g.mem v∧g.n0 v≤g.n0 (v+1)-1∧g.n0 (v+1)-1≤g.top v∧g.τ (v+1) (g.n0 (v+1))=g.τ v (g.n0 (v+1)-1)
def AckOK (g:Gh) (r:Nat→Rep) (j:Nat) (v n:Int):Prop:=
 v≤(r j).view∧((r j).view=v→n≤(r j).n)∧(v+1≤g.V→g.who (v+1)=j→n≤g.n0 (v+1)-1)
def Evd (g:Gh) (r:Nat→Rep) (v b:Int):Prop:=
 b=g.n0 v∨∀j,j<3→YY j∈g.mem v→v≤(r j).view∧((r j).view=v→b≤(r j).n)
structure ROK (g:Gh) (r:Nat→Rep) (k:Nat):Prop where
 id:(r k).id=YY k
 right:RP (r k)
 view:1≤(r k).view∧(r k).view≤g.V
 n:g.n0 (r k).view≤(r k).n∧(r k).n≤g.top (r k).view
 text:(r k).text=g.τ (r k).view (r k).n
 mem:(r k).members=[]∨(r k).members=g.mem (r k).view∧YY k∈g.mem (r k).view
 top:Yk (r k)=true→(r k).n=g.top (r k).view
 base:Yk (r k)=true→∃b,g.n0 (r k).view≤b∧b≤(r k).n∧(r k).base=g.τ (r k).view b∧((r k).view+1≤g.V→b≤g.n0 ((r k).view+1)-1)∧Evd g r (r k).view b
 acks:Yk (r k)=true→∀a∈(r k).acks,a≠(r k).id→∃j,j<3∧a=YY j∧AckOK g r j (r k).view (r k).n
structure WOK (g:Gh) (r:Nat→Rep) (x:Word):Prop where
 ship:x.kind=1→1≤x.view∧x.view≤g.V∧g.n0 x.view≤x.n∧x.n≤g.top x.view∧x.text=g.τ x.view x.n∧x.members=g.mem x.view∧x.frm=YY (g.who x.view)
 ack:x.kind=2→∃j,j<3∧x.frm=YY j∧AckOK g r j x.view x.n
 past:x.kind=3→x.view≤g.V
structure Fixd where
 text:List UInt8
 at_:Int
structure FOK (g:Gh) (r:Nat→Rep) (x:Fixd):Prop where
 at_:1≤x.at_∧x.at_≤g.V
 b:∃b,g.n0 x.at_≤b∧b≤g.top x.at_∧x.text=g.τ x.at_ b∧(x.at_+1≤g.V→b≤g.n0 (x.at_+1)-1)∧Evd g r x.at_ b
 now:∀k,k<3→Yk (r k)=true→(r k).view=x.at_→x.text <+:(r k).base
structure Told where
 view:Int
 who:Int
 members:List Int
structure Inv1 (g:Gh) (r:Nat→Rep) (net:List Word) (views:List Told) (fx:List Fixd):Prop where
 gk:GOK g
 rk:∀k,k<3→ROK g r k
 told:∀v,1≤v→v≤g.V→v≤(r (g.who v)).view
 netk:∀x∈net,WOK g r x
 viewk:∀t∈views,2≤t.view∧t.view≤g.V∧t.who=(g.who t.view:Int)
 all:∀v,2≤v→v≤g.V→∃t∈views,t.view=v
 fxk:∀x∈fx,FOK g r x
section
variable {g:Gh} {r:Nat→Rep} {net:List Word} {views:List Told} {fx:List Fixd}
theorem Inv1.say (h:Inv1 g r net views fx) {net':List Word} (hn:∀x∈net',WOK g r x):Inv1 g r net' views fx:=⟨h.gk,h.rk,h.told,hn,h.viewk,h.all,h.fxk⟩
end
section
variable {g:Gh} {r:Nat→Rep} {net:List Word} {views:List Told} {fx:List Fixd}
end
structure Thr where
 r:Nat→Rep
 net:List Word
 views:List Told
 fx:List Fixd
 count:Int
def YdS (net:List Word) (i:Nat):List Word:=net.take i++net.drop (i+1)
theorem Ydp {net:List Word} {i:Nat} {x:Word} (h:x∈YdS net i):x∈net:=by
 rcases GV.1 h with h|h
 ·exact Gak h
 ·exact Gaf h
abbrev IT (g:Gh) (t:Thr):Prop:=Inv1 g t.r t.net t.views t.fx
section
variable {g:Gh} {t:Thr}
theorem IT.off (h:IT g t) (i:Nat):IT g {t with net:=YdS t.net i}:=Inv1.say h fun y hy=>h.netk y (Ydp hy)
end
section
variable {g:Gh} {t:Thr} {N:Int} {T:List UInt8}
end
@[go_sem] def YbC (t:Told):List V:=[iz t.view,iz t.who,Yf t.members]
def YZ (r:Nat→Rep) (v1 v2 v3 v4 v5:V):List V:=Yu (r 0)++(Yu (r 1)++(Yu (r 2)++[v1,v2,v3,v4,v5]))
@[go_sem] def Ya2 (t:Thr) (a b c d:Nat):List V:=YZ t.r (.own a 7 t.net.length) (.own b 3 t.views.length) (.own c 1 t.fx.length) (.own d 1 t.fx.length) (iz t.count)
structure Arr4 (A:AA) (t:Thr) (a b c d:Nat):Prop where
 ra:A a=some (7,t.net.map Y8,.live)
 rb:A b=some (3,t.views.map YbC,.live)
 rc:A c=some (1,t.fx.map (fun f=>[.str f.text]),.live)
 rd:A d=some (1,t.fx.map (fun f=>[iz f.at_]),.live)
 rn:a≠b∧a≠c∧a≠d∧b≠c∧b≠d∧c≠d
def HT (S:St) (v:Nat) (t:Thr) (a b c d:Nat):Prop:=S.μ v=some (Ya2 t a b c d,false)∧Arr4 S.A t a b c d
theorem Ybl {A:AA}:∀{l m:List V},l.all V.datC=true→(∀z,V.nslice z∉l)→Jag (l++m) A=(Jag m A).map fun r=>(l++r.1,r.2)
 |[],m,_,_=>by cases h:Jag m A<;>simp[h]
 |x::l,m,hd,hn=>by
  simp only[List.all_cons,Gi] at hd;have hx:handC A x=some (x,A):=by
   cases x<;>first|rfl|(simp[V.datC] at hd;done)|(exact absurd (Gaj ..) (hn _))
  rw[List.cons_append,Jcx,hx];simp only[Option.bind_some];rw[Ybl hd.2 (fun z hz=>hn z (by simp[hz]))];cases Jag m A<;>simp
theorem Ybq {A:AA}:∀{l m:List V} {d:Nat},l.all V.datC=true→JI d (l++m) A=(JI (d+l.length) m A).map fun r=>(l++r.1,r.2)
 |[],m,d,_=>by cases h:JI d m A<;>simp[h]
 |x::l,m,d,hd=>by
  simp only[List.all_cons,Gi] at hd;have hx:takeC d A x=some (x,A):=by
   cases x<;>first|rfl|(simp[V.datC] at hd;done)
  rw[List.cons_append,JcQ,hx];simp only[Option.bind_some];rw[Ybq hd.2,show d+1+l.length=d+(x::l).length by simp;omega];cases JI (d+(x::l).length) m A<;>simp
theorem Ybe (r:Rep):(Yu r).all V.datC=true:=rfl
section
variable {r:Nat→Rep} {v1 v2 v3 v4 v5 w:V} {k s:Nat} {S:St}
theorem YdX:(YZ r v1 v2 v3 v4 v5).length=26:=rfl
theorem YeF:(YZ r v1 v2 v3 v4 v5)[21]?=some v1:=rfl
theorem YeG:(YZ r v1 v2 v3 v4 v5)[22]?=some v2:=rfl
theorem YeH:(YZ r v1 v2 v3 v4 v5)[23]?=some v3:=rfl
theorem YeI:(YZ r v1 v2 v3 v4 v5)[24]?=some v4:=rfl
theorem YeJ:(YZ r v1 v2 v3 v4 v5)[25]?=some v5:=rfl
theorem Yem:stV S s 21 [w] (some (YZ r v1 v2 v3 v4 v5,false))=some ⟨S.ρ,upd S.μ s (some (YZ r w v2 v3 v4 v5,false)),S.A⟩:=rfl
theorem Yen:stV S s 22 [w] (some (YZ r v1 v2 v3 v4 v5,false))=some ⟨S.ρ,upd S.μ s (some (YZ r v1 w v3 v4 v5,false)),S.A⟩:=rfl
theorem Yeo:stV S s 23 [w] (some (YZ r v1 v2 v3 v4 v5,false))=some ⟨S.ρ,upd S.μ s (some (YZ r v1 v2 w v4 v5,false)),S.A⟩:=rfl
theorem Yep:stV S s 24 [w] (some (YZ r v1 v2 v3 v4 v5,false))=some ⟨S.ρ,upd S.μ s (some (YZ r v1 v2 v3 w v5,false)),S.A⟩:=rfl
theorem Yeq:stV S s 25 [w] (some (YZ r v1 v2 v3 v4 v5,false))=some ⟨S.ρ,upd S.μ s (some (YZ r v1 v2 v3 v4 w,false)),S.A⟩:=rfl
attribute [go_sem] YeF YeG YeH YeI YeJ YdX
attribute [go_sem high] Yem Yen Yeo Yep Yeq
end
theorem ren_arr {A:AA} {t:Thr} {a b c d x h:Nat} (hA:Arr4 A t a b c d):Arr4 (fun i=>A (swp x h i)) t (swp x h a) (swp x h b) (swp x h c) (swp x h d):=by
 obtain⟨n1,n2,n3,n4,n5,n6⟩:=hA.rn;have inj:∀{p q:Nat},p≠q→swp x h p≠swp x h q:=fun {p q} hn e=>hn (by
  have:∀r,swp x h (swp x h r)=r:=fun r=>by
   unfold swp;by_cases e1:r=x
   ·subst e1;simp only[GK];split
    ·rename_i e;exact e
    ·rfl
   ·rw[Gq e1];by_cases e2:r=h
    ·subst e2;simp
    ·rw[Gq e2,Gq e1,Gq e2]
  rw[←this p,e,this q])
 have inv:∀r,swp x h (swp x h r)=r:=fun r=>by
   unfold swp;by_cases e1:r=x
   ·subst e1;simp only[GK];split
    ·rename_i e;exact e
    ·rfl
   ·rw[Gq e1];by_cases e2:r=h
    ·subst e2;simp
    ·rw[Gq e2,Gq e1,Gq e2]
 exact⟨by simp only[inv];exact hA.ra,by simp only[inv];exact hA.rb,by simp only[inv];exact hA.rc,by simp only[inv];exact hA.rd,inj n1,inj n2,inj n3,inj n4,inj n5,inj n6⟩
theorem HT.ren {S:St} {v x h:Nat} {t:Thr} {a b c d:Nat} (hT:HT S v t a b c d):HT (S.ren x h) v t (swp x h a) (swp x h b) (swp x h c) (swp x h d):=by
 refine⟨?_,ren_arr hT.2⟩
 show (S.μ v).map _=_
 rw[hT.1];rfl
theorem Yag {x h p:Nat} (h1:p≠x) (h2:p≠h):swp x h p=p:=by simp[swp,h1,h2]
theorem Ycl {T:List Nat} {x h y:Nat} (hx:x∈T) (hh:h∈T) (hy:y∈T):swp x h y∈T:=by
 unfold swp;split
 ·exact hh
 ·split
  ·exact hx
  ·exact hy
theorem HT.head {S:St} {v:Nat} {t:Thr} {a b c d h1 h2 h3 h4:Nat} {Wv Wa:List Nat} (hT:HT S v t a b c d) (hh:h1≠h2∧h1≠h3∧h1≠h4∧h2≠h3∧h2≠h4∧h3≠h4)
  (hv:Wv.contains v=false) (hw:Wa.contains h1=false∧Wa.contains h2=false∧Wa.contains h3=false∧Wa.contains h4=false) :
  HT (S.head [] [v,21,h1,v,22,h2,v,23,h3,v,24,h4] Wv Wa) v t h1 h2 h3 h4∧(∀x,Wa.contains x=true→(S.head [] [v,21,h1,v,22,h2,v,23,h3,v,24,h4] Wv Wa).A x=none)∧
   (∀x,x∉[a,b,c,d,h1,h2,h3,h4]→S.A x=none→(S.head [] [v,21,h1,v,22,h2,v,23,h3,v,24,h4] Wv Wa).A x=none):=by
 obtain⟨q1,q2,q3,q4,q5,q6⟩:=hh
 have s1:=hT.ren (x:=a) (h:=h1)
 rw[Jin] at s1
 have e1:S.swp1 v 21 h1=S.ren a h1:=by rw[Jg5,hT.1,Jil];rfl
 have T0:∀y∈[a,b,c,d,h1,h2,h3,h4],swp a h1 y∈[a,b,c,d,h1,h2,h3,h4]:=fun y hy=>Ycl (by simp) (by simp) hy
 have tb1:=T0 b (by simp)
 have tc1:=T0 c (by simp)
 have td1:=T0 d (by simp)
 generalize swp a h1 b=b1 at *
 generalize swp a h1 c=c1 at *
 generalize swp a h1 d=d1 at *
 obtain⟨n1,n2,n3,n4,n5,n6⟩:=s1.2.rn
 have s2:=s1.ren (x:=b1) (h:=h2)
 rw[Jin,Yag n1 q1] at s2
 have e2:(S.ren a h1).swp1 v 22 h2=(S.ren a h1).ren b1 h2:=by rw[Jg5,s1.1,Jil];rfl
 have tc2:=Ycl (h:=h2) tb1 (by simp) tc1
 have td2:=Ycl (h:=h2) tb1 (by simp) td1
 generalize swp b1 h2 c1=c2 at *
 generalize swp b1 h2 d1=d2 at *
 obtain⟨m1,m2,m3,m4,m5,m6⟩:=s2.2.rn
 have s3:=s2.ren (x:=c2) (h:=h3)
 rw[Jin,Yag m2 q2,Yag m4 q4] at s3
 have e3:((S.ren a h1).ren b1 h2).swp1 v 23 h3=((S.ren a h1).ren b1 h2).ren c2 h3:=by rw[Jg5,s2.1,Jil];rfl
 have td3:=Ycl (h:=h3) tc2 (by simp) td2
 generalize swp c2 h3 d2=d3 at *
 obtain⟨l1,l2,l3,l4,l5,l6⟩:=s3.2.rn
 have s4:=s3.ren (x:=d3) (h:=h4)
 rw[Jin,Yag l3 q3,Yag l5 q5,Yag l6 q6] at s4
 have e4:(((S.ren a h1).ren b1 h2).ren c2 h3).swp1 v 24 h4=(((S.ren a h1).ren b1 h2).ren c2 h3).ren d3 h4:=by rw[Jg5,s3.1,Jil];rfl
 have eh:S.head [] [v,21,h1,v,22,h2,v,23,h3,v,24,h4] Wv Wa=((((S.ren a h1).ren b1 h2).ren c2 h3).ren d3 h4).scrub [] Wv Wa:=by
  rw[JiG,e1,JiG,e2,JiG,e3,JiG,e4];rfl
 rw[eh]
 refine⟨⟨?_,?_⟩,fun x hx=>?_,fun x hx h0=>?_⟩
 ·show (if Wv.contains v then none else _)=_
  rw[hv,s4.1]
  simp only[Gt,GI,Option.map_some]
  have:(Ya2 t h1 h2 h3 h4).map (Jv Wa)=Ya2 t h1 h2 h3 h4:=by
   unfold Ya2 YZ;simp only[GS,Jb3 (Ybe _),GF,GQ,Jv,hw.1,hw.2.1,hw.2.2.1,hw.2.2.2]
   rfl
  rw[this]
  cases Wa.isEmpty<;>rfl
 ·have keep:∀x,Wa.contains x=false→(((((S.ren a h1).ren b1 h2).ren c2 h3).ren d3 h4).scrub [] Wv Wa).A x=((((S.ren a h1).ren b1 h2).ren c2 h3).ren d3 h4).A x:=fun x hx=>by
   show (if Wa.contains x then none else _)=_
   rw[hx];rfl
  exact⟨by rw[keep _ hw.1];exact s4.2.ra,by rw[keep _ hw.2.1];exact s4.2.rb,by rw[keep _ hw.2.2.1];exact s4.2.rc,by rw[keep _ hw.2.2.2];exact s4.2.rd,q1,q2,q3,q4,q5,q6⟩
 ·show (if Wa.contains x then none else _)=_
  rw[hx];rfl
 ·show (if Wa.contains x then none else _)=_
  split
  ·rfl
  ·show S.A (swp a h1 (swp b1 h2 (swp c2 h3 (swp d3 h4 x))))=none
   have ne:∀{y},y∈[a,b,c,d,h1,h2,h3,h4]→x≠y:=fun hy e=>hx (e▸hy)
   rw[Yag (ne td3) (ne (by simp)),Yag (ne tc2) (ne (by simp)),Yag (ne tb1) (ne (by simp)),Yag (ne (by simp)) (ne (by simp))]
   exact h0
theorem Arr4.of {A:AA} {t t':Thr} {a b c d:Nat} (h:Arr4 A t a b c d) (h1:t'.net=t.net) (h2:t'.views=t.views) (h3:t'.fx=t.fx):Arr4 A t' a b c d:=
 ⟨by rw[h1];exact h.ra,by rw[h2];exact h.rb,by rw[h3];exact h.rc,by rw[h3];exact h.rd,h.rn⟩
theorem YbL {A:AA} {l:List V} (hd:l.all V.datC=true) (hn:∀z,V.nslice z∉l):Jag l A=some (l,A):=by
 have:=Ybl (A:=A) (m:=[]) hd hn;rw[GC] at this;rw[this,Jda];simp
theorem YbP {A:AA} {l:List V} {d:Nat} (hd:l.all V.datC=true):JI d l A=some (l,A):=by
 have:=Ybq (A:=A) (m:=[]) (d:=d) hd;rw[GC] at this;rw[this,JdF];simp
structure SDat (S:St) (rest cs:List V):Prop where
 r0:S.ρ 0=.lref 0 0
 r:∀i,S.ρ (i+1)=(rest[i]?).getD .undef
 h:S.μ 0=some (cs,false)
 m:∀i,(i == 0)=false→S.μ i=none
 a:∀x,S.A x=none
theorem Ybx {f:Nat} {F:F} (rs:List Res) {rest ws cs cs':List V} (hF:Pg f=some (.codeR F 0)) (hl:rest.length+1=F.np) (hrs:F.res=rs) (hd:cs.all V.datC=true) (hd':cs'.all V.datC=true) (hn':∀z,V.nslice z∉cs')
  (h:∀S,SDat S rest cs→Wp (K' Pg) F.body S fun ex S'=>(ex=.norm∨ex=.ret)∧S'.μ 0=some (cs',false)∧∃vs,Jo (resV S') rs=some vs∧Jo (toD S'.A) vs=some ws) :
  K' Pg f (.tuple (.lref 0 0::cs)::rest)=some (.tuple [Jbf ws,.tuple cs']):=by
 have hs:startR (.tuple (.lref 0 0::cs)::rest) 0 cs=some ⟨fun i=>if i=0 then .lref 0 0 else ((V.tuple (.lref 0 0::cs)::rest)[i]?).getD .undef,upd (fun _=>none) 0 (some (cs,false)),fun _=>none⟩:=by
  unfold startR;rw[YbP hd];rfl
 have hm:∀i,(i == 0)=false→(upd (fun _=>none) 0 (some (cs,false)):Nat→Option (List V×Bool)) i=none:=fun i hi=>Jfj hi
 refine Qb hF (by simpa using hl) rfl hs ((h _ ⟨rfl,fun i=>rfl,by simp[upd],hm,fun x=>rfl⟩).mono fun ex S' hq=>⟨hq.1,?_⟩)
 obtain⟨h1,vs,h2,h3⟩:=hq.2
 unfold JaB
 rw[hrs,h2]
 simp only[Option.bind_some,h1,YbL hd' hn',h3]
theorem Yab {f:Nat} {F:F} (rs:List Res) {rest ws cs cs':List V} (hF:Pg f=some (.codeR F 0)) (hl:rest.length+1=F.np) (hrs:F.res=rs) (hd:cs.all V.datC=true) (hd':cs'.all V.datC=true) (hn':∀z,V.nslice z∉cs')
  (h:∀S,SDat S rest cs→Wp (K' Pg) F.body S fun ex S'=>(ex=.norm∨ex=.ret)∧S'.μ 0=some (cs',false)∧∃vs,Jo (resV S') rs=some vs∧∀A,Jo (toD A) vs=some ws) :
  K' Pg f (.tuple (.lref 0 0::cs)::rest)=some (.tuple [Jbf ws,.tuple cs']):=
 Ybx rs hF hl hrs hd hd' hn' fun S hS=>(h S hS).mono fun ex S' hq=>⟨hq.1,hq.2.1,hq.2.2.elim fun vs hv=>⟨vs,hv.1,hv.2 _⟩⟩
theorem Yc8 {κ:Nat→List V→Option V} {S:St} {f v p:Nat} {rest cs cs':List V} {r:V} (hm:S.μ v=some (cs,false)) (hc:cs.all V.datC=true) (hn:∀z,V.nslice z∉cs) (hc':cs'.all V.datC=true)
  (hd:∀A,Jo (toD A) rest=some rest) (hs:rest.flatMap Jd=[])
  (hκ:κ f (.tuple (.lref 0 0::cs)::rest)=some (.tuple [r,.tuple cs'])) :
  Jav κ p S f 0 v (.lref v 0::rest)=some (r,⟨S.ρ,upd S.μ v (some (cs',false)),S.A⟩):=by
 have hA:rcallA S 0 v (.lref v 0::rest)=some (.tuple (.lref 0 0::cs)::rest,S.A):=by
  simp only[Jdq,JhS,JgC,List.set_cons_zero,Jo,Jiz,hd,Option.bind_some,hm,JgE,Jcu,Je3,hs,List.nil_append,Jei,YbL hc hn]
 rw[JiK,hA]
 simp only[Option.bind_some,hκ,Jdr,YbP hc']
abbrev Rd:=List UInt8×Bool
@[go_sem] def eRd (r:Rd):List V:=[.str r.1,.bool r.2]
theorem Yt (r:Rd):(eRd r).all V.datC=true:=rfl
theorem Yat (r:Rd) (z:Nat):V.nslice z∉eRd r:=by simp[eRd]
theorem Qc {κ:Nat→List V→Option V} {S:St} {f v p:Nat} {x:Rd} {r:V} {y:Rd} (hκ:κ f [.tuple (.lref 0 0::eRd x)]=some (.tuple [r,.tuple (eRd y)])) (hm:S.μ v=some (eRd x,false)) :
  Jav κ p S f 0 v [.lref v 0]=some (r,⟨S.ρ,upd S.μ v (some (eRd y,false)),S.A⟩):=
 Yc8 (rest:=[]) hm (Yt x) (Yat x) (Yt y) (fun A=>rfl) rfl hκ
def rd {α:Type} (f:List UInt8→Option (α×List UInt8)) (d:α) (r:Rd):α×Rd:=match r.2,f r.1 with
 |false,some (n,s)=>(n,(s,false))
 |_,_=>(d,(r.1,true))
def cu {α:Type} (f:List UInt8→Option (α×List UInt8)) (d:α) (r:Rd):α×Rd:=match f r.1 with
 |some (n,s)=>(n,(s,r.2))
 |none=>(d,([],true))
def zS:Stamp:=⟨0,0,0⟩
def eSt (s:Stamp):V:=.agg (Yd s)
structure Cod {α:Type} (R:Rd→α×Rd) (W:α→List UInt8) (P:α→Prop):Prop where
 get:∀{s r:List UInt8} {a:α},R (s,false)=(a,(r,false))→s=W a++r∧P a
 put:∀{r:List UInt8} {a:α},P a→R (W a++r,false)=(a,(r,false))
 bad:∀{s:List UInt8},(R (s,true)).2.2=true
 len:∀x,(R x).2.1.length≤x.1.length
section
variable {α β:Type}
theorem Cod.rd {f:List UInt8→Option (α×List UInt8)} {d:α} {W:α→List UInt8} {P:α→Prop} (hf:∀{s r a},f s=some (a,r)↔s=W a++r∧P a):Cod (rd f d) W P:=by
 refine⟨fun {s r a} h=>?_,fun {r a} h=>?_,fun {s}=>rfl,fun x=>?_⟩
 ·simp only[Sg.rd] at h;cases hq:f s with
  |none=>rw[hq] at h;simp at h
  |some q=>
   rw[hq] at h;simp only[Gf,and_true] at h;exact hf.1 (by rw[hq,←h.1,←h.2])
 ·simp only[Sg.rd,hf.2 ⟨rfl,h⟩]
 ·obtain⟨s,b⟩:=x;cases b with
  |true=>exact Gp _
  |false=>
   simp only[Sg.rd];cases hq:f s with
   |none=>exact Gp _
   |some q=>
    obtain⟨a,r⟩:=q;have:=congrArg List.length (hf.1 hq).1;simp only[Gc] at this ⊢;omega
theorem Cod.cu {f:List UInt8→Option (α×List UInt8)} {d:α} {W:α→List UInt8} {P:α→Prop} (hf:∀{s r a},f s=some (a,r)↔s=W a++r∧P a):Cod (cu f d) W P:=by
 refine⟨fun {s r a} h=>?_,fun {r a} h=>?_,fun {s}=>?_,fun x=>?_⟩
 ·simp only[Sg.cu] at h;cases hq:f s with
  |none=>rw[hq] at h;simp at h
  |some q=>
   rw[hq] at h;simp only[Gf,and_true] at h;exact hf.1 (by rw[hq,←h.1,←h.2])
 ·simp only[Sg.cu,hf.2 ⟨rfl,h⟩]
 ·simp only[Sg.cu];cases f s<;>rfl
 ·obtain⟨s,b⟩:=x;simp only[Sg.cu];cases hq:f s with
  |none=>exact GJ _
  |some q=>
   obtain⟨a,r⟩:=q;have:=congrArg List.length (hf.1 hq).1;simp only[Gc] at this ⊢;omega
def pairR (R1:Rd→α×Rd) (R2:Rd→β×Rd) (x:Rd):(α×β)×Rd:=(((R1 x).1,(R2 (R1 x).2).1),(R2 (R1 x).2).2)
theorem Cod.pair {R1:Rd→α×Rd} {R2:Rd→β×Rd} {W1:α→List UInt8} {W2:β→List UInt8} {P1:α→Prop} {P2:β→Prop} (h1:Cod R1 W1 P1) (h2:Cod R2 W2 P2) :
  Cod (pairR R1 R2) (fun p=>W1 p.1++W2 p.2) (fun p=>P1 p.1∧P2 p.2):=by
 refine⟨fun {s r a} h=>?_,fun {r a} h=>?_,fun {s}=>?_,fun x=>?_⟩
 ·obtain⟨a,b⟩:=a
  simp only[pairR,Gf] at h
  obtain⟨⟨e1,e2⟩,e3⟩:=h
  cases hq:R1 (s,false) with
  |mk a' y=>
   obtain⟨s',b'⟩:=y
   rw[hq] at e1 e2 e3
   cases b' with
   |true=>
    have:=h2.bad (s:=s')
    rw[e3] at this;cases this
   |false=>
    obtain⟨g1,g2⟩:=h1.get hq
    obtain⟨g3,g4⟩:=h2.get (s:=s') (r:=r) (a:=b) (Prod.ext e2 e3)
    subst e1
    rw[g1,g3]
    exact⟨by simp,g2,g4⟩
 ·obtain⟨a,b⟩:=a
  simp only[pairR,Gs]
  rw[h1.put h.1,h2.put h.2]
 ·simp only[pairR]
  have:=h1.bad (s:=s)
  generalize R1 (s,true)=q at *
  obtain⟨a,t,b⟩:=q
  simp only at this
  subst this
  exact h2.bad
 ·exact Gr (h2.len _) (h1.len x)
def mapR (g:α→β) (R:Rd→α×Rd) (x:Rd):β×Rd:=(g (R x).1,(R x).2)
theorem Cod.map {R:Rd→α×Rd} {W:α→List UInt8} {P:α→Prop} (h:Cod R W P) {g:α→β} {k:β→α} (hk:∀a,k (g a)=a):Cod (mapR g R) (fun b=>W (k b)) (fun b=>P (k b)∧g (k b)=b):=by
 refine⟨fun {s r b} hb=>?_,fun {r b} hb=>?_,fun {s}=>h.bad,fun x=>h.len x⟩
 ·simp only[mapR,Gf] at hb;obtain⟨e1,e2⟩:=hb;obtain⟨g1,g2⟩:=h.get (Prod.ext (x:=R (s,false)) (y:=((R (s,false)).1,(r,false))) rfl e2);subst e1;rw[hk];exact⟨g1,g2,rfl⟩
 ·simp only[mapR];rw[h.put hb.1];simp only[hb.2]
def rL (x:Rd):Nat×Rd:=if (rd (tk 9) 0 x).2.1.length<(rd (tk 9) 0 x).1 then (0,((rd (tk 9) 0 x).2.1,true)) else rd (tk 9) 0 x
def YF (R:Rd→α×Rd):Nat→Rd→List α×Rd
 |0,x=>([],x)
 |k+1,x=>((R x).1::(YF R k (R x).2).1,(YF R k (R x).2).2)
def YE (R:Rd→α×Rd):Nat→Rd→List α×Rd
 |0,x=>([],x)
 |k+1,x=>if x.2 then ([],x) else ((R x).1::(YE R k (R x).2).1,(YE R k (R x).2).2)
def lstP (R:Rd→α×Rd) (x:Rd):List α×Rd:=YF R (rL x).1 (rL x).2
def lstD (R:Rd→α×Rd) (x:Rd):List α×Rd:=YE R (cu (tk 9) 0 x).1 (cu (tk 9) 0 x).2
def YJ (W:α→List UInt8) (l:List α):List UInt8:=putB l.length++l.flatMap W
variable {R:Rd→α×Rd} {W:α→List UInt8} {P:α→Prop}
theorem Ybs (h:Cod R W P):∀{k:Nat} {s:List UInt8},(YF R k (s,true)).2.2=true
 |0,s=>rfl
 |k+1,s=>by
  simp only[YF];have:=h.bad (s:=s);generalize R (s,true)=q at *
  obtain⟨a,t,b⟩:=q;simp only at this;subst this;exact Ybs h
theorem Ya8:∀{k:Nat} {s:List UInt8},YE R k (s,true)=([],(s,true))
 |0,s=>rfl
 |k+1,s=>rfl
theorem YcW (h:Cod R W P):∀{k:Nat} {x:Rd},(YE R k x).2.2=false→YE R k x=YF R k x
 |0,x,_=>rfl
 |k+1,(s,true),hf=>by rw[Ya8] at hf;cases hf
 |k+1,(s,false),hf=>by
  have e:YE R (k+1) (s,false)=((R (s,false)).1::(YE R k (R (s,false)).2).1,(YE R k (R (s,false)).2).2):=rfl;rw[e] at hf ⊢;rw[YcW h hf];rfl
theorem Yck (h:Cod R W P):∀{k:Nat} {s r:List UInt8} {l:List α},YF R k (s,false)=(l,(r,false))→l.length=k∧s=l.flatMap W++r∧∀a∈l,P a
 |0,s,r,l,hr=>by
  simp only[YF,Gf,and_true] at hr;obtain⟨rfl,rfl⟩:=hr;exact⟨rfl,by simp,fun a ha=>by simp at ha⟩
 |k+1,s,r,l,hr=>by
  simp only[YF,Gf] at hr;obtain⟨e1,e2⟩:=hr;cases hq:R (s,false) with
  |mk a' y=>
   obtain⟨s',b'⟩:=y;rw[hq] at e1 e2;cases b' with
   |true=>
    have:=Ybs h (k:=k) (s:=s');rw[e2] at this;cases this
   |false=>
    obtain⟨g1,g2⟩:=h.get hq;obtain⟨g3,g4,g5⟩:=Yck h (Prod.ext (x:=YF R k (s',false)) (y:=((YF R k (s',false)).1,(r,false))) rfl e2);subst e1;refine⟨by simp[g3],by rw[g1,GB,Gs];exact congrArg (W a'++·) g4,fun a ha=>?_⟩;rcases GW.1 ha with rfl|ha
    ·exact g2
    ·exact g5 a ha
theorem YcX (h:Cod R W P):∀{l:List α} {r:List UInt8},(∀a∈l,P a)→YF R l.length (l.flatMap W++r,false)=(l,(r,false))
 |[],r,_=>rfl
 |a::l,r,hl=>by
  simp only[List.length_cons,YF,GB,Gs];rw[h.put (hl a (by simp)),YcX h (fun b hb=>hl b (by simp[hb]))]
theorem Ycv (h:Cod R W P):∀{l:List α} {r:List UInt8},(∀a∈l,P a)→YE R l.length (l.flatMap W++r,false)=(l,(r,false))
 |[],r,_=>rfl
 |a::l,r,hl=>by
  have e:YE R (a::l).length ((a::l).flatMap W++r,false)=((R ((a::l).flatMap W++r,false)).1::(YE R l.length (R ((a::l).flatMap W++r,false)).2).1,(YE R l.length (R ((a::l).flatMap W++r,false)).2).2):=rfl;rw[e];simp only[GB,Gs];rw[h.put (hl a (by simp)),Ycv h (fun b hb=>hl b (by simp[hb]))]
theorem Ybo (h:Cod R W P):∀{k:Nat} {x:Rd},(YF R k x).2.1.length≤x.1.length
 |0,x=>Gp _
 |k+1,x=>Gr (Ybo h (k:=k)) (h.len x)
theorem YbF (h:Cod R W P):∀{k:Nat} {x:Rd},(YE R k x).2.1.length≤x.1.length
 |0,x=>Gp _
 |k+1,x=>by
  simp only[YE];split
  ·exact Gp _
  ·exact Gr (YbF h (k:=k)) (h.len x)
theorem codN:Cod (rd (tk 9) 0) putB (fun n=>n<2 ^ 63):=Cod.rd fun {s r a}=>by rw[YcJ,YD]
theorem Yaq:Cod (cu (tk 9) 0) putB (fun n=>n<2 ^ 63):=Cod.cu fun {s r a}=>by rw[YcJ,YD]
theorem YP (hW:∀a,P a→1≤(W a).length):∀{l:List α},(∀a∈l,P a)→l.length≤(l.flatMap W).length
 |[],_=>by simp
 |a::l,hl=>by
  have h1:=hW a (hl a (by simp));have h2:=YP hW (l:=l) fun b hb=>hl b (by simp[hb]);simp only[GB,Gc,List.length_cons];omega
theorem Cod.lstP (h:Cod R W P) (hW:∀a,P a→1≤(W a).length):Cod (Sg.lstP R) (YJ W) (fun l=>l.length<2 ^ 63∧∀a∈l,P a):=by
 refine⟨fun {s r l} hl=>?_,fun {r l} hl=>?_,fun {s}=>?_,fun x=>?_⟩
 ·simp only[Sg.lstP,rL] at hl;split at hl
  ·have:=Ybs h (k:=0) (s:=(Sg.rd (tk 9) 0 (s,false)).2.1);rw[hl] at this;cases this
  ·cases hq:Sg.rd (tk 9) 0 (s,false) with
   |mk n y=>
    obtain⟨s',b'⟩:=y;rw[hq] at hl;cases b' with
    |true=>
     have:=Ybs h (k:=n) (s:=s');simp only at hl;rw[hl] at this;cases this
    |false=>
     obtain⟨g1,g2⟩:=codN.get hq;obtain⟨g3,g4,g5⟩:=Yck h hl;subst g3;rw[g1,g4];exact⟨by simp[YJ],g2,g5⟩
 ·simp only[Sg.lstP,rL,YJ,Gs];rw[codN.put hl.1];have:=YP hW hl.2;rw[Gq (by simp only[Gc];omega)];exact YcX h hl.2
 ·simp only[Sg.lstP,rL];split
  ·exact Ybs h
  ·exact Ybs h
 ·simp only[Sg.lstP,rL];split
  ·exact Gr (Ybo h) (codN.len x)
  ·exact Gr (Ybo h) (codN.len x)
theorem Cod.lstD (h:Cod R W P):Cod (Sg.lstD R) (YJ W) (fun l=>l.length<2 ^ 63∧∀a∈l,P a):=by
 refine⟨fun {s r l} hl=>?_,fun {r l} hl=>?_,fun {s}=>?_,fun x=>?_⟩
 ·simp only[Sg.lstD] at hl;cases hq:Sg.cu (tk 9) 0 (s,false) with
  |mk n y=>
   obtain⟨s',b'⟩:=y;rw[hq] at hl;cases b' with
   |true=>
    simp only[Ya8,Gf] at hl;simp at hl
   |false=>
    obtain⟨g1,g2⟩:=Yaq.get hq;simp only at hl;rw[YcW h (by rw[hl])] at hl;obtain⟨g3,g4,g5⟩:=Yck h hl;subst g3;rw[g1,g4];exact⟨by simp[YJ],g2,g5⟩
 ·simp only[Sg.lstD,YJ,Gs];rw[Yaq.put hl.1];exact Ycv h hl.2
 ·simp only[Sg.lstD];have:=Yaq.bad (s:=s);generalize Sg.cu (tk 9) 0 (s,true)=q at *
  obtain⟨a,t,b⟩:=q;simp only at this;subst this;simp only[Ya8]
 ·exact Gr (YbF h) (Yaq.len x)
end
theorem Ycs {l:List UInt8} (h:l≠[]):(YaW l).2=((dN l).2:Int):=by
 rw[YbT h];by_cases c:dN l=(65533,1)
 ·rw[Gx c,c];rfl
 ·rw[Gq c]
theorem Ydm {l:List UInt8} (h:l≠[]) (hn:(YaW l).1<0):((dN l).1:Int)=65533:=by
 rw[YbT h] at hn;by_cases c:dN l=(65533,1)
 ·rw[c];rfl
 ·rw[Gq c] at hn;simp at hn;omega
theorem YdQ {l:List UInt8} (h:l≠[]) (hn:¬(YaW l).1<0):((dN l).1:Int)=(YaW l).1:=by
 rw[YbT h] at hn ⊢;by_cases c:dN l=(65533,1)
 ·rw[Gx c] at hn;simp at hn
 ·rw[Gq c]
theorem YcK {l:List UInt8} (h:l≠[]):(dN l).2≤l.length:=by
 rcases Yby h with x|⟨a0,t,rfl,q,x⟩|⟨a0,a1,t,rfl,q,q1,x⟩|⟨a0,a1,a2,t,rfl,q,q1,q2,q3,x⟩|⟨a0,a1,a2,a3,t,rfl,q,q1,q2,q3,q4,x⟩
 ·rw[x];have:=Gam.2 h;simp only;omega
 all_goals rw[x];simp
@[go_sem] def eIL (l:List Int):V:=.slice 1 (l.map fun x=>[iz x])
def H195 (Pg:PgT):Prop:=Pg 195=some (.code F195)∧H188 Pg
theorem YV {l:List UInt8}:decide ((0:Int)<(l.length:Int))=!decide (l=[]):=by
 cases l<;>simp
theorem K195 (h:H195 Pg) (s:List UInt8) (hl:s.length≤1000000):K' Pg 195 [.str s]=some (eIL (Yl s)):=by
 obtain⟨h,h188⟩:=h;refine Qa h rfl ?_;simp only[go_sem];unfold l195_0;refine JiX (fun (l:List UInt8) S=>∃acc:List Int,S.ρ 0=.str l∧S.A 3=some (1,acc.map (fun x=>[iz x]),.live)∧S.ρ 3=.own 3 1 acc.length∧acc++Yl l=Yl s∧acc.length+l.length≤s.length) (fun l=>l.length) s ?_ ?_
 ·exact⟨[],by simp[go_sem]⟩
 ·intro l S ⟨acc,h0,a3,h3,hacc,hlen⟩;simp only[go_sem,h0,YV];by_cases hn:l=[]
  ·subst hn;rw[Yay,GC] at hacc;subst hacc;simp only[go_sem,a3,h3]
  ·have hd:=YaJ hn;have hp:=Gam.2 hn;have k:=K188 h188 l hn;rw[show YaW l=((YaW l).1,((dN l).2:Int)) from Prod.ext rfl (Ycs hn)] at k;simp only[eLN] at k;have hle:=YcK hn;have hlim:acc.length+1≤lim:=by simp only[lim];omega
   have hc:=YT hn;simp only[go_sem,hn,h0,k];refine JiY (fun c=>?_) (fun c=>?_)
   ·have e:=Ydm hn (Gg c);simp only[go_sem,h0,a3,h3,hlim,hle];refine⟨l.drop (dN l).2,hd,acc++[65533],rfl,by simp,by simp,?_,by simp only[Gc,List.length_cons,List.length_nil];omega⟩;rw[←hacc,hc,e];simp
   ·have e:=YdQ hn (Ge c);simp only[go_sem,h0,a3,h3,hlim,hle];refine⟨l.drop (dN l).2,hd,acc++[(YaW l).1],rfl,by simp,by simp,?_,by simp only[Gc,List.length_cons,List.length_nil];omega⟩;rw[←hacc,hc,e];simp
def H168 (Pg:PgT):Prop:=Pg 168=some (.code F168)∧H188 Pg∧H189 Pg
theorem K168 (h:H168 Pg) (s:List UInt8):K' Pg 168 [.str s]=some (.bool (keyR s)):=by
 obtain⟨h,h188,h189⟩:=h;refine Qa h rfl ?_;have ez:decide ((s.length:Int)=0)=decide (s=[]):=by cases s<;>simp;omega
 simp only[go_sem,ez];by_cases hs:s=[]
 ·have e:keyR s=false:=by rw[hs];rfl
  rw[e];simp only[go_sem,hs]
 simp only[go_sem,hs];refine JiY (fun c=>?_) (fun c=>?_)
 ·have e:keyR s=false:=by
   have:=Gg c;have:decide (s.length≤16)=false:=GE (by omega);simp[keyR,this]
  rw[e];simp only[go_sem]
 have c:=Ge c;have hp:=Gam.2 hs;have e:keyR s=keyAll s.length s:=by
  have h1:decide (1≤s.length)=true:=GT (by omega);have h2:decide (s.length≤16)=true:=GT (by omega);simp only[keyR,h1,h2,Bool.and_true]
 rw[e];simp only[go_sem];unfold l168_0;refine JiX (fun (l:List UInt8) S=>S.ρ 0=.str l∧keyAll l.length l=keyAll s.length s) (fun l=>l.length) s ?_ ?_
 ·simp[go_sem]
 ·intro l S ⟨h0,hacc⟩;simp only[go_sem,h0,YV];by_cases hn:l=[]
  ·subst hn;rw[←hacc];simp only[go_sem,YcF]
  ·have hd:=YaJ hn;have k:=K188 h188 l hn;rw[show YaW l=((YaW l).1,((dN l).2:Int)) from Prod.ext rfl (Ycs hn)] at k;simp only[eLN] at k;have k9:=K189 h189 (YaW l).1;rw[Yds hn] at k9;have hle:=YcK hn;rw[Ybm hn] at hacc;simp only[go_sem,hn,h0,k,k9];cases hP:plainR (dN l).1 (dN l).2 with
   |false=>
    rw[hP,Gk] at hacc;rw[←hacc];simp only[go_sem]
   |true=>
    rw[hP,Gl] at hacc;simp only[go_sem,h0,hle];exact⟨l.drop (dN l).2,hd,rfl,hacc⟩
def H187 (Pg:PgT):Prop:=Pg 187=some (.code F187)∧H195 Pg
theorem K187 (h:H187 Pg) (a b:List UInt8) (ha:a.length≤1000000) (hb:b.length≤1000000):K' Pg 187 [.str a,.str b]=some (iz (Yq (Yl a) (Yl b))):=by
 obtain⟨h,h195⟩:=h;have ka:=K195 h195 a ha;have kb:=K195 h195 b hb;simp only[eIL] at ka kb;refine Qa h rfl ?_;simp only[go_sem,ka,kb];have la:=Yb2 a.length a (Gp _);have lb:=Yb2 b.length b (Gp _);generalize Yl a=x at *
 generalize Yl b=y at *
 unfold l187_0;refine JiX (fun (i:Nat) S=>i≤x.length∧i≤y.length∧S.ρ 5=eIL x∧S.ρ 6=eIL y∧S.ρ 7=iz i∧Yq (x.drop i) (y.drop i)=Yq x y) (fun i=>x.length-i) 0 ?_ ?_
 ·simp[go_sem]
 ·intro i S ⟨hi,hj,h5,h6,h7,ho⟩;simp only[go_sem,h5,h7];by_cases hx:i<x.length
  ·have ex:decide ((i:Int)<(x.length:Int))=true:=GT (by omega);obtain⟨u,hu,hdx⟩:=JiF hx;by_cases hy:i<y.length
   ·have ey:decide ((i:Int)<(y.length:Int))=true:=GT (by omega);obtain⟨v,hv,hdy⟩:=JiF hy;rw[hdx,hdy] at ho;simp only[go_sem,h5,h6,h7,ex,ey,hu,hv];refine JiY (fun c=>?_) (fun c=>?_)
    ·rw[Ya1 (Gg c)] at ho;simp only[go_sem,←ho]
    ·have c:=Ge c;simp only[go_sem,h5,h6,h7,hu,hv];refine JiY (fun d=>?_) (fun d=>?_)
     ·rw[Ybj (Gg d)] at ho;simp only[go_sem,←ho]
     ·have d:=Ge d;obtain rfl:u=v:=by omega
      rw[Ybi] at ho;simp only[go_sem,h5,h6,h7];exact⟨i+1,by omega,by omega,by omega,by rw[Yi hx (by omega)],ho⟩
   ·have ey:decide ((i:Int)<(y.length:Int))=false:=GE (by omega);have e1:decide ((x.length:Int)<(y.length:Int))=false:=GE (by omega);have e2:decide ((y.length:Int)<(x.length:Int))=true:=GT (by omega);have hdy:y.drop i=[]:=List.drop_eq_nil_of_le (by omega);rw[hdx,hdy] at ho;have ho:(1:Int)=Yq x y:=ho;simp only[go_sem,h5,h6,h7,ex,ey,e1,e2,←ho]
  ·have ex:decide ((i:Int)<(x.length:Int))=false:=GE (by omega);simp only[go_sem,h5,h6,ex];rw[List.drop_eq_nil_of_le (by omega)] at ho;by_cases hy:i<y.length
   ·have e1:decide ((x.length:Int)<(y.length:Int))=true:=GT (by omega);obtain⟨v,hv,hdy⟩:=JiF hy;rw[hdy] at ho;have ho:(-1:Int)=Yq x y:=ho;simp only[go_sem,e1,←ho]
   ·have e1:decide ((x.length:Int)<(y.length:Int))=false:=GE (by omega);have e2:decide ((y.length:Int)<(x.length:Int))=false:=GE (by omega);rw[List.drop_eq_nil_of_le (by omega)] at ho;have ho:(0:Int)=Yq x y:=ho;simp only[go_sem,h5,h6,e1,e2,←ho]
def H192 (Pg:PgT):Prop:=Pg 192=some (.code F192)∧H190 Pg
theorem K192 (h:H192 Pg) (a b:List UInt8):K' Pg 192 [.str a,.str b]=some (iz (Yq (Yl a) (Yl b))):=by
 obtain⟨h,h190⟩:=h;refine Qa h rfl ?_;simp only[go_sem];unfold l192_0;refine JiX (fun (p:List UInt8×List UInt8) S=>S.ρ 0=.str p.1∧S.ρ 1=.str p.2∧Yq (Yl p.1) (Yl p.2)=Yq (Yl a) (Yl b)) (fun p=>p.1.length) (a,b) ?_ ?_
 ·simp[go_sem]
 ·intro⟨x,y⟩ S ⟨h0,h1,ho⟩;simp only at h0 h1 ho;have k:=K190 h190 x;have k':=K190 h190 y;simp only[go_sem,h0];by_cases hx:x=[]
  ·subst hx;rw[Yay] at ho;by_cases hy:y=[]
   ·subst hy;have ho:(0:Int)=Yq (Yl a) (Yl b):=ho;simp only[go_sem,h0,h1,←ho]
   ·rw[YT hy] at ho;have ho:(-1:Int)=Yq (Yl a) (Yl b):=ho;simp only[go_sem,h0,h1,hy,←ho]
  ·by_cases hy:y=[]
   ·subst hy;rw[YT hx,Yay] at ho;have ho:(1:Int)=Yq (Yl a) (Yl b):=ho;simp only[go_sem,h0,h1,hx,←ho]
   ·rw[YT hx,YT hy] at ho;have ex:Jc0 x=dN x:=by rw[Jc0,Gq hx]
    have ey:Jc0 y=dN y:=by rw[Jc0,Gq hy]
    rw[ex] at k;rw[ey] at k';have lx:=YcK hx;have ly:=YcK hy;have hd:=YaJ hx;simp only[go_sem,h0,h1,hx,hy,k,k'];refine JiY (fun c=>?_) (fun c=>?_)
    ·rw[Ya1 (Gg c)] at ho;simp only[go_sem,←ho]
    ·have c:=Ge c;simp only[go_sem];refine JiY (fun d=>?_) (fun d=>?_)
     ·rw[Ybj (Gg d)] at ho;simp only[go_sem,←ho]
     ·have d:=Ge d;have e:((dN x).1:Int)=((dN y).1:Int):=by omega
      rw[e,Ybi] at ho;simp only[go_sem,h0,h1,lx,ly];exact⟨(x.drop (dN x).2,y.drop (dN y).2),hd,rfl,rfl,ho⟩
structure Span where
 lo:List UInt8
 hi:List UInt8
 deriving DecidableEq
@[go_sem] def YA (s:Span):List V:=[.str s.lo,.str s.hi]
def ltS (a b:List UInt8):Bool:=decide (Yq (Yl a) (Yl b)<0)
def leS (a b:List UInt8):Bool:=decide (Yq (Yl a) (Yl b)≤0)
def Yr (s:Span):Bool:=(decide (s.lo=[])||keyR s.lo)&&(decide (s.hi=[])||(keyR s.hi&&ltS s.lo s.hi))
theorem YcE {a b:List Int}:decide (Yq a b=-1)=decide (Yq a b<0):=by
 apply G7.2;have:=Ycm a b;omega
theorem YR {l:List UInt8}:decide ((l.length:Int)=0)=decide (l=[]):=by cases l<;>simp;omega
theorem Yy {l:List UInt8} (h:keyR l=true):l.length≤16∧l≠[]:=by
 simp only[keyR,Gi,GA] at h;exact⟨h.2.2,fun e=>by rw[e] at h;simp at h⟩
def H186 (Pg:PgT):Prop:=Pg 186=some (.code F186)∧H170 Pg∧H192 Pg
theorem K186 (h:H186 Pg) (s:Span):K' Pg 186 [.agg (YA s)]=some (.bool (Yr s)):=by
 obtain⟨h,h170,h192⟩:=h;have k1:=K170 h170 s.lo;have k2:=K170 h170 s.hi;have k3:=K192 h192 s.lo s.hi;refine Qa h rfl ?_;cases c1:decide (s.lo=[])<;>cases c2:keyR s.lo<;>cases c3:decide (s.hi=[])<;>cases c4:keyR s.hi <;>
  simp only[go_sem,c1,c2,c3,c4,k1,k2,k3,Yr,ltS]
def H167 (Pg:PgT):Prop:=Pg 167=some (.code F167)∧H168 Pg∧H187 Pg
theorem K167 (h:H167 Pg) (s:Span):K' Pg 167 [.agg (YA s)]=some (.bool (Yr s)):=by
 obtain⟨h,h168,h187⟩:=h;have k1:=K168 h168 s.lo;have k2:=K168 h168 s.hi;have k3:s.lo.length≤1000000→s.hi.length≤1000000→_:=K187 h187 s.lo s.hi;refine Qa h rfl ?_;cases c1:decide (s.lo=[]) with
 |true=>
  have hl:s.lo.length≤1000000:=by rw[Gg c1];simp
  cases c3:decide (s.hi=[]) with
  |true=>simp only[go_sem,c1,c3,YR,YV,Yr]
  |false=>
   cases c4:keyR s.hi with
   |false=>simp only[go_sem,c1,c3,c4,k2,YR,YV,Yr]
   |true=>simp only[go_sem,c1,c3,c4,k2,k3 hl (by have:=Yy c4;omega),YR,YV,Yr,ltS,YcE]
 |false=>
 cases c2:keyR s.lo with
 |false=>simp only[go_sem,c1,c2,k1,YV,Yr]
 |true=>
  have hl:s.lo.length≤1000000:=by have:=Yy c2;omega
  cases c3:decide (s.hi=[]) with
  |true=>simp only[go_sem,c1,c2,c3,k1,YR,YV,Yr]
  |false=>
   cases c4:keyR s.hi with
   |false=>simp only[go_sem,c1,c2,c3,c4,k1,k2,YR,YV,Yr]
   |true=>simp only[go_sem,c1,c2,c3,c4,k1,k2,k3 hl (by have:=Yy c4;omega),YR,YV,Yr,ltS,YcE]
theorem YbO {s:Span} (h:Yr s=true):s.lo.length≤16∧s.hi.length≤16:=by
 simp only[Yr,Gi,Gai,GA] at h;constructor
 ·rcases h.1 with e|e
  ·rw[e];simp
  ·exact (Yy e).1
 ·rcases h.2 with e|e
  ·rw[e];simp
  ·exact (Yy e.1).1
def Yac (s:Span) (k:List UInt8):Bool:=Yr s&&(keyR k&&(leS s.lo k&&(decide (s.hi=[])||ltS k s.hi)))
def H169 (Pg:PgT):Prop:=Pg 169=some (.code F169)∧H187 Pg
theorem Yd5 {a b:List Int}:decide (0≤Yq a b)=decide (Yq b a≤0):=by
 apply G7.2;have:=YaP a b;omega
theorem K169 (h:H169 Pg) (k lo hi:List UInt8) (h1:k.length≤1000000) (h2:lo.length≤1000000) (h3:hi.length≤1000000):K' Pg 169 [.str k,.str lo,.str hi]=some (.bool (leS lo k&&(decide (hi=[])||ltS k hi))):=by
 obtain⟨h,h187⟩:=h;have k1:=K187 h187 k lo h1 h2;have k2:=K187 h187 k hi h1 h3;refine Qa h rfl ?_;cases c3:decide (Yq (Yl lo) (Yl k)≤0)<;>cases c4:decide (hi=[]) <;>
  simp only[go_sem,c3,c4,k1,k2,leS,ltS,Yd5,YR]
def H142 (Pg:PgT):Prop:=Pg 142=some (.code F142)∧H167 Pg∧H168 Pg∧H169 Pg
theorem K142 (h:H142 Pg) (s:Span) (k:List UInt8):K' Pg 142 [.agg (YA s),.str k]=some (.bool (Yac s k)):=by
 obtain⟨h,h167,h168,h169⟩:=h;have k1:=K167 h167 s;have k2:=K168 h168 k;simp only[YA] at k1;refine Qa h rfl ?_;cases c1:Yr s with
 |false=>simp only[go_sem,c1,k1,Yac]
 |true=>
 cases c2:keyR k with
 |false=>simp only[go_sem,c1,c2,k1,k2,Yac]
 |true=>
  have l1:=YbO c1;have l2:=Yy c2;have k3:=K169 h169 k s.lo s.hi (by omega) (by omega) (by omega);simp only[go_sem,c1,c2,k1,k2,k3,Yac]
def YaO (lo hi:List UInt8):Bool:=decide (hi=[])||ltS lo hi
theorem Ya9 {s:Span} (h:Yr s=true):(decide (s.lo=[])||keyR s.lo)=true:=by
 simp only[Yr,Gi] at h;exact h.1
theorem Y9 {s:Span} (h:Yr s=true):s.hi=[]∨(keyR s.hi=true∧Yq (Yl s.lo) (Yl s.hi)<0):=by
 simp only[Yr,Gi,Gai,GA,ltS] at h;exact h.2
theorem Ybp {lo hi:List UInt8} (h1:(decide (lo=[])||keyR lo)=true) (h2:hi=[]∨keyR hi=true):Yr ⟨lo,hi⟩=YaO lo hi:=by
 simp only[Yr,YaO,h1,Gl];rcases h2 with e|e
 ·rw[GT e];rfl
 ·rw[e,Gl]
theorem Ya0 {lo hi:List UInt8}:YaO lo hi=true↔hi=[]∨Yq (Yl lo) (Yl hi)<0:=by
 simp[YaO,ltS]
def Y4:Span:=⟨[],[]⟩
@[go_sem] def eSE (x:Span×Int):V:=.tuple [.agg (YA x.1),iz x.2]
def YQ (a b:Span):Span×Int:=
 if Yr a&&Yr b then (if decide (a.hi=[])||!decide (a.hi=b.lo) then (Y4,9) else (⟨a.lo,b.hi⟩,0)) else (Y4,1)
def H184 (Pg:PgT):Prop:=Pg 184=some (.code F184)∧H167 Pg
theorem K184 (h:H184 Pg) (a b:Span):K' Pg 184 [.agg (YA a),.agg (YA b)]=some (eSE (YQ a b)):=by
 obtain⟨h,h167⟩:=h;have k1:=K167 h167 a;have k2:=K167 h167 b;simp only[YA] at k1 k2;refine Qa h rfl ?_;cases c1:Yr a<;>cases c2:Yr b<;>cases c3:decide (a.hi=[])<;>cases c4:decide (a.hi=b.lo) <;>
  simp only[go_sem,c1,c2,c3,c4,k1,k2,YQ,Y4,YR]
def later (a b:Stamp):Stamp:=if Yc a b<0 then b else a
structure Entr where
 key:List UInt8
 chain:List Ver
 deriving DecidableEq
@[go_sem] def YG (e:Entr):List V:=[.str e.key,Yb e.chain]
@[go_sem] def Yn (l:List Entr):V:=.slice 2 (l.map YG)
def Sm (l:List Entr):Prop:=l.length≤10000∧∀e∈l,e.chain.length≤10000∧e.key.length≤10000
theorem Sm.len {l:List Entr} (h:Sm l):l.length≤10000:=h.1
theorem Sm.at {l:List Entr} (h:Sm l) {i:Nat} {e:Entr} (he:l[i]?=some e):e.chain.length≤10000∧e.key.length≤10000:=h.2 e (List.mem_of_getElem? he)
def YdT (z n:Nat):Option (Nat×List (List V)×Fz)→Option V
 |some (z',rows,.live)=>if z'=z∧rows.length=n then some (.slice z rows) else none
 |_=>none
@[go_sem] theorem Yfe {z n:Nat} {rows:List (List V)}:YdT z n (some (z,rows,.live))=if rows.length=n then some (.slice z rows) else none:=by simp[YdT]
@[go_sem] theorem Yfh {A:Nat→Option (Nat×List (List V)×Fz)} {s z n:Nat}:Jbx A (some 0) 0 (.own s z n)=YdT z n (A s):=by
 unfold Jbx YdT;rw[Gx rfl]
 rfl
theorem Sm.take {l:List Entr} (h:Sm l) {n:Nat}:Sm (l.take n):=⟨by have:=h.1;simp;omega,fun e he=>h.2 e (Gak he)⟩
theorem Sm.drop {l:List Entr} (h:Sm l) {n:Nat}:Sm (l.drop n):=⟨by have:=h.1;simp;omega,fun e he=>h.2 e (Gaf he)⟩
structure Ans where
 err:Int
 at_:Stamp
 found:Bool
 val:List UInt8
 items:List (List UInt8×List UInt8)
 next:List UInt8
 more:Bool
 deriving DecidableEq
structure Done where
 client:Int
 req:Int
 ans:Ans
 deriving DecidableEq
@[go_sem] def YeA (p:List UInt8×List UInt8):List V:=[.str p.1,.str p.2]
@[go_sem] def YK (l:List (List UInt8×List UInt8)):V:=.slice 2 (l.map YeA)
@[go_sem] def YC (d:Done):List V:=[iz d.client,iz d.req,iz d.ans.err,iz d.ans.at_.wall,iz d.ans.at_.tick,iz d.ans.at_.node,.bool d.ans.found,.str d.ans.val,YK d.ans.items,.str d.ans.next,.bool d.ans.more]
@[go_sem] def Yp (l:List Done):V:=.slice 11 (l.map YC)
@[go_sem] def Ybw (l:List Span):V:=.slice 2 (l.map YA)
def wg:Bool→List UInt8→List Span→Bool
 |_,last,[]=>decide (last=[])
 |f,last,x::l=>Yr x&&(decide (x.lo=last)&&((f||!decide (last=[]))&&wg false x.hi l))
def Yav (l:List Span):Bool:=!decide (l=[])&&wg true [] l
theorem YcR {α:Type} [DecidableEq α] {l:List α}:decide ((l.length:Int)=0)=decide (l=[]):=by cases l<;>simp;omega
theorem Y6 {α:Type} [DecidableEq α] {l:List α}:decide ((0:Int)<(l.length:Int))=!decide (l=[]):=by cases l<;>simp
def H166 (Pg:PgT):Prop:=Pg 166=some (.code F166)∧H186 Pg
theorem K166 (h:H166 Pg) (l:List Span) (hl:l.length<2 ^ 60):K' Pg 166 [Ybw l]=some (.bool (Yav l)):=by
 obtain⟨h,h186⟩:=h;have k:=fun x=>K186 h186 x;simp only[YA] at k;refine Qa h rfl ?_;simp only[go_sem];unfold l166_0;refine JiX (fun (i:Nat) S=>i≤l.length∧S.ρ 0=Ybw l∧S.μ 5=none∧S.ρ 6=Ybw l∧S.ρ 7=iz l.length∧S.ρ 8=iz i∧∃last,S.ρ 3=.str last∧wg (decide (i=0)) last (l.drop i)=wg true [] l) (fun i=>l.length-i) 0 ?_ ?_
 ·simp[go_sem]
 ·intro i S ⟨hi,h0,m5,h6,h7,h8,last,h3,ho⟩;simp only[go_sem,h7,h8];refine JiY (fun h=>?_) (fun h=>?_)
  ·have h:=Yg h;obtain⟨x,hx,hd⟩:=JiF h;rw[hd] at ho;simp only[wg] at ho;simp only[go_sem,m5,h6,h8,hx,k];cases c1:Yr x with
   |false=>rw[c1,Gk] at ho;simp only[go_sem,Yav,←ho]
   |true=>
   cases c2:decide (x.lo=last) with
   |false=>rw[c1,c2] at ho;simp only[Gk,GH] at ho;simp only[go_sem,c2,Yav,←ho,h3]
   |true=>
   rw[c1,c2] at ho;simp only[Gl] at ho;cases c3:decide (i=0) with
   |true=>
    rw[c3] at ho;simp only[Bool.true_or,Gl] at ho;simp only[go_sem,c2,c3,h0,h3,h6,h7,h8,YcI];exact⟨i+1,by omega,by omega,by rw[Yi h hl],_,rfl,ho⟩
   |false=>
    rw[c3] at ho;simp only[Bool.false_or] at ho;cases c4:decide (last=[]) with
    |true=>rw[c4] at ho;simp only[GX,Gk] at ho;simp only[go_sem,c2,c3,c4,Yav,←ho,h3,YcI]
    |false=>
     rw[c4] at ho;simp only[GG,Gl] at ho;simp only[go_sem,c2,c3,c4,h0,h3,h6,h7,h8,YcI];exact⟨i+1,by omega,by omega,by rw[Yi h hl],_,rfl,ho⟩
  ·have h:=Yo hi h;subst h;rw[GN] at ho;simp only[wg] at ho;simp only[go_sem,h0,Y6,Yav,←ho];cases c:decide (l=[])<;>simp only[go_sem,h3]
def rg:Span→List Span→Bool
 |s,[]=>decide (s=Y4)
 |s,x::l=>if (YQ s x).2=0 then rg (YQ s x).1 l else false
theorem Yd1:∀(l:List Span) (s:Span),s.lo≠[]→rg s l=false
 |[],s,h=>by
  simp only[rg];exact GE fun e=>h (by rw[e];rfl)
 |x::l,s,h=>by
  simp only[rg];split
  ·refine Yd1 l _ ?_;rename_i he;simp only[YQ] at he ⊢;split at he
   ·split at he
    ·simp at he
    ·rename_i h1 h2;rw[Gx h1,Gq h2];exact h
   ·simp at he
  ·rfl
theorem Yd2:∀(l:List Span) (s:Span),Yr s=true→s.lo=[]→rg s l=wg false s.hi l
 |[],s,hs,h=>by
  simp only[rg,wg];exact G7.2 ⟨fun e=>by rw[e];rfl,fun e=>by cases s;simp only at h e;rw[h,e];rfl⟩
 |x::l,s,hs,h=>by
  simp only[rg,wg];cases c1:Yr x with
  |false=>
   have:YQ s x=(Y4,1):=by simp only[YQ,hs,c1];rfl
   rw[this];rfl
  |true=>
  cases c2:decide (s.hi=[]) with
  |true=>
   have:YQ s x=(Y4,9):=by simp only[YQ,hs,c1,c2];rfl
   rw[this];simp
  |false=>
  cases c3:decide (s.hi=x.lo) with
  |false=>
   have:YQ s x=(Y4,9):=by simp only[YQ,hs,c1,c2,c3];rfl
   have e:decide (x.lo=s.hi)=false:=GE fun e=>Ge c3 e.symm;rw[this,e];simp
  |true=>
   have:YQ s x=(⟨s.lo,x.hi⟩,0):=by simp only[YQ,hs,c1,c2,c3];rfl
   have e:decide (x.lo=s.hi)=true:=GT (Gg c3).symm;rw[this,e];have hr:Yr ⟨s.lo,x.hi⟩=true:=by
    have q:=Y9 c1;rw[Ybp (Ya9 hs) (q.imp id fun e=>e.1),h,Ya0];rcases q with q|q
    ·exact .inl q
    ·right;rw[Yay,YT (Yy q.1).2];simp[Yq]
   simp only[GK,GG,Bool.or_true,Gl];exact Yd2 l _ hr h
theorem YdH (l:List Span):Yav l=match l with|[]=>false|s::l=>Yr s&&rg s l:=by
 cases l with
 |nil=>rfl
 |cons s l=>
  have:decide (s::l=[])=false:=rfl;simp only[Yav,this,GG,Gl,wg,Bool.true_or];cases c1:Yr s with
  |false=>rfl
  |true=>
   by_cases h:s.lo=[]
   ·rw[Yd2 l s c1 h,GT h];rfl
   ·rw[Yd1 l s h,GE h];rfl
def H174 (Pg:PgT):Prop:=Pg 174=some (.code F174)∧H167 Pg∧H184 Pg
theorem K174 (h:H174 Pg) (l:List Span) (hl:l.length<2 ^ 60):K' Pg 174 [Ybw l]=some (.bool (Yav l)):=by
 obtain⟨h,h167,h184⟩:=h;rw[YdH];refine Qa h rfl ?_;cases l with
 |nil=>simp only[go_sem]
 |cons s l=>
  have k1:=K167 h167 s;have k2:=fun a b=>K184 h184 a b;simp only[YA,eSE] at k1 k2;have hz:decide (((l.length+1:Nat):Int)=0)=false:=GE (by omega);cases c1:Yr s with
  |false=>simp only[go_sem,c1,k1,hz]
  |true=>
   simp only[go_sem,c1,k1,hz];unfold l174_0;refine JiX (fun (i:Nat) S=>∃t,i≤l.length∧S.ρ 0=Ybw (s::l)∧S.ρ 3=.lref 3 0∧S.μ 3=some (YA t,false)∧S.μ 5=none∧S.ρ 4=iz ((i+1:Nat):Int)∧rg t (l.drop i)=rg s l) (fun i=>l.length-i) 0 ?_ ?_
   ·exact⟨s,by simp[go_sem]⟩
   ·intro i S ⟨t,hi,h0,h3,m3,m5,h4,ho⟩;have e1:decide (((i+1:Nat):Int)<((l.length+1:Nat):Int))=decide (i<l.length):=G7.2 (by omega);simp only[go_sem,h0,h4,e1];refine JiY (fun h=>?_) (fun h=>?_)
    ·have h:=Gg h;obtain⟨x,hx,hd⟩:=JiF h;have hx':(s::l)[i+1]?=some x:=by simpa using hx
     have hinc:IntKind.i64.wrap (((i+1:Nat):Int)+1)=((i+1+1:Nat):Int):=JiV (by simp only[List.length_cons] at hl;omega) (by simp only[List.length_cons] at hl;omega);rw[hd] at ho;simp only[rg] at ho;simp only[go_sem,h0,h3,m3,m5,h4,hx,k2];cases c2:decide ((YQ t x).2=0) with
     |false=>
      rw[Gq (Ge c2)] at ho;simp only[go_sem,←ho]
     |true=>
      rw[Gx (Gg c2)] at ho;simp only[go_sem,h0,h3,m3,h4];exact⟨i+1,by omega,(YQ t x).1,by omega,rfl,by rw[hinc],ho⟩
    ·have h:i=l.length:=by have:=Ge h;omega
     subst h;rw[GN] at ho;simp only[rg] at ho;have e:(decide (t.lo=[])&&decide (t.hi=[]))=decide (t=Y4):=by
      cases t;simp only[Y4,Span.mk.injEq,Bool.decide_and]
     simp only[go_sem,h3,m3,e,ho]
structure Shd where
 id:Int
 epoch:Int
 span:Span
 phase:Int
 ents:List Entr
 mark:Stamp
 top:Stamp
 done:List Done
 hold:Int
 seen:Int
 move:Int
 closed:Int
@[go_sem] def YW (s:Shd):List V:=[iz s.id,iz s.epoch,.str s.span.lo,.str s.span.hi,iz s.phase,Yn s.ents,iz s.mark.wall,iz s.mark.tick,iz s.mark.node,iz s.top.wall,iz s.top.tick,iz s.top.node,Yp s.done,iz s.hold,iz s.seen,iz s.move,iz s.closed]
def gN (D:Bool):Rd→Nat×Rd:=bif D then cu (tk 9) 0 else rd (tk 9) 0
def gT (D:Bool):Rd→List UInt8×Rd:=bif D then cu tkT [] else rd tkT []
def gF (D:Bool):Rd→Bool×Rd:=bif D then cu tkF false else rd tkF false
def gS (D:Bool):Rd→Stamp×Rd:=bif D then cu tkS zS else rd tkS zS
def gL (D:Bool) {α:Type} (R:Rd→α×Rd):Rd→List α×Rd:=bif D then lstD R else lstP R
theorem cN {D:Bool}:Cod (gN D) putB (fun n=>n<2 ^ 63):=by
 cases D
 ·exact codN
 ·exact Yaq
theorem cT {D:Bool}:Cod (gT D) Ym (fun t=>t.length<2 ^ 63):=by
 cases D
 ·exact Cod.rd Yc1
 ·exact Cod.cu Yc1
theorem cF {D:Bool}:Cod (gF D) YI (fun _=>True):=by
 have h:∀{s r:List UInt8} {b:Bool},tkF s=some (b,r)↔s=YI b++r∧True:=fun {s r b}=>by rw[YdY];simp
 cases D
 ·exact Cod.rd h
 ·exact Cod.cu h
theorem cS {D:Bool}:Cod (gS D) stB (fun s=>Ya s=true):=by
 cases D
 ·exact Cod.rd Yc0
 ·exact Cod.cu Yc0
theorem cL {D:Bool} {α:Type} {R:Rd→α×Rd} {W:α→List UInt8} {P:α→Prop} (h:Cod R W P) (hW:∀a,P a→1≤(W a).length):Cod (gL D R) (YJ W) (fun l=>l.length<2 ^ 63∧∀a∈l,P a):=by
 cases D
 ·exact h.lstP hW
 ·exact h.lstD
theorem Yah {t:List UInt8}:1≤(Ym t).length:=by
 have:=putB_pos t.length;simp only[Ym,Gc];omega
structure Rb where
 s:List UInt8
 no:Bool
 h:s.length≤2 ^ 29
def Rb.d (x:Rb):Rd:=(x.s,x.no)
def eR (x:Rb):List V:=[.str x.s,.bool x.no]
theorem YbI (x:Rb):(eR x).all V.datC=true:=rfl
theorem Ydd (x:Rb) (z:Nat):V.nslice z∉eR x:=by simp[eR]
theorem Yee (x:Rb):(eR x).length=2:=rfl
theorem Ye7 (x:Rb):(eR x)[0]?=some (.str x.s):=rfl
theorem Ye8 (x:Rb):(eR x)[1]?=some (.bool x.no):=rfl
theorem YdN {A:AA} (x:Rb):Jag (eR x) A=some (eR x,A):=YbL (YbI x) (Ydd x)
theorem YdO {A:AA} {d:Nat} (x:Rb):JI d (eR x) A=some (eR x,A):=YbP (YbI x)
variable {α β:Type}
structure Rg (α:Type) where
 f:Rd→α×Rd
 le:∀x,(f x).2.1.length≤x.1.length
def Rg.v (R:Rg α) (x:Rb):α:=(R.f x.d).1
def Rg.n (R:Rg α) (x:Rb):Rb:=⟨(R.f x.d).2.1,(R.f x.d).2.2,Gr (R.le x.d) x.h⟩
theorem Rg.k {R:Rg α} {f:Nat} {e:α→V} (k:∀x:Rd,x.1.length<2 ^ 62→K' Pg f [.tuple (.lref 0 0::eRd x)]=some (.tuple [e (R.f x).1,.tuple (eRd (R.f x).2)])) (x:Rb) :
  K' Pg f [.tuple (.lref 0 0::eR x)]=some (.tuple [e (R.v x),.tuple (eR (R.n x))]):=k x.d (by have:=x.h;show x.s.length<_;omega)
def uN (D:Bool):Rg Nat:=⟨gN D,cN.len⟩
def uT (D:Bool):Rg (List UInt8):=⟨gT D,cT.len⟩
def uF (D:Bool):Rg Bool:=⟨gF D,cF.len⟩
def uS (D:Bool):Rg Stamp:=⟨gS D,cS.len⟩
def Rg.pair (R:Rg α) (Q:Rg β):Rg (α×β):=⟨pairR R.f Q.f,fun x=>Gr (Q.le _) (R.le x)⟩
def Rg.map (g:α→β) (R:Rg α):Rg β:=⟨mapR g R.f,R.le⟩
theorem Rg.pair_v {R:Rg α} {Q:Rg β} {x:Rb}:(R.pair Q).v x=(R.v x,Q.v (R.n x)):=rfl
theorem Rg.pair_n {R:Rg α} {Q:Rg β} {x:Rb}:(R.pair Q).n x=Q.n (R.n x):=rfl
theorem Rg.map_v {g:α→β} {R:Rg α} {x:Rb}:(Rg.map g R).v x=g (R.v x):=rfl
theorem Rg.map_n {g:α→β} {R:Rg α} {x:Rb}:(Rg.map g R).n x=R.n x:=rfl
theorem Ycj {R:Rg α}:∀(k:Nat) (x:Rd),(YF R.f k x).2.1.length≤x.1.length
 |0,x=>Gp _
 |k+1,x=>Gr (Ycj k _) (R.le x)
theorem Yci {R:Rg α}:∀(k:Nat) (x:Rd),(YE R.f k x).2.1.length≤x.1.length
 |0,x=>Gp _
 |k+1,x=>by
  simp only[YE];split
  ·exact Gp _
  ·exact Gr (Yci k _) (R.le x)
def Rg.rep (D:Bool) (R:Rg α) (k:Nat):Rg (List α):=bif D then ⟨YE R.f k,Yci k⟩ else ⟨YF R.f k,Ycj k⟩
theorem Ydt (x:Rd):(rL x).2.1.length≤x.1.length:=by
 unfold rL;split
 ·exact codN.len x
 ·exact codN.len x
def uL (D:Bool):Rg Nat:=bif D then uN true else ⟨rL,Ydt⟩
def Rg.lst (D:Bool) (R:Rg α):Rg (List α):=⟨gL D R.f,fun x=>by
 cases D
 ·exact Gr (Ycj _ _) (Ydt x)
 ·exact Gr (Yci _ _) (Yaq.len x)⟩
theorem Rg.lst_v {D:Bool} {R:Rg α} {x:Rb}:(R.lst D).v x=(R.rep D ((uL D).v x)).v ((uL D).n x)∧(R.lst D).n x=(R.rep D ((uL D).v x)).n ((uL D).n x):=by
 cases D<;>exact⟨rfl,rfl⟩
theorem Yb4 {x:Rb}:(uL false).v x≤2 ^ 29:=by
 have h1:=((uN false).n x).h
 show (rL x.d).1≤_
 unfold rL;split
 ·exact GJ _
 ·rename_i h;have h2:(rd (tk 9) 0 x.d).2.1.length≤2 ^ 29:=h1;omega
theorem rep_step {R:Rg α} {m j:Nat} {x y:Rb} {vs:List α} (hj:j<m) (h:(R.rep false m).v x=vs++(R.rep false (m-j)).v y∧(R.rep false m).n x=(R.rep false (m-j)).n y) :
  (R.rep false m).v x=(vs++[R.v y])++(R.rep false (m-(j+1))).v (R.n y)∧(R.rep false m).n x=(R.rep false (m-(j+1))).n (R.n y):=by
 rw[h.1,h.2,show m-j=(m-(j+1))+1 by omega,Gs]
 exact⟨rfl,rfl⟩
theorem YaR {R:Rg α} {m:Nat} {x y:Rb} {vs:List α} (h:(R.rep false m).v x=vs++(R.rep false (m-m)).v y∧(R.rep false m).n x=(R.rep false (m-m)).n y) :
  (R.rep false m).v x=vs∧(R.rep false m).n x=y:=by
 rw[h.1,h.2,Nat.sub_self]
 exact⟨GC _,rfl⟩
structure Place where
 span:Span
 shard:Int
 cell:Int
 epoch:Int
 deriving DecidableEq
@[go_sem] def ePl (p:Place):List V:=[.str p.span.lo,.str p.span.hi,iz p.shard,iz p.cell,iz p.epoch]
@[go_sem] def Yz (l:List Place):V:=.slice 5 (l.map ePl)
def Y0 (n:Int):Bool:=decide (1≤n)&&decide (n≤1099511627776)
def YaS (n:Int):Bool:=decide (1≤n)&&decide (n≤3)
def YaX (p:Place):Bool:=Y0 p.shard&&(Y0 p.epoch&&YaS p.cell)
def gR:List Place→Bool
 |[]=>true
 |p::l=>YaX p&&(!(l.any fun q=>decide (q.shard=p.shard))&&gR l)
def gA:List Place→List Place→Bool
 |_,[]=>true
 |seen,p::l=>YaX p&&(!(seen.any fun q=>decide (q.shard=p.shard))&&gA (seen++[p]) l)
theorem Yd0:∀(l seen:List Place),gA seen l=(gR l&&l.all fun p=>!(seen.any fun q=>decide (q.shard=p.shard)))
 |[],seen=>by simp[gA,gR]
 |p::l,seen=>by
  have h1:(l.all fun q=>!((seen++[p]).any fun r=>decide (r.shard=q.shard)))=((l.all fun q=>!(seen.any fun r=>decide (r.shard=q.shard)))&&!(l.any fun q=>decide (q.shard=p.shard))):=by
   rw[List.not_any_eq_all_not];rw[Bool.eq_iff_iff];simp only[Gi,Gw,GP,List.any_append,List.any_cons,List.any_nil,Bool.or_false,Bool.or_eq_false_iff,G1];exact⟨fun h=>⟨fun q hq=>(h q hq).1,fun q hq=>fun e=>(h q hq).2 e.symm⟩,fun h q hq=>⟨h.1 q hq,fun e=>h.2 q hq e.symm⟩⟩
  simp only[gA,gR,List.all_cons,Yd0 l (seen++[p]),h1];cases YaX p<;>cases (seen.any fun q=>decide (q.shard=p.shard))<;>cases (l.any fun q=>decide (q.shard=p.shard))<;>cases gR l<;>simp
def Yv (l:List Place):Bool:=decide (l.length≤8)&&(gR l&&Yav (l.map Place.span))
theorem Ye9 {l:List Place}:gA [] l=gR l:=by
 rw[Yd0];simp
def H162 (Pg:PgT):Prop:=Pg 162=some (.code F162)
theorem K162 (h:H162 Pg) (n:Int):K' Pg 162 [iz n]=some (.bool (Y0 n)):=by
 refine Qa h rfl ?_;simp only[go_sem];cases c1:decide (1≤n)<;>simp only[go_sem,c1,Y0]
def H163 (Pg:PgT):Prop:=Pg 163=some (.code F163)
theorem K163 (h:H163 Pg) (n:Int):K' Pg 163 [iz n]=some (.bool (YaS n)):=by
 refine Qa h rfl ?_;simp only[go_sem];cases c1:decide (1≤n)<;>simp only[go_sem,c1,YaS]
theorem YeU {n:Int}:decide (0<n)=decide (1≤n):=G7.2 (by omega)
def H173 (Pg:PgT):Prop:=Pg 173=some (.code F173)
theorem K173 (h:H173 Pg) (n:Int):K' Pg 173 [iz n]=some (.bool (Y0 n)):=by
 refine Qa h rfl ?_;simp only[go_sem,YeU];cases c1:decide (1≤n)<;>simp only[go_sem,c1,Y0]
def H164 (Pg:PgT):Prop:=Pg 164=some (.code F164)
theorem K164 (h:H164 Pg) (q p:Place):K' Pg 164 [.agg (ePl q),.cptr (ePl p) 0]=some (.bool (decide (q.shard=p.shard))):=by
 refine Qa h rfl ?_;simp only[go_sem]
def YaV:List Place→(Place→Bool)→Nat→Int
 |[],_,_=>-1
 |a::l,p,i=>if p a then i else YaV l p (i+1)
theorem Ycq:∀{l:List Place} {p:Place→Bool} {i:Nat},decide (0≤YaV l p i)=l.any p
 |[],p,i=>by simp[YaV]
 |a::l,p,i=>by
  simp only[YaV];split
  ·rename_i h;simp[h]
  ·rename_i h;rw[Ycq];simp[h]
def H185 (Pg:PgT):Prop:=Pg 185=some (.code F185)
theorem K185 (h:H185 Pg) (l:List Place) (g:Nat) (cap:List V) (p:Place→Bool) (hl:l.length<2 ^ 60) (hg:∀x∈l,K' Pg g (.agg (ePl x)::cap)=some (.bool (p x))) :
  K' Pg 185 [Yz l,.func g cap]=some (iz (YaV l p 0)):=by
 refine Qa h rfl ?_
 simp only[ePl] at hg
 simp only[go_sem]
 unfold l185_0
 refine JiX (fun (i:Nat) S=>i≤l.length∧S.ρ 0=Yz l∧S.ρ 1=.func g cap∧S.ρ 7=iz l.length∧S.ρ 8=iz i∧YaV (l.drop i) p i=YaV l p 0) (fun i=>l.length-i) 0 ?_ ?_
 ·simp[go_sem]
 ·intro i S ⟨hi,h0,h1,h7,h8,ho⟩
  simp only[go_sem,h7,h8]
  refine JiY (fun h=>?_) (fun h=>?_)
  ·have h:=Yg h
   obtain⟨x,hx,hd⟩:=JiF h
   rw[hd] at ho
   have hgx:=hg x (List.mem_of_getElem? hx)
   simp only[go_sem,h0,h1,h8,hx,hgx]
   refine JiY (fun hc=>?_) (fun hc=>?_)
   ·simp only[YaV,hc,GK] at ho
    simp only[go_sem,←ho]
   ·simp only[YaV,hc,Gt,GI] at ho
    simp only[go_sem,h0,h1,h7,h8]
    exact⟨i+1,by omega,by omega,by rw[Yi h hl],ho⟩
  ·have h:=Yo hi h
   subst h
   simp only[GN,YaV] at ho
   simp only[go_sem,←ho]
def H165 (Pg:PgT):Prop:=Pg 165=some (.code F165)∧H185 Pg
theorem K165 (h:H165 Pg) (l:List Place) (g:Nat) (cap:List V) (p:Place→Bool) (hl:l.length<2 ^ 60) (hg:∀x∈l,K' Pg g (.agg (ePl x)::cap)=some (.bool (p x))) :
  K' Pg 165 [Yz l,.func g cap]=some (.bool (l.any p)):=by
 obtain⟨h,h185⟩:=h
 have k:=K185 h185 l g cap p hl hg
 simp only[Yz] at k
 refine Qa h rfl ?_
 simp only[go_sem,k,Ycq]
def H141 (Pg:PgT):Prop:=Pg 141=some (.code F141)∧H162 Pg∧H163 Pg∧H164 Pg∧H165 Pg∧H166 Pg
theorem K141 (h:H141 Pg) (l:List Place):K' Pg 141 [Yz l]=some (.bool (Yv l)):=by
 obtain⟨h,h162,h163,h164,h165,h166⟩:=h;have k162:=fun x=>K162 h162 x;have k163:=fun x=>K163 h163 x;refine Qa h rfl ?_;simp only[go_sem];refine JiY (fun hc=>?_) (fun hc=>?_)
 ·have hc:¬l.length≤8:=by have:=Gg hc;omega
  simp only[go_sem,Yv,hc]
 have hc:l.length≤8:=by have:=Ge hc;omega
 have hr:Yv l=(gR l&&Yav (l.map Place.span)):=by simp[Yv,hc]
 rw[hr];have k166:=K166 h166 (l.map Place.span) (by simp;omega);simp only[Ybw] at k166;simp only[go_sem];unfold l141_0;refine JiX (fun (i:Nat) S=>i≤l.length∧S.ρ 0=Yz l∧S.μ 5=none∧S.A 3=some (2,((l.take i).map Place.span).map YA,.live)∧S.ρ 3=.own 3 2 i∧S.ρ 9=Yz l∧S.ρ 10=iz l.length∧S.ρ 11=iz i∧gA (l.take i) (l.drop i)=gR l) (fun i=>l.length-i) 0 ?_ ?_
 ·simp[go_sem,Ye9]
 ·intro i S ⟨hi,h0,m5,a3,h3,h9,h10,h11,ho⟩;have hlim:((List.map Place.span (List.take i l)).map YA).length+1≤lim:=by simp[lim];omega
  have hil:((List.map Place.span (List.take i l)).map YA).length=i:=by simp;omega
  have hlim:i+1≤lim:=by simp[lim];omega
  simp only[go_sem,h10,h11];refine JiY (fun h=>?_) (fun h=>?_)
  ·have h:=Yg h;obtain⟨x,hx,hd⟩:=JiF h;rw[hd] at ho;simp only[gA] at ho;have kc:=K165 h165 (l.take i) 164 [.cptr (ePl x) 0] (fun q=>decide (q.shard=x.shard)) (by simp;omega) (fun q _=>K164 h164 q x);simp only[Yz,ePl,List.map_take] at kc;simp only[go_sem,m5,h9,h11,hx,k162];cases c1:Y0 x.shard with
   |false=>
    simp only[YaX,c1,Gk] at ho;simp only[go_sem,←ho]
   |true=>
   cases c2:Y0 x.epoch with
   |false=>
    simp only[YaX,c1,c2,Gk,GH] at ho;simp only[go_sem,c2,←ho,k162]
   |true=>
   cases c3:YaS x.cell with
   |false=>
    simp only[YaX,c1,c2,c3,Gk,GH] at ho;simp only[go_sem,c2,c3,←ho,k162,k163]
   |true=>
   simp only[YaX,c1,c2,c3,Gl] at ho;simp only[go_sem,c2,c3,h0,k162,k163,hi,kc];cases c4:(l.take i).any (fun q=>decide (q.shard=x.shard)) with
   |true=>
    rw[c4] at ho;simp only[GX,Gk] at ho;simp only[go_sem,←ho]
   |false=>
    rw[c4] at ho;simp only[GG,Gl] at ho;simp only[go_sem,h0,a3,h3,h9,h10,h11,hil,hlim];refine⟨i+1,by omega,by omega,?_,?_,by rw[Yi h (by omega)],by rw[Yx hx];exact ho⟩
    ·rw[Yx hx];simp[YA]
    ·rfl
  ·have h:=Yo hi h;subst h;rw[Gz] at a3 ho;rw[GN] at ho;have ho:true=gR l:=ho;simp only[go_sem,a3,h3,k166,←ho]
theorem YaL {n:Int}:decide (n<1)=!decide (1≤n):=by by_cases h:1≤n<;>simp[h]<;>omega
theorem Ybc {n:Int}:decide (3<n)=!decide (n≤3):=by by_cases h:n≤3<;>simp[h]<;>omega
def H147 (Pg:PgT):Prop:=Pg 147=some (.code F147)∧H173 Pg∧H174 Pg
theorem K147 (h:H147 Pg) (l:List Place):K' Pg 147 [Yz l]=some (.bool (Yv l)):=by
 obtain⟨h,h173,h174⟩:=h;have k173:=fun x=>K173 h173 x;refine Qa h rfl ?_;simp only[go_sem];refine JiY (fun hc=>?_) (fun hc=>?_)
 ·have hc:¬l.length≤8:=by have:=Gg hc;omega
  simp only[go_sem,Yv,hc]
 have hc:l.length≤8:=by have:=Ge hc;omega
 have hr:Yv l=(gR l&&Yav (l.map Place.span)):=by simp[Yv,hc]
 rw[hr];have k174:=K174 h174 (l.map Place.span) (by simp;omega);simp only[Ybw] at k174;simp only[go_sem];unfold l147_0;refine JiX (fun (i:Nat) S=>i≤l.length∧S.ρ 0=Yz l∧S.A 3=some (2,((l.take i).map Place.span).map YA,.live)∧S.ρ 3=.own 3 2 i∧S.ρ 4=iz i∧gR (l.drop i)=gR l) (fun i=>l.length-i) 0 ?_ ?_
 ·simp[go_sem]
 ·intro i S ⟨hi,h0,a3,h3,h4,ho⟩;have hil:((List.map Place.span (List.take i l)).map YA).length=i:=by simp;omega
  have hlim:i+1≤lim:=by simp[lim];omega
  simp only[go_sem,h0,h4];refine JiY (fun h=>?_) (fun h=>?_)
  ·have h:=Yg h;obtain⟨x,hx,hd⟩:=JiF h;rw[hd] at ho;simp only[gR] at ho;simp only[go_sem,h0,a3,h3,h4,hx,k173,hil,hlim];cases c1:Y0 x.shard with
   |false=>
    simp only[YaX,c1,Gk] at ho;simp only[go_sem,←ho]
   |true=>
   cases c2:Y0 x.epoch with
   |false=>
    simp only[YaX,c1,c2,Gk,GH] at ho;simp only[go_sem,c2,←ho,h0,h4,hx,k173]
   |true=>
   cases c3:decide (1≤x.cell) with
   |false=>
    simp only[YaX,YaS,c1,c2,c3,Gk,GH] at ho;simp only[go_sem,c2,c3,←ho,h0,h4,hx,k173,YaL]
   |true=>
   cases c4:decide (x.cell≤3) with
   |false=>
    simp only[YaX,YaS,c1,c2,c3,c4,Gk,GH] at ho;simp only[go_sem,c2,c3,c4,←ho,h0,h4,hx,k173,YaL,Ybc]
   |true=>
   simp only[YaX,YaS,c1,c2,c3,c4,Gl,Bool.and_true] at ho;have hinc:IntKind.i64.wrap ((i:Int)+1)=((i+1:Nat):Int):=Yi h (by omega);simp only[go_sem,c2,c3,c4,h0,h4,hx,k173,YaL,Ybc,hinc];unfold l147_1;refine JiX (fun (j:Nat) S=>(i+1≤j∧j≤l.length)∧S.ρ 0=Yz l∧S.A 3=some (2,((l.take (i+1)).map Place.span).map YA,.live)∧S.ρ 3=.own 3 2 (i+1)∧S.ρ 4=iz i∧S.ρ 5=iz j∧((l.drop (i+1)).any fun q=>decide (q.shard=x.shard))=((l.drop j).any fun q=>decide (q.shard=x.shard))) (fun j=>l.length-j) (i+1) ?_ ?_
   ·simp[go_sem,h0,h4];refine⟨by omega,?_⟩;rw[←List.map_take,←List.map_take,Yx hx];simp[YA]
   ·intro j S ⟨hj,h0,a3,h3,h4,h5,hw⟩;simp only[go_sem,h0,h5];refine JiY (fun h'=>?_) (fun h'=>?_)
    ·have h':=Yg h';obtain⟨y,hy,hd'⟩:=JiF h';rw[hd'] at hw;simp only[List.any_cons] at hw;simp only[go_sem,h0,h4,h5,hx,hy];refine JiY (fun he=>?_) (fun he=>?_)
     ·rw[he,Bool.true_or] at hw;rw[hw] at ho;simp only[GX,Gk] at ho;simp only[go_sem,←ho]
     ·rw[he,Bool.false_or] at hw;simp only[go_sem,h0,a3,h3,h4,h5];exact⟨j+1,by omega,by omega,by rw[Yi h' (by omega)],hw⟩
    ·have h':j=l.length:=by have:=Ge h';omega
     have hw:((l.drop (i+1)).any fun q=>decide (q.shard=x.shard))=false:=by rw[hw,h',GN];rfl
     rw[hw] at ho;simp only[GG,Gl] at ho;simp only[go_sem,h0,a3,h3,h4];exact⟨i+1,by omega,by omega,rfl,rfl,by rw[hinc],ho⟩
  ·have h:=Yo hi h;subst h;rw[Gz] at a3;rw[GN] at ho;have ho:true=gR l:=ho;simp only[go_sem,a3,h3,k174,←ho]
def YX:Place:=⟨⟨[],[]⟩,0,0,0⟩
@[go_sem] def eOP (o:Option Place):V:=.tuple [.agg (ePl (o.getD YX)),.bool o.isSome]
def Yas (l:List Place) (k:List UInt8):Option Place:=l.find? fun p=>decide (k=[])||Yac p.span k
structure Lse where
 id:Int
 lft:Int
 at_:Stamp
 deriving DecidableEq
@[go_sem] def Y7 (l:Lse):List V:=[iz l.id,iz l.lft,iz l.at_.wall,iz l.at_.tick,iz l.at_.node]
@[go_sem] def YB (l:List Lse):V:=.slice 5 (l.map Y7)
def YaA (l:Lse):Bool:=decide (l.id≤1099511627776)&&(decide (1≤l.lft)&&(decide (l.lft≤20)&&Ya l.at_))
def rlR:Int→List Lse→Bool
 |_,[]=>true
 |p,d::l=>decide (p<d.id)&&(YaA d&&rlR d.id l)
def Yw (t:List Lse):Bool:=rlR 0 t&&decide (t.length≤4)
theorem Ycw {p:Int} {d:Lse} {l:List Lse}:rlR p (d::l)=(decide (p<d.id)&&(YaA d&&rlR d.id l)):=rfl
def YaB (t:List Lse) (i:Nat):Int:=if i=0 then 0 else (t[i-1]?.map Lse.id).getD 0
theorem Ycu {a b:Int}:decide (b≤a)=!decide (a<b):=by by_cases h:a<b<;>simp[h]<;>omega
theorem YbE {a b:Int}:decide (b<a)=!decide (a≤b):=by by_cases h:a≤b<;>simp[h]<;>omega
theorem Ydn {a:Int}:decide (a<1)=!decide (1≤a):=by by_cases h:1≤a<;>simp[h]<;>omega
def H126 (Pg:PgT):Prop:=Pg 126=some (.code F126)∧H28 Pg
theorem K126 (h:H126 Pg) (t:List Lse) (hl:t.length<2 ^ 60):K' Pg 126 [YB t]=some (.bool (Yw t)):=by
 obtain⟨h,h28⟩:=h;have k28:=fun x=>K28 h28 x;simp only[Yd] at k28;refine Qa h rfl ?_;simp only[go_sem];unfold l126_0;refine JiX (fun (i:Nat) S=>i≤t.length∧S.ρ 0=YB t∧S.μ 5=none∧S.ρ 3=iz (YaB t i)∧S.ρ 6=YB t∧S.ρ 7=iz t.length∧S.ρ 8=iz i∧rlR (YaB t i) (t.drop i)=rlR 0 t) (fun i=>t.length-i) 0 ?_ ?_
 ·simp[go_sem,YaB]
 ·intro i S ⟨hi,h0,m5,h3,h6,h7,h8,ho⟩;simp only[go_sem,h7,h8];refine JiY (fun h=>?_) (fun h=>?_)
  ·have h:=Yg h;obtain⟨x,hx,hd⟩:=JiF h;have hnext:YaB t (i+1)=x.id:=by simp[YaB,hx]
   rw[hd,Ycw] at ho;have e1:decide (x.id≤YaB t i)=!decide (YaB t i<x.id):=Ycu;have e2:decide (1099511627776<x.id)=!decide (x.id≤1099511627776):=YbE;have e3:decide (x.lft<1)=!decide (1≤x.lft):=Ydn;have e4:decide (20<x.lft)=!decide (x.lft≤20):=YbE;simp only[go_sem,m5,h3,h6,h8,hx,e1];cases c1:decide (YaB t i<x.id) with
   |false=>rw[c1] at ho;simp only[go_sem,Yw,←ho]
   |true=>
   cases c2:decide (x.id≤1099511627776) with
   |false=>simp only[YaA,c2,Gk,GH] at ho;simp only[go_sem,c2,e2,Yw,←ho]
   |true=>
   cases c3:decide (1≤x.lft) with
   |false=>simp only[YaA,c3,Gk,GH] at ho;simp only[go_sem,c2,c3,e2,e3,Yw,←ho]
   |true=>
   cases c4:decide (x.lft≤20) with
   |false=>simp only[YaA,c4,Gk,GH] at ho;simp only[go_sem,c2,c3,c4,e2,e3,e4,Yw,←ho]
   |true=>
   cases c5:Ya x.at_ with
   |false=>simp only[YaA,c5,Gk,GH] at ho;simp only[go_sem,c2,c3,c4,c5,e2,e3,e4,Yw,←ho,k28]
   |true=>
    simp only[YaA,c1,c2,c3,c4,c5,Gl] at ho;simp only[go_sem,c2,c3,c4,c5,e2,e3,e4,h0,h6,h7,h8,k28];exact⟨i+1,by omega,by omega,by rw[hnext],by rw[Yi h hl],by rw[hnext];exact ho⟩
  ·have h:=Yo hi h;subst h;simp only[GN,rlR] at ho;have e8:decide ((t.length:Int)≤4)=decide (t.length≤4):=G7.2 (by omega);simp only[go_sem,h0,Yw,←ho,e8]
def H114 (Pg:PgT):Prop:=Pg 114=some (.code F114)∧H24 Pg
theorem K114 (h:H114 Pg) (t:List Lse) (hl:t.length<2 ^ 60):K' Pg 114 [YB t]=some (.bool (Yw t)):=by
 obtain⟨h,h24⟩:=h;have k24:=fun x=>K24 h24 x;simp only[Yd] at k24;refine Qa h rfl ?_;simp only[go_sem];refine JiY (fun hc=>?_) (fun hc=>?_)
 ·have hc:¬t.length≤4:=by have:=Gg hc;omega
  simp only[go_sem,Yw,hc]
 have hc:t.length≤4:=by have:=Ge hc;omega
 have hrt:Yw t=rlR 0 t:=by simp[Yw,hc]
 simp only[go_sem];unfold l114_0;refine JiX (fun (i:Nat) S=>i≤t.length∧S.ρ 0=YB t∧S.ρ 3=iz i∧rlR (YaB t i) (t.drop i)=rlR 0 t∧0≤YaB t i) (fun i=>t.length-i) 0 ?_ ?_
 ·simp[go_sem,YaB]
 ·intro i S ⟨hi,h0,h3,ho,hp0⟩;simp only[go_sem,h0,h3];refine JiY (fun h=>?_) (fun h=>?_)
  ·have h:=Yg h;obtain⟨x,hx,hd⟩:=JiF h;have hnext:YaB t (i+1)=x.id:=by simp[YaB,hx]
   rw[hd,Ycw] at ho;have e0:decide (x.id<1)=!decide (1≤x.id):=Ydn;have e2:decide (1099511627776<x.id)=!decide (x.id≤1099511627776):=YbE;have e3:decide (x.lft<1)=!decide (1≤x.lft):=Ydn;have e4:decide (20<x.lft)=!decide (x.lft≤20):=YbE;simp only[go_sem,h0,h3,hx,e0];cases c1:decide (1≤x.id) with
   |false=>
    have:decide (YaB t i<x.id)=false:=by have:=Ge c1;simp;omega
    rw[this] at ho;simp only[go_sem,hrt,←ho]
   |true=>
   cases c2:decide (x.id≤1099511627776) with
   |false=>simp only[YaA,c2,Gk,GH] at ho;simp only[go_sem,c2,e2,hrt,←ho,h0,h3,hx]
   |true=>
   cases c3:decide (1≤x.lft) with
   |false=>simp only[YaA,c3,Gk,GH] at ho;simp only[go_sem,c2,c3,e2,e3,hrt,←ho,h0,h3,hx]
   |true=>
   cases c4:decide (x.lft≤20) with
   |false=>simp only[YaA,c4,Gk,GH] at ho;simp only[go_sem,c2,c3,c4,e2,e3,e4,hrt,←ho,h0,h3,hx]
   |true=>
   cases c5:Ya x.at_ with
   |false=>simp only[YaA,c5,Gk,GH] at ho;simp only[go_sem,c2,c3,c4,c5,e2,e3,e4,hrt,←ho,h0,h3,hx,k24]
   |true=>
    simp only[YaA,c2,c3,c4,c5,Gl] at ho;have hx1:1≤x.id:=Gg c1;simp only[go_sem,c2,c3,c4,c5,e2,e3,e4,h0,h3,hx,k24,YcI];rcases Gab i with hz|hz
    ·have hz':decide (i=0)=true:=by simp[hz]
     have hp:decide (YaB t i<x.id)=true:=by simp[YaB,hz];omega
     rw[hp,Gl] at ho;simp only[go_sem,hz',h0,h3];exact⟨i+1,by omega,by omega,by rw[Yi h hl],by rw[hnext];exact ho,by rw[hnext];omega⟩
    ·have hz':decide (i=0)=false:=by simp;omega
     obtain⟨y,hy,-⟩:=JiF (l:=t) (i:=i-1) (by omega);have hp:YaB t i=y.id:=by simp[YaB,hy];omega
     have hdec:=Ybv hz (by omega);rw[hp] at ho;have e1:decide (x.id≤y.id)=!decide (y.id<x.id):=Ycu;simp only[go_sem,hz',h0,h3,hx,hdec,hy,e1];cases c1:decide (y.id<x.id) with
     |false=>rw[c1] at ho;simp only[go_sem,hrt,←ho]
     |true=>
      rw[c1,Gl] at ho;simp only[go_sem,h0,h3];exact⟨i+1,by omega,by omega,by rw[Yi h hl],by rw[hnext];exact ho,by rw[hnext];omega⟩
  ·have h:=Yo hi h;subst h;simp only[GN,rlR] at ho;simp only[go_sem,hrt,←ho]
def H116 (Pg:PgT):Prop:=Pg 116=some (.code F116)
theorem K116 (h:H116 Pg) (t:List Lse) (hl:t.length<2 ^ 60):K' Pg 116 [YB t,YB t]=some (.bool true):=by
 refine Qa h rfl ?_;simp only[go_sem];unfold l116_0;refine JiX (fun (i:Nat) S=>i≤t.length∧S.ρ 0=YB t∧S.ρ 1=YB t∧S.ρ 5=iz i) (fun i=>t.length-i) 0 ?_ ?_
 ·simp[go_sem]
 ·intro i S ⟨hi,h0,h1,h5⟩;simp only[go_sem,h0,h5];refine JiY (fun h=>?_) (fun h=>?_)
  ·have h:=Yg h;obtain⟨x,hx,hd⟩:=JiF h;simp only[go_sem,h0,h1,h5,hx];exact⟨i+1,by omega,by omega,by rw[Yi h hl]⟩
  ·simp only[go_sem]
theorem Ybf {p:Int} {d:Lse} {l:List Lse} (h:rlR p (d::l)=true):p<d.id∧YaA d=true∧rlR d.id l=true:=by
 simpa [rlR] using h
theorem Yb3:∀{l:List Lse} {p:Int} {d:Lse},rlR p l=true→d∈l→p<d.id
 |[],_,_,_,h=>by simp at h
 |a::l,p,d,h,hd=>by
  obtain⟨h1,-,h3⟩:=Ybf h;rcases GW.1 hd with rfl|hd
  ·exact h1
  ·have:=Yb3 h3 hd;omega
theorem Ycx:∀{l:List Lse} {p:Int} {d:Lse},rlR p l=true→d∈l→YaA d=true
 |[],_,_,_,h=>by simp at h
 |a::l,p,d,h,hd=>by
  obtain⟨-,h2,h3⟩:=Ybf h;rcases GW.1 hd with rfl|hd
  ·exact h2
  ·exact Ycx h3 hd
theorem Yaw {t:List Lse} (h:Yw t=true):rlR 0 t=true∧t.length≤4:=by simpa [Yw] using h
@[go_sem] def Y3 (l:List Stamp):V:=.slice 3 (l.map Yd)
theorem Yaa {T:Nat→Option Fn} (h:∀f x,T f=some x→Pg f=some x):∀n,Le (Jn T n) (Jn Pg n)
 |0=>fun f a r h=>by simp[Jn] at h
 |n+1=>fun f a r hr=>by
  rw[Jn] at hr ⊢;split at hr
  ·simp at hr
  ·rename_i o p hT;rw[h _ _ hT];exact hr
  ·rename_i F k hT;rw[h _ _ hT];simp only;split at hr<;>try (simp at hr;done)
   rename_i hl;rw[Gx hl];split at hr<;>try (simp at hr;done)
   simp only[Gb] at hr ⊢;obtain⟨x,h0,y,h1,h2⟩:=hr;exact⟨x,h0,y,Jr (Yaa h n) (Gp n) h1,h2⟩
  ·rename_i F hT;rw[h _ _ hT];simp only;split at hr<;>try (simp at hr;done)
   rename_i hl;rw[Gx hl];simp only[Gb] at hr ⊢;obtain⟨x,h1,h2⟩:=hr;exact⟨x,Jr (Yaa h n) (Gp n) h1,h2⟩
def Y2:List (Nat×Fn)→Nat→Option Fn
 |[],_=>none
 |a::l,n=>bif Nat.beq a.1 n then some a.2 else Y2 l n
theorem Yak:∀{l:List (Nat×Fn)},(∀a∈l,Pg a.1=some a.2)→∀f x,Y2 l f=some x→Pg f=some x
 |[],_,f,x,h=>by simp[Y2] at h
 |a::l,ha,f,x,h=>by
  rw[Y2] at h;cases q:Nat.beq a.1 f with
  |true=>
   rw[q,cond_true] at h;rw[←Nat.eq_of_beq_eq_true q,←h];exact ha a (.head _)
  |false=>
   rw[q,cond_false] at h;exact Yak (fun b hb=>ha b (.tail _ hb)) f x h
structure Inf where
 view:Int
 mem:List Int
 whole:Bool
 deriving DecidableEq
structure Jb where
 kind:Int
 step:Int
 id:Int
 shard:Int
 other:Int
 cell:Int
 to:Int
 epoch:Int
 key:List UInt8
 parts:List (List UInt8)
 of_:Int
 client:Int
 req:Int
 span:Span
 wait:List Int
 at_:Stamp
 mem:List Int
structure ORw where
 client:Int
 req:Int
 lease:Int
 at_:Stamp
 err:Int
structure Drc where
 places:List Place
 cells:List Inf
 next:Int
 leases:List Lse
 lows:List Stamp
 mark:Stamp
 job:Jb
 opened:List ORw
def eI1 (a:Int):List V:=[iz a]
def eS1 (s:List UInt8):List V:=[.str s]
@[go_sem] def Ybz (l:List (List UInt8)):V:=.slice 1 (l.map eS1)
@[go_sem] def YbH (i:Inf):List V:=[iz i.view,Yf i.mem,.bool i.whole]
@[go_sem] def Yb8 (l:List Inf):V:=.slice 3 (l.map YbH)
@[go_sem] def eJb (j:Jb):List V:=[iz j.kind,iz j.step,iz j.id,iz j.shard,iz j.other,iz j.cell,iz j.to,iz j.epoch,.str j.key,Ybz j.parts,iz j.of_,iz j.client,iz j.req,.str j.span.lo,.str j.span.hi,Yf j.wait,iz j.at_.wall,iz j.at_.tick,iz j.at_.node,Yf j.mem]
@[go_sem] def YbY (r:ORw):List V:=[iz r.client,iz r.req,iz r.lease,iz r.at_.wall,iz r.at_.tick,iz r.at_.node,iz r.err]
@[go_sem] def YcN (l:List ORw):V:=.slice 7 (l.map YbY)
@[go_sem] def YM (d:Drc):List V:=[Yz d.places,Yb8 d.cells,iz d.next,YB d.leases,Y3 d.lows,iz d.mark.wall,iz d.mark.tick,iz d.mark.node,iz d.job.kind,iz d.job.step,iz d.job.id,iz d.job.shard,iz d.job.other,iz d.job.cell,iz d.job.to,iz d.job.epoch,.str d.job.key,Ybz d.job.parts,iz d.job.of_,iz d.job.client,iz d.job.req,.str d.job.span.lo,.str d.job.span.hi,Yf d.job.wait,iz d.job.at_.wall,iz d.job.at_.tick,iz d.job.at_.node,Yf d.job.mem,YcN d.opened]
theorem Ycz {α β:Type} {l:List α} {f:α→β} {i:Nat} {x:α} (h:l[i]?=some x):(l.take (i+1)).map f=(l.take i).map f++[f x]:=by
 rw[Yx h,GS];rfl
@[go_sem] def YdI:List V:=[.slice 5 [],.slice 3 [],.int .i64 0,.slice 5 [],.slice 3 [],.int .i64 0,.int .i64 0,.int .i64 0,.int .i64 0,.int .i64 0,.int .i64 0,.int .i64 0,.int .i64 0,.int .i64 0,.int .i64 0,.int .i64 0,.str [],.slice 1 [],.int .i64 0,.int .i64 0,.int .i64 0,.str [],.str [],.slice 1 [],.int .i64 0,.int .i64 0,.int .i64 0,.slice 1 [],.slice 7 []]
@[go_sem] def bx (d:Drc) (c o:V):List V:=[Yz d.places,c,iz d.next,YB d.leases,Y3 d.lows,iz d.mark.wall,iz d.mark.tick,iz d.mark.node,iz d.job.kind,iz d.job.step,iz d.job.id,iz d.job.shard,iz d.job.other,iz d.job.cell,iz d.job.to,iz d.job.epoch,.str d.job.key,Ybz d.job.parts,iz d.job.of_,iz d.job.client,iz d.job.req,.str d.job.span.lo,.str d.job.span.hi,Yf d.job.wait,iz d.job.at_.wall,iz d.job.at_.tick,iz d.job.at_.node,Yf d.job.mem,o]
def nilOr (s z n:Nat):V:=if n=0 then .nslice z else .own s z n
def Yax (z:Nat) (rows:List (List V)) (n:Nat):Option (Nat×List (List V)×Fz):=if n=0 then none else some (z,rows,.live)
theorem YcT {s z:Nat}:nilOr s z 0=.nslice z:=rfl
@[go_sem] theorem Yet {s z n:Nat}:(nilOr s z n).cells=some [nilOr s z n]:=by unfold nilOr;split<;>rfl
theorem Ydo {z:Nat} {rows:List (List V)}:Yax z rows 0=none:=rfl
def apQ (S:St) (s z n:Nat) (y:V) (a:Option (Nat×List (List V)×Fz)):Option (V×St):=if n=0 then Jft S s z y a else apA S s z n y a
theorem Yad {S:St} {s z n:Nat} {y:V}:appN S s z (nilOr s z n) y=apQ S s z n y (S.A s):=by
 unfold nilOr apQ;split
 ·exact Jfv
 ·rw[Jfw,Jhs]
theorem YaF {S:St} {s z n:Nat} {rows:List (List V)} {r:List V} (hr:rows.length=n) (hl:n+1≤lim) :
  apQ S s z n (.slice z [r]) (Yax z rows n)=some (nilOr s z (n+1),⟨S.ρ,S.μ,upd S.A s (Yax z (rows++[r]) (n+1))⟩):=by
 have e1:nilOr s z (n+1)=.own s z (n+1):=rfl
 have e2:Yax z (rows++[r]) (n+1)=some (z,rows++[r],.live):=rfl
 rw[e1,e2]
 unfold apQ Yax
 split
 ·rename_i h
  subst h
  have hr:rows=[]:=Gv hr
  subst hr
  have:1≤lim:=by simpa using hl
  simp[Jft,V.rowsOf,this]
 ·rw[Jhr]
  simp[V.rowsOf,hr,hl]
theorem YL {A:Nat→Option (Nat×List (List V)×Fz)} {s z n:Nat} {rows:List (List V)} (hA:A s=Yax z rows n) (hr:rows.length=n):toDC A (nilOr s z n)=some (.slice z rows):=by
 unfold nilOr;split
 ·rename_i h;subst h;have hr:rows=[]:=Gv hr;rw[hr,Jfh]
 ·rename_i h;have:A s=some (z,rows,.live):=by rw[hA,Yax,Gq h]
  simp[toDC,this,hr]
theorem K324g {f:Nat} (h:Pg f=some (.code F324)) (d:Drc) (hc:d.cells.length≤1048576) (ho:d.opened.length≤1048576):K' Pg f [.agg (YM d)]=some (.agg (YM d)):=by
 refine Qa h rfl ?_;simp only[go_sem];unfold l324_0;refine JiX (fun (i:Nat) S=>i≤d.cells.length∧S.ρ 1=.lref 1 0∧S.μ 1=some (YM d,false)∧S.ρ 2=.lref 2 0∧S.μ 2=some (YdI,false)∧S.ρ 3=.lref 3 0∧S.μ 3=some (bx d (nilOr 32 3 i) (.nslice 7),false)∧S.A 32=Yax 3 ((d.cells.take i).map YbH) i∧S.A 46=none∧S.μ 5=none∧S.μ 7=none∧S.ρ 22=Yb8 d.cells∧S.ρ 23=iz d.cells.length∧S.ρ 24=iz i) (fun i=>d.cells.length-i) 0 ?_ ?_
 ·simp[go_sem,YcT,Ydo]
 ·intro i S ⟨hi,h1,m1,h2,m2,h3,m3,a32,a46,m5,m7,h22,h23,h24⟩;simp only[go_sem,h23,h24];refine JiY (fun hlt=>?_) (fun hlt=>?_)
  ·have hlt:=Yg hlt;obtain⟨x,hx,-⟩:=JiF hlt;have hil:((d.cells.take i).map YbH).length=i:=by simp;omega
   have ha:=fun S=>YaF (S:=S) (s:=32) (z:=3) (r:=YbH x) hil (by simp[lim];omega);simp only[YbH,Yf] at ha;simp only[go_sem,h1,m1,h2,m2,h3,m3,a32,a46,m5,m7,h22,h23,h24,hx,Yad,ha];exact⟨i+1,by omega,by omega,rfl,by rw[Ycz hx];rfl,by rw[Yi hlt (by omega)]⟩
  ·have hlt:=Yo hi hlt;subst hlt;rw[Gz] at a32;simp only[go_sem,h1,m1,h2,m2];unfold l324_1;clear h22 h23 h24;refine JiX (fun (i:Nat) S=>i≤d.opened.length∧S.ρ 2=.lref 2 0∧S.μ 2=some (YdI,false)∧S.ρ 3=.lref 3 0∧S.μ 3=some (bx d (nilOr 32 3 d.cells.length) (nilOr 46 7 i),false)∧S.A 32=Yax 3 (d.cells.map YbH) d.cells.length∧S.A 46=Yax 7 ((d.opened.take i).map YbY) i∧S.μ 7=none∧S.ρ 36=YcN d.opened∧S.ρ 37=iz d.opened.length∧S.ρ 38=iz i) (fun i=>d.opened.length-i) 0 ?_ ?_
   ·simp[go_sem,YcT,Ydo,h2,m2,h3,m3,a32,a46]
   ·intro i S ⟨hi,h2,m2,h3,m3,a32,a46,m7,h36,h37,h38⟩;simp only[go_sem,h37,h38];refine JiY (fun hlt=>?_) (fun hlt=>?_)
    ·have hlt:=Yg hlt;obtain⟨x,hx,-⟩:=JiF hlt;have hil:((d.opened.take i).map YbY).length=i:=by simp;omega
     have ha:=fun S=>YaF (S:=S) (s:=46) (z:=7) (r:=YbY x) hil (by simp[lim];omega);simp only[YbY] at ha;simp only[go_sem,h2,m2,h3,m3,a32,a46,m7,h36,h37,h38,hx,Yad,ha];exact⟨i+1,by omega,by omega,rfl,by rw[Ycz hx];rfl,by rw[Yi hlt (by omega)]⟩
    ·have hlt:=Yo hi hlt;subst hlt;rw[Gz] at a46;have t1:=YL a32 (by simp);have t2:=YL a46 (by simp);simp only[go_sem,h2,m2,h3,m3,t1,t2]
def frQ (m n:Int):Bool:=!(decide (n<m)||decide (1099511627776<n))
def YO (n:Int):Bool:=frQ 0 n
theorem Ycc {m:Int}:∀{l:List Int},(!(l.any fun n=>decide (n<m)||decide (1099511627776<n)))=l.all (frQ m)
 |[]=>rfl
 |a::l=>by
  simp only[List.any_cons,List.all_cons,←Ycc (l:=l),frQ,Bool.not_or]
def H369 (Pg:PgT):Prop:=Pg 369=some (.code F369)
theorem K369 (h:H369 Pg) (n m:Int):K' Pg 369 [iz n,.cptr [iz m] 0]=some (.bool (decide (n<m)||decide (1099511627776<n))):=by
 refine Qa h rfl ?_;cases c:decide (n<m)<;>simp only[go_sem,c,Bool.true_or,Bool.false_or]
def H347 (Pg:PgT):Prop:=Pg 347=some (.code F347)∧H67 Pg∧H369 Pg
theorem K347 (h:H347 Pg) (m:Int) (l:List Int) (hl:l.length<2 ^ 60):K' Pg 347 [iz m,Yf l]=some (.bool (l.all (frQ m))):=by
 obtain⟨h,h67,h369⟩:=h;have k:=K67 h67 l 369 [.cptr [iz m] 0] (fun n=>decide (n<m)||decide (1099511627776<n)) hl rfl (fun n _=>K369 h369 n m);simp only[Yf] at k;refine Qa h rfl ?_;rw[←Ycc];simp only[go_sem,Yf,k]
theorem K347a (h:H347 Pg) (m a:Int):K' Pg 347 [iz m,.slice 1 [[iz a]]]=some (.bool (frQ m a)):=by
 have:=K347 h m [a] (by simp);simpa [Yf] using this
theorem K347b (h:H347 Pg) (m a b:Int):K' Pg 347 [iz m,.slice 1 [[iz a],[iz b]]]=some (.bool (frQ m a&&frQ m b)):=by
 have:=K347 h m [a,b] (by simp);simpa [Yf] using this
def YbJ (j:Jb):Bool:=YO j.id&&(YO j.shard&&(YO j.other&&(YO j.epoch&&(YO j.of_&&(YO j.client&&YO j.req)))))
theorem K347g (h:H347 Pg) (j:Jb):K' Pg 347 [iz 0,.slice 1 [[iz j.id],[iz j.shard],[iz j.other],[iz j.epoch],[iz j.of_],[iz j.client],[iz j.req]]]=some (.bool (YbJ j)):=by
 have:=K347 h 0 [j.id,j.shard,j.other,j.epoch,j.of_,j.client,j.req] (by simp);simpa [Yf,YbJ,YO,Bool.and_assoc] using this
def H349 (Pg:PgT):Prop:=Pg 349=some (.code F349)
theorem K349 (h:H349 Pg) (n:Int):K' Pg 349 [iz n]=some (.bool (YO n)):=by
 have e1:decide (n<0)=!decide (0≤n):=by by_cases h:0≤n<;>simp[h]<;>omega
 have e2:decide (1099511627776<n)=!decide (n≤1099511627776):=by by_cases h:n≤1099511627776<;>simp[h]<;>omega
 refine Qa h rfl ?_;unfold YO frQ;rw[e1,e2];cases c:decide (0≤n)<;>cases c2:decide (n≤1099511627776)<;>simp only[go_sem,c,c2]
def Yeu (l:List Int):Prop:=l≠[]∧(∀m∈l,1≤m∧m≤3)∧l.Nodup
instance (l:List Int):Decidable (Yeu l):=inferInstanceAs (Decidable (_∧_∧_))
def Ybh (l:List Int):Bool:=decide (Yeu l)
theorem Ybt {l:List Int} {i:Nat} {x:Int} (hx:l[i]?=some x) (h:¬(1≤x∧x≤3)∨x∈l.take i):Ybh l=false:=by
 refine GE ?_;rintro⟨-,h2,h3⟩;rcases h with h|h
 ·exact h (h2 x (List.mem_of_getElem? hx))
 ·have hi:i<l.length:=by
   rcases Gy i l.length with h|h
   ·exact h
   ·rw[List.getElem?_eq_none h] at hx;simp at hx
  obtain⟨y,hy,hd⟩:=JiF hi;have:x=y:=by rw[hx] at hy;simpa using hy
  subst this;rw[←G0 i l,hd,Gal] at h3;exact h3.2.2 x h x (Gaj ..) rfl
theorem Ycy {l:List Int} {i:Nat} {x:Int} (hx:l[i]?=some x) (h:(∀m∈l.take i,1≤m∧m≤3)∧(l.take i).Nodup) (h1:1≤x∧x≤3) (h2:x∉l.take i) :
  (∀m∈l.take (i+1),1≤m∧m≤3)∧(l.take (i+1)).Nodup:=by
 rw[Yx hx]
 refine⟨fun m hm=>?_,?_⟩
 ·rcases GV.1 hm with hm|hm
  ·exact h.1 m hm
  ·have:m=x:=by simpa using hm
   rw[this];exact h1
 ·rw[Gal]
  refine⟨h.2,by simp,fun a ha b hb e=>?_⟩
  have:b=x:=by simpa using hb
  rw[←this,←e] at h2
  exact h2 ha
theorem YcZ {l:List Int} (h1:∀m∈l,1≤m∧m≤3) (h2:l.Nodup):decide ((0:Int)<(l.length:Int))=Ybh l:=by
 refine G7.2 ⟨fun e=>⟨fun h=>by subst h;simp at e,h1,h2⟩,fun e=>?_⟩;have:=Gam.2 e.1;omega
def H348 (Pg:PgT):Prop:=Pg 348=some (.code F348)∧H65 Pg
theorem K348 (h:H348 Pg) (l:List Int) (hl:l.length<2 ^ 60):K' Pg 348 [Yf l]=some (.bool (Ybh l)):=by
 obtain⟨h,h65⟩:=h;refine Qa h rfl ?_;simp only[go_sem];unfold l348_0;refine JiX (fun (i:Nat) S=>i≤l.length∧S.ρ 0=Yf l∧S.ρ 5=Yf l∧S.ρ 6=iz l.length∧S.ρ 7=iz i∧(∀m∈l.take i,1≤m∧m≤3)∧(l.take i).Nodup) (fun i=>l.length-i) 0 ?_ ?_
 ·simp[go_sem]
 ·intro i S ⟨hi,h0,h5,h6,h7,ho1,ho2⟩;simp only[go_sem,h6,h7];refine JiY (fun h=>?_) (fun h=>?_)
  ·have h:=Yg h;obtain⟨x,hx,hd⟩:=JiF h;have k65:=K65 h65 (l.take i) x (by simp;omega);simp only[Yf,List.map_take] at k65;simp only[go_sem,h5,h7,hx];cases c1:decide (x<1) with
   |true=>
    have hs:=Ybt hx (.inl (by have:=Gg c1;omega));simp only[go_sem,hs]
   |false=>
   cases c2:decide (3<x) with
   |true=>
    have hs:=Ybt hx (.inl (by have:=Gg c2;omega));simp only[go_sem,c2,hs]
   |false=>
   have hx13:1≤x∧x≤3:=by have:=Ge c1;have:=Ge c2;omega
   cases c3:decide (x∈l.take i) with
   |true=>
    have hs:=Ybt hx (.inr (Gg c3));simp only[go_sem,h0,hi,c2,c3,k65,hs]
   |false=>
    have hn:=Ycy hx ⟨ho1,ho2⟩ hx13 (Ge c3);simp only[go_sem,h0,h5,h6,h7,hi,c2,c3,k65];exact⟨i+1,by omega,by omega,by rw[Yi h hl],hn.1,hn.2⟩
  ·have h:=Yo hi h;rw[Yau h] at ho1 ho2;simp only[go_sem,h0,YcZ ho1 ho2]
def H351 (Pg:PgT):Prop:=Pg 351=some (.code F351)
theorem K351 (h:H351 Pg) (l:List Int) (hl:l.length<2 ^ 60):K' Pg 351 [Yf l]=some (.bool (Ybh l)):=by
 refine Qa h rfl ?_;simp only[go_sem];unfold l351_0;refine JiX (fun (i:Nat) S=>i≤l.length∧S.ρ 0=Yf l∧S.ρ 3=.lref 3 0∧S.μ 3=some ([.bool false,.bool (decide (1∈l.take i)),.bool (decide (2∈l.take i)),.bool (decide (3∈l.take i))],false)∧S.ρ 4=iz i∧(∀m∈l.take i,1≤m∧m≤3)∧(l.take i).Nodup) (fun i=>l.length-i) 0 ?_ ?_
 ·simp[go_sem]
 ·intro i S ⟨hi,h0,h3,m3,h4,ho1,ho2⟩;have i1:Ja2 1 4 (.lref 3 0) (iz 1)=some (.lref 3 1):=rfl;have i2:Ja2 1 4 (.lref 3 0) (iz 2)=some (.lref 3 2):=rfl;have i3:Ja2 1 4 (.lref 3 0) (iz 3)=some (.lref 3 3):=rfl;simp only[go_sem,h0,h4];refine JiY (fun h=>?_) (fun h=>?_)
  ·have h:=Yg h;obtain⟨x,hx,hd⟩:=JiF h;simp only[go_sem,h0,h4,hx];cases c1:decide (x<1) with
   |true=>
    have hs:=Ybt hx (.inl (by have:=Gg c1;omega));simp only[go_sem,hs]
   |false=>
   cases c2:decide (3<x) with
   |true=>
    have hs:=Ybt hx (.inl (by have:=Gg c2;omega));simp only[go_sem,h0,h4,hx,c2,hs]
   |false=>
   have hx13:1≤x∧x≤3:=by have:=Ge c1;have:=Ge c2;omega
   have hinc:IntKind.i64.wrap ((i:Int)+1)=((i+1:Nat):Int):=Yi h hl;cases c3:decide (x∈l.take i) with
   |true=>
    have hs:=Ybt hx (.inr (Gg c3));have hcase:x=1∨x=2∨x=3:=by omega
    rcases hcase with rfl|rfl|rfl<;>simp only[go_sem,h0,h3,m3,h4,hx,c3,hs,i1,i2,i3]
   |false=>
    have hn:=Ycy hx ⟨ho1,ho2⟩ hx13 (Ge c3);have ht:l.take (i+1)=l.take i++[x]:=Yx hx;have hcase:x=1∨x=2∨x=3:=by omega
    rcases hcase with rfl|rfl|rfl
    ·simp only[go_sem,h0,h3,m3,h4,hx,c3,i1];exact⟨i+1,by omega,by omega,by rw[ht];simp,by rw[hinc],hn.1,hn.2⟩
    ·simp only[go_sem,h0,h3,m3,h4,hx,c3,i2];exact⟨i+1,by omega,by omega,by rw[ht];simp,by rw[hinc],hn.1,hn.2⟩
    ·simp only[go_sem,h0,h3,m3,h4,hx,c3,i3];exact⟨i+1,by omega,by omega,by rw[ht];simp,by rw[hinc],hn.1,hn.2⟩
  ·have h:=Yo hi h;rw[Yau h] at ho1 ho2;simp only[go_sem,h0,YcZ ho1 ho2]
def YS (j:Jb):Bool:=!decide (j.kind<0)&&(!decide (5<j.kind)&&(!decide (j.step<0)&&(!decide (7<j.step)&&(YbJ j&&(j.wait.all YO&&Ya j.at_)))))
def YaU (j:Jb):Bool:=!decide (j.cell<0)&&(!decide (3<j.cell)&&(!decide (j.to<0)&&(!decide (3<j.to)&&(decide (j.mem=[])||Ybh j.mem))))
def Ya6 (j:Jb):Bool:=if decide (j.kind=5) then decide (0<j.cell)&&!decide (j.mem=[]) else if decide (j.kind=1) then decide (0<j.cell)&&decide (0<j.to) else if decide (j.kind=2)||decide (j.kind=3) then decide (0<j.cell) else true
def Y1 (j:Jb):Bool:=YS j&&(YaU j&&Ya6 j)
def SmJ (j:Jb):Prop:=j.wait.length≤10000∧j.mem.length≤10000∧j.parts.length≤10000
def H346 (Pg:PgT):Prop:=Pg 346=some (.code F346)∧H28 Pg∧H347 Pg∧H348 Pg
theorem K346 (h:H346 Pg) (j:Jb) (hj:SmJ j):K' Pg 346 [.agg (eJb j)]=some (.bool (Y1 j)):=by
 obtain⟨h,h28,h347,h348⟩:=h;have a7:=K347g h347 j;have aw:=K347 h347 0 j.wait (by have:=hj.1;omega);have k28:=K28 h28 j.at_;have k348:=K348 h348 j.mem (by have:=hj.2.1;omega);have ef:frQ 0=YO:=rfl;rw[ef] at aw;simp only[Yd,Yf] at k28 aw k348;clear hj h28 h347 h348 ef;refine Qa h rfl ?_;clear h;cases c1:decide (j.kind<0) with
 |true=>simp only[go_sem,Y1,YS, *]
 |false=>
 cases c2:decide (5<j.kind) with
 |true=>simp only[go_sem,Y1,YS, *]
 |false=>
 cases c3:decide (j.step<0) with
 |true=>simp only[go_sem,Y1,YS, *]
 |false=>
 cases c4:decide (7<j.step) with
 |true=>simp only[go_sem,Y1,YS, *]
 |false=>
 cases c5:YbJ j with
 |false=>simp only[go_sem,Y1,YS, *]
 |true=>
 cases c6:j.wait.all YO with
 |false=>simp only[go_sem,Y1,YS, *]
 |true=>
 cases c7:Ya j.at_ with
 |false=>simp only[go_sem,Y1,YS, *]
 |true=>
 cases c8:decide (j.cell<0) with
 |true=>simp only[go_sem,Y1,YS,YaU, *]
 |false=>
 cases c9:decide (3<j.cell) with
 |true=>simp only[go_sem,Y1,YS,YaU, *]
 |false=>
 cases c10:decide (j.to<0) with
 |true=>simp only[go_sem,Y1,YS,YaU, *]
 |false=>
 cases c11:decide (3<j.to) with
 |true=>simp only[go_sem,Y1,YS,YaU, *]
 |false=>
 have hm:YaU j=(decide (j.mem=[])||Ybh j.mem):=by simp only[YaU, *];rfl
 have h0:YS j=true:=by simp only[YS, *];rfl
 have hq:Y1 j=((decide (j.mem=[])||Ybh j.mem)&&Ya6 j):=by simp only[Y1,hm,h0,Gl]
 rw[hq];clear hq hm h0;cases c12:decide (j.mem=[]) with
 |true=>
  cases d1:decide (j.kind=5) with
  |true=>cases d2:decide (0<j.cell)<;>simp only[go_sem,Y6,Ya6, *]
  |false=>
  cases d3:decide (j.kind=1) with
  |true=>cases d2:decide (0<j.cell)<;>cases d4:decide (0<j.to)<;>simp only[go_sem,Y6,Ya6, *]
  |false=>
  cases d5:decide (j.kind=2) with
  |true=>cases d2:decide (0<j.cell)<;>simp only[go_sem,Y6,Ya6, *]
  |false=>cases d6:decide (j.kind=3)<;>cases d2:decide (0<j.cell)<;>simp only[go_sem,Y6,Ya6, *]
 |false=>
 cases c13:Ybh j.mem with
 |false=>simp only[go_sem,Y6, *]
 |true=>
  cases d1:decide (j.kind=5) with
  |true=>cases d2:decide (0<j.cell)<;>simp only[go_sem,Y6,Ya6, *]
  |false=>
  cases d3:decide (j.kind=1) with
  |true=>cases d2:decide (0<j.cell)<;>cases d4:decide (0<j.to)<;>simp only[go_sem,Y6,Ya6, *]
  |false=>
  cases d5:decide (j.kind=2) with
  |true=>cases d2:decide (0<j.cell)<;>simp only[go_sem,Y6,Ya6, *]
  |false=>cases d6:decide (j.kind=3)<;>cases d2:decide (0<j.cell)<;>simp only[go_sem,Y6,Ya6, *]
theorem Ydj {j:Jb} (h1:decide (j.kind<0)=false) (h2:decide (5<j.kind)=false) (h3:decide (j.to<0)=false) :
  Ya6 j=if ((decide (j.kind=5)&&decide (j.mem=[]))||(decide (j.kind=1)&&decide (j.to=0)))=true then false else (decide (j.kind=0)||(decide (j.kind=4)||decide (0<j.cell))):=by
 have h1:=Ge h1
 have h2:=Ge h2
 have h3:=Ge h3
 unfold Ya6
 generalize j.kind=k at *
 generalize j.to=t at *
 have hk:k=0∨k=1∨k=2∨k=3∨k=4∨k=5:=by omega
 rcases hk with rfl|rfl|rfl|rfl|rfl|rfl
 ·simp
 ·by_cases ht:t=0
  ·simp[ht]
  ·have:0<t:=by omega
   simp[ht,this]
 ·simp
 ·simp
 ·simp
 ·by_cases hm:j.mem=[]<;>simp[hm]
def H350 (Pg:PgT):Prop:=Pg 350=some (.code F350)∧H24 Pg∧H349 Pg∧H351 Pg
theorem K350 (h:H350 Pg) (j:Jb) (hj:SmJ j):K' Pg 350 [.agg (eJb j)]=some (.bool (Y1 j)):=by
 obtain⟨h,h24,h349,h351⟩:=h;have k349:=fun n=>K349 h349 n;have k24:=K24 h24 j.at_;have k351:=K351 h351 j.mem (by have:=hj.2.1;omega);have hw:j.wait.length<2 ^ 60:=by have:=hj.1;omega
 simp only[Yd,Yf] at k24 k351;clear hj h24 h349 h351;refine Qa h rfl ?_;clear h;cases c1:decide (j.kind<0) with
 |true=>simp only[go_sem,Y1,YS, *]
 |false=>
 cases c2:decide (5<j.kind) with
 |true=>simp only[go_sem,Y1,YS, *]
 |false=>
 cases c3:decide (j.step<0) with
 |true=>simp only[go_sem,Y1,YS, *]
 |false=>
 cases c4:decide (7<j.step) with
 |true=>simp only[go_sem,Y1,YS, *]
 |false=>
 cases c51:YO j.id with
 |false=>simp only[go_sem,Y1,YS,YbJ, *]
 |true=>
 cases c52:YO j.shard with
 |false=>simp only[go_sem,Y1,YS,YbJ, *]
 |true=>
 cases c53:YO j.other with
 |false=>simp only[go_sem,Y1,YS,YbJ, *]
 |true=>
 cases c54:YO j.epoch with
 |false=>simp only[go_sem,Y1,YS,YbJ, *]
 |true=>
 cases c55:YO j.of_ with
 |false=>simp only[go_sem,Y1,YS,YbJ, *]
 |true=>
 cases c56:YO j.client with
 |false=>simp only[go_sem,Y1,YS,YbJ, *]
 |true=>
 cases c57:YO j.req with
 |false=>simp only[go_sem,Y1,YS,YbJ, *]
 |true=>
 cases c7:Ya j.at_ with
 |false=>simp only[go_sem,Y1,YS, *]
 |true=>
 have h0:YS j=j.wait.all YO:=by simp only[YS,YbJ, *];simp
 simp only[go_sem, *];unfold l350_0;refine JiX (fun (i:Nat) S=>i≤j.wait.length∧S.ρ 1=.lref 1 0∧S.μ 1=some (eJb j,false)∧S.ρ 3=iz i∧(j.wait.drop i).all YO=j.wait.all YO) (fun i=>j.wait.length-i) 0 ?_ ?_
 ·simp[go_sem]
 ·intro i S ⟨hi,s1,m1,s3,ho⟩;simp only[go_sem,s1,m1,s3];refine JiY (fun h=>?_) (fun h=>?_)
  ·have h:=Yg h;obtain⟨x,hx,hd⟩:=JiF h;rw[hd,List.all_cons] at ho;simp only[go_sem,s1,m1,s3,hx,k349];cases q:YO x with
   |false=>
    rw[q,Gk] at ho;simp only[go_sem,Y1,h0,←ho]
   |true=>
    rw[q,Gl] at ho;simp only[go_sem,s1,m1,s3];exact⟨i+1,by omega,by omega,by rw[Yi h hw],ho⟩
  ·have h:=Yo hi h;subst h;rw[GN,List.all_nil] at ho;have h0:YS j=true:=by rw[h0,←ho]
   clear ho hi s3 k349 c3 c4 c51 c52 c53 c54 c55 c56 c57 c7 k24 hw;cases c8:decide (j.cell<0) with
   |true=>simp only[go_sem,Y1,YaU, *]
   |false=>
   cases c9:decide (3<j.cell) with
   |true=>simp only[go_sem,Y1,YaU, *]
   |false=>
   cases c10:decide (j.to<0) with
   |true=>simp only[go_sem,Y1,YaU, *]
   |false=>
   cases c11:decide (3<j.to) with
   |true=>simp only[go_sem,Y1,YaU, *]
   |false=>
   have hm:YaU j=(decide (j.mem=[])||Ybh j.mem):=by simp only[YaU, *];rfl
   have hq:Y1 j=((decide (j.mem=[])||Ybh j.mem)&&Ya6 j):=by simp only[Y1,hm,h0,Gl]
   have h2:=Ydj c1 c2 c10;rw[hq,h2];clear hq hm h0 h2;cases c12:decide (j.mem=[]) with
   |true=>
    cases d1:decide (j.kind=5) with
    |true=>simp only[go_sem,Y6,YcR, *]
    |false=>
    cases d3:decide (j.kind=1) with
    |true=>cases d4:decide (j.to=0)<;>cases d5:decide (j.kind=0)<;>cases d6:decide (j.kind=4)<;>simp only[go_sem,Y6, *]
    |false=>cases d5:decide (j.kind=0)<;>cases d6:decide (j.kind=4)<;>simp only[go_sem,Y6, *]
   |false=>
   cases c13:Ybh j.mem with
   |false=>simp only[go_sem,Y6, *]
   |true=>
    cases d1:decide (j.kind=5)<;>cases d3:decide (j.kind=1)<;>cases d4:decide (j.to=0)<;>cases d5:decide (j.kind=0)<;>cases d6:decide (j.kind=4)<;>simp only[go_sem,Y6,YcR, *]
def YbR (x:Inf):Bool:=frQ 1 x.view&&Ybh x.mem
def YbG (r:ORw):Bool:=!decide (8<r.client)&&(YO r.req&&(YO r.lease&&(Ya r.at_&&(!decide (r.err<0)&&!decide (16<r.err)))))
def opQ:Int→List ORw→Bool
 |_,[]=>true
 |p,r::l=>!decide (r.client≤p)&&(YbG r&&opQ r.client l)
def YaC (l:List ORw) (i:Nat):Int:=if i=0 then 0 else (l[i-1]?.map ORw.client).getD 0
theorem YcV {l:List ORw} {i:Nat} {x:ORw} (h:l[i]?=some x):YaC l (i+1)=x.client:=by simp[YaC,h]
def Yar (d:Drc):Bool:=Yv d.places&&(Yw d.leases&&(decide ((d.cells.length:Int)=3)&&(decide ((d.lows.length:Int)=3)&&(!decide (d.next<2)&&(!decide (1099511627776<d.next)&&(Ya d.mark&&(Y1 d.job&&!decide (8<(d.opened.length:Int)))))))))
def Yao (d:Drc):Bool:=Yar d&&((d.cells.all YbR&&d.lows.all Ya)&&opQ 0 d.opened)
def SmD (d:Drc):Prop:=d.leases.length≤10000∧d.opened.length≤10000∧SmJ d.job∧(∀x∈d.cells,x.mem.length≤10000)
def H328 (Pg:PgT):Prop:=Pg 328=some (.code F328)∧H28 Pg∧H126 Pg∧H141 Pg∧H346 Pg∧H347 Pg∧H348 Pg
theorem K328 (h:H328 Pg) (d:Drc) (hd:SmD d):K' Pg 328 [.agg (YM d)]=some (.bool (Yao d)):=by
 obtain⟨h,h28,h126,h141,h346,h347,h348⟩:=h;obtain⟨hl1,hl2,hj,hm⟩:=hd;have k141:=K141 h141 d.places;have k126:=K126 h126 d.leases (by omega);have k28:=fun s=>K28 h28 s;have k346:=K346 h346 d.job hj;have kv:=fun a=>K347a h347 1 a;have kr:=fun a b=>K347b h347 0 a b;have ks:∀x∈d.cells,K' Pg 348 [Yf x.mem]=some (.bool (Ybh x.mem)):=fun x hx=>K348 h348 x.mem (by have:=hm x hx;omega);have ef:∀n,frQ 0 n=YO n:=fun _=>rfl;simp only[ef] at kr;simp only[Yd,Yf,Yz,YB,eJb,Ybz] at k28 k141 k126 k346 ks;clear hl1 hj hm h28 h126 h141 h346 h347 h348 ef;refine Qa h rfl ?_;clear h;cases c1:Yv d.places with
 |false=>simp only[go_sem,Yao,Yar, *]
 |true=>
 cases c2:Yw d.leases with
 |false=>simp only[go_sem,Yao,Yar, *]
 |true=>
 cases c3:decide ((d.cells.length:Int)=3) with
 |false=>simp only[go_sem,Yao,Yar, *]
 |true=>
 cases c4:decide ((d.lows.length:Int)=3) with
 |false=>simp only[go_sem,Yao,Yar, *]
 |true=>
 cases c5:decide (d.next<2) with
 |true=>simp only[go_sem,Yao,Yar, *]
 |false=>
 cases c6:decide (1099511627776<d.next) with
 |true=>simp only[go_sem,Yao,Yar, *]
 |false=>
 cases c7:Ya d.mark with
 |false=>simp only[go_sem,Yao,Yar, *]
 |true=>
 cases c8:Y1 d.job with
 |false=>simp only[go_sem,Yao,Yar, *]
 |true=>
 cases c9:decide (8<(d.opened.length:Int)) with
 |true=>simp only[go_sem,Yao,Yar, *]
 |false=>
 have h0:Yar d=true:=by simp only[Yar, *];rfl
 have hq:Yao d=((d.cells.all YbR&&d.lows.all Ya)&&opQ 0 d.opened):=by simp only[Yao,h0,Gl]
 simp only[go_sem,c1,c2,c3,c4,c5,c6,c7,c8,c9,k141,k126,k28,k346];have hc3:d.cells.length=3:=by have:=Gg c3;omega
 have hl3:d.lows.length=3:=by have:=Gg c4;omega
 rw[hq];clear h0 hq c1 c2 c3 c4 c5 c6 c7 c8 c9 k141 k126 k346;unfold l328_0;refine JiX (fun (i:Nat) S=>i≤3∧S.ρ 1=.lref 1 0∧S.μ 1=some (YM d,false)∧S.ρ 57=iz i∧S.μ 6=none∧((d.cells.drop i).all YbR&&(d.lows.drop i).all Ya)=(d.cells.all YbR&&d.lows.all Ya)) (fun i=>3-i) 0 ?_ ?_
 ·simp[go_sem]
 ·intro i S ⟨hi,s1,m1,s57,m6,ho⟩;simp only[go_sem,s57];refine JiY (fun hlt=>?_) (fun hlt=>?_)
  ·have hlt:i<3:=by have:=Gg hlt;omega
   obtain⟨x,hx,hdx⟩:=JiF (l:=d.cells) (i:=i) (by omega);obtain⟨y,hy,hdy⟩:=JiF (l:=d.lows) (i:=i) (by omega);have ks:=ks x (List.mem_of_getElem? hx);rw[hdx,hdy,List.all_cons,List.all_cons] at ho;have hinc:IntKind.i64.wrap ((i:Int)+1)=((i+1:Nat):Int):=Yi hlt (by omega);simp only[go_sem,s1,m1,s57,hx,kv];cases q1:frQ 1 x.view with
   |false=>
    simp only[YbR,q1,Gk] at ho;simp only[go_sem,←ho]
   |true=>
   cases q2:Ybh x.mem with
   |false=>
    simp only[YbR,q1,q2,Gk,GH] at ho;simp only[go_sem,q2,s1,m1,hx,ks,←ho]
   |true=>
   cases q3:Ya y with
   |false=>
    simp only[q3,Gk,GH] at ho;simp only[go_sem,q2,q3,s1,m1,hx,hy,ks,k28,←ho]
   |true=>
    simp only[YbR,q1,q2,q3,Gl] at ho;simp only[go_sem,q2,q3,s1,m1,s57,m6,hx,hy,ks,k28];exact⟨i+1,by omega,by omega,by rw[hinc],ho⟩
  ·have hlt:i=3:=by have:=Ge hlt;omega
   subst hlt;have e1:d.cells.drop 3=[]:=List.drop_eq_nil_of_le (by omega);have e2:d.lows.drop 3=[]:=List.drop_eq_nil_of_le (by omega);rw[e1,e2,List.all_nil,List.all_nil] at ho;rw[←ho];simp only[go_sem,s1,m1];unfold l328_1;clear ho s57 hi ks kv;refine JiX (fun (i:Nat) S=>i≤d.opened.length∧S.ρ 4=iz (YaC d.opened i)∧S.μ 6=none∧S.ρ 90=YcN d.opened∧S.ρ 91=iz d.opened.length∧S.ρ 92=iz i∧opQ (YaC d.opened i) (d.opened.drop i)=opQ 0 d.opened) (fun i=>d.opened.length-i) 0 ?_ ?_
   ·simp[go_sem,YaC]
   ·intro i S ⟨hi,s4,m6,s90,s91,s92,ho⟩;simp only[go_sem,s91,s92];refine JiY (fun hlt=>?_) (fun hlt=>?_)
    ·have hlt:=Yg hlt;obtain⟨x,hx,hdx⟩:=JiF hlt;have hnext:YaC d.opened (i+1)=x.client:=YcV hx;have hinc:IntKind.i64.wrap ((i:Int)+1)=((i+1:Nat):Int):=Yi hlt (by omega);rw[hdx] at ho;simp only[opQ] at ho;simp only[go_sem,s4,m6,s90,s92,hx];cases q1:decide (x.client≤YaC d.opened i) with
     |true=>
      simp only[q1,GX,Gk] at ho;simp only[go_sem,←ho]
     |false=>
     cases q2:decide (8<x.client) with
     |true=>
      simp only[YbG,q1,q2,GX,GG,Gk,Gl] at ho;simp only[go_sem,q2,←ho]
     |false=>
     cases q3:YO x.req with
     |false=>
      simp only[YbG,q1,q2,q3,GG,Gk,Gl] at ho;simp only[go_sem,q2,q3,kr,←ho]
     |true=>
     cases q4:YO x.lease with
     |false=>
      simp only[YbG,q1,q2,q3,q4,GG,Gk,Gl] at ho;simp only[go_sem,q2,q3,q4,kr,←ho]
     |true=>
     cases q5:Ya x.at_ with
     |false=>
      simp only[YbG,q1,q2,q3,q4,q5,GG,Gk,Gl] at ho;simp only[go_sem,q2,q3,q4,q5,kr,k28,←ho]
     |true=>
     cases q6:decide (x.err<0) with
     |true=>
      simp only[YbG,q1,q2,q3,q4,q5,q6,GX,GG,Gk,Gl] at ho;simp only[go_sem,q2,q3,q4,q5,q6,kr,k28,←ho]
     |false=>
     cases q7:decide (16<x.err) with
     |true=>
      simp only[YbG,q1,q2,q3,q4,q5,q6,q7,GX,GG,Gk,GH] at ho;simp only[go_sem,q2,q3,q4,q5,q6,q7,kr,k28,←ho]
     |false=>
      simp only[YbG,q1,q2,q3,q4,q5,q6,q7,GG,Gl,Bool.and_true] at ho;simp only[go_sem,q2,q3,q4,q5,q6,q7,s90,s91,s92,kr,k28];exact⟨i+1,by omega,by omega,by rw[hnext],by rw[hinc],by rw[hnext];exact ho⟩
    ·have hlt:=Yo hi hlt;subst hlt;rw[GN] at ho;simp only[opQ] at ho;simp only[go_sem,←ho]
def H149 (Pg:PgT):Prop:=Pg 149=some (.code F149)∧H142 Pg
theorem K149 (h:H149 Pg) (l:List Place) (k:List UInt8) (hl:l.length<2 ^ 60) (hn:l≠[]):K' Pg 149 [Yz l,.str k]=some (eOP (Yas l k)):=by
 obtain⟨h,h142⟩:=h;have k142:=fun s=>K142 h142 s k;simp only[YA] at k142;refine Qa h rfl ?_;cases c2:decide (k=[]) with
 |true=>
  obtain⟨x,t,rfl⟩:=List.exists_cons_of_ne_nil hn;have e:Yas (x::t) k=some x:=by simp[Yas,c2]
  rw[e];simp only[go_sem,YR,c2,Option.isSome_some,YX]
 |false=>
  simp only[go_sem,YR,c2];unfold l149_0;refine JiX (fun (i:Nat) S=>i≤l.length∧S.ρ 0=Yz l∧S.ρ 1=.str k∧S.ρ 4=.lref 4 0∧S.μ 4=some (ePl YX,false)∧S.ρ 6=iz i∧Yas (l.drop i) k=Yas l k) (fun i=>l.length-i) 0 ?_ ?_
  ·simp[go_sem,YX]
  ·intro i S ⟨hi,h0,h1,h4,m4,h6,ho⟩;simp only[go_sem,h0,h6];refine JiY (fun h=>?_) (fun h=>?_)
   ·have h:=Yg h;obtain⟨x,hx,hd⟩:=JiF h;rw[hd] at ho;simp only[Yas,List.find?_cons,c2,Bool.false_or] at ho;simp only[go_sem,h0,h1,h6,hx,k142];cases c4:Yac x.span k with
    |true=>
     rw[c4] at ho;simp only at ho;simp only[go_sem,h0,h4,m4,h6,hx,Yas,c2,Bool.false_or,←ho,Option.isSome_some,YX]
    |false=>
     rw[c4] at ho;simp only at ho;simp only[go_sem,h0,h1,h4,m4,h6];refine⟨i+1,by omega,by omega,by rw[Yi h hl],?_⟩;simp only[Yas,c2,Bool.false_or];exact ho
   ·have h:=Yo hi h;subst h;rw[GN] at ho;have ho:none=Yas l k:=ho;simp only[go_sem,h4,m4,←ho,YX,Option.isSome_none]
def H153 (Pg:PgT):Prop:=Pg 153=some (.code F153)
theorem K153 (h:H153 Pg) (t:List Place) (hl:t.length<2 ^ 60):K' Pg 153 [Yz t,Yz t]=some (.bool true):=by
 refine Qa h rfl ?_;simp only[go_sem];unfold l153_0;refine JiX (fun (i:Nat) S=>i≤t.length∧S.ρ 0=Yz t∧S.ρ 1=Yz t∧S.ρ 5=iz i) (fun i=>t.length-i) 0 ?_ ?_
 ·simp[go_sem]
 ·intro i S ⟨hi,h0,h1,h5⟩;simp only[go_sem,h0,h5];refine JiY (fun h=>?_) (fun h=>?_)
  ·have h:=Yg h;obtain⟨x,hx,hd⟩:=JiF h;simp only[go_sem,h0,h1,h5,hx];exact⟨i+1,by omega,by omega,by rw[Yi h hl]⟩
  ·simp only[go_sem]
theorem YbK:∀{l:List Place},gR l=true↔(∀p∈l,YaX p=true)∧l.Pairwise (fun p q=>p.shard≠q.shard)
 |[]=>by simp[gR]
 |p::l=>by
  simp only[gR,Gi,YbK (l:=l),Gac,GW,forall_eq_or_imp,GP,List.any_eq_false,GA];constructor
  ·intro⟨h1,h2,h3,h4⟩;exact⟨⟨h1,h3⟩,fun q hq e=>h2 q hq e.symm,h4⟩
  ·intro⟨⟨h1,h3⟩,h2,h4⟩;exact⟨h1,fun q hq e=>h2 q hq e.symm,h3,h4⟩
def NV (n:Int):Prop:=n.toNat<2 ^ 63∧((n.toNat:Nat):Int)=n
theorem nv {n:Int} (h0:0≤n) (h1:n≤1099511627776):NV n:=⟨by omega,by omega⟩
theorem Ybn {m n:Int} (hm:0≤m) (h:frQ m n=true):NV n:=by
 simp only[frQ,GP,Bool.or_eq_false_iff,G1] at h;exact nv (by omega) (by omega)
def nB (n:Int):List UInt8:=putB n.toNat
def uI (D:Bool):Rg Int:=.map (fun n:Nat=>(n:Int)) (uN D)
theorem cI {D:Bool}:Cod (uI D).f nB NV:=by
 have h:=(cN (D:=D)).map (g:=fun n:Nat=>(n:Int)) (k:=Int.toNat) (fun a=>rfl);exact⟨fun hr=>h.get hr,fun hp=>h.put hp,h.bad,h.len⟩
theorem YeN (n:Int) (_:NV n):1≤(nB n).length:=putB_pos _
def uIs (D:Bool):Rg (List Int):=(uI D).lst D
abbrev LV {α:Type} (P:α→Prop) (l:List α):Prop:=l.length<2 ^ 63∧∀a∈l,P a
theorem cIs {D:Bool}:Cod (uIs D).f (YJ nB) (LV NV):=cL cI YeN
theorem cTs {D:Bool}:Cod ((uT D).lst D).f (YJ Ym) (LV fun t=>t.length<2 ^ 63):=cL cT fun _ _=>Yah
theorem cSs {D:Bool}:Cod ((uS D).lst D).f (YJ stB) (LV fun s=>Ya s=true):=cL cS fun s _=>by
 have:=putB_pos s.wall.toNat;simp only[stB,Gc];omega
abbrev TV (t:List UInt8):Prop:=t.length<2 ^ 63
def mkPl (p:List UInt8×List UInt8×Int×Int×Int):Place:=⟨⟨p.1,p.2.1⟩,p.2.2.1,p.2.2.2.1,p.2.2.2.2⟩
def Ye5 (x:Place):List UInt8×List UInt8×Int×Int×Int:=(x.span.lo,x.span.hi,x.shard,x.cell,x.epoch)
def uPl (D:Bool):Rg Place:=.map mkPl (.pair (uT D) (.pair (uT D) (.pair (uI D) (.pair (uI D) (uI D)))))
def plB (x:Place):List UInt8:=Ym x.span.lo++(Ym x.span.hi++(nB x.shard++(nB x.cell++nB x.epoch)))
def PlV (x:Place):Prop:=(TV x.span.lo∧TV x.span.hi∧NV x.shard∧NV x.cell∧NV x.epoch)∧mkPl (Ye5 x)=x
theorem cPl {D:Bool}:Cod (uPl D).f plB PlV:=(cT.pair (cT.pair (cI.pair (cI.pair cI)))).map (g:=mkPl) (k:=Ye5) (fun a=>rfl)
theorem Ydr (x:Place) (_:PlV x):1≤(plB x).length:=by
 have:=Yah (t:=x.span.lo);simp only[plB,Gc];omega
def mkIn (p:Int×List Int×Bool):Inf:=⟨p.1,p.2.1,p.2.2⟩
def Ye1 (x:Inf):Int×List Int×Bool:=(x.view,x.mem,x.whole)
def uIn (D:Bool):Rg Inf:=.map mkIn (.pair (uI D) (.pair (uIs D) (uF D)))
def inB (x:Inf):List UInt8:=nB x.view++(YJ nB x.mem++YI x.whole)
def InV (x:Inf):Prop:=(NV x.view∧LV NV x.mem∧True)∧mkIn (Ye1 x)=x
theorem cIn {D:Bool}:Cod (uIn D).f inB InV:=(cI.pair (cIs.pair cF)).map (g:=mkIn) (k:=Ye1) (fun a=>rfl)
theorem Ydh (x:Inf) (_:InV x):1≤(inB x).length:=by
 have:=putB_pos x.view.toNat;simp only[inB,nB,Gc];omega
def mkLe (p:Int×Int×Stamp):Lse:=⟨p.1,p.2.1,p.2.2⟩
def Ye3 (x:Lse):Int×Int×Stamp:=(x.id,x.lft,x.at_)
def uLe (D:Bool):Rg Lse:=.map mkLe (.pair (uI D) (.pair (uI D) (uS D)))
def leB (x:Lse):List UInt8:=nB x.id++(nB x.lft++stB x.at_)
def LeV (x:Lse):Prop:=(NV x.id∧NV x.lft∧Ya x.at_=true)∧mkLe (Ye3 x)=x
theorem cLe {D:Bool}:Cod (uLe D).f leB LeV:=(cI.pair (cI.pair cS)).map (g:=mkLe) (k:=Ye3) (fun a=>rfl)
theorem Ydl (x:Lse) (_:LeV x):1≤(leB x).length:=by
 have:=putB_pos x.id.toNat;simp only[leB,nB,Gc];omega
abbrev OrT:=Int×Int×Int×Stamp×Int
def Yc7 (p:OrT):ORw:=⟨p.1,p.2.1,p.2.2.1,p.2.2.2.1,p.2.2.2.2⟩
def Ye4 (x:ORw):OrT:=(x.client,x.req,x.lease,x.at_,x.err)
def uOr (D:Bool):Rg ORw:=.map Yc7 (.pair (uI D) (.pair (uI D) (.pair (uI D) (.pair (uS D) (uI D)))))
def orB (x:ORw):List UInt8:=nB x.client++(nB x.req++(nB x.lease++(stB x.at_++nB x.err)))
def OrV (x:ORw):Prop:=(NV x.client∧NV x.req∧NV x.lease∧Ya x.at_=true∧NV x.err)∧Yc7 (Ye4 x)=x
theorem cOr {D:Bool}:Cod (uOr D).f orB OrV:=(cI.pair (cI.pair (cI.pair (cS.pair cI)))).map (g:=Yc7) (k:=Ye4) (fun a=>rfl)
theorem Ydq (x:ORw) (_:OrV x):1≤(orB x).length:=by
 have:=putB_pos x.client.toNat;simp only[orB,nB,Gc];omega
abbrev JbT:=Int×Int×Int×Int×Int×Int×Int×Int×List UInt8×List (List UInt8)×Int×Int×Int×List UInt8×List UInt8×List Int×Stamp×List Int
def YdR (p:JbT):Jb:=
 ⟨p.1,p.2.1,p.2.2.1,p.2.2.2.1,p.2.2.2.2.1,p.2.2.2.2.2.1,p.2.2.2.2.2.2.1,p.2.2.2.2.2.2.2.1,p.2.2.2.2.2.2.2.2.1,p.2.2.2.2.2.2.2.2.2.1,p.2.2.2.2.2.2.2.2.2.2.1,p.2.2.2.2.2.2.2.2.2.2.2.1,p.2.2.2.2.2.2.2.2.2.2.2.2.1,⟨p.2.2.2.2.2.2.2.2.2.2.2.2.2.1,p.2.2.2.2.2.2.2.2.2.2.2.2.2.2.1⟩,p.2.2.2.2.2.2.2.2.2.2.2.2.2.2.2.1,p.2.2.2.2.2.2.2.2.2.2.2.2.2.2.2.2.1,p.2.2.2.2.2.2.2.2.2.2.2.2.2.2.2.2.2⟩
def Ye2 (x:Jb):JbT:=(x.kind,x.step,x.id,x.shard,x.other,x.cell,x.to,x.epoch,x.key,x.parts,x.of_,x.client,x.req,x.span.lo,x.span.hi,x.wait,x.at_,x.mem)
def uJb (D:Bool):Rg Jb:=.map YdR (.pair (uI D) (.pair (uI D) (.pair (uI D) (.pair (uI D) (.pair (uI D) (.pair (uI D) (.pair (uI D) (.pair (uI D) (.pair (uT D) (.pair ((uT D).lst D) (.pair (uI D) (.pair (uI D) (.pair (uI D) (.pair (uT D) (.pair (uT D) (.pair (uIs D) (.pair (uS D) (uIs D))))))))))))))))))
def jbB (x:Jb):List UInt8:=nB x.kind++(nB x.step++(nB x.id++(nB x.shard++(nB x.other++(nB x.cell++(nB x.to++(nB x.epoch++(Ym x.key++(YJ Ym x.parts++(nB x.of_++(nB x.client++(nB x.req++(Ym x.span.lo++(Ym x.span.hi++(YJ nB x.wait++(stB x.at_++YJ nB x.mem))))))))))))))))
def JbV (x:Jb):Prop:=(NV x.kind∧NV x.step∧NV x.id∧NV x.shard∧NV x.other∧NV x.cell∧NV x.to∧NV x.epoch∧TV x.key∧LV TV x.parts∧NV x.of_∧NV x.client∧NV x.req∧TV x.span.lo∧TV x.span.hi∧LV NV x.wait∧Ya x.at_=true∧LV NV x.mem)∧YdR (Ye2 x)=x
theorem cJb {D:Bool}:Cod (uJb D).f jbB JbV:=(cI.pair (cI.pair (cI.pair (cI.pair (cI.pair (cI.pair (cI.pair (cI.pair (cT.pair (cTs.pair (cI.pair (cI.pair (cI.pair (cT.pair (cT.pair (cIs.pair (cS.pair cIs))))))))))))))))).map (g:=YdR) (k:=Ye2) (fun a=>rfl)
abbrev DrT:=List Place×List Inf×Int×List Lse×List Stamp×Stamp×Jb×List ORw
def YcH (p:DrT):Drc:=⟨p.1,p.2.1,p.2.2.1,p.2.2.2.1,p.2.2.2.2.1,p.2.2.2.2.2.1,p.2.2.2.2.2.2.1,p.2.2.2.2.2.2.2⟩
def Ye0 (x:Drc):DrT:=(x.places,x.cells,x.next,x.leases,x.lows,x.mark,x.job,x.opened)
def uDr (D:Bool):Rg Drc:=.map YcH (.pair ((uPl D).lst D) (.pair ((uIn D).lst D) (.pair (uI D) (.pair ((uLe D).lst D) (.pair ((uS D).lst D) (.pair (uS D) (.pair (uJb D) ((uOr D).lst D))))))))
def drB (x:Drc):List UInt8:=YJ plB x.places++(YJ inB x.cells++(nB x.next++(YJ leB x.leases++(YJ stB x.lows++(stB x.mark++(jbB x.job++YJ orB x.opened))))))
def DrV (x:Drc):Prop:=(LV PlV x.places∧LV InV x.cells∧NV x.next∧LV LeV x.leases∧LV (fun s=>Ya s=true) x.lows∧Ya x.mark=true∧JbV x.job∧LV OrV x.opened)∧YcH (Ye0 x)=x
theorem cDr {D:Bool}:Cod (uDr D).f drB DrV:=((cL cPl Ydr).pair ((cL cIn Ydh).pair (cI.pair ((cL cLe Ydl).pair (cSs.pair (cS.pair (cJb.pair (cL cOr Ydq)))))))).map (g:=YcH) (k:=Ye0) (fun a=>rfl)
def tkD (t:List UInt8):Option Drc:=if ((uDr false).f (t,false)).2=([],false)∧Yao ((uDr false).f (t,false)).1=true then some ((uDr false).f (t,false)).1 else none
theorem Cod.whole {α:Type} {R:Rd→α×Rd} {W:α→List UInt8} {P:α→Prop} {q:α→Bool} (h:Cod R W P) {t:List UInt8} {c:α} :
  (if (R (t,false)).2=([],false)∧q (R (t,false)).1=true then some (R (t,false)).1 else none)=some c↔t=W c∧P c∧q c=true:=by
 constructor
 ·intro hc
  split at hc
  ·rename_i h0
   simp only[Ga] at hc
   obtain⟨h1,h2⟩:=h0
   obtain⟨g1,g2⟩:=h.get (s:=t) (r:=[]) (a:=c) (Prod.ext hc h1)
   rw[hc] at h2
   exact⟨by rw[g1];simp,g2,h2⟩
  ·cases hc
 ·rintro⟨rfl,hp,hq⟩
  have:=h.put (r:=[]) hp
  rw[GC] at this
  rw[this,Gx ⟨rfl,hq⟩]
structure DrL (d:Drc):Prop where
 pl:∀p∈d.places,p.span.lo.length≤2 ^ 20∧p.span.hi.length≤2 ^ 20
 key:d.job.key.length≤2 ^ 20
 parts:d.job.parts.length≤2 ^ 20∧∀t∈d.job.parts,t.length≤2 ^ 20
 span:d.job.span.lo.length≤2 ^ 20∧d.job.span.hi.length≤2 ^ 20
 wait:d.job.wait.length≤2 ^ 20
 mem:d.job.mem.length≤2 ^ 20
 cell:∀c∈d.cells,c.mem.length≤2 ^ 20
theorem Ydz {l:List Int} (h:Ybh l=true):∀n∈l,NV n:=fun n hn=>by
 have:=(Gg h).2.1 n hn;exact nv (by omega) (by omega)
theorem YcU:∀{l:List ORw} {p:Int} {x:ORw},opQ p l=true→x∈l→p<x.client∧YbG x=true
 |r::l,p,x,h,hx=>by
  simp only[opQ,Gi,GP,G1] at h;rcases GW.1 hx with rfl|hx
  ·exact⟨by omega,h.2.1⟩
  ·have:=YcU h.2.2 hx;exact⟨by omega,this.2⟩
theorem YcM {d:Drc} (h:Yao d=true) (hl:DrL d):DrV d:=by
 simp only[Yao,Yar,Yv,Gi,GA,GP,G1,Gw] at h;obtain⟨⟨⟨p1,p2,p3⟩,l1,c1,o1,n1,n2,m1,j1,q1⟩,⟨c2,o2⟩,q2⟩:=h;obtain⟨l2,l3⟩:=Yaw l1;have hp:=(YbK.1 p2).1;have jb:JbV d.job:=by
  simp only[Y1,YS,YaU,YbJ,Gi,Gai,GA,GP,G1,Gw] at j1;obtain⟨⟨a1,a2,a3,a4,⟨b1,b2,b3,b4,b5,b6,b7⟩,a5,a6⟩,⟨e1,e2,e3,e4,e5⟩,-⟩:=j1;have z:(0:Int)≤0:=Int.le_refl 0;have me:∀n∈d.job.mem,NV n:=fun n hn=>by
   rcases e5 with e5|e5
   ·rw[e5] at hn;cases hn
   ·exact Ydz e5 n hn
  exact⟨⟨nv (by omega) (by omega),nv (by omega) (by omega),Ybn z b1,Ybn z b2,Ybn z b3,nv (by omega) (by omega),nv (by omega) (by omega),Ybn z b4,by have:=hl.key;show _<_;omega,⟨by have:=hl.parts.1;omega,fun t ht=>by have:=hl.parts.2 t ht;show _<_;omega⟩,
   Ybn z b5,Ybn z b6,Ybn z b7,by have:=hl.span.1;show _<_;omega,by have:=hl.span.2;show _<_;omega,⟨by have:=hl.wait;omega,fun n hn=>Ybn z (a5 n hn)⟩,a6,⟨by have:=hl.mem;omega,me⟩⟩,rfl⟩
 refine⟨⟨⟨by omega,fun p hm=>?_⟩,⟨by omega,fun c hm=>?_⟩,nv (by omega) (by omega),⟨by omega,fun l hm=>?_⟩,⟨by omega,o2⟩,m1,jb,⟨by omega,fun r hm=>?_⟩⟩,rfl⟩
 ·have h0:=hp p hm;simp only[YaX,Y0,YaS,Gi,GA] at h0;have:=hl.pl p hm;exact⟨⟨by show _<_;omega,by show _<_;omega,nv (by omega) (by omega),nv (by omega) (by omega),nv (by omega) (by omega)⟩,rfl⟩
 ·have h0:=c2 c hm;simp only[YbR,Gi] at h0;exact⟨⟨Ybn (by omega) h0.1,⟨by have:=hl.cell c hm;omega,Ydz h0.2⟩,Gn⟩,rfl⟩
 ·have h0:=Ycx l2 hm;simp only[YaA,Gi,GA] at h0;have:=Yb3 l2 hm;exact⟨⟨nv (by omega) (by omega),nv (by omega) (by omega),h0.2.2.2⟩,rfl⟩
 ·obtain⟨h0,h1⟩:=YcU q2 hm;simp only[YbG,Gi,GP,G1] at h1;have z:(0:Int)≤0:=Int.le_refl 0;exact⟨⟨nv (by omega) (by omega),Ybn z h1.2.1,Ybn z h1.2.2.1,h1.2.2.2.1,nv (by omega) (by omega)⟩,rfl⟩
def kp {α:Type} (z:α) (x:Rd) (v:α) (rest:List UInt8) (e:Int):α×Rd:=if x.2=true∨e≠0 then (z,(x.1,true)) else (v,(rest,false))
def H565 (Pg:PgT):Prop:=Pg 565=some (.codeR F565 0)
theorem K565 (h:H565 Pg) (x:Rd) (v:Int) (rest:List UInt8) (e:Int):K' Pg 565 [.tuple (.lref 0 0::eRd x),iz v,.str rest,iz e]=some (.tuple [iz (kp 0 x v rest e).1,.tuple (eRd (kp 0 x v rest e).2)]):=by
 obtain⟨s,b⟩:=x;refine Yab [.t 8] (ws:=[iz _]) h rfl rfl (Yt _) (Yt _) (Yat _) fun S ⟨r0,r,hm,m0,a0⟩=>?_;have r1:=r 0;have r2:=r 1;have r3:=r 2;simp only[JhS,JhR,Option.getD_some] at r1 r2 r3;simp only[go_sem] at hm r1;unfold kp;cases b with
 |true=>
  rw[Gx (.inl rfl)];simp only[F565,c565,go_sem,r0,r1,r2,r3,hm];exact⟨_,rfl,fun _=>rfl⟩
 |false=>
 cases c:decide (e=0) with
 |false=>
  rw[Gx (.inr (Ge c))];simp only[F565,c565,go_sem,r0,r1,r2,r3,hm,c];exact⟨_,rfl,fun _=>rfl⟩
 |true=>
  rw[Gq (by rintro (h|h)<;>first|(cases h;done)|exact h (Gg c))];simp only[F565,c565,go_sem,r0,r1,r2,r3,hm,c];exact⟨_,rfl,fun _=>rfl⟩
def H567 (Pg:PgT):Prop:=Pg 567=some (.codeR F567 0)
theorem K567 (h:H567 Pg) (x:Rd) (v:List UInt8) (rest:List UInt8) (e:Int):K' Pg 567 [.tuple (.lref 0 0::eRd x),.str v,.str rest,iz e]=some (.tuple [.str (kp [] x v rest e).1,.tuple (eRd (kp [] x v rest e).2)]):=by
 obtain⟨s,b⟩:=x;refine Yab [.t 8] (ws:=[.str _]) h rfl rfl (Yt _) (Yt _) (Yat _) fun S ⟨r0,r,hm,m0,a0⟩=>?_;have r1:=r 0;have r2:=r 1;have r3:=r 2;simp only[JhS,JhR,Option.getD_some] at r1 r2 r3;simp only[go_sem] at hm r1;unfold kp;cases b with
 |true=>
  rw[Gx (.inl rfl)];simp only[F567,c567,go_sem,r0,r1,r2,r3,hm];exact⟨_,rfl,fun _=>rfl⟩
 |false=>
 cases c:decide (e=0) with
 |false=>
  rw[Gx (.inr (Ge c))];simp only[F567,c567,go_sem,r0,r1,r2,r3,hm,c];exact⟨_,rfl,fun _=>rfl⟩
 |true=>
  rw[Gq (by rintro (h|h)<;>first|(cases h;done)|exact h (Gg c))];simp only[F567,c567,go_sem,r0,r1,r2,r3,hm,c];exact⟨_,rfl,fun _=>rfl⟩
def H568 (Pg:PgT):Prop:=Pg 568=some (.codeR F568 0)
theorem K568 (h:H568 Pg) (x:Rd) (v:Bool) (rest:List UInt8) (e:Int):K' Pg 568 [.tuple (.lref 0 0::eRd x),.bool v,.str rest,iz e]=some (.tuple [.bool (kp false x v rest e).1,.tuple (eRd (kp false x v rest e).2)]):=by
 obtain⟨s,b⟩:=x;refine Yab [.t 8] (ws:=[.bool _]) h rfl rfl (Yt _) (Yt _) (Yat _) fun S ⟨r0,r,hm,m0,a0⟩=>?_;have r1:=r 0;have r2:=r 1;have r3:=r 2;simp only[JhS,JhR,Option.getD_some] at r1 r2 r3;simp only[go_sem] at hm r1;unfold kp;cases b with
 |true=>
  rw[Gx (.inl rfl)];simp only[F568,c568,go_sem,r0,r1,r2,r3,hm];exact⟨_,rfl,fun _=>rfl⟩
 |false=>
 cases c:decide (e=0) with
 |false=>
  rw[Gx (.inr (Ge c))];simp only[F568,c568,go_sem,r0,r1,r2,r3,hm,c];exact⟨_,rfl,fun _=>rfl⟩
 |true=>
  rw[Gq (by rintro (h|h)<;>first|(cases h;done)|exact h (Gg c))];simp only[F568,c568,go_sem,r0,r1,r2,r3,hm,c];exact⟨_,rfl,fun _=>rfl⟩
def H569 (Pg:PgT):Prop:=Pg 569=some (.codeR F569 0)
theorem K569 (h:H569 Pg) (x:Rd) (v:Stamp) (rest:List UInt8) (e:Int):K' Pg 569 [.tuple (.lref 0 0::eRd x),eSt v,.str rest,iz e]=some (.tuple [eSt (kp zS x v rest e).1,.tuple (eRd (kp zS x v rest e).2)]):=by
 obtain⟨s,b⟩:=x;refine Yab [.cell 8 (some 3)] (ws:=[eSt _]) h rfl rfl (Yt _) (Yt _) (Yat _) fun S ⟨r0,r,hm,m0,a0⟩=>?_;have r1:=r 0;have r2:=r 1;have r3:=r 2;simp only[JhS,JhR,Option.getD_some] at r1 r2 r3;have m5:=m0 5 rfl;have m8:=m0 8 rfl;have m9:=m0 9 rfl;simp only[eSt] at r1;simp only[go_sem] at hm r1;unfold kp;cases b with
 |true=>
  rw[Gx (.inl rfl)];simp only[F569,c569,go_sem,r0,r1,r2,r3,hm,m5,m8,m9,eSt,zS,Yd];exact⟨_,rfl,fun _=>rfl⟩
 |false=>
 cases c:decide (e=0) with
 |false=>
  rw[Gx (.inr (Ge c))];simp only[F569,c569,go_sem,r0,r1,r2,r3,hm,c,m5,m8,m9,eSt,zS,Yd];exact⟨_,rfl,fun _=>rfl⟩
 |true=>
  rw[Gq (by rintro (h|h)<;>first|(cases h;done)|exact h (Gg c))];simp only[F569,c569,go_sem,r0,r1,r2,r3,hm,c,m5,m8,m9,eSt,zS,Yd];exact⟨_,rfl,fun _=>rfl⟩
def H530 (Pg:PgT):Prop:=Pg 530=some (.codeR F530 0)∧H491 Pg∧H565 Pg
theorem K530 (h:H530 Pg) (x:Rd) (hx:x.1.length<2 ^ 62):K' Pg 530 [.tuple (.lref 0 0::eRd x)]=some (.tuple [iz (rd (tk 9) 0 x).1,.tuple (eRd (rd (tk 9) 0 x).2)]):=by
 obtain⟨h,hk,hp⟩:=h;obtain⟨e,he,k⟩:=K491 hk x.1 hx;obtain⟨s,b⟩:=x;refine Yab [.t 2] (ws:=[iz _]) h rfl rfl (Yt _) (Yt _) (Yat _) fun S ⟨r0,r,hm,m0,a0⟩=>?_;simp only[go_sem] at hm k;cases hq:(tk 9) s with
 |none=>
  have p:=K565 hp (s,b) (0:Int) [] e;have e1:kp (0:Int) (s,b) (0:Int) [] e=((0:Int),(s,true)):=Gx (.inr he);rw[e1] at p;rw[hq] at k;simp only[eTk] at k;have e2:rd (tk 9) 0 (s,b)=(0,(s,true)):=by cases b<;>simp only[rd,hq]
  rw[e2];simp only[go_sem] at p;simp only[F530,c530,go_sem,JiK,r0,hm,k,p];exact⟨_,rfl,fun _=>rfl⟩
 |some q=>
  obtain⟨n,u⟩:=q;rw[hq] at k;simp only[eTk] at k;cases b with
  |true=>
   have p:=K565 hp (s,true) (n:Int) u 0;have e1:kp (0:Int) (s,true) (n:Int) u 0=((0:Int),(s,true)):=Gx (.inl rfl);rw[e1] at p;have e2:rd (tk 9) 0 (s,true)=(0,(s,true)):=rfl;rw[e2];simp only[go_sem] at p k;simp only[F530,c530,go_sem,JiK,r0,hm,k,p];exact⟨_,rfl,fun _=>rfl⟩
  |false=>
   have p:=K565 hp (s,false) (n:Int) u 0;have e1:kp (0:Int) (s,false) (n:Int) u 0=((n:Int),(u,false)):=Gq (by simp);rw[e1] at p;have e2:rd (tk 9) 0 (s,false)=(n,(u,false)):=by simp only[rd,hq]
   rw[e2];simp only[go_sem] at p k;simp only[F530,c530,go_sem,JiK,r0,hm,k,p];exact⟨_,rfl,fun _=>rfl⟩
theorem R530 (h:H530 Pg) (x:Rb):K' Pg 530 [.tuple (.lref 0 0::eR x)]=some (.tuple [iz ((uN false).v x),.tuple (eR ((uN false).n x))]):=
 (uN false).k (e:=fun a:Nat=>iz (a:Int)) (K530 h) x
def H539 (Pg:PgT):Prop:=Pg 539=some (.codeR F539 0)∧H506 Pg∧H567 Pg
theorem K539 (h:H539 Pg) (x:Rd) (hx:x.1.length<2 ^ 62):K' Pg 539 [.tuple (.lref 0 0::eRd x)]=some (.tuple [.str (rd tkT [] x).1,.tuple (eRd (rd tkT [] x).2)]):=by
 obtain⟨h,hk,hp⟩:=h;obtain⟨e,he,k⟩:=K506 hk x.1 hx;obtain⟨s,b⟩:=x;refine Yab [.t 2] (ws:=[.str _]) h rfl rfl (Yt _) (Yt _) (Yat _) fun S ⟨r0,r,hm,m0,a0⟩=>?_;simp only[go_sem] at hm k;cases hq:tkT s with
 |none=>
  have p:=K567 hp (s,b) ([]:List UInt8) [] e;have e1:kp ([]:List UInt8) (s,b) ([]:List UInt8) [] e=(([]:List UInt8),(s,true)):=Gx (.inr he);rw[e1] at p;rw[hq] at k;simp only[YbB] at k;have e2:rd tkT [] (s,b)=([],(s,true)):=by cases b<;>simp only[rd,hq]
  rw[e2];simp only[go_sem] at p;simp only[F539,c539,go_sem,JiK,r0,hm,k,p];exact⟨_,rfl,fun _=>rfl⟩
 |some q=>
  obtain⟨n,u⟩:=q;rw[hq] at k;simp only[YbB] at k;cases b with
  |true=>
   have p:=K567 hp (s,true) n u 0;have e1:kp ([]:List UInt8) (s,true) n u 0=(([]:List UInt8),(s,true)):=Gx (.inl rfl);rw[e1] at p;have e2:rd tkT [] (s,true)=([],(s,true)):=rfl;rw[e2];simp only[go_sem] at p k;simp only[F539,c539,go_sem,JiK,r0,hm,k,p];exact⟨_,rfl,fun _=>rfl⟩
  |false=>
   have p:=K567 hp (s,false) n u 0;have e1:kp ([]:List UInt8) (s,false) n u 0=(n,(u,false)):=Gq (by simp);rw[e1] at p;have e2:rd tkT [] (s,false)=(n,(u,false)):=by simp only[rd,hq]
   rw[e2];simp only[go_sem] at p k;simp only[F539,c539,go_sem,JiK,r0,hm,k,p];exact⟨_,rfl,fun _=>rfl⟩
theorem R539 (h:H539 Pg) (x:Rb):K' Pg 539 [.tuple (.lref 0 0::eR x)]=some (.tuple [.str ((uT false).v x),.tuple (eR ((uT false).n x))]):=
 (uT false).k (e:=fun a:List UInt8=>.str a) (K539 h) x
def H541 (Pg:PgT):Prop:=Pg 541=some (.codeR F541 0)∧H507 Pg∧H568 Pg
theorem K541 (h:H541 Pg) (x:Rd) (hx:x.1.length<2 ^ 62):K' Pg 541 [.tuple (.lref 0 0::eRd x)]=some (.tuple [.bool (rd tkF false x).1,.tuple (eRd (rd tkF false x).2)]):=by
 obtain⟨h,hk,hp⟩:=h;obtain⟨e,he,k⟩:=K507 hk x.1;obtain⟨s,b⟩:=x;refine Yab [.t 2] (ws:=[.bool _]) h rfl rfl (Yt _) (Yt _) (Yat _) fun S ⟨r0,r,hm,m0,a0⟩=>?_;simp only[go_sem] at hm k;cases hq:tkF s with
 |none=>
  have p:=K568 hp (s,b) false [] e;have e1:kp false (s,b) false [] e=(false,(s,true)):=Gx (.inr he);rw[e1] at p;rw[hq] at k;simp only[YbA] at k;have e2:rd tkF false (s,b)=(false,(s,true)):=by cases b<;>simp only[rd,hq]
  rw[e2];simp only[go_sem] at p;simp only[F541,c541,go_sem,JiK,r0,hm,k,p];exact⟨_,rfl,fun _=>rfl⟩
 |some q=>
  obtain⟨n,u⟩:=q;rw[hq] at k;simp only[YbA] at k;cases b with
  |true=>
   have p:=K568 hp (s,true) n u 0;have e1:kp false (s,true) n u 0=(false,(s,true)):=Gx (.inl rfl);rw[e1] at p;have e2:rd tkF false (s,true)=(false,(s,true)):=rfl;rw[e2];simp only[go_sem] at p k;simp only[F541,c541,go_sem,JiK,r0,hm,k,p];exact⟨_,rfl,fun _=>rfl⟩
  |false=>
   have p:=K568 hp (s,false) n u 0;have e1:kp false (s,false) n u 0=(n,(u,false)):=Gq (by simp);rw[e1] at p;have e2:rd tkF false (s,false)=(n,(u,false)):=by simp only[rd,hq]
   rw[e2];simp only[go_sem] at p k;simp only[F541,c541,go_sem,JiK,r0,hm,k,p];exact⟨_,rfl,fun _=>rfl⟩
theorem R541 (h:H541 Pg) (x:Rb):K' Pg 541 [.tuple (.lref 0 0::eR x)]=some (.tuple [.bool ((uF false).v x),.tuple (eR ((uF false).n x))]):=
 (uF false).k (e:=fun a:Bool=>.bool a) (K541 h) x
def H542 (Pg:PgT):Prop:=Pg 542=some (.codeR F542 0)∧H490 Pg∧H569 Pg
theorem K542 (h:H542 Pg) (x:Rd) (hx:x.1.length<2 ^ 62):K' Pg 542 [.tuple (.lref 0 0::eRd x)]=some (.tuple [eSt (rd tkS zS x).1,.tuple (eRd (rd tkS zS x).2)]):=by
 obtain⟨h,hk,hp⟩:=h;obtain⟨e,he,k⟩:=K490 hk x.1 hx;obtain⟨s,b⟩:=x;refine Yab [.cell 2 (some 3)] (ws:=[eSt _]) h rfl rfl (Yt _) (Yt _) (Yat _) fun S ⟨r0,r,hm,m0,a0⟩=>?_;have m2:=m0 2 rfl;have m3:=m0 3 rfl;simp only[go_sem] at hm k;cases hq:tkS s with
 |none=>
  have p:=K569 hp (s,b) zS [] e;have e1:kp zS (s,b) zS [] e=(zS,(s,true)):=Gx (.inr he);rw[e1] at p;rw[hq] at k;simp only[Ybk] at k;have e2:rd tkS zS (s,b)=(zS,(s,true)):=by cases b<;>simp only[rd,hq]
  rw[e2];simp only[go_sem,m2,m3,eSt,zS,Yd] at p;simp only[F542,c542,go_sem,JiK,r0,hm,k,p,m2,m3,eSt,zS,Yd];exact⟨_,rfl,fun _=>rfl⟩
 |some q=>
  obtain⟨n,u⟩:=q;rw[hq] at k;simp only[Ybk] at k;cases b with
  |true=>
   have p:=K569 hp (s,true) n u 0;have e1:kp zS (s,true) n u 0=(zS,(s,true)):=Gx (.inl rfl);rw[e1] at p;have e2:rd tkS zS (s,true)=(zS,(s,true)):=rfl;rw[e2];simp only[go_sem,m2,m3,eSt,zS,Yd] at p k;simp only[F542,c542,go_sem,JiK,r0,hm,k,p,m2,m3,eSt,zS,Yd];exact⟨_,rfl,fun _=>rfl⟩
  |false=>
   have p:=K569 hp (s,false) n u 0;have e1:kp zS (s,false) n u 0=(n,(u,false)):=Gq (by simp);rw[e1] at p;have e2:rd tkS zS (s,false)=(n,(u,false)):=by simp only[rd,hq]
   rw[e2];simp only[go_sem,m2,m3,eSt,zS,Yd] at p k;simp only[F542,c542,go_sem,JiK,r0,hm,k,p,m2,m3,eSt,zS,Yd];exact⟨_,rfl,fun _=>rfl⟩
theorem R542 (h:H542 Pg) (x:Rb):K' Pg 542 [.tuple (.lref 0 0::eR x)]=some (.tuple [eSt ((uS false).v x),.tuple (eR ((uS false).n x))]):=
 (uS false).k (e:=fun a:Stamp=>eSt a) (K542 h) x
def H531 (Pg:PgT):Prop:=Pg 531=some (.codeR F531 0)∧H530 Pg
theorem K531 (h:H531 Pg) (x:Rd) (hx:x.1.length<2 ^ 62):K' Pg 531 [.tuple (.lref 0 0::eRd x)]=some (.tuple [iz (rL x).1,.tuple (eRd (rL x).2)]):=by
 obtain⟨h,h465⟩:=h;have k:=K530 h465 x hx;have hr:=fun (S:St) (hm:S.μ 0=some (eRd x,false))=>Qc (p:=20000) k hm;unfold rL;generalize rd (tk 9) 0 x=y at hr;obtain⟨n,s,b⟩:=y;simp only[go_sem] at hr;refine Yab [.t 2] (ws:=[iz _]) h rfl rfl (Yt _) (Yt _) (Yat _) fun S ⟨r0,r,hm,m0,a0⟩=>?_;simp only[go_sem] at hm;have c:decide (((s.length:Nat):Int)<(n:Int))=decide (s.length<n):=G7.2 (by omega);simp only;by_cases h1:s.length<n
 ·have c1:decide (s.length<n)=true:=GT h1;rw[Gx h1];simp only[F531,c531,go_sem,r0,hm,hr,c,c1];exact⟨_,rfl,fun _=>rfl⟩
 ·have c1:decide (s.length<n)=false:=GE h1;rw[Gq h1];simp only[F531,c531,go_sem,r0,hm,hr,c,c1];exact⟨_,rfl,fun _=>rfl⟩
theorem YcB (h:H531 Pg) (x:Rb):K' Pg 531 [.tuple (.lref 0 0::eR x)]=some (.tuple [iz ((uL false).v x),.tuple (eR ((uL false).n x))]):=
 (uL false).k (e:=fun a:Nat=>iz (a:Int)) (K531 h) x
attribute [go_sem] Yee Ye7 Ye8 YdN YdO
def H540 (Pg:PgT):Prop:=Pg 540=some (.codeR F540 0)∧H530 Pg∧H531 Pg
theorem Yd4 (h:H540 Pg) (x:Rb):K' Pg 540 [.tuple (.lref 0 0::eR x)]=some (.tuple [Yf ((uIs false).v x),.tuple (eR ((uIs false).n x))]):=by
 obtain⟨h,h530,h531⟩:=h;have k1:=R530 h530;have k2:=YcB h531 x;have hl:((uL false).v x)≤2 ^ 29:=Yb4;have hv:=Rg.lst_v (D:=false) (R:=uI false) (x:=x)
 show _=some (V.tuple [Yf (((uI false).lst false).v x),V.tuple (eR (((uI false).lst false).n x))])
 rw[hv.1,hv.2];generalize (uL false).n x=y at *
 generalize (uL false).v x=m at *
 refine Ybx [.t 2] (ws:=[Yf _]) h rfl rfl (YbI _) (YbI _) (Ydd _) fun S ⟨r0,r,hm,m0,a0⟩=>?_;have a3:=a0 3;simp only[F540,c540,go_sem,JiK,r0,hm,k2,a3];unfold l540_0;refine JiX (fun (j:Nat) S=>j≤m∧S.ρ 0=.lref 0 0∧S.ρ 5=iz m∧S.ρ 6=iz j∧∃(vs:List Int) (z:Rb),vs.length=j∧(((uI false).rep false m).v y=vs++((uI false).rep false (m-j)).v z∧((uI false).rep false m).n y=((uI false).rep false (m-j)).n z)∧S.μ 0=some (eR z,false)∧S.ρ 3=.own 3 1 j∧S.A 3=some (1,vs.map fun a=>[iz a],.live)) (fun j=>m-j) 0 ?_ ?_
 ·simp only[JhU];exact⟨GJ _,by simp only[go_sem,r0],by simp only[go_sem],by simp only[go_sem],[],y,rfl,⟨rfl,rfl⟩,by simp only[go_sem],by simp only[go_sem],by simp only[go_sem,GQ]⟩
 ·intro j S ⟨hj,s0,s5,s6,vs,z,hvl,hrep,hm,s3,a3⟩;cases c1:decide ((j:Int)<(m:Int)) with
  |false=>
   have hjm:j=m:=by have:=Ge c1;omega
   subst hjm;obtain⟨e1,e2⟩:=YaR hrep;simp only[go_sem,s0,s3,s5,s6,hm,a3,c1,e1,e2,hvl,Gj];exact⟨_,rfl,by simp only[go_sem,a3,hvl,Gj]⟩
  |true=>
   have hlt:=Yg c1;have hinc:=inc64q (i:=j) (by omega)
   have hone:=rep_step hlt hrep;have k:=k1 z;have hlim:j+1≤lim:=by unfold lim;omega
   simp only[go_sem,JiK,s0,s3,s5,s6,hm,a3,c1,k,hinc,hvl,hlim,JhU,Gj];exact⟨j+1,by omega,by omega,rfl,vs++[(((uN false).v z:Nat):Int)],(uN false).n z,by simp[hvl],hone,rfl,rfl,by rw[GS];rfl⟩
def shP (s:Shd) (e d:V):List V:=[iz s.id,iz s.epoch,.str s.span.lo,.str s.span.hi,iz s.phase,e,iz s.mark.wall,iz s.mark.tick,iz s.mark.node,iz s.top.wall,iz s.top.tick,iz s.top.node,d,iz s.hold,iz s.seen,iz s.move,iz s.closed]
def zSh:List V:=[.int .i64 0,.int .i64 0,.str [],.str [],.int .i64 0,.slice 2 [],.int .i64 0,.int .i64 0,.int .i64 0,.int .i64 0,.int .i64 0,.int .i64 0,.slice 11 [],.int .i64 0,.int .i64 0,.int .i64 0,.int .i64 0]
theorem scrub_nil {Wa:List Nat} {s z n:Nat} (h:Wa.contains s=false):Jv Wa (nilOr s z n)=nilOr s z n:=by
 unfold nilOr;split
 ·rfl
 ·simp only[Jv,h,Gt,GI]
theorem Ya5 {S:St} {v:Nat} {Wv Wa:List Nat} {x:Shd} {s z n s' z' n':Nat} (hm:S.μ v=some (shP x (nilOr s z n) (nilOr s' z' n'),false)) (hv:Wv.contains v=false) (h:Wa.contains s=false) (h':Wa.contains s'=false) :
  (S.head [] [] Wv Wa).μ v=some (shP x (nilOr s z n) (nilOr s' z' n'),false):=by
 show (if Wv.contains v then none else (S.μ v).map _)=_
 rw[hv,hm]
 simp only[Gt,GI,Option.map_some]
 have:(shP x (nilOr s z n) (nilOr s' z' n')).map (Jv Wa)=shP x (nilOr s z n) (nilOr s' z' n'):=by
  simp only[shP,GF,GQ,scrub_nil h,scrub_nil h']
  rfl
 rw[this]
 cases Wa.isEmpty<;>rfl
theorem YN {S:St} {Wv Wa:List Nat} {x:Nat} (h:Wa.contains x=false):(S.head [] [] Wv Wa).A x=S.A x:=by
 show (if Wa.contains x then none else S.A x)=S.A x
 rw[h];rfl
def clP (t:Stamp) (d:Int) (e:V):List V:=[e,iz t.wall,iz t.tick,iz t.node,iz d]
structure B436 (S:St) (y:Rd) (sh:Shd) (es:List Entr) (ds:List Done):Prop where
 r0:S.ρ 0=.lref 0 0
 r2:S.ρ 2=.lref 2 0
 r3:S.ρ 3=.lref 3 0
 m0:S.μ 0=some (eRd y,false)
 m2:S.μ 2=some (zSh,false)
 m3:S.μ 3=some (shP sh (nilOr 97 2 es.length) (nilOr 139 11 ds.length),false)
 m11:S.μ 11=none
 a97:S.A 97=Yax 2 (es.map YG) es.length
 a139:S.A 139=Yax 11 (ds.map YC) ds.length
theorem B436.head {S:St} {y:Rd} {sh:Shd} {es:List Entr} {ds:List Done} {Wv Wa:List Nat} (h:B436 S y sh es ds) (h0:Wv.contains 0=false) (h2:Wv.contains 2=false) (h3:Wv.contains 3=false) (h97:Wa.contains 97=false) (h139:Wa.contains 139=false) :
  B436 (S.head [] [] Wv Wa) y sh es ds:=
 ⟨JiJ h.r0 (by simp only[stay,h0];rfl),JiJ h.r2 (by simp only[stay,h2];rfl),JiJ h.r3 (by simp only[stay,h3];rfl),JiI h.m0 rfl h0,JiI h.m2 rfl h2,Ya5 h.m3 h3 h97 h139,JiH (.inl h.m11),(YN h97).trans h.a97,(YN h139).trans h.a139⟩
structure HW (S:St) (v:Nat) (b:List UInt8) (a:Nat):Prop where
 m:S.μ v=some ([.own a 1 b.length],false)
 a:S.A a=some (1,b.map rowB,.live)
def YaD (b:List UInt8):List V:=[.tuple [.slice 1 (b.map rowB)]]
theorem Ydy {args:List V} {b:List UInt8}:startR args 0 (YaD b)=some ⟨fun i=>if i=0 then .lref 0 0 else (args[i]?).getD .undef,upd (fun _=>none) 0 (some ([.own 9000 1 b.length],false)),upd (fun _=>none) 9000 (some (1,b.map rowB,.live))⟩:=by
 unfold startR YaD;simp only[JcQ,Jfg,Jiq,JdF,Option.bind_some,Gj]
theorem YcP {A:AA} {b:List UInt8} {a:Nat} (h:A a=some (1,b.map rowB,.live)):Jag [.own a 1 b.length] A=some (YaD b,upd A a (some (1,[],.dead))):=by
 simp only[Jcx,Jda,Jem,h,JhT,Gj,GK,Option.bind_some]
 rfl
structure SWr (S:St) (rest:List V) (b:List UInt8):Prop where
 r0:S.ρ 0=.lref 0 0
 r:∀i,S.ρ (i+1)=(rest[i]?).getD .undef
 h:HW S 0 b 9000
 m:∀i,(i == 0)=false→S.μ i=none
 a:∀x,x≠9000→S.A x=none
theorem YbU {f:Nat} {F:F} {rest:List V} {b b':List UInt8} (hF:Pg f=some (.codeR F 0)) (hl:rest.length+1=F.np) (hrs:F.res=[])
  (h:∀S,SWr S rest b→Wp (K' Pg) F.body S fun ex S'=>(ex=.norm∨ex=.ret)∧∃a,HW S' 0 b' a) :
  K' Pg f (.tuple (.lref 0 0::YaD b)::rest)=some (.tuple [.tuple [],.tuple (YaD b')]):=by
 have hm:∀i,(i == 0)=false→(upd (fun _=>none) 0 (some ([V.own 9000 1 b.length],false)):Nat→Option (List V×Bool)) i=none:=fun i hi=>Jfj hi
 refine Qb hF (by simpa using hl) rfl Ydy ((h _ ⟨rfl,fun i=>rfl,⟨by simp[upd],by simp[upd]⟩,hm,fun x hx=>by simp only[upd];rw[Gq hx]⟩).mono fun ex S' hq=>⟨hq.1,?_⟩)
 obtain⟨a,h1⟩:=hq.2
 unfold JaB
 rw[hrs]
 simp only[Jo,Option.bind_some,h1.m,YcP h1.a]
 rfl
theorem HW.head {S:St} {v:Nat} {b:List UInt8} {a h1:Nat} {Wv Wa:List Nat} (hT:HW S v b a) (hv:Wv.contains v=false) (hw:Wa.contains h1=false) :
  HW (S.head [] [v,0,h1] Wv Wa) v b h1∧(∀x,Wa.contains x=true→(S.head [] [v,0,h1] Wv Wa).A x=none)∧(∀x,x≠a→x≠h1→S.A x=none→(S.head [] [v,0,h1] Wv Wa).A x=none):=by
 have e1:S.swp1 v 0 h1=S.ren a h1:=by rw[Jg5,hT.m,Jil];rfl
 have eh:S.head [] [v,0,h1] Wv Wa=(S.ren a h1).scrub [] Wv Wa:=by rw[JiG,e1];rfl
 rw[eh]
 refine⟨⟨?_,?_⟩,fun x hx=>?_,fun x h2 h3 h0=>?_⟩
 ·show (if Wv.contains v then none else ((S.μ v).map _).map _)=_
  rw[hv,hT.m]
  have:swp a h1 a=h1:=Jin
  simp only[Gt,GI,Option.map_some,GF,GQ,JT,this,Jv,hw]
  cases Wa.isEmpty<;>rfl
 ·show (if Wa.contains h1 then none else S.A (swp a h1 h1))=_
  rw[hw,Jip];exact hT.a
 ·show (if Wa.contains x then none else _)=_
  rw[hx];rfl
 ·show (if Wa.contains x then none else S.A (swp a h1 x))=_
  split
  ·rfl
  ·rw[Yag h2 h3];exact h0
theorem YbN (l:List UInt8):(l.map fun b=>[V.int .u8 (b.toNat:Int)])=l.map rowB:=rfl
theorem K422g {f:Nat} (h:Pg f=some (.codeR F422 0)) (h456:H456 Pg) (b:List UInt8) (l:List Int) (hl:∀n∈l,0≤n∧n<2 ^ 63) (hb:b.length+9*l.length≤2 ^ 29) :
  K' Pg f [.tuple (.lref 0 0::YaD b),Yf l]=some (.tuple [.tuple [],.tuple (YaD (b++Ye l))]):=by
 refine YbU h rfl rfl fun S0 ⟨r0,r,hT0,m0,a0⟩=>?_
 have r1:=r 0
 simp only[JhS,Option.getD_some] at r1
 simp only[go_sem] at r1
 simp only[F422,c422,go_sem,r1,Gj]
 unfold l422_0
 refine JiX (fun (i:Nat) S=>i≤l.length∧S.ρ 0=.lref 0 0∧S.ρ 8=Yf l∧S.ρ 9=iz l.length∧S.ρ 10=iz i∧HW S 0 (b++Ye (l.take i)) 9000) (fun i=>l.length-i) 0 ?_ ?_
 ·exact⟨GJ _,JiJ (by simp only[go_sem,r0]) rfl,JiJ (by simp only[go_sem]) rfl,JiJ (by simp only[go_sem]) rfl,JiJ (by simp only[go_sem]) rfl,(HW.head (a:=9000) (h1:=9000) ⟨by simp only[go_sem,hT0.m]<;>simp[Ye],by simp only[hT0.a]<;>simp[Ye]⟩ rfl rfl).1⟩
 ·intro i S ⟨hi,s0,s8,s9,s10,hT⟩
  have hm:=hT.m
  have hA:=hT.a
  cases c1:decide ((i:Int)<(l.length:Int)) with
  |false=>
   have hil:i=l.length:=by have:=Ge c1;omega
   rw[hil,Gz] at hT
   simp only[go_sem,s9,s10,c1]
   exact⟨9000,hT.m,hT.a⟩
  |true=>
   have hlt:=Yg c1
   obtain⟨n,hn,-⟩:=JiF hlt
   have hinc:=inc64q (i:=i) (by omega)
   obtain⟨n0,n1⟩:=hl n (List.mem_of_getElem? hn)
   have k:K' Pg 456 [iz n]=some (.tuple [.str (putB n.toNat),iz 0]):=by
    have:=K456 h456 n.toNat (by omega);rw[show ((n.toNat:Nat):Int)=n by omega] at this;exact this
   have htk:l.take (i+1)=l.take i++[n]:=by rw[GY,hn];rfl
   have hbl:=Yal (l:=l.take i) fun m hm=>by have:=hl m (Gak hm);omega
   rw[GL] at hbl
   have hp:=YD.2 (show n.toNat<2 ^ 63 by omega)
   have hlim:(b++Ye (l.take i)).length+(putB n.toNat).length≤lim:=by rw[Gc];unfold lim;omega
   generalize hg:b++Ye (l.take i)=g at *
   have hfull:b++Ye (l.take (i+1))=g++putB n.toNat:=by rw[htk,Ycg,←Gs,hg]
   simp only[go_sem,s0,s8,s9,s10,c1,hn,k,hinc,hm,hA,hlim,Gj]
   refine⟨i+1,by omega,by omega,JiJ (by simp only[go_sem,s0]) rfl,JiJ (by simp only[go_sem,s8]) rfl,JiJ (by simp only[go_sem,s9]) rfl,JiJ (by simp only[go_sem]) rfl,(HW.head (a:=9000) (h1:=9000) ⟨?_,?_⟩ rfl rfl).1⟩
   ·rw[hfull];simp only[go_sem,Gc]
   ·rw[hfull];simp only[go_sem,GS]<;>rfl
def YcO (l:List (List UInt8)):V:=.slice 1 (l.map fun t=>[.str t])
attribute [go_sem] YcO
def Yj (l:List (List UInt8)):List UInt8:=l.flatMap Ym
theorem YcA {l:List (List UInt8)} {n:List UInt8}:Yj (l++[n])=Yj l++Ym n:=by simp[Yj]
theorem K457g {f:Nat} (h:Pg f=some (.codeR F457 0)) (h484:H484 Pg) (b:List UInt8) (l:List (List UInt8)) (hl:∀n∈l,n.length≤2 ^ 30) (hb:b.length+(Yj l).length≤2 ^ 29) :
  K' Pg f [.tuple (.lref 0 0::YaD b),YcO l]=some (.tuple [.tuple [],.tuple (YaD (b++Yj l))]):=by
 have hll:l.length≤(Yj l).length:=YP (P:=fun _=>True) (fun a _=>Yah) (fun _ _=>Gn)
 refine YbU h rfl rfl fun S0 ⟨r0,r,hT0,m0,a0⟩=>?_
 have r1:=r 0
 simp only[JhS,Option.getD_some] at r1
 simp only[go_sem] at r1
 simp only[F457,c457,go_sem,r1,Gj]
 unfold l457_0
 refine JiX (fun (i:Nat) S=>i≤l.length∧S.ρ 0=.lref 0 0∧S.ρ 6=YcO l∧S.ρ 7=iz l.length∧S.ρ 8=iz i∧HW S 0 (b++Yj (l.take i)) 9000) (fun i=>l.length-i) 0 ?_ ?_
 ·exact⟨GJ _,JiJ (by simp only[go_sem,r0]) rfl,JiJ (by simp only[go_sem]) rfl,JiJ (by simp only[go_sem]) rfl,JiJ (by simp only[go_sem]) rfl,(HW.head (a:=9000) (h1:=9000) ⟨by simp only[go_sem,hT0.m]<;>simp[Yj],by simp only[hT0.a]<;>simp[Yj]⟩ rfl rfl).1⟩
 ·intro i S ⟨hi,s0,s6x,s7x,s8x,hT⟩
  have hm:=hT.m
  have hA:=hT.a
  cases c1:decide ((i:Int)<(l.length:Int)) with
  |false=>
   have hil:i=l.length:=by have:=Ge c1;omega
   rw[hil,Gz] at hT
   simp only[go_sem,s7x,s8x,c1]
   exact⟨9000,hT.m,hT.a⟩
  |true=>
   have hlt:=Yg c1
   obtain⟨n,hn,-⟩:=JiF hlt
   have hinc:=inc64q (i:=i) (by omega)
   have n0:=hl n (List.mem_of_getElem? hn)
   have k:=K484 h484 n (by omega)
   have htk:l.take (i+1)=l.take i++[n]:=by rw[GY,hn];rfl
   have hbl:(Yj (l.take (i+1))).length≤(Yj l).length:=by
    conv=>rhs;rw[←G0 (i+1) l]
    simp only[Yj,G8,Gc];omega
   rw[htk,YcA,Gc] at hbl
   have hlim:(b++Yj (l.take i)).length+(Ym n).length≤lim:=by rw[Gc];unfold lim;omega
   generalize hg:b++Yj (l.take i)=g at *
   have hfull:b++Yj (l.take (i+1))=g++Ym n:=by rw[htk,YcA,←Gs,hg]
   simp only[go_sem,s0,s6x,s7x,s8x,c1,hn,k,hinc,hm,hA,hlim,Gj]
   refine⟨i+1,by omega,by omega,JiJ (by simp only[go_sem,s0]) rfl,JiJ (by simp only[go_sem,s6x]) rfl,JiJ (by simp only[go_sem,s7x]) rfl,JiJ (by simp only[go_sem]) rfl,(HW.head (a:=9000) (h1:=9000) ⟨?_,?_⟩ rfl rfl).1⟩
   ·rw[hfull];simp only[go_sem,Gc]
   ·rw[hfull];simp only[go_sem,GS]<;>rfl
theorem st_pos {s:Stamp}:1≤(stB s).length:=by
 have:=putB_pos s.wall.toNat;simp only[stB,Gc];omega
def Yh (l:List Stamp):List UInt8:=l.flatMap stB
theorem Ycb {l:List Stamp} {n:Stamp}:Yh (l++[n])=Yh l++stB n:=by simp[Yh]
theorem K421g {f:Nat} (h:Pg f=some (.codeR F421 0)) (h455:H455 Pg) (b:List UInt8) (l:List Stamp) (hl:∀n∈l,Ya n=true) (hb:b.length+(Yh l).length≤2 ^ 29) :
  K' Pg f [.tuple (.lref 0 0::YaD b),Y3 l]=some (.tuple [.tuple [],.tuple (YaD (b++Yh l))]):=by
 have hll:l.length≤(Yh l).length:=YP (P:=fun _=>True) (fun a _=>st_pos) (fun _ _=>Gn)
 refine YbU h rfl rfl fun S0 ⟨r0,r,hT0,m0,a0⟩=>?_
 have r1:=r 0
 simp only[JhS,Option.getD_some] at r1
 simp only[go_sem] at r1
 simp only[F421,c421,go_sem,r1,Gj]
 unfold l421_0
 refine JiX (fun (i:Nat) S=>i≤l.length∧S.ρ 0=.lref 0 0∧S.ρ 8=Y3 l∧S.ρ 9=iz l.length∧S.ρ 10=iz i∧HW S 0 (b++Yh (l.take i)) 9000∧S.μ 5=none) (fun i=>l.length-i) 0 ?_ ?_
 ·exact⟨GJ _,JiJ (by simp only[go_sem,r0]) rfl,JiJ (by simp only[go_sem]) rfl,JiJ (by simp only[go_sem]) rfl,JiJ (by simp only[go_sem]) rfl,(HW.head (a:=9000) (h1:=9000) ⟨by simp only[go_sem,hT0.m]<;>simp[Yh],by simp only[hT0.a]<;>simp[Yh]⟩ rfl rfl).1,JiH (.inr rfl)⟩
 ·intro i S ⟨hi,s0,s6x,s7x,s8x,hT,n5⟩
  have hm:=hT.m
  have hA:=hT.a
  cases c1:decide ((i:Int)<(l.length:Int)) with
  |false=>
   have hil:i=l.length:=by have:=Ge c1;omega
   rw[hil,Gz] at hT
   simp only[go_sem,s7x,s8x,c1]
   exact⟨9000,hT.m,hT.a⟩
  |true=>
   have hlt:=Yg c1
   obtain⟨n,hn,-⟩:=JiF hlt
   have hinc:=inc64q (i:=i) (by omega)
   have n0:=hl n (List.mem_of_getElem? hn)
   have k:=K455 h455 n n0
   simp only[go_sem] at k
   have htk:l.take (i+1)=l.take i++[n]:=by rw[GY,hn];rfl
   have hbl:(Yh (l.take (i+1))).length≤(Yh l).length:=by
    conv=>rhs;rw[←G0 (i+1) l]
    simp only[Yh,G8,Gc];omega
   rw[htk,Ycb,Gc] at hbl
   have hlim:(b++Yh (l.take i)).length+(stB n).length≤lim:=by rw[Gc];unfold lim;omega
   generalize hg:b++Yh (l.take i)=g at *
   have hfull:b++Yh (l.take (i+1))=g++stB n:=by rw[htk,Ycb,←Gs,hg]
   simp only[go_sem,s0,s6x,s7x,s8x,c1,hn,k,hinc,hm,hA,n5,hlim,Gj]
   refine⟨i+1,by omega,by omega,JiJ (by simp only[go_sem,s0]) rfl,JiJ (by simp only[go_sem,s6x]) rfl,JiJ (by simp only[go_sem,s7x]) rfl,JiJ (by simp only[go_sem]) rfl,(HW.head (a:=9000) (h1:=9000) ⟨?_,?_⟩ rfl rfl).1,JiH (.inr rfl)⟩
   ·rw[hfull];simp only[go_sem,Gc]
   ·rw[hfull];simp only[go_sem,GS]<;>rfl
theorem Y5 {α:Type} {W:α→List UInt8} {l:List α} {i:Nat}:((l.take i).flatMap W).length≤(l.flatMap W).length:=by
 conv=>rhs;rw[←G0 i l]
 simp only[G8,Gc];omega
theorem HW.out {S:St} {v:Nat} {b b':List UInt8} {a:Nat} (h:HW S v b a) (e:b=b'):HW S v b' a:=e▸h
theorem Yde {n:Int} (h:decide (n<2)=false):decide (1099511627776<n)=!YO n:=by
 have h:=Ge h;unfold YO frQ;have:decide (n<0)=false:=GE (by omega);rw[this];simp
theorem YdP {n:Int}:frQ 1 n=(!decide (n<1)&&YO n):=by
 unfold YO frQ;by_cases h:n<1
 ·simp[h]
 ·have:decide (n<0)=false:=GE (by omega);simp[h,this]
def H329 (Pg:PgT):Prop:=Pg 329=some (.code F329)∧H24 Pg∧H114 Pg∧H147 Pg∧H349 Pg∧H350 Pg∧H351 Pg
theorem K329 (h:H329 Pg) (d:Drc) (hd:SmD d):K' Pg 329 [.agg (YM d)]=some (.bool (Yao d)):=by
 obtain⟨h,h24,h114,h147,h349,h350,h351⟩:=h;obtain⟨hl1,hl2,hj,hm⟩:=hd;have k147:=K147 h147 d.places;have k114:=K114 h114 d.leases (by omega);have k24:=fun s=>K24 h24 s;have k350:=K350 h350 d.job hj;have k349:=fun n=>K349 h349 n;have ks:∀x∈d.cells,K' Pg 351 [Yf x.mem]=some (.bool (Ybh x.mem)):=fun x hx=>K351 h351 x.mem (by have:=hm x hx;omega);simp only[Yd,Yf,Yz,YB,eJb,Ybz] at k24 k147 k114 k350 ks;clear hl1 hj hm h24 h114 h147 h349 h350 h351;refine Qa h rfl ?_;clear h;cases c1:Yv d.places with
 |false=>simp only[go_sem,Yao,Yar, *]
 |true=>
 cases c2:Yw d.leases with
 |false=>simp only[go_sem,Yao,Yar, *]
 |true=>
 cases c3:decide ((d.cells.length:Int)=3) with
 |false=>simp only[go_sem,Yao,Yar, *]
 |true=>
 cases c4:decide ((d.lows.length:Int)=3) with
 |false=>simp only[go_sem,Yao,Yar, *]
 |true=>
 cases c5:decide (d.next<2) with
 |true=>simp only[go_sem,Yao,Yar, *]
 |false=>
 have e6:=Yde c5;have hq1:Yar d=(YO d.next&&(Ya d.mark&&(Y1 d.job&&!decide (8<(d.opened.length:Int))))):=by simp only[Yar,e6,c1,c2,c3,c4,c5,Bool.not_not,Gl,GG]
 have hq2:Yao d=((YO d.next&&(Ya d.mark&&(Y1 d.job&&!decide (8<(d.opened.length:Int)))))&&((d.cells.all YbR&&d.lows.all Ya)&&opQ 0 d.opened)):=by simp only[Yao,hq1]
 rw[hq2];clear e6 hq1 hq2;cases c6:YO d.next with
 |false=>simp only[go_sem, *]
 |true=>
 cases c7:Ya d.mark with
 |false=>simp only[go_sem, *]
 |true=>
 cases c8:Y1 d.job with
 |false=>simp only[go_sem, *]
 |true=>
 cases c9:decide (8<(d.opened.length:Int)) with
 |true=>simp only[go_sem, *]
 |false=>
 simp only[go_sem,c1,c2,c3,c4,c5,c6,c7,c8,c9,k147,k114,k24,k350,k349];have hc3:d.cells.length=3:=by have:=Gg c3;omega
 have hl3:d.lows.length=3:=by have:=Gg c4;omega
 clear c1 c2 c3 c4 c5 c6 c7 c8 c9 k147 k114 k350;unfold l329_0;refine JiX (fun (i:Nat) S=>i≤3∧S.ρ 1=.lref 1 0∧S.μ 1=some (YM d,false)∧S.ρ 3=iz i∧S.μ 5=none∧((d.cells.drop i).all YbR&&(d.lows.drop i).all Ya)=(d.cells.all YbR&&d.lows.all Ya)) (fun i=>3-i) 0 ?_ ?_
 ·simp[go_sem]
 ·intro i S ⟨hi,s1,m1,s3,m5,ho⟩;simp only[go_sem,s3];refine JiY (fun hlt=>?_) (fun hlt=>?_)
  ·have hlt:i<3:=by have:=Gg hlt;omega
   obtain⟨x,hx,hdx⟩:=JiF (l:=d.cells) (i:=i) (by omega);obtain⟨y,hy,hdy⟩:=JiF (l:=d.lows) (i:=i) (by omega);have ks:=ks x (List.mem_of_getElem? hx);rw[hdx,hdy,List.all_cons,List.all_cons] at ho;have hinc:IntKind.i64.wrap ((i:Int)+1)=((i+1:Nat):Int):=Yi hlt (by omega);simp only[YbR,YdP] at ho;simp only[go_sem,s1,m1,s3,hx];cases q0:decide (x.view<1) with
   |true=>
    simp only[q0,GX,Gk] at ho;simp only[go_sem,←ho]
   |false=>
   cases q1:YO x.view with
   |false=>
    simp only[q0,q1,GG,Gl,Gk] at ho;simp only[go_sem,q1,s1,m1,s3,hx,k349,←ho]
   |true=>
   cases q2:Ybh x.mem with
   |false=>
    simp only[q0,q1,q2,GG,Gl,Gk,GH] at ho;simp only[go_sem,q1,q2,s1,m1,s3,hx,ks,k349,←ho]
   |true=>
   cases q3:Ya y with
   |false=>
    simp only[q3,Gk,GH] at ho;simp only[go_sem,q1,q2,q3,s1,m1,s3,hx,hy,ks,k349,k24,←ho]
   |true=>
    simp only[q0,q1,q2,q3,GG,Gl] at ho;simp only[go_sem,q1,q2,q3,s1,m1,s3,m5,hx,hy,ks,k349,k24];exact⟨i+1,by omega,by omega,by rw[hinc],ho⟩
  ·have hlt:i=3:=by have:=Ge hlt;omega
   subst hlt;have e1:d.cells.drop 3=[]:=List.drop_eq_nil_of_le (by omega);have e2:d.lows.drop 3=[]:=List.drop_eq_nil_of_le (by omega);rw[e1,e2,List.all_nil,List.all_nil] at ho;rw[←ho];simp only[go_sem];unfold l329_1;clear ho s3 hi ks;refine JiX (fun (i:Nat) S=>i≤d.opened.length∧S.ρ 1=.lref 1 0∧S.μ 1=some (YM d,false)∧S.ρ 4=iz i∧S.μ 5=none∧(i≠0→1≤YaC d.opened i)∧opQ (YaC d.opened i) (d.opened.drop i)=opQ 0 d.opened) (fun i=>d.opened.length-i) 0 ?_ ?_
   ·simp[go_sem,YaC,s1,m1]
   ·intro i S ⟨hi,s1,m1,s4,m5,hpos,ho⟩;simp only[go_sem,s1,m1,s4];refine JiY (fun hlt=>?_) (fun hlt=>?_)
    ·have hlt:=Yg hlt;obtain⟨x,hx,hdx⟩:=JiF hlt;have hnext:YaC d.opened (i+1)=x.client:=YcV hx;have hinc:IntKind.i64.wrap ((i:Int)+1)=((i+1:Nat):Int):=Yi hlt (by omega);rw[hdx] at ho;simp only[opQ] at ho;simp only[go_sem,s1,m1,s4,m5,hx];cases q0:decide (x.client<1) with
     |true=>
      have q1:decide (x.client≤YaC d.opened i)=true:=GT (by
       have:=Gg q0;rcases Gab i with hz|hz
       ·subst hz;simp only[YaC,GK];omega
       ·have:=hpos (by omega);omega)
      simp only[q1,GX,Gk] at ho;simp only[go_sem,←ho]
     |false=>
     have hx1:=Ge q0;cases q2:decide (8<x.client) with
     |true=>
      simp only[YbG,q2,GX,Gk,GH] at ho;simp only[go_sem,q2,←ho]
     |false=>
     have fin:∀(hq1:decide (x.client≤YaC d.opened i)=false),YbG x=(YO x.req&&(YO x.lease&&(Ya x.at_&&(!decide (x.err<0)&&!decide (16<x.err)))))∧(YbG x&&opQ x.client (d.opened.drop (i+1)))=opQ 0 d.opened:=fun hq1=>by
      refine⟨by simp only[YbG,q2,GG,Gl],?_⟩;rw[←ho,hq1,GG,Gl]
     rcases Gab i with hz|hz
     ·have hgt:decide ((0:Int)<(i:Int))=false:=GE (by omega);have hq1:decide (x.client≤YaC d.opened i)=false:=GE (by subst hz;simp only[YaC,GK];omega);obtain⟨f1,f2⟩:=fin hq1;rw[f1] at f2;clear fin f1 ho hq1;cases q3:YO x.req with
      |false=>
       rw[q3,Gk,Gk] at f2;simp only[go_sem,q2,q3,hgt,s4,k349,←f2]
      |true=>
      cases q4:YO x.lease with
      |false=>
       rw[q3,q4,Gl,Gk,Gk] at f2;simp only[go_sem,q2,q3,q4,hgt,s4,k349,←f2]
      |true=>
      cases q5:Ya x.at_ with
      |false=>
       rw[q3,q4,q5,Gl,Gl,Gk,Gk] at f2;simp only[go_sem,q2,q3,q4,q5,hgt,s4,k349,k24,←f2]
      |true=>
      cases q6:decide (x.err<0) with
      |true=>
       rw[q3,q4,q5,q6,Gl,Gl,Gl,GX,Gk,Gk] at f2;simp only[go_sem,q2,q3,q4,q5,q6,hgt,s4,k349,k24,←f2]
      |false=>
      cases q7:decide (16<x.err) with
      |true=>
       rw[q3,q4,q5,q6,q7,Gl,Gl,Gl,GX,GH,Gk] at f2;simp only[go_sem,q2,q3,q4,q5,q6,q7,hgt,s4,k349,k24,←f2]
      |false=>
       rw[q3,q4,q5,q6,q7,Gl,Gl,Gl,GG,Gl,Gl] at f2;simp only[go_sem,q2,q3,q4,q5,q6,q7,hgt,s1,m1,s4,k349,k24];exact⟨i+1,by omega,by omega,by rw[hinc],fun _=>by rw[hnext];omega,by rw[hnext];exact f2⟩
     ·have hgt:decide ((0:Int)<(i:Int))=true:=GT (by omega);have hdec:IntKind.i64.wrap ((i:Int)-1)=((i-1:Nat):Int):=Ybv hz (by omega);obtain⟨y,hy,-⟩:=JiF (l:=d.opened) (i:=i-1) (by omega);have hp:YaC d.opened i=y.client:=by simp[YaC,Nat.ne_of_gt hz,hy]
      rw[hp] at ho fin;cases q1:decide (x.client≤y.client) with
      |true=>
       rw[q1,GX,Gk] at ho;simp only[go_sem,q1,q2,hgt,hdec,s1,m1,s4,hy,←ho]
      |false=>
      obtain⟨f1,f2⟩:=fin q1;rw[f1] at f2;clear fin f1 ho;cases q3:YO x.req with
      |false=>
       rw[q3,Gk,Gk] at f2;simp only[go_sem,q1,q2,q3,hgt,hdec,s1,m1,s4,hy,k349,←f2]
      |true=>
      cases q4:YO x.lease with
      |false=>
       rw[q3,q4,Gl,Gk,Gk] at f2;simp only[go_sem,q1,q2,q3,q4,hgt,hdec,s1,m1,s4,hy,k349,←f2]
      |true=>
      cases q5:Ya x.at_ with
      |false=>
       rw[q3,q4,q5,Gl,Gl,Gk,Gk] at f2;simp only[go_sem,q1,q2,q3,q4,q5,hgt,hdec,s1,m1,s4,hy,k349,k24,←f2]
      |true=>
      cases q6:decide (x.err<0) with
      |true=>
       rw[q3,q4,q5,q6,Gl,Gl,Gl,GX,Gk,Gk] at f2;simp only[go_sem,q1,q2,q3,q4,q5,q6,hgt,hdec,s1,m1,s4,hy,k349,k24,←f2]
      |false=>
      cases q7:decide (16<x.err) with
      |true=>
       rw[q3,q4,q5,q6,q7,Gl,Gl,Gl,GX,GH,Gk] at f2;simp only[go_sem,q1,q2,q3,q4,q5,q6,q7,hgt,hdec,s1,m1,s4,hy,k349,k24,←f2]
      |false=>
       rw[q3,q4,q5,q6,q7,Gl,Gl,Gl,GG,Gl,Gl] at f2;simp only[go_sem,q1,q2,q3,q4,q5,q6,q7,hgt,hdec,s1,m1,s4,hy,k349,k24];exact⟨i+1,by omega,by omega,by rw[hinc],fun _=>by rw[hnext];omega,by rw[hnext];exact f2⟩
    ·have hlt:=Yo hi hlt;subst hlt;rw[GN] at ho;simp only[opQ] at ho;simp only[go_sem,←ho]
def smI (x:Inf):Bool:=decide ((x.mem.length:Int)≤40)
def H344 (Pg:PgT):Prop:=Pg 344=some (.code F344)
theorem YeB {n:Nat}:decide ((40:Int)<(n:Int))=!decide ((n:Int)≤40):=by by_cases h:(n:Int)≤40<;>simp[h]<;>omega
theorem K344 (h:H344 Pg) (l:List Inf) (hl:l.length<2 ^ 60):K' Pg 344 [Yb8 l]=some (.bool (l.all smI)):=by
 refine Qa h rfl ?_;simp only[go_sem];unfold l344_0;refine JiX (fun (i:Nat) S=>i≤l.length∧S.ρ 0=Yb8 l∧S.ρ 3=iz i∧(l.drop i).all smI=l.all smI) (fun i=>l.length-i) 0 ?_ ?_
 ·simp[go_sem]
 ·intro i S ⟨hi,h0,h3,ho⟩;simp only[go_sem,h0,h3];refine JiY (fun h=>?_) (fun h=>?_)
  ·have h:=Yg h;obtain⟨x,hx,hd⟩:=JiF h;rw[hd,List.all_cons] at ho;simp only[go_sem,h0,h3,hx,YeB];cases q:decide ((x.mem.length:Int)≤40) with
   |false=>
    rw[smI,q,Gk] at ho;simp only[go_sem,←ho]
   |true=>
    rw[smI,q,Gl] at ho;simp only[go_sem,h0,h3];exact⟨i+1,by omega,by omega,by rw[Yi h hl],ho⟩
  ·have h:=Yo hi h;subst h;rw[GN,List.all_nil] at ho;simp only[go_sem,←ho]
def Yap (d:Drc):Bool:=decide ((d.places.length:Int)≤40)&&(decide ((d.cells.length:Int)≤40)&&(decide ((d.lows.length:Int)≤40)&&(decide ((d.leases.length:Int)≤40)&&(decide ((d.opened.length:Int)≤40)&&(decide ((d.job.parts.length:Int)≤200)&&(decide ((d.job.wait.length:Int)≤100)&&(decide ((d.job.mem.length:Int)≤40)&&d.cells.all smI)))))))
def H325 (Pg:PgT):Prop:=Pg 325=some (.code F325)∧H344 Pg
theorem K325 (h:H325 Pg) (d:Drc) (hc:d.cells.length<2 ^ 60):K' Pg 325 [.agg (YM d)]=some (.bool (Yap d)):=by
 obtain⟨h,h344⟩:=h;have k:=K344 h344 d.cells hc;simp only[Yb8] at k;clear hc h344;refine Qa h rfl ?_;clear h;cases c1:decide ((d.places.length:Int)≤40) with
 |false=>simp only[go_sem,Yap, *]
 |true=>
 cases c2:decide ((d.cells.length:Int)≤40) with
 |false=>simp only[go_sem,Yap, *]
 |true=>
 cases c3:decide ((d.lows.length:Int)≤40) with
 |false=>simp only[go_sem,Yap, *]
 |true=>
 cases c4:decide ((d.leases.length:Int)≤40) with
 |false=>simp only[go_sem,Yap, *]
 |true=>
 cases c5:decide ((d.opened.length:Int)≤40) with
 |false=>simp only[go_sem,Yap, *]
 |true=>
 cases c6:decide ((d.job.parts.length:Int)≤200) with
 |false=>simp only[go_sem,Yap, *]
 |true=>
 cases c7:decide ((d.job.wait.length:Int)≤100) with
 |false=>simp only[go_sem,Yap, *]
 |true=>
 cases c8:decide ((d.job.mem.length:Int)≤40) with
 |false=>simp only[go_sem,Yap, *]
 |true=>
 simp only[go_sem,Yap, *]
theorem YaH {n:Int} (h:NV n):0≤n∧n<2 ^ 63:=by
 obtain⟨h1,h2⟩:=h;omega
def H526 (Pg:PgT):Prop:=Pg 526=some (.codeR F422 0)∧H456 Pg
def H528 (Pg:PgT):Prop:=Pg 528=some (.codeR F457 0)∧H484 Pg
def H537 (Pg:PgT):Prop:=Pg 537=some (.codeR F421 0)∧H455 Pg
theorem YaQ (h:H526 Pg) (g:List UInt8) (l:List Int) (hl:∀n∈l,0≤n∧n<2 ^ 63) (hb:g.length+9*l.length≤2 ^ 29) :
  K' Pg 526 [.tuple [.lref 0 0,.tuple [.slice 1 (g.map rowB)]],.slice 1 (l.map fun a=>[iz a])]=some (.tuple [.tuple [],.tuple [.tuple [.slice 1 ((g++Ye l).map rowB)]]]):=K422g h.1 h.2 g l hl hb
theorem YcQ (h:H528 Pg) (g:List UInt8) (l:List (List UInt8)) (hl:∀n∈l,n.length≤2 ^ 30) (hb:g.length+(Yj l).length≤2 ^ 29) :
  K' Pg 528 [.tuple [.lref 0 0,.tuple [.slice 1 (g.map rowB)]],.slice 1 (l.map fun t=>[.str t])]=some (.tuple [.tuple [],.tuple [.tuple [.slice 1 ((g++Yj l).map rowB)]]]):=K457g h.1 h.2 g l hl hb
theorem Ycr (h:H537 Pg) (g:List UInt8) (l:List Stamp) (hl:∀n∈l,Ya n=true) (hb:g.length+(Yh l).length≤2 ^ 29) :
  K' Pg 537 [.tuple [.lref 0 0,.tuple [.slice 1 (g.map rowB)]],.slice 3 (l.map Yd)]=some (.tuple [.tuple [],.tuple [.tuple [.slice 1 ((g++Yh l).map rowB)]]]):=K421g h.1 h.2 g l hl hb
def Yaz (l:List Int):List UInt8:=Ye [(l.length:Int)]++Ye l
theorem YaK {l:List Int}:Yaz l=YJ nB l:=by simp only[Yaz,Ye,YJ,GB,GM,GC,Int.toNat_natCast];rfl
def H527 (Pg:PgT):Prop:=Pg 527=some (.codeR F527 0)∧H526 Pg
theorem Ydk (h:H527 Pg) (b:List UInt8) (l:List Int) (hl:∀n∈l,NV n) (hb:b.length+9*l.length+20≤2 ^ 29) :
  K' Pg 527 [.tuple [.lref 0 0,.tuple [.slice 1 (b.map rowB)]],.slice 1 (l.map fun a=>[iz a])]=some (.tuple [.tuple [],.tuple [.tuple [.slice 1 ((b++Yaz l).map rowB)]]]):=by
 obtain⟨h,h526⟩:=h
 have h1:=Yal (l:=[(l.length:Int)]) (by intro n hn;have:=List.mem_singleton.1 hn;subst this;omega)
 simp only[List.length_cons,List.length_nil] at h1
 have q1:=YaQ h526 b [(l.length:Int)] (by intro n hn;have:=List.mem_singleton.1 hn;subst this;omega) (by simp only[List.length_cons,List.length_nil];omega)
 have q2:=YaQ h526 (b++Ye [(l.length:Int)]) l (fun n hn=>YaH (hl n hn)) (by simp only[Gc];omega)
 refine YbU (b:=b) (b':=b++Yaz l) (rest:=[Yf l]) h rfl rfl fun S0 ⟨r0,r,hT0,m0,a0⟩=>?_
 have r1:=r 0
 simp only[JhS,Option.getD_some] at r1
 have hm:=hT0.m
 have hA:=hT0.a
 have a1:=a0 20000 (by decide)
 have a2:=a0 20100 (by decide)
 simp only[GF,GQ] at q1
 simp only[go_sem] at r1
 have hfull:b++Yaz l=b++Ye [(l.length:Int)]++Ye l:=by simp[Yaz]
 rw[hfull]
 generalize Ye [(l.length:Int)]=b1 at *
 generalize Ye l=b2 at *
 simp only[F527,c527,go_sem,JiK,r0,r1,hm,hA,a1,a2,q1,q2,Gj]
 exact⟨20100,by simp only[go_sem,Gc],by simp only[go_sem]⟩
def jbW (j:Jb):List UInt8:=Ye [j.kind,j.step,j.id,j.shard,j.other,j.cell,j.to,j.epoch]++Yj [j.key]++Ye [(j.parts.length:Int)]++Yj j.parts++Ye [j.of_,j.client,j.req]++Yj [j.span.lo,j.span.hi]++Yaz j.wait++Yh [j.at_]++Yaz j.mem
theorem YeE {j:Jb}:jbW j=jbB j:=by
 simp only[jbW,jbB,YaK,Ye,Yj,Yh,YJ,nB,GB,GM,GC,Int.toNat_natCast,Gs]
structure JbS (j:Jb):Prop where
 v:JbV j
 key:j.key.length≤2 ^ 30
 parts:∀t∈j.parts,t.length≤2 ^ 30
 span:j.span.lo.length≤2 ^ 30∧j.span.hi.length≤2 ^ 30
 wait:j.wait.length≤2 ^ 20
 mem:j.mem.length≤2 ^ 20
def H538 (Pg:PgT):Prop:=Pg 538=some (.codeR F538 0)∧H526 Pg∧H528 Pg∧H527 Pg∧H537 Pg
theorem k538n (h:H538 Pg) (b:List UInt8) (j:Jb) (hj:JbS j) (hb:b.length+(jbW j).length+2 ^ 25≤2 ^ 29) :
  K' Pg 538 [.tuple [.lref 0 0,.tuple [.slice 1 (b.map rowB)]],.agg (eJb j)]=some (.tuple [.tuple [],.tuple [.tuple [.slice 1 ((b++jbW j).map rowB)]]]):=by
 obtain⟨h,h526,h528,h527,h537⟩:=h
 obtain⟨⟨⟨v1,v2,v3,v4,v5,v6,v7,v8,v9,v10,v11,v12,v13,v14,v15,v16,v17,v18⟩,-⟩,hk,hp,hs,hw,hme⟩:=hj
 have hpl:=v10.1
 simp only[jbW,Gc] at hb
 have q1:=YaQ h526 (b) [j.kind,j.step,j.id,j.shard,j.other,j.cell,j.to,j.epoch] (Gm.2 ⟨YaH v1,Gm.2 ⟨YaH v2,Gm.2 ⟨YaH v3,Gm.2 ⟨YaH v4,Gm.2 ⟨YaH v5,Gm.2 ⟨YaH v6,Gm.2 ⟨YaH v7,Gm.2 ⟨YaH v8,fun _ h=>by cases h⟩⟩⟩⟩⟩⟩⟩⟩) (by simp only[Gc,List.length_cons,List.length_nil];omega)
 have q2:=YcQ h528 (b++Ye [j.kind,j.step,j.id,j.shard,j.other,j.cell,j.to,j.epoch]) [j.key] (Gm.2 ⟨hk,fun _ h=>by cases h⟩) (by simp only[Gc,List.length_cons,List.length_nil];omega)
 have q3:=YaQ h526 (b++Ye [j.kind,j.step,j.id,j.shard,j.other,j.cell,j.to,j.epoch]++Yj [j.key]) [(j.parts.length:Int)] (Gm.2 ⟨⟨by omega,by omega⟩,fun _ h=>by cases h⟩) (by simp only[Gc,List.length_cons,List.length_nil];omega)
 have q4:=YcQ h528 (b++Ye [j.kind,j.step,j.id,j.shard,j.other,j.cell,j.to,j.epoch]++Yj [j.key]++Ye [(j.parts.length:Int)]) j.parts (fun n hn=>hp n hn) (by simp only[Gc,List.length_cons,List.length_nil];omega)
 have q5:=YaQ h526 (b++Ye [j.kind,j.step,j.id,j.shard,j.other,j.cell,j.to,j.epoch]++Yj [j.key]++Ye [(j.parts.length:Int)]++Yj j.parts) [j.of_,j.client,j.req] (Gm.2 ⟨YaH v11,Gm.2 ⟨YaH v12,Gm.2 ⟨YaH v13,fun _ h=>by cases h⟩⟩⟩) (by simp only[Gc,List.length_cons,List.length_nil];omega)
 have q6:=YcQ h528 (b++Ye [j.kind,j.step,j.id,j.shard,j.other,j.cell,j.to,j.epoch]++Yj [j.key]++Ye [(j.parts.length:Int)]++Yj j.parts++Ye [j.of_,j.client,j.req]) [j.span.lo,j.span.hi] (Gm.2 ⟨hs.1,Gm.2 ⟨hs.2,fun _ h=>by cases h⟩⟩) (by simp only[Gc,List.length_cons,List.length_nil];omega)
 have q7:=Ydk h527 (b++Ye [j.kind,j.step,j.id,j.shard,j.other,j.cell,j.to,j.epoch]++Yj [j.key]++Ye [(j.parts.length:Int)]++Yj j.parts++Ye [j.of_,j.client,j.req]++Yj [j.span.lo,j.span.hi]) j.wait (fun n hn=>v16.2 n hn) (by simp only[Gc,List.length_cons,List.length_nil];omega)
 have q8:=Ycr h537 (b++Ye [j.kind,j.step,j.id,j.shard,j.other,j.cell,j.to,j.epoch]++Yj [j.key]++Ye [(j.parts.length:Int)]++Yj j.parts++Ye [j.of_,j.client,j.req]++Yj [j.span.lo,j.span.hi]++Yaz j.wait) [j.at_] (Gm.2 ⟨v17,fun _ h=>by cases h⟩) (by simp only[Gc,List.length_cons,List.length_nil];omega)
 have q9:=Ydk h527 (b++Ye [j.kind,j.step,j.id,j.shard,j.other,j.cell,j.to,j.epoch]++Yj [j.key]++Ye [(j.parts.length:Int)]++Yj j.parts++Ye [j.of_,j.client,j.req]++Yj [j.span.lo,j.span.hi]++Yaz j.wait++Yh [j.at_]) j.mem (fun n hn=>v18.2 n hn) (by simp only[Gc,List.length_cons,List.length_nil];omega)
 have hfull:b++jbW j=b++Ye [j.kind,j.step,j.id,j.shard,j.other,j.cell,j.to,j.epoch]++Yj [j.key]++Ye [(j.parts.length:Int)]++Yj j.parts++Ye [j.of_,j.client,j.req]++Yj [j.span.lo,j.span.hi]++Yaz j.wait++Yh [j.at_]++Yaz j.mem:=by simp only[jbW,Gs]
 refine YbU (b:=b) (b':=b++jbW j) (rest:=[.agg (eJb j)]) h rfl rfl fun S0 ⟨r0,r,hT0,m0,a0⟩=>?_
 rw[hfull]
 have r1:=r 0
 simp only[JhS,Option.getD_some] at r1
 have hm:=hT0.m
 have hA:=hT0.a
 have m3:=m0 3 rfl
 have a1:=a0 20000 (by decide)
 have a2:=a0 20100 (by decide)
 have a3:=a0 20200 (by decide)
 have a4:=a0 20300 (by decide)
 have a5:=a0 20400 (by decide)
 have a6:=a0 20500 (by decide)
 have a7:=a0 20600 (by decide)
 have a8:=a0 20700 (by decide)
 have a9:=a0 20800 (by decide)
 simp only[GF,GQ] at q1 q2 q3 q5 q6 q8
 simp only[go_sem] at r1 q8
 change K' Pg 528 [_,V.slice 1 (j.parts.map eS1)]=_ at q4
 generalize Ye [j.kind,j.step,j.id,j.shard,j.other,j.cell,j.to,j.epoch]=b1 at *
 generalize Yj [j.key]=b2 at *
 generalize Ye [(j.parts.length:Int)]=b3 at *
 generalize Yj j.parts=b4 at *
 generalize Ye [j.of_,j.client,j.req]=b5 at *
 generalize Yj [j.span.lo,j.span.hi]=b6 at *
 generalize Yaz j.wait=b7 at *
 generalize Yh [j.at_]=b8 at *
 generalize Yaz j.mem=b9 at *
 simp only[F538,c538,go_sem,JiK,r0,r1,hm,hA,m3,a1,a2,a3,a4,a5,a6,a7,a8,a9,q1,q2,q3,q4,q5,q6,q7,q8,q9,Gj]
 exact⟨20800,by simp only[go_sem,Gc],by simp only[go_sem]⟩
theorem Fr.up {A:AA} {n k:Nat} {v:Option (Nat×List (List V)×Fz)} (h:Fr A n) (hk:k<n):Fr (upd A k v) n:=fun x hx=>by
 simp only[upd];rw[Gq (by omega)];exact h x hx
def PlS (p:Place):Prop:=PlV p∧p.span.lo.length≤2 ^ 30∧p.span.hi.length≤2 ^ 30
def InS (p:Inf):Prop:=InV p∧p.mem.length≤2 ^ 20
set_option maxHeartbeats 1000000
theorem YeS (h526:H526 Pg) (h528:H528 Pg) {g:List UInt8} {es:List Place} (he:∀e∈es,PlS e) (hc:es.length<2 ^ 60) (hb:g.length+(es.flatMap plB).length+2 ^ 25≤2 ^ 29) {S:St} {Q:Ex→St→Prop} {X:List V} (hX:X.all V.datC=true)
  (s1:S.ρ 1=.lref 1 0) (s4:S.ρ 4=.lref 4 0) (m1:S.μ 1=some (X,false)) (n8:S.μ 8=none) (n10:S.μ 10=none) (n12:S.μ 12=none) (hn:Fr S.A 20300) (s22:S.ρ 22=.slice 5 (es.map ePl)) (s23:S.ρ 23=iz es.length) (s24:S.ρ 24=iz 0) {a:Nat} (ha:a<20300) (hT:HW S 4 g a)
  (hq:∀S',S'.ρ 1=.lref 1 0→S'.ρ 4=.lref 4 0→S'.μ 1=some (X,false)→S'.μ 8=none→S'.μ 10=none→S'.μ 12=none→Fr S'.A 20300→HW S' 4 (g++es.flatMap plB) 10400→Q .norm S'):Wp (K' Pg) l516_0 S (Blk 0 Q):=by
 unfold l516_0
 refine JiX (fun (i:Nat) S=>i≤es.length∧S.ρ 1=.lref 1 0∧S.ρ 4=.lref 4 0∧S.μ 1=some (X,false)∧S.μ 8=none∧S.μ 10=none∧S.μ 12=none∧Fr S.A 20300∧S.ρ 22=.slice 5 (es.map ePl)∧S.ρ 23=iz es.length∧S.ρ 24=iz i∧HW S 4 (g++(es.take i).flatMap plB) 10400∧S.μ 6=none∧S.A 20100=none∧S.A 20200=none) (fun i=>es.length-i) 0 ?_ ?_
 ·have hh:=HW.head (Wv:=[6]) (Wa:=[20100,20200]) (h1:=10400) hT rfl rfl
  exact⟨GJ _,JiJ s1 rfl,JiJ s4 rfl,JiI m1 hX rfl,JiH (.inl n8),JiH (.inl n10),JiH (.inl n12),fun x hx=>hh.2.2 x (by omega) (by omega) (hn x hx),JiJ s22 rfl,JiJ s23 rfl,JiJ s24 rfl,by simpa using hh.1,JiH (.inr rfl),hh.2.1 _ rfl,hh.2.1 _ rfl⟩
 ·intro i S ⟨hi,s1,s4,m1,n8,n10,n12,hn,s22,s23,s24,hT,nn,w20100,w20200⟩
  have hm:=hT.m
  have hA:=hT.a
  cases c1:decide ((i:Int)<(es.length:Int)) with
  |false=>
   have hil:i=es.length:=by have:=Ge c1;omega
   rw[hil,Gz] at hT
   simp only[go_sem,s23,s24,c1]
   exact hq _ (by simp only[go_sem,s1]) (by simp only[go_sem,s4]) m1 n8 n10 n12 hn ⟨hT.m,hT.a⟩
  |true=>
   have hlt:=Yg c1
   obtain⟨e,hx,-⟩:=JiF hlt
   have hinc:=inc64q (i:=i) (by omega)
   have hv:=he e (List.mem_of_getElem? hx)
   have htk:es.take (i+1)=es.take i++[e]:=by rw[GY,hx];rfl
   have hbl:=Y5 (W:=plB) (l:=es) (i:=i+1)
   have hfull:g++(es.take (i+1)).flatMap plB=g++(es.take i).flatMap plB++Yj [e.span.lo,e.span.hi]++Ye [e.shard,e.cell,e.epoch]:=by rw[htk];simp[plB,YaK,Yj,Ye,Yh,nB]
   rw[htk,G8,Gc] at hbl
   simp only[GB,GM,GC,plB,nB,←YaK,Gc] at hbl
   generalize hg:g++(es.take i).flatMap plB=g1 at *
   have hgl:g1.length=g.length+((es.take i).flatMap plB).length:=by rw[←hg,Gc]
   have q1:=YcQ h528 (g1) [e.span.lo,e.span.hi] (Gm.2 ⟨hv.2.1,Gm.2 ⟨hv.2.2,fun _ h=>by cases h⟩⟩) (by simp only[Yj,Ye,Yh,GB,GM,GC,Gc,List.length_cons,List.length_nil];omega)
   have q2:=YaQ h526 (g1++Yj [e.span.lo,e.span.hi]) [e.shard,e.cell,e.epoch] (Gm.2 ⟨YaH hv.1.1.2.2.1,Gm.2 ⟨YaH hv.1.1.2.2.2.1,Gm.2 ⟨YaH hv.1.1.2.2.2.2,fun _ h=>by cases h⟩⟩⟩) (by simp only[Yj,Ye,Yh,GB,GM,GC,Gc,List.length_cons,List.length_nil];omega)
   simp only[GF,GQ] at q1 q2
   generalize Yj [e.span.lo,e.span.hi]=b1 at *
   generalize Ye [e.shard,e.cell,e.epoch]=b2 at *
   simp only[go_sem,JiK,s1,s4,s22,s23,s24,c1,hx,hm,hA,nn,w20100,w20200,q1,q2,hinc,Gj]
   have h4:=fun {S:St} (h:HW S 4 (g1++b1++b2) 20200)=>HW.head (Wv:=[6]) (Wa:=[20100,20200]) (h1:=10400) h rfl rfl
   refine⟨i+1,by omega,by omega,JiJ (by simp only[go_sem,s1]) rfl,JiJ (by simp only[go_sem,s4]) rfl,JiI (by simp only[go_sem,m1]) hX rfl,JiH (.inl (by simp only[go_sem,n8])),JiH (.inl (by simp only[go_sem,n10])),JiH (.inl (by simp only[go_sem,n12])),fun x hx=>(h4 ⟨?_,?_⟩).2.2 x (by omega) (by omega) ((show Fr _ 20300 from by repeat' first|exact hn|refine Fr.up ?_ (by omega)) x hx),JiJ (by simp only[go_sem,s22]) rfl,JiJ (by simp only[go_sem,s23]) rfl,JiJ (by simp only[go_sem]) rfl,(h4 ⟨?_,?_⟩).1.out hfull.symm,JiH (.inr rfl),(h4 ⟨?_,?_⟩).2.1 _ rfl,(h4 ⟨?_,?_⟩).2.1 _ rfl⟩
   all_goals simp only[go_sem,Gc]
theorem YeC (h526:H526 Pg) (h527:H527 Pg) (h485:H485 Pg) {g:List UInt8} {es:List Inf} (he:∀e∈es,InS e) (hc:es.length<2 ^ 60) (hb:g.length+(es.flatMap inB).length+2 ^ 25≤2 ^ 29) {S:St} {Q:Ex→St→Prop} {X:List V} (hX:X.all V.datC=true)
  (s1:S.ρ 1=.lref 1 0) (s4:S.ρ 4=.lref 4 0) (m1:S.μ 1=some (X,false)) (n10:S.μ 10=none) (n12:S.μ 12=none) (hn:Fr S.A 20600) (s51:S.ρ 51=.slice 3 (es.map YbH)) (s52:S.ρ 52=iz es.length) (s53:S.ρ 53=iz 0) {a:Nat} (ha:a<20600) (hT:HW S 4 g a)
  (hq:∀S',S'.ρ 1=.lref 1 0→S'.ρ 4=.lref 4 0→S'.μ 1=some (X,false)→S'.μ 10=none→S'.μ 12=none→Fr S'.A 20600→HW S' 4 (g++es.flatMap inB) 10400→Q .norm S'):Wp (K' Pg) l516_1 S (Blk 2 Q):=by
 unfold l516_1
 refine JiX (fun (i:Nat) S=>i≤es.length∧S.ρ 1=.lref 1 0∧S.ρ 4=.lref 4 0∧S.μ 1=some (X,false)∧S.μ 10=none∧S.μ 12=none∧Fr S.A 20600∧S.ρ 51=.slice 3 (es.map YbH)∧S.ρ 52=iz es.length∧S.ρ 53=iz i∧HW S 4 (g++(es.take i).flatMap inB) 10400∧S.μ 8=none∧S.A 20400=none∧S.A 20500=none) (fun i=>es.length-i) 0 ?_ ?_
 ·have hh:=HW.head (Wv:=[8]) (Wa:=[20400,20500]) (h1:=10400) hT rfl rfl
  exact⟨GJ _,JiJ s1 rfl,JiJ s4 rfl,JiI m1 hX rfl,JiH (.inl n10),JiH (.inl n12),fun x hx=>hh.2.2 x (by omega) (by omega) (hn x hx),JiJ s51 rfl,JiJ s52 rfl,JiJ s53 rfl,by simpa using hh.1,JiH (.inr rfl),hh.2.1 _ rfl,hh.2.1 _ rfl⟩
 ·intro i S ⟨hi,s1,s4,m1,n10,n12,hn,s51,s52,s53,hT,nn,w20400,w20500⟩
  have hm:=hT.m
  have hA:=hT.a
  cases c1:decide ((i:Int)<(es.length:Int)) with
  |false=>
   have hil:i=es.length:=by have:=Ge c1;omega
   rw[hil,Gz] at hT
   simp only[go_sem,s52,s53,c1]
   exact hq _ (by simp only[go_sem,s1]) (by simp only[go_sem,s4]) m1 n10 n12 hn ⟨hT.m,hT.a⟩
  |true=>
   have hlt:=Yg c1
   obtain⟨e,hx,-⟩:=JiF hlt
   have hinc:=inc64q (i:=i) (by omega)
   have hv:=he e (List.mem_of_getElem? hx)
   have hml:=hv.2
   have htk:es.take (i+1)=es.take i++[e]:=by rw[GY,hx];rfl
   have hbl:=Y5 (W:=inB) (l:=es) (i:=i+1)
   have hfull:g++(es.take (i+1)).flatMap inB=g++(es.take i).flatMap inB++Ye [e.view]++Yaz e.mem++YI e.whole:=by rw[htk];simp[inB,YaK,Yj,Ye,Yh,nB]
   rw[htk,G8,Gc] at hbl
   simp only[GB,GM,GC,inB,nB,←YaK,Gc] at hbl
   generalize hg:g++(es.take i).flatMap inB=g1 at *
   have hgl:g1.length=g.length+((es.take i).flatMap inB).length:=by rw[←hg,Gc]
   have q1:=YaQ h526 (g1) [e.view] (Gm.2 ⟨YaH hv.1.1.1,fun _ h=>by cases h⟩) (by simp only[Yj,Ye,Yh,GB,GM,GC,Gc,List.length_cons,List.length_nil];omega)
   have q2:=Ydk h527 (g1++Ye [e.view]) e.mem (fun n hn=>hv.1.1.2.1.2 n hn) (by simp only[Yj,Ye,Yh,GB,GM,GC,Gc,List.length_cons,List.length_nil];omega)
   have q3:=K485 h485 e.whole
   have hfl:(YI e.whole).length=1:=by simp[YI]
   have hlim:g1.length+(Ye [e.view]).length+(Yaz e.mem).length+(YI e.whole).length≤lim:=by unfold lim;simp only[Yj,Ye,Yh,GB,GM,GC,Gc,List.length_cons,List.length_nil];omega
   simp only[GF,GQ] at q1
   generalize Ye [e.view]=b1 at *
   generalize Yaz e.mem=b2 at *
   generalize YI e.whole=b3 at *
   simp only[go_sem,JiK,s1,s4,s51,s52,s53,c1,hx,hm,hA,nn,w20400,w20500,q1,q2,q3,hinc,hlim,Gj]
   have h4:=fun {S:St} (h:HW S 4 (g1++b1++b2++b3) 20500)=>HW.head (Wv:=[8]) (Wa:=[20400,20500]) (h1:=10400) h rfl rfl
   refine⟨i+1,by omega,by omega,JiJ (by simp only[go_sem,s1]) rfl,JiJ (by simp only[go_sem,s4]) rfl,JiI (by simp only[go_sem,m1]) hX rfl,JiH (.inl (by simp only[go_sem,n10])),JiH (.inl (by simp only[go_sem,n12])),fun x hx=>(h4 ⟨?_,?_⟩).2.2 x (by omega) (by omega) ((show Fr _ 20600 from by repeat' first|exact hn|refine Fr.up ?_ (by omega)) x hx),JiJ (by simp only[go_sem,s51]) rfl,JiJ (by simp only[go_sem,s52]) rfl,JiJ (by simp only[go_sem]) rfl,(h4 ⟨?_,?_⟩).1.out hfull.symm,JiH (.inr rfl),(h4 ⟨?_,?_⟩).2.1 _ rfl,(h4 ⟨?_,?_⟩).2.1 _ rfl⟩
   all_goals first|(simp only[go_sem,Gc];done)|(simp only[go_sem,GS]<;>rfl)
theorem YeK (h526:H526 Pg) (h537:H537 Pg) {g:List UInt8} {es:List Lse} (he:∀e∈es,LeV e) (hc:es.length<2 ^ 60) (hb:g.length+(es.flatMap leB).length+2 ^ 25≤2 ^ 29) {S:St} {Q:Ex→St→Prop} {X:List V} (hX:X.all V.datC=true)
  (s1:S.ρ 1=.lref 1 0) (s4:S.ρ 4=.lref 4 0) (m1:S.μ 1=some (X,false)) (n12:S.μ 12=none) (hn:Fr S.A 20900) (s80:S.ρ 80=.slice 5 (es.map Y7)) (s81:S.ρ 81=iz es.length) (s82:S.ρ 82=iz 0) {a:Nat} (ha:a<20900) (hT:HW S 4 g a)
  (hq:∀S',S'.ρ 1=.lref 1 0→S'.ρ 4=.lref 4 0→S'.μ 1=some (X,false)→S'.μ 12=none→Fr S'.A 20900→HW S' 4 (g++es.flatMap leB) 10400→Q .norm S'):Wp (K' Pg) l516_2 S (Blk 4 Q):=by
 unfold l516_2
 refine JiX (fun (i:Nat) S=>i≤es.length∧S.ρ 1=.lref 1 0∧S.ρ 4=.lref 4 0∧S.μ 1=some (X,false)∧S.μ 12=none∧Fr S.A 20900∧S.ρ 80=.slice 5 (es.map Y7)∧S.ρ 81=iz es.length∧S.ρ 82=iz i∧HW S 4 (g++(es.take i).flatMap leB) 10400∧S.μ 10=none∧S.A 20700=none∧S.A 20800=none) (fun i=>es.length-i) 0 ?_ ?_
 ·have hh:=HW.head (Wv:=[10]) (Wa:=[20700,20800]) (h1:=10400) hT rfl rfl
  exact⟨GJ _,JiJ s1 rfl,JiJ s4 rfl,JiI m1 hX rfl,JiH (.inl n12),fun x hx=>hh.2.2 x (by omega) (by omega) (hn x hx),JiJ s80 rfl,JiJ s81 rfl,JiJ s82 rfl,by simpa using hh.1,JiH (.inr rfl),hh.2.1 _ rfl,hh.2.1 _ rfl⟩
 ·intro i S ⟨hi,s1,s4,m1,n12,hn,s80,s81,s82,hT,nn,w20700,w20800⟩
  have hm:=hT.m
  have hA:=hT.a
  cases c1:decide ((i:Int)<(es.length:Int)) with
  |false=>
   have hil:i=es.length:=by have:=Ge c1;omega
   rw[hil,Gz] at hT
   simp only[go_sem,s81,s82,c1]
   exact hq _ (by simp only[go_sem,s1]) (by simp only[go_sem,s4]) m1 n12 hn ⟨hT.m,hT.a⟩
  |true=>
   have hlt:=Yg c1
   obtain⟨e,hx,-⟩:=JiF hlt
   have hinc:=inc64q (i:=i) (by omega)
   have hv:=he e (List.mem_of_getElem? hx)
   have htk:es.take (i+1)=es.take i++[e]:=by rw[GY,hx];rfl
   have hbl:=Y5 (W:=leB) (l:=es) (i:=i+1)
   have hfull:g++(es.take (i+1)).flatMap leB=g++(es.take i).flatMap leB++Ye [e.id,e.lft]++Yh [e.at_]:=by rw[htk];simp[leB,YaK,Yj,Ye,Yh,nB]
   rw[htk,G8,Gc] at hbl
   simp only[GB,GM,GC,leB,nB,←YaK,Gc] at hbl
   generalize hg:g++(es.take i).flatMap leB=g1 at *
   have hgl:g1.length=g.length+((es.take i).flatMap leB).length:=by rw[←hg,Gc]
   have q1:=YaQ h526 (g1) [e.id,e.lft] (Gm.2 ⟨YaH hv.1.1,Gm.2 ⟨YaH hv.1.2.1,fun _ h=>by cases h⟩⟩) (by simp only[Yj,Ye,Yh,GB,GM,GC,Gc,List.length_cons,List.length_nil];omega)
   have q2:=Ycr h537 (g1++Ye [e.id,e.lft]) [e.at_] (Gm.2 ⟨hv.1.2.2,fun _ h=>by cases h⟩) (by simp only[Yj,Ye,Yh,GB,GM,GC,Gc,List.length_cons,List.length_nil];omega)
   simp only[GF,GQ] at q1 q2
   simp only[go_sem] at q2
   generalize Ye [e.id,e.lft]=b1 at *
   generalize Yh [e.at_]=b2 at *
   simp only[go_sem,JiK,s1,s4,s80,s81,s82,c1,hx,hm,hA,nn,w20700,w20800,q1,q2,hinc,Gj]
   have h4:=fun {S:St} (h:HW S 4 (g1++b1++b2) 20800)=>HW.head (Wv:=[10]) (Wa:=[20700,20800]) (h1:=10400) h rfl rfl
   refine⟨i+1,by omega,by omega,JiJ (by simp only[go_sem,s1]) rfl,JiJ (by simp only[go_sem,s4]) rfl,JiI (by simp only[go_sem,m1]) hX rfl,JiH (.inl (by simp only[go_sem,n12])),fun x hx=>(h4 ⟨?_,?_⟩).2.2 x (by omega) (by omega) ((show Fr _ 20900 from by repeat' first|exact hn|refine Fr.up ?_ (by omega)) x hx),JiJ (by simp only[go_sem,s80]) rfl,JiJ (by simp only[go_sem,s81]) rfl,JiJ (by simp only[go_sem]) rfl,(h4 ⟨?_,?_⟩).1.out hfull.symm,JiH (.inr rfl),(h4 ⟨?_,?_⟩).2.1 _ rfl,(h4 ⟨?_,?_⟩).2.1 _ rfl⟩
   all_goals simp only[go_sem,Gc]
theorem YeQ (h526:H526 Pg) (h537:H537 Pg) {g:List UInt8} {es:List ORw} (he:∀e∈es,OrV e) (hc:es.length<2 ^ 60) (hb:g.length+(es.flatMap orB).length+2 ^ 25≤2 ^ 29) {S:St} {Q:Ex→St→Prop} {X:List V} (hX:X.all V.datC=true)
  (s1:S.ρ 1=.lref 1 0) (s4:S.ρ 4=.lref 4 0) (m1:S.μ 1=some (X,false))  (hn:Fr S.A 21700) (s118:S.ρ 118=.slice 7 (es.map YbY)) (s119:S.ρ 119=iz es.length) (s120:S.ρ 120=iz 0) {a:Nat} (ha:a<21700) (hT:HW S 4 g a)
  (hq:∀S',S'.ρ 1=.lref 1 0→S'.ρ 4=.lref 4 0→S'.μ 1=some (X,false)→ Fr S'.A 21700→HW S' 4 (g++es.flatMap orB) 10400→Q .norm S'):Wp (K' Pg) l516_3 S (Blk 6 Q):=by
 unfold l516_3
 refine JiX (fun (i:Nat) S=>i≤es.length∧S.ρ 1=.lref 1 0∧S.ρ 4=.lref 4 0∧S.μ 1=some (X,false)∧Fr S.A 21700∧S.ρ 118=.slice 7 (es.map YbY)∧S.ρ 119=iz es.length∧S.ρ 120=iz i∧HW S 4 (g++(es.take i).flatMap orB) 10400∧S.μ 12=none∧S.A 21400=none∧S.A 21500=none∧S.A 21600=none) (fun i=>es.length-i) 0 ?_ ?_
 ·have hh:=HW.head (Wv:=[12]) (Wa:=[21400,21500,21600]) (h1:=10400) hT rfl rfl
  exact⟨GJ _,JiJ s1 rfl,JiJ s4 rfl,JiI m1 hX rfl,fun x hx=>hh.2.2 x (by omega) (by omega) (hn x hx),JiJ s118 rfl,JiJ s119 rfl,JiJ s120 rfl,by simpa using hh.1,JiH (.inr rfl),hh.2.1 _ rfl,hh.2.1 _ rfl,hh.2.1 _ rfl⟩
 ·intro i S ⟨hi,s1,s4,m1,hn,s118,s119,s120,hT,nn,w21400,w21500,w21600⟩
  have hm:=hT.m
  have hA:=hT.a
  cases c1:decide ((i:Int)<(es.length:Int)) with
  |false=>
   have hil:i=es.length:=by have:=Ge c1;omega
   rw[hil,Gz] at hT
   simp only[go_sem,s119,s120,c1]
   exact hq _ (by simp only[go_sem,s1]) (by simp only[go_sem,s4]) m1 hn ⟨hT.m,hT.a⟩
  |true=>
   have hlt:=Yg c1
   obtain⟨e,hx,-⟩:=JiF hlt
   have hinc:=inc64q (i:=i) (by omega)
   have hv:=he e (List.mem_of_getElem? hx)
   have htk:es.take (i+1)=es.take i++[e]:=by rw[GY,hx];rfl
   have hbl:=Y5 (W:=orB) (l:=es) (i:=i+1)
   have hfull:g++(es.take (i+1)).flatMap orB=g++(es.take i).flatMap orB++Ye [e.client,e.req,e.lease]++Yh [e.at_]++Ye [e.err]:=by rw[htk];simp[orB,YaK,Yj,Ye,Yh,nB]
   rw[htk,G8,Gc] at hbl
   simp only[GB,GM,GC,orB,nB,←YaK,Gc] at hbl
   generalize hg:g++(es.take i).flatMap orB=g1 at *
   have hgl:g1.length=g.length+((es.take i).flatMap orB).length:=by rw[←hg,Gc]
   have q1:=YaQ h526 (g1) [e.client,e.req,e.lease] (Gm.2 ⟨YaH hv.1.1,Gm.2 ⟨YaH hv.1.2.1,Gm.2 ⟨YaH hv.1.2.2.1,fun _ h=>by cases h⟩⟩⟩) (by simp only[Yj,Ye,Yh,GB,GM,GC,Gc,List.length_cons,List.length_nil];omega)
   have q2:=Ycr h537 (g1++Ye [e.client,e.req,e.lease]) [e.at_] (Gm.2 ⟨hv.1.2.2.2.1,fun _ h=>by cases h⟩) (by simp only[Yj,Ye,Yh,GB,GM,GC,Gc,List.length_cons,List.length_nil];omega)
   have q3:=YaQ h526 (g1++Ye [e.client,e.req,e.lease]++Yh [e.at_]) [e.err] (Gm.2 ⟨YaH hv.1.2.2.2.2,fun _ h=>by cases h⟩) (by simp only[Yj,Ye,Yh,GB,GM,GC,Gc,List.length_cons,List.length_nil];omega)
   simp only[GF,GQ] at q1 q2 q3
   simp only[go_sem] at q2
   generalize Ye [e.client,e.req,e.lease]=b1 at *
   generalize Yh [e.at_]=b2 at *
   generalize Ye [e.err]=b3 at *
   simp only[go_sem,JiK,s1,s4,s118,s119,s120,c1,hx,hm,hA,nn,w21400,w21500,w21600,q1,q2,q3,hinc,Gj]
   have h4:=fun {S:St} (h:HW S 4 (g1++b1++b2++b3) 21600)=>HW.head (Wv:=[12]) (Wa:=[21400,21500,21600]) (h1:=10400) h rfl rfl
   refine⟨i+1,by omega,by omega,JiJ (by simp only[go_sem,s1]) rfl,JiJ (by simp only[go_sem,s4]) rfl,JiI (by simp only[go_sem,m1]) hX rfl,fun x hx=>(h4 ⟨?_,?_⟩).2.2 x (by omega) (by omega) ((show Fr _ 21700 from by repeat' first|exact hn|refine Fr.up ?_ (by omega)) x hx),JiJ (by simp only[go_sem,s118]) rfl,JiJ (by simp only[go_sem,s119]) rfl,JiJ (by simp only[go_sem]) rfl,(h4 ⟨?_,?_⟩).1.out hfull.symm,JiH (.inr rfl),(h4 ⟨?_,?_⟩).2.1 _ rfl,(h4 ⟨?_,?_⟩).2.1 _ rfl,(h4 ⟨?_,?_⟩).2.1 _ rfl⟩
   all_goals simp only[go_sem,Gc]
theorem Yct {n:Nat} (h:n<2 ^ 63):∀m∈[(n:Int)],0≤m∧m<2 ^ 63:=by
 intro m hm;have:=List.mem_singleton.1 hm;subst this;omega
def H516 (Pg:PgT):Prop:=Pg 516=some (.code F516)∧H328 Pg∧H485 Pg∧H526 Pg∧H527 Pg∧H528 Pg∧H537 Pg∧H538 Pg
theorem K516 (h:H516 Pg) (d:Drc) (hd:SmD d) (hl:DrL d) (hb:Yao d=true→(drB d).length+2 ^ 27≤2 ^ 29) :
  K' Pg 516 [.agg (YM d)]=some (if Yao d=true then .tuple [.str (drB d),iz 0] else .tuple [.str [],iz 1]):=by
 obtain⟨h,h328,h485,h526,h527,h528,h537,h538⟩:=h
 have k1:=K328 h328 d hd
 simp only[go_sem] at k1
 refine Qa h rfl ?_
 cases c1:Yao d with
 |false=>
  rw[Gq (by simp)]
  rw[c1] at k1
  simp only[F516,c516,go_sem,k1]
 |true=>
 rw[Gx rfl]
 rw[c1] at k1
 replace hb:=hb c1
 obtain⟨⟨⟨p1,p2⟩,⟨i1,i2⟩,n1,⟨l1,l2⟩,⟨s1,s2⟩,mk,jb,⟨r1,r2⟩⟩,-⟩:=YcM c1 hl
 have hpl:∀p∈d.places,PlS p:=fun p hp=>⟨p2 p hp,by have:=(hl.pl p hp).1;omega,by have:=(hl.pl p hp).2;omega⟩
 have hin:∀p∈d.cells,InS p:=fun p hp=>⟨i2 p hp,hl.cell p hp⟩
 have hjb:JbS d.job:=⟨jb,by have:=hl.key;omega,fun t ht=>by have:=hl.parts.2 t ht;omega,by have:=hl.span;omega,hl.wait,hl.mem⟩
 have hdB:drB d=Ye [(d.places.length:Int)]++d.places.flatMap plB++Ye [(d.cells.length:Int)]++d.cells.flatMap inB++Ye [d.next,(d.leases.length:Int)]++d.leases.flatMap leB++Ye [(d.lows.length:Int)]++Yh d.lows++Yh [d.mark]++jbW d.job++Ye [(d.opened.length:Int)]++d.opened.flatMap orB:=by
  simp only[drB,YJ,Ye,Yh,nB,YeE,GB,GM,GC,Int.toNat_natCast,Gs]
 rw[hdB] at hb ⊢
 have x1:(Ye [(d.places.length:Int)]).length≤9:=Yal (l:=[(d.places.length:Int)]) (by simp;omega)
 have x2:(Ye [(d.cells.length:Int)]).length≤9:=Yal (l:=[(d.cells.length:Int)]) (by simp;omega)
 simp only[Gc] at hb
 have y1:=YP Ydr p2
 have y2:=YP Ydh i2
 have y3:=YP Ydl l2
 have y4:=YP Ydq r2
 have q1:=YaQ h526 [] [(d.places.length:Int)] (Yct p1) (by simp only[List.length_nil,List.length_cons];omega)
 simp only[GF,GQ,List.nil_append] at q1
 simp only[F516,c516,go_sem,JiK,k1,q1,Gj]
 refine YeS h526 h528 (g:=Ye [(d.places.length:Int)]) (es:=d.places) (X:=YM d) hpl (by omega) (by omega) rfl (by simp only[go_sem]) (by simp only[go_sem]) (by simp only[go_sem]) (by simp only[go_sem]) (by simp only[go_sem]) (by simp only[go_sem]) (show Fr _ _ from by repeat' first|exact fun x hx=>rfl|refine Fr.up ?_ (by omega)) (by simp only[go_sem]) (by simp only[go_sem]) (by simp only[go_sem]) (a:=20000) (by omega) ⟨by simp only[go_sem],by simp only[go_sem]⟩ fun S1 t1 t4 u1 n8 n10 n12 hn1 hT1=>?_
 have hm1:=hT1.m
 have hA1:=hT1.a
 simp only[go_sem] at u1
 have a1:=hn1 20300 (by omega)
 have q2:=YaQ h526 (Ye [(d.places.length:Int)]++d.places.flatMap plB) [(d.cells.length:Int)] (Yct i1) (by simp only[Gc,List.length_cons,List.length_nil];omega)
 simp only[GF,GQ] at q2
 simp only[go_sem,JiK,t1,t4,u1,hm1,hA1,a1,n8,q2,Gj]
 refine YeC h526 h527 h485 (g:=Ye [(d.places.length:Int)]++d.places.flatMap plB++Ye [(d.cells.length:Int)]) (es:=d.cells) (X:=YM d) hin (by omega) (by simp only[Gc];omega) rfl (by simp only[go_sem,t1]) (by simp only[go_sem,t4]) (by simp only[go_sem,u1]) (by simp only[go_sem,n10]) (by simp only[go_sem,n12]) (show Fr _ _ from by repeat' first|exact fun x hx=>hn1 x (by omega)|refine Fr.up ?_ (by omega)) (by simp only[go_sem]) (by simp only[go_sem]) (by simp only[go_sem]) (a:=20300) (by omega) ⟨by simp only[go_sem,Gc],by simp only[go_sem]⟩ fun S2 t1 t4 u2 n10 n12 hn2 hT2=>?_
 have hm2:=hT2.m
 have hA2:=hT2.a
 simp only[go_sem] at u2
 have a2:=hn2 20600 (by omega)
 have q3:=YaQ h526 (Ye [(d.places.length:Int)]++d.places.flatMap plB++Ye [(d.cells.length:Int)]++d.cells.flatMap inB) [d.next,(d.leases.length:Int)] (Gm.2 ⟨YaH n1,Yct l1⟩) (by simp only[Gc,List.length_cons,List.length_nil];omega)
 simp only[GF,GQ] at q3
 simp only[go_sem,JiK,t1,t4,u2,hm2,hA2,a2,q3,Gj]
 refine YeK h526 h537 (g:=Ye [(d.places.length:Int)]++d.places.flatMap plB++Ye [(d.cells.length:Int)]++d.cells.flatMap inB++Ye [d.next,(d.leases.length:Int)]) (es:=d.leases) (X:=YM d) l2 (by omega) (by simp only[Gc];omega) rfl (by simp only[go_sem,t1]) (by simp only[go_sem,t4]) (by simp only[go_sem,u2]) (by simp only[go_sem,n12]) (show Fr _ _ from by repeat' first|exact fun x hx=>hn2 x (by omega)|refine Fr.up ?_ (by omega)) (by simp only[go_sem]) (by simp only[go_sem]) (by simp only[go_sem]) (a:=20600) (by omega) ⟨by simp only[go_sem,Gc],by simp only[go_sem]⟩ fun S3 t1 t4 u3 n12 hn3 hT3=>?_
 have hm3:=hT3.m
 have hA3:=hT3.a
 simp only[go_sem] at u3
 have b1:=hn3 20900 (by omega)
 have b2:=hn3 21000 (by omega)
 have b3:=hn3 21100 (by omega)
 have b4:=hn3 21200 (by omega)
 have b5:=hn3 21300 (by omega)
 have q4:=YaQ h526 (Ye [(d.places.length:Int)]++d.places.flatMap plB++Ye [(d.cells.length:Int)]++d.cells.flatMap inB++Ye [d.next,(d.leases.length:Int)]++d.leases.flatMap leB) [(d.lows.length:Int)] (Yct s1) (by simp only[Gc,List.length_cons,List.length_nil];omega)
 simp only[GF,GQ] at q4
 have q5:=Ycr h537 (Ye [(d.places.length:Int)]++d.places.flatMap plB++Ye [(d.cells.length:Int)]++d.cells.flatMap inB++Ye [d.next,(d.leases.length:Int)]++d.leases.flatMap leB++Ye [(d.lows.length:Int)]) d.lows (s2) (by simp only[Gc,List.length_cons,List.length_nil];omega)
 have q6:=Ycr h537 (Ye [(d.places.length:Int)]++d.places.flatMap plB++Ye [(d.cells.length:Int)]++d.cells.flatMap inB++Ye [d.next,(d.leases.length:Int)]++d.leases.flatMap leB++Ye [(d.lows.length:Int)]++Yh d.lows) [d.mark] (Gm.2 ⟨mk,fun _ h=>by cases h⟩) (by simp only[Gc,List.length_cons,List.length_nil];omega)
 simp only[GF,GQ] at q6
 simp only[go_sem] at q6
 have q7:=k538n h538 (Ye [(d.places.length:Int)]++d.places.flatMap plB++Ye [(d.cells.length:Int)]++d.cells.flatMap inB++Ye [d.next,(d.leases.length:Int)]++d.leases.flatMap leB++Ye [(d.lows.length:Int)]++Yh d.lows++Yh [d.mark]) d.job hjb (by simp only[Gc];omega)
 simp only[go_sem] at q7
 have q8:=YaQ h526 (Ye [(d.places.length:Int)]++d.places.flatMap plB++Ye [(d.cells.length:Int)]++d.cells.flatMap inB++Ye [d.next,(d.leases.length:Int)]++d.leases.flatMap leB++Ye [(d.lows.length:Int)]++Yh d.lows++Yh [d.mark]++jbW d.job) [(d.opened.length:Int)] (Yct r1) (by simp only[Gc,List.length_cons,List.length_nil];omega)
 simp only[GF,GQ] at q8
 simp only[go_sem,JiK,t1,t4,u3,hm3,hA3,b1,b2,b3,b4,b5,q4,q5,q6,q7,q8,Gj]
 refine YeQ h526 h537 (g:=Ye [(d.places.length:Int)]++d.places.flatMap plB++Ye [(d.cells.length:Int)]++d.cells.flatMap inB++Ye [d.next,(d.leases.length:Int)]++d.leases.flatMap leB++Ye [(d.lows.length:Int)]++Yh d.lows++Yh [d.mark]++jbW d.job++Ye [(d.opened.length:Int)]) (es:=d.opened) (X:=YM d) r2 (by omega) (by simp only[Gc];omega) rfl (by simp only[go_sem,t1]) (by simp only[go_sem,t4]) (by simp only[go_sem,u3]) (show Fr _ _ from by repeat' first|exact fun x hx=>hn3 x (by omega)|refine Fr.up ?_ (by omega)) (by simp only[go_sem]) (by simp only[go_sem]) (by simp only[go_sem]) (a:=21300) (by omega) ⟨by simp only[go_sem,Gc],by simp only[go_sem]⟩ fun S4 t1 t4 u4 hn4 hT4=>?_
 have hm4:=hT4.m
 have hA4:=hT4.a
 have hbt:=Jcl (Ye [(d.places.length:Int)]++d.places.flatMap plB++Ye [(d.cells.length:Int)]++d.cells.flatMap inB++Ye [d.next,(d.leases.length:Int)]++d.leases.flatMap leB++Ye [(d.lows.length:Int)]++Yh d.lows++Yh [d.mark]++jbW d.job++Ye [(d.opened.length:Int)]++d.opened.flatMap orB)
 simp only[YbN] at hbt
 simp only[go_sem,t4,hm4,hA4,hbt,Gj]
theorem Yam (h:H530 Pg) (x:Rb):K' Pg 530 [.tuple (.lref 0 0::eR x)]=some (.tuple [iz ((uI false).v x),.tuple (eR ((uI false).n x))]):=R530 h x
def drP (a b:V) (n:Int) (c d:V) (m:Stamp) (j:Jb) (o:V):List V:=[a,b,iz n,c,d,iz m.wall,iz m.tick,iz m.node,iz j.kind,iz j.step,iz j.id,iz j.shard,iz j.other,iz j.cell,iz j.to,iz j.epoch,.str j.key,Ybz j.parts,iz j.of_,iz j.client,iz j.req,.str j.span.lo,.str j.span.hi,Yf j.wait,iz j.at_.wall,iz j.at_.tick,iz j.at_.node,Yf j.mem,o]
structure TD (S:St) (y:Rb) (ps:List Place) (is:List Inf) (n:Int) (ls:List Lse) (ss:List Stamp) (m:Stamp) (j:Jb) (os:List ORw):Prop where
 r2:S.ρ 2=.lref 2 0
 r4:S.ρ 4=.lref 9 0
 r5:S.ρ 5=.lref 5 0
 m9:S.μ 9=some (eR y,false)
 m2:S.μ 2=some (YdI,false)
 m5:S.μ 5=some (drP (nilOr 33 5 ps.length) (nilOr 50 3 is.length) n (nilOr 70 5 ls.length) (nilOr 82 3 ss.length) m j (nilOr 109 7 os.length),false)
 a33:S.A 33=Yax 5 (ps.map ePl) ps.length
 a50:S.A 50=Yax 3 (is.map YbH) is.length
 a70:S.A 70=Yax 5 (ls.map Y7) ls.length
 a82:S.A 82=Yax 3 (ss.map Yd) ss.length
 a109:S.A 109=Yax 7 (os.map YbY) os.length
theorem Ya4 {S:St} {v:Nat} {Wv:List Nat} {cs:List V} {b:Bool} (hm:S.μ v=some (cs,b)) (hv:Wv.contains v=false):(S.head [] [] Wv []).μ v=some (cs,b):=by
 show (if Wv.contains v then none else (S.μ v).map _)=_
 rw[hv,hm];rfl
theorem TD.head {S:St} {y:Rb} {ps:List Place} {is:List Inf} {n:Int} {ls:List Lse} {ss:List Stamp} {m:Stamp} {j:Jb} {os:List ORw} (h:TD S y ps is n ls ss m j os):TD (S.head [] [] [6] []) y ps is n ls ss m j os:=
 ⟨JiJ h.r2 rfl,JiJ h.r4 rfl,JiJ h.r5 rfl,Ya4 h.m9 rfl,Ya4 h.m2 rfl,Ya4 h.m5 rfl,(YN rfl).trans h.a33,(YN rfl).trans h.a50,(YN rfl).trans h.a70,(YN rfl).trans h.a82,(YN rfl).trans h.a109⟩
set_option maxHeartbeats 1000000
theorem YeT (h530:H530 Pg) (h539:H539 Pg) {y:Rb} {m:Nat} {n:Int} {mk:Stamp} {j:Jb} {is:List Inf} {ls:List Lse} {ss:List Stamp} {os:List ORw} (hm:m≤2 ^ 29) {S:St} {Q:Ex→St→Prop}
  (hS:TD S y [] is n ls ss mk j os) (sc:S.ρ 11=iz m) (si:S.ρ 12=iz 0) (n6:S.μ 6=none)
  (hq:∀S',TD S' (((uPl false).rep false m).n y) (((uPl false).rep false m).v y) is n ls ss mk j os→Q .norm S'):Wp (K' Pg) l517_0 S (Blk 0 Q):=by
 unfold l517_0
 refine JiX (fun (i:Nat) S=>i≤m∧S.ρ 11=iz m∧S.ρ 12=iz i∧S.μ 6=none∧∃(vs:List Place) (w:Rb),vs.length=i∧(((uPl false).rep false m).v y=vs++((uPl false).rep false (m-i)).v w∧((uPl false).rep false m).n y=((uPl false).rep false (m-i)).n w)∧TD S w vs is n ls ss mk j os) (fun i=>m-i) 0 ?_ ?_
 ·exact⟨GJ _,JiJ sc rfl,JiJ si rfl,JiH (.inl n6),[],y,rfl,⟨rfl,rfl⟩,hS.head⟩
 ·intro i S ⟨hi,sc,si,n6,vs,w,hvl,hrep,hS⟩
  have hS0:=hS
  obtain⟨t2,t4,t5,m9,m2,m5,a33,a50,a70,a82,a109⟩:=hS
  cases c1:decide ((i:Int)<(m:Int)) with
  |false=>
   have him:i=m:=by have:=Ge c1;omega
   subst him
   obtain⟨e1,e2⟩:=YaR hrep
   rw[e1,e2] at hq
   simp only[go_sem,sc,si,c1]
   exact hq _ ⟨by simp only[go_sem,t2],by simp only[go_sem,t4],by simp only[go_sem,t5],m9,m2,m5,a33,a50,a70,a82,a109⟩
  |true=>
   have hlt:=Yg c1
   have hinc:=inc64q (i:=i) (by omega)
   have hone:=rep_step hlt hrep
   have hR:(uPl false).v w=mkPl ((uT false).v w,(uT false).v ((uT false).n w),(uI false).v ((uT false).n ((uT false).n w)),(uI false).v ((uI false).n ((uT false).n ((uT false).n w))),(uI false).v ((uI false).n ((uI false).n ((uT false).n ((uT false).n w))))):=rfl
   have hN:(uPl false).n w=(uI false).n ((uI false).n ((uI false).n ((uT false).n ((uT false).n w)))):=rfl
   rw[hR,hN] at hone
   have k1:=R539 h539 w
   generalize (uT false).v w=v1 at *
   generalize (uT false).n w=z1 at *
   have k2:=R539 h539 z1
   generalize (uT false).v z1=v2 at *
   generalize (uT false).n z1=z2 at *
   have k3:=Yam h530 z2
   generalize (uI false).v z2=v3 at *
   generalize (uI false).n z2=z3 at *
   have k4:=Yam h530 z3
   generalize (uI false).v z3=v4 at *
   generalize (uI false).n z3=z4 at *
   have k5:=Yam h530 z4
   generalize (uI false).v z4=v5 at *
   generalize (uI false).n z4=z5 at *
   have hil:(vs.map ePl).length=vs.length:=by simp
   have ha:=fun S=>YaF (S:=S) (s:=33) (z:=5) (r:=[.str v1,.str v2,iz v3,iz v4,iz v5]) hil (by unfold lim;omega)
   have x5:=m5
   simp only[drP,go_sem] at x5
   simp only[go_sem,JiK,t4,t5,sc,si,c1,m9,x5,n6,a33,k1,k2,k3,k4,k5,Yad,ha,hinc,JhU]
   have hs1:(vs++[mkPl (v1,v2,v3,v4,v5)]).length=vs.length+1:=by simp
   exact⟨i+1,by omega,by omega,rfl,vs++[mkPl (v1,v2,v3,v4,v5)],z5,by rw[hs1,hvl],hone,TD.head ⟨by simp only[go_sem,t2],by simp only[go_sem,t4],by simp only[go_sem,t5],by simp only[go_sem],by simp only[go_sem,m2],by rw[hs1];simp only[go_sem]<;>rfl,by rw[hs1,GS];simp only[go_sem]<;>rfl,by simp only[go_sem,a50],by simp only[go_sem,a70],by simp only[go_sem,a82],by simp only[go_sem,a109]⟩⟩
theorem YeD (h530:H530 Pg) (h540:H540 Pg) (h541:H541 Pg) {y:Rb} {m:Nat} {n:Int} {mk:Stamp} {j:Jb} {ps:List Place} {ls:List Lse} {ss:List Stamp} {os:List ORw} (hm:m≤2 ^ 29) {S:St} {Q:Ex→St→Prop}
  (hS:TD S y ps [] n ls ss mk j os) (sc:S.ρ 37=iz m) (si:S.ρ 38=iz 0)
  (hq:∀S',TD S' (((uIn false).rep false m).n y) ps (((uIn false).rep false m).v y) n ls ss mk j os→Q .norm S'):Wp (K' Pg) l517_1 S (Blk 2 Q):=by
 unfold l517_1
 refine JiX (fun (i:Nat) S=>i≤m∧S.ρ 37=iz m∧S.ρ 38=iz i∧∃(vs:List Inf) (w:Rb),vs.length=i∧(((uIn false).rep false m).v y=vs++((uIn false).rep false (m-i)).v w∧((uIn false).rep false m).n y=((uIn false).rep false (m-i)).n w)∧TD S w ps vs n ls ss mk j os) (fun i=>m-i) 0 ?_ ?_
 ·simp only[JhU]
  exact⟨GJ _,sc,si,[],y,rfl,⟨rfl,rfl⟩,hS⟩
 ·intro i S ⟨hi,sc,si,vs,w,hvl,hrep,hS⟩
  have hS0:=hS
  obtain⟨t2,t4,t5,m9,m2,m5,a33,a50,a70,a82,a109⟩:=hS
  cases c1:decide ((i:Int)<(m:Int)) with
  |false=>
   have him:i=m:=by have:=Ge c1;omega
   subst him
   obtain⟨e1,e2⟩:=YaR hrep
   rw[e1,e2] at hq
   simp only[go_sem,sc,si,c1]
   exact hq _ ⟨by simp only[go_sem,t2],by simp only[go_sem,t4],by simp only[go_sem,t5],m9,m2,m5,a33,a50,a70,a82,a109⟩
  |true=>
   have hlt:=Yg c1
   have hinc:=inc64q (i:=i) (by omega)
   have hone:=rep_step hlt hrep
   have hR:(uIn false).v w=mkIn ((uI false).v w,(uIs false).v ((uI false).n w),(uF false).v ((uIs false).n ((uI false).n w))):=rfl
   have hN:(uIn false).n w=(uF false).n ((uIs false).n ((uI false).n w)):=rfl
   rw[hR,hN] at hone
   have k1:=Yam h530 w
   generalize (uI false).v w=v1 at *
   generalize (uI false).n w=z1 at *
   have k2:=Yd4 h540 z1
   generalize (uIs false).v z1=v2 at *
   generalize (uIs false).n z1=z2 at *
   have k3:=R541 h541 z2
   generalize (uF false).v z2=v3 at *
   generalize (uF false).n z2=z3 at *
   have hil:(vs.map YbH).length=vs.length:=by simp
   have ha:=fun S=>YaF (S:=S) (s:=50) (z:=3) (r:=[iz v1,.slice 1 (v2.map fun a=>[iz a]),.bool v3]) hil (by unfold lim;omega)
   simp only[go_sem,eSt] at k2
   have x5:=m5
   simp only[drP,go_sem] at x5
   simp only[go_sem,JiK,t4,t5,sc,si,c1,m9,x5,a50,k1,k2,k3,Yad,ha,hinc,JhU]
   have hs1:(vs++[mkIn (v1,v2,v3)]).length=vs.length+1:=by simp
   exact⟨i+1,by omega,by omega,rfl,vs++[mkIn (v1,v2,v3)],z3,by rw[hs1,hvl],hone,⟨by simp only[go_sem,t2],by simp only[go_sem,t4],by simp only[go_sem,t5],by simp only[go_sem],by simp only[go_sem,m2],by rw[hs1];simp only[go_sem]<;>rfl,by simp only[go_sem,a33],by rw[hs1,GS];simp only[go_sem]<;>rfl,by simp only[go_sem,a70],by simp only[go_sem,a82],by simp only[go_sem,a109]⟩⟩
theorem YeL (h530:H530 Pg) (h542:H542 Pg) {y:Rb} {m:Nat} {n:Int} {mk:Stamp} {j:Jb} {ps:List Place} {is:List Inf} {ss:List Stamp} {os:List ORw} (hm:m≤2 ^ 29) {S:St} {Q:Ex→St→Prop}
  (hS:TD S y ps is n [] ss mk j os) (sc:S.ρ 57=iz m) (si:S.ρ 58=iz 0)
  (hq:∀S',TD S' (((uLe false).rep false m).n y) ps is n (((uLe false).rep false m).v y) ss mk j os→Q .norm S'):Wp (K' Pg) l517_2 S (Blk 4 Q):=by
 unfold l517_2
 refine JiX (fun (i:Nat) S=>i≤m∧S.ρ 57=iz m∧S.ρ 58=iz i∧∃(vs:List Lse) (w:Rb),vs.length=i∧(((uLe false).rep false m).v y=vs++((uLe false).rep false (m-i)).v w∧((uLe false).rep false m).n y=((uLe false).rep false (m-i)).n w)∧TD S w ps is n vs ss mk j os) (fun i=>m-i) 0 ?_ ?_
 ·simp only[JhU]
  exact⟨GJ _,sc,si,[],y,rfl,⟨rfl,rfl⟩,hS⟩
 ·intro i S ⟨hi,sc,si,vs,w,hvl,hrep,hS⟩
  have hS0:=hS
  obtain⟨t2,t4,t5,m9,m2,m5,a33,a50,a70,a82,a109⟩:=hS
  cases c1:decide ((i:Int)<(m:Int)) with
  |false=>
   have him:i=m:=by have:=Ge c1;omega
   subst him
   obtain⟨e1,e2⟩:=YaR hrep
   rw[e1,e2] at hq
   simp only[go_sem,sc,si,c1]
   exact hq _ ⟨by simp only[go_sem,t2],by simp only[go_sem,t4],by simp only[go_sem,t5],m9,m2,m5,a33,a50,a70,a82,a109⟩
  |true=>
   have hlt:=Yg c1
   have hinc:=inc64q (i:=i) (by omega)
   have hone:=rep_step hlt hrep
   have hR:(uLe false).v w=mkLe ((uI false).v w,(uI false).v ((uI false).n w),(uS false).v ((uI false).n ((uI false).n w))):=rfl
   have hN:(uLe false).n w=(uS false).n ((uI false).n ((uI false).n w)):=rfl
   rw[hR,hN] at hone
   have k1:=Yam h530 w
   generalize (uI false).v w=v1 at *
   generalize (uI false).n w=z1 at *
   have k2:=Yam h530 z1
   generalize (uI false).v z1=v2 at *
   generalize (uI false).n z1=z2 at *
   have k3:=R542 h542 z2
   generalize (uS false).v z2=v3 at *
   generalize (uS false).n z2=z3 at *
   have hil:(vs.map Y7).length=vs.length:=by simp
   have ha:=fun S=>YaF (S:=S) (s:=70) (z:=5) (r:=[iz v1,iz v2,iz v3.wall,iz v3.tick,iz v3.node]) hil (by unfold lim;omega)
   simp only[go_sem,eSt] at k3
   have x5:=m5
   simp only[drP,go_sem] at x5
   simp only[go_sem,JiK,t4,t5,sc,si,c1,m9,x5,a70,k1,k2,k3,Yad,ha,hinc,JhU]
   have hs1:(vs++[mkLe (v1,v2,v3)]).length=vs.length+1:=by simp
   exact⟨i+1,by omega,by omega,rfl,vs++[mkLe (v1,v2,v3)],z3,by rw[hs1,hvl],hone,⟨by simp only[go_sem,t2],by simp only[go_sem,t4],by simp only[go_sem,t5],by simp only[go_sem],by simp only[go_sem,m2],by rw[hs1];simp only[go_sem]<;>rfl,by simp only[go_sem,a33],by simp only[go_sem,a50],by rw[hs1,GS];simp only[go_sem]<;>rfl,by simp only[go_sem,a82],by simp only[go_sem,a109]⟩⟩
theorem YeZ (h542:H542 Pg) {y:Rb} {m:Nat} {n:Int} {mk:Stamp} {j:Jb} {ps:List Place} {is:List Inf} {ls:List Lse} {os:List ORw} (hm:m≤2 ^ 29) {S:St} {Q:Ex→St→Prop}
  (hS:TD S y ps is n ls [] mk j os) (sc:S.ρ 74=iz m) (si:S.ρ 75=iz 0)
  (hq:∀S',TD S' (((uS false).rep false m).n y) ps is n ls (((uS false).rep false m).v y) mk j os→Q .norm S'):Wp (K' Pg) l517_3 S (Blk 6 Q):=by
 unfold l517_3
 refine JiX (fun (i:Nat) S=>i≤m∧S.ρ 74=iz m∧S.ρ 75=iz i∧∃(vs:List Stamp) (w:Rb),vs.length=i∧(((uS false).rep false m).v y=vs++((uS false).rep false (m-i)).v w∧((uS false).rep false m).n y=((uS false).rep false (m-i)).n w)∧TD S w ps is n ls vs mk j os) (fun i=>m-i) 0 ?_ ?_
 ·simp only[JhU]
  exact⟨GJ _,sc,si,[],y,rfl,⟨rfl,rfl⟩,hS⟩
 ·intro i S ⟨hi,sc,si,vs,w,hvl,hrep,hS⟩
  have hS0:=hS
  obtain⟨t2,t4,t5,m9,m2,m5,a33,a50,a70,a82,a109⟩:=hS
  cases c1:decide ((i:Int)<(m:Int)) with
  |false=>
   have him:i=m:=by have:=Ge c1;omega
   subst him
   obtain⟨e1,e2⟩:=YaR hrep
   rw[e1,e2] at hq
   simp only[go_sem,sc,si,c1]
   exact hq _ ⟨by simp only[go_sem,t2],by simp only[go_sem,t4],by simp only[go_sem,t5],m9,m2,m5,a33,a50,a70,a82,a109⟩
  |true=>
   have hlt:=Yg c1
   have hinc:=inc64q (i:=i) (by omega)
   have hone:=rep_step hlt hrep
   have k1:=R542 h542 w
   generalize (uS false).v w=v1 at *
   generalize (uS false).n w=z1 at *
   have hil:(vs.map Yd).length=vs.length:=by simp
   have ha:=fun S=>YaF (S:=S) (s:=82) (z:=3) (r:=[iz v1.wall,iz v1.tick,iz v1.node]) hil (by unfold lim;omega)
   simp only[go_sem,eSt] at k1
   have x5:=m5
   simp only[drP,go_sem] at x5
   simp only[go_sem,JiK,t4,t5,sc,si,c1,m9,x5,a82,k1,Yad,ha,hinc,JhU]
   have hs1:(vs++[v1]).length=vs.length+1:=by simp
   exact⟨i+1,by omega,by omega,rfl,vs++[v1],z1,by rw[hs1,hvl],hone,⟨by simp only[go_sem,t2],by simp only[go_sem,t4],by simp only[go_sem,t5],by simp only[go_sem],by simp only[go_sem,m2],by rw[hs1];simp only[go_sem]<;>rfl,by simp only[go_sem,a33],by simp only[go_sem,a50],by simp only[go_sem,a70],by rw[hs1,GS];simp only[go_sem]<;>rfl,by simp only[go_sem,a109]⟩⟩
theorem YeR (h530:H530 Pg) (h542:H542 Pg) {y:Rb} {m:Nat} {n:Int} {mk:Stamp} {j:Jb} {ps:List Place} {is:List Inf} {ls:List Lse} {ss:List Stamp} (hm:m≤2 ^ 29) {S:St} {Q:Ex→St→Prop}
  (hS:TD S y ps is n ls ss mk j []) (sc:S.ρ 92=iz m) (si:S.ρ 93=iz 0)
  (hq:∀S',TD S' (((uOr false).rep false m).n y) ps is n ls ss mk j (((uOr false).rep false m).v y)→Q .norm S'):Wp (K' Pg) l517_4 S (Blk 8 Q):=by
 unfold l517_4
 refine JiX (fun (i:Nat) S=>i≤m∧S.ρ 92=iz m∧S.ρ 93=iz i∧∃(vs:List ORw) (w:Rb),vs.length=i∧(((uOr false).rep false m).v y=vs++((uOr false).rep false (m-i)).v w∧((uOr false).rep false m).n y=((uOr false).rep false (m-i)).n w)∧TD S w ps is n ls ss mk j vs) (fun i=>m-i) 0 ?_ ?_
 ·simp only[JhU]
  exact⟨GJ _,sc,si,[],y,rfl,⟨rfl,rfl⟩,hS⟩
 ·intro i S ⟨hi,sc,si,vs,w,hvl,hrep,hS⟩
  have hS0:=hS
  obtain⟨t2,t4,t5,m9,m2,m5,a33,a50,a70,a82,a109⟩:=hS
  cases c1:decide ((i:Int)<(m:Int)) with
  |false=>
   have him:i=m:=by have:=Ge c1;omega
   subst him
   obtain⟨e1,e2⟩:=YaR hrep
   rw[e1,e2] at hq
   simp only[go_sem,sc,si,c1]
   exact hq _ ⟨by simp only[go_sem,t2],by simp only[go_sem,t4],by simp only[go_sem,t5],m9,m2,m5,a33,a50,a70,a82,a109⟩
  |true=>
   have hlt:=Yg c1
   have hinc:=inc64q (i:=i) (by omega)
   have hone:=rep_step hlt hrep
   have hR:(uOr false).v w=Yc7 ((uI false).v w,(uI false).v ((uI false).n w),(uI false).v ((uI false).n ((uI false).n w)),(uS false).v ((uI false).n ((uI false).n ((uI false).n w))),(uI false).v ((uS false).n ((uI false).n ((uI false).n ((uI false).n w))))):=rfl
   have hN:(uOr false).n w=(uI false).n ((uS false).n ((uI false).n ((uI false).n ((uI false).n w)))):=rfl
   rw[hR,hN] at hone
   have k1:=Yam h530 w
   generalize (uI false).v w=v1 at *
   generalize (uI false).n w=z1 at *
   have k2:=Yam h530 z1
   generalize (uI false).v z1=v2 at *
   generalize (uI false).n z1=z2 at *
   have k3:=Yam h530 z2
   generalize (uI false).v z2=v3 at *
   generalize (uI false).n z2=z3 at *
   have k4:=R542 h542 z3
   generalize (uS false).v z3=v4 at *
   generalize (uS false).n z3=z4 at *
   have k5:=Yam h530 z4
   generalize (uI false).v z4=v5 at *
   generalize (uI false).n z4=z5 at *
   have hil:(vs.map YbY).length=vs.length:=by simp
   have ha:=fun S=>YaF (S:=S) (s:=109) (z:=7) (r:=[iz v1,iz v2,iz v3,iz v4.wall,iz v4.tick,iz v4.node,iz v5]) hil (by unfold lim;omega)
   simp only[go_sem,eSt] at k4
   have x5:=m5
   simp only[drP,go_sem] at x5
   simp only[go_sem,JiK,t4,t5,sc,si,c1,m9,x5,a109,k1,k2,k3,k4,k5,Yad,ha,hinc,JhU]
   have hs1:(vs++[Yc7 (v1,v2,v3,v4,v5)]).length=vs.length+1:=by simp
   exact⟨i+1,by omega,by omega,rfl,vs++[Yc7 (v1,v2,v3,v4,v5)],z5,by rw[hs1,hvl],hone,⟨by simp only[go_sem,t2],by simp only[go_sem,t4],by simp only[go_sem,t5],by simp only[go_sem],by simp only[go_sem,m2],by rw[hs1];simp only[go_sem]<;>rfl,by simp only[go_sem,a33],by simp only[go_sem,a50],by simp only[go_sem,a70],by simp only[go_sem,a82],by rw[hs1,GS];simp only[go_sem]<;>rfl⟩⟩
def jP (a1 a2 a3 a4 a5 a6 a7 a8:Int) (k:List UInt8) (p:V):List V:=[iz a1,iz a2,iz a3,iz a4,iz a5,iz a6,iz a7,iz a8,.str k,p,iz 0,iz 0,iz 0,.str [],.str [],.slice 1 [],iz 0,iz 0,iz 0,.slice 1 []]
def Ye6:List V:=[iz 0,iz 0,iz 0,iz 0,iz 0,iz 0,iz 0,iz 0,.str [],.slice 1 [],iz 0,iz 0,iz 0,.str [],.str [],.slice 1 [],iz 0,iz 0,iz 0,.slice 1 []]
structure TJ (S:St) (y:Rb) (c:V→List V) (ps:List (List UInt8)):Prop where
 r0:S.ρ 0=.lref 0 0
 r2:S.ρ 2=.lref 2 0
 r3:S.ρ 3=.lref 3 0
 m0:S.μ 0=some (eR y,false)
 m2:S.μ 2=some (Ye6,false)
 m3:S.μ 3=some (c (nilOr 40 1 ps.length),false)
 a40:S.A 40=Yax 1 (ps.map fun t=>[.str t]) ps.length
set_option maxHeartbeats 1000000
theorem YeV (h539:H539 Pg) {y:Rb} {m:Nat} {a1 a2 a3 a4 a5 a6 a7 a8:Int} {kk:List UInt8} (hm:m≤2 ^ 29) {S:St} {Q:Ex→St→Prop}
  (hS:TJ S y (jP a1 a2 a3 a4 a5 a6 a7 a8 kk) []) (sc:S.ρ 32=iz m) (si:S.ρ 33=iz 0)
  (hq:∀S',TJ S' (((uT false).rep false m).n y) (jP a1 a2 a3 a4 a5 a6 a7 a8 kk) (((uT false).rep false m).v y)→Q .norm S'):Wp (K' Pg) l543_0 S (Blk 0 Q):=by
 unfold l543_0
 refine JiX (fun (i:Nat) S=>i≤m∧S.ρ 32=iz m∧S.ρ 33=iz i∧∃(vs:List (List UInt8)) (w:Rb),vs.length=i∧(((uT false).rep false m).v y=vs++((uT false).rep false (m-i)).v w∧((uT false).rep false m).n y=((uT false).rep false (m-i)).n w)∧TJ S w (jP a1 a2 a3 a4 a5 a6 a7 a8 kk) vs) (fun i=>m-i) 0 ?_ ?_
 ·simp only[JhU]
  exact⟨GJ _,sc,si,[],y,rfl,⟨rfl,rfl⟩,hS⟩
 ·intro i S ⟨hi,sc,si,vs,w,hvl,hrep,hS⟩
  obtain⟨t0,t2,t3,m0,m2,m3,a40⟩:=hS
  cases c1:decide ((i:Int)<(m:Int)) with
  |false=>
   have him:i=m:=by have:=Ge c1;omega
   subst him
   obtain⟨e1,e2⟩:=YaR hrep
   rw[e1,e2] at hq
   simp only[go_sem,sc,si,c1]
   exact hq _ ⟨by simp only[go_sem,t0],by simp only[go_sem,t2],by simp only[go_sem,t3],m0,m2,m3,a40⟩
  |true=>
   have hlt:=Yg c1
   have hinc:=inc64q (i:=i) (by omega)
   have hone:=rep_step hlt hrep
   have k1:=R539 h539 w
   generalize (uT false).v w=v1 at *
   generalize (uT false).n w=z1 at *
   have hil:(vs.map fun t=>[V.str t]).length=vs.length:=by simp
   have ha:=fun S=>YaF (S:=S) (s:=40) (z:=1) (r:=[.str v1]) hil (by unfold lim;omega)
   have x3:=m3
   simp only[jP] at x3
   simp only[go_sem,JiK,t0,t3,sc,si,c1,m0,x3,a40,k1,Yad,ha,hinc,JhU]
   have hs1:(vs++[v1]).length=vs.length+1:=by simp
   exact⟨i+1,by omega,by omega,rfl,vs++[v1],z1,by rw[hs1,hvl],hone,by simp only[go_sem,t0],by simp only[go_sem,t2],by simp only[go_sem,t3],by simp only[go_sem],by simp only[go_sem,m2],by rw[hs1];simp only[go_sem]<;>rfl,by rw[hs1,GS];simp only[go_sem]<;>rfl⟩
def H543 (Pg:PgT):Prop:=Pg 543=some (.codeR F543 0)∧H530 Pg∧H531 Pg∧H539 Pg∧H540 Pg∧H542 Pg
theorem R543 (h:H543 Pg) (x:Rb):K' Pg 543 [.tuple (.lref 0 0::eR x)]=some (.tuple [.agg (eJb ((uJb false).v x)),.tuple (eR ((uJb false).n x))]):=by
 obtain⟨h,h530,h531,h539,h540,h542⟩:=h;simp only[uJb,Rg.map_v,Rg.map_n,Rg.pair_v,Rg.pair_n];have k1:=Yam h530 x;generalize (uI false).v x=v1 at *
 generalize (uI false).n x=z1 at *
 have k2:=Yam h530 z1;generalize (uI false).v z1=v2 at *
 generalize (uI false).n z1=z2 at *
 have k3:=Yam h530 z2;generalize (uI false).v z2=v3 at *
 generalize (uI false).n z2=z3 at *
 have k4:=Yam h530 z3;generalize (uI false).v z3=v4 at *
 generalize (uI false).n z3=z4 at *
 have k5:=Yam h530 z4;generalize (uI false).v z4=v5 at *
 generalize (uI false).n z4=z5 at *
 have k6:=Yam h530 z5;generalize (uI false).v z5=v6 at *
 generalize (uI false).n z5=z6 at *
 have k7:=Yam h530 z6;generalize (uI false).v z6=v7 at *
 generalize (uI false).n z6=z7 at *
 have k8:=Yam h530 z7;generalize (uI false).v z7=v8 at *
 generalize (uI false).n z7=z8 at *
 have k9:=R539 h539 z8;generalize (uT false).v z8=v9 at *
 generalize (uT false).n z8=z9 at *
 have hv:=Rg.lst_v (D:=false) (R:=uT false) (x:=z9);rw[hv.1,hv.2];have hm:(uL false).v z9≤2 ^ 29:=Yb4;have k10:=YcB h531 z9;generalize (uL false).v z9=m at *
 generalize (uL false).n z9=y at *
 generalize hpv:((uT false).rep false m).v y=pv;generalize hpn:((uT false).rep false m).n y=z10;have k11:=Yam h530 z10;generalize (uI false).v z10=v11 at *
 generalize (uI false).n z10=z11 at *
 have k12:=Yam h530 z11;generalize (uI false).v z11=v12 at *
 generalize (uI false).n z11=z12 at *
 have k13:=Yam h530 z12;generalize (uI false).v z12=v13 at *
 generalize (uI false).n z12=z13 at *
 have k14:=R539 h539 z13;generalize (uT false).v z13=v14 at *
 generalize (uT false).n z13=z14 at *
 have k15:=R539 h539 z14;generalize (uT false).v z14=v15 at *
 generalize (uT false).n z14=z15 at *
 have k16:=Yd4 h540 z15;generalize (uIs false).v z15=v16 at *
 generalize (uIs false).n z15=z16 at *
 have k17:=R542 h542 z16;generalize (uS false).v z16=v17 at *
 generalize (uS false).n z16=z17 at *
 have k18:=Yd4 h540 z17;generalize (uIs false).v z17=v18 at *
 generalize (uIs false).n z17=z18 at *
 simp only[go_sem,eSt] at k16 k17 k18;refine Ybx [.cell 2 (some 20)] (ws:=[.agg (eJb _)]) h rfl rfl (YbI _) (YbI _) (Ydd _) fun S ⟨r0,r,hm0,m0,a0⟩=>?_;have n2:=m0 2 rfl;have n3:=m0 3 rfl;have a40:=a0 40;simp only[F543,c543,go_sem,JiK,r0,hm0,n2,n3,k1,k2,k3,k4,k5,k6,k7,k8,k9,k10];refine YeV h539 (y:=y) (m:=m) (a1:=v1) (a2:=v2) (a3:=v3) (a4:=v4) (a5:=v5) (a6:=v6) (a7:=v7) (a8:=v8) (kk:=v9) hm ⟨by simp only[go_sem,r0],by simp only[go_sem],by simp only[go_sem],by simp only[go_sem],by simp only[go_sem]<;>rfl,by simp only[go_sem]<;>rfl,by simp only[go_sem,a40]<;>rfl⟩ (by simp only[go_sem]) (by simp only[go_sem]) fun S1 hS1=>?_;rw[hpv,hpn] at hS1;obtain⟨t0,t2,t3,u0,u2,u3,b40⟩:=hS1;have hc:=YL b40 (by simp);simp only[jP] at u3;simp only[Ye6] at u2;simp only[go_sem,JiK,t0,t2,t3,u0,u2,u3,k11,k12,k13,k14,k15,k16,k17,k18];exact⟨_,rfl,by simp only[go_sem,hc,YdR]<;>rfl⟩
theorem Rg.whole_e {α:Type} {R:Rg α} {q:α→Bool} {t:List UInt8} (ht:t.length≤2 ^ 29):(if (R.f (t,false)).2=([],false)∧q (R.f (t,false)).1=true then some (R.f (t,false)).1 else none)=
  if ((R.n ⟨t,false,ht⟩).no=false∧(R.n ⟨t,false,ht⟩).s=[])∧q (R.v ⟨t,false,ht⟩)=true then some (R.v ⟨t,false,ht⟩) else none:=by
 have e1:(R.n ⟨t,false,ht⟩).no=(R.f (t,false)).2.2:=rfl
 have e2:(R.n ⟨t,false,ht⟩).s=(R.f (t,false)).2.1:=rfl
 have e3:R.v ⟨t,false,ht⟩=(R.f (t,false)).1:=rfl
 rw[e1,e2,e3]
 generalize R.f (t,false)=p
 obtain⟨a,s,b⟩:=p
 simp only[Gf,and_comm]
theorem Rg.good {α:Type} {R:Rg α} {W:α→List UInt8} {P:α→Prop} (h:Cod R.f W P) {t:List UInt8} (ht:t.length≤2 ^ 29) (h1:(R.n ⟨t,false,ht⟩).no=false) (h2:(R.n ⟨t,false,ht⟩).s=[]):t=W (R.v ⟨t,false,ht⟩)∧P (R.v ⟨t,false,ht⟩):=by
 have h3:(R.f (t,false)).2.2=false:=h1;have h4:(R.f (t,false)).2.1=[]:=h2;have:=h.get (s:=t) (r:=[]) (a:=(R.f (t,false)).1) (Prod.ext rfl (Prod.ext h4 h3));rw[GC] at this;exact this
def zJb:Jb:=⟨0,0,0,0,0,0,0,0,[],[],0,0,0,⟨[],[]⟩,[],⟨0,0,0⟩,[]⟩
def Yb9:Option Drc→V
 |some d=>.tuple [.agg (YM d),iz 0]
 |none=>.tuple [.agg YdI,iz 3]
def H517 (Pg:PgT):Prop:=Pg 517=some (.code F517)∧H328 Pg∧H530 Pg∧H531 Pg∧H539 Pg∧H540 Pg∧H541 Pg∧H542 Pg∧H543 Pg
theorem K517 (h:H517 Pg) (t:List UInt8) (ht:t.length≤2 ^ 29) (hsm:∀d,DrV d→drB d=t→SmD d):K' Pg 517 [.str t]=some (Yb9 (tkD t)):=by
 obtain⟨h,h328,h530,h531,h539,h540,h541,h542,h543⟩:=h;have e0:tkD t=if (((uDr false).n ⟨t,false,ht⟩).no=false∧((uDr false).n ⟨t,false,ht⟩).s=[])∧Yao ((uDr false).v ⟨t,false,ht⟩)=true then some ((uDr false).v ⟨t,false,ht⟩) else none:=Rg.whole_e ht
 have hd:((uDr false).n ⟨t,false,ht⟩).no=false→((uDr false).n ⟨t,false,ht⟩).s=[]→SmD ((uDr false).v ⟨t,false,ht⟩):=fun h1 h2=>by
  obtain⟨g1,g2⟩:=Rg.good (cDr (D:=false)) ht h1 h2;exact hsm _ g2 g1.symm
 rw[e0];clear e0;have eR0:K' Pg 517 [.str t]=K' Pg 517 [.str (Rb.s ⟨t,false,ht⟩)]:=rfl;have hx0:eR ⟨t,false,ht⟩=[.str t,.bool false]:=rfl;generalize hx:(⟨t,false,ht⟩:Rb)=x at *
 simp only[uDr,Rg.map_v,Rg.map_n,Rg.pair_v,Rg.pair_n] at hd ⊢;have hv1:=Rg.lst_v (D:=false) (R:=uPl false) (x:=x);simp only[hv1.1,hv1.2] at hd ⊢;have hm1:(uL false).v x≤2 ^ 29:=Yb4;have k1:=YcB h531 x;generalize (uL false).v x=m1 at *
 generalize (uL false).n x=y1 at *
 generalize hp1:((uPl false).rep false m1).v y1=p1 at *
 generalize hq1:((uPl false).rep false m1).n y1=z1 at *
 have hv2:=Rg.lst_v (D:=false) (R:=uIn false) (x:=z1);simp only[hv2.1,hv2.2] at hd ⊢;have hm2:(uL false).v z1≤2 ^ 29:=Yb4;have k2:=YcB h531 z1;generalize (uL false).v z1=m2 at *
 generalize (uL false).n z1=y2 at *
 generalize hp2:((uIn false).rep false m2).v y2=p2 at *
 generalize hq2:((uIn false).rep false m2).n y2=z2 at *
 have kn:=Yam h530 z2;generalize (uI false).v z2=vn at *
 generalize (uI false).n z2=zn at *
 have hv3:=Rg.lst_v (D:=false) (R:=uLe false) (x:=zn);simp only[hv3.1,hv3.2] at hd ⊢;have hm3:(uL false).v zn≤2 ^ 29:=Yb4;have k3:=YcB h531 zn;generalize (uL false).v zn=m3 at *
 generalize (uL false).n zn=y3 at *
 generalize hp3:((uLe false).rep false m3).v y3=p3 at *
 generalize hq3:((uLe false).rep false m3).n y3=z3 at *
 have hv4:=Rg.lst_v (D:=false) (R:=uS false) (x:=z3);simp only[hv4.1,hv4.2] at hd ⊢;have hm4:(uL false).v z3≤2 ^ 29:=Yb4;have k4:=YcB h531 z3;generalize (uL false).v z3=m4 at *
 generalize (uL false).n z3=y4 at *
 generalize hp4:((uS false).rep false m4).v y4=p4 at *
 generalize hq4:((uS false).rep false m4).n y4=z4 at *
 have ks:=R542 h542 z4;generalize (uS false).v z4=vs at *
 generalize (uS false).n z4=zs at *
 have kj:=R543 h543 zs;generalize (uJb false).v zs=vj at *
 generalize (uJb false).n zs=zj at *
 have hv5:=Rg.lst_v (D:=false) (R:=uOr false) (x:=zj);simp only[hv5.1,hv5.2] at hd ⊢;have hm5:(uL false).v zj≤2 ^ 29:=Yb4;have k5:=YcB h531 zj;generalize (uL false).v zj=m5 at *
 generalize (uL false).n zj=y5 at *
 generalize hp5:((uOr false).rep false m5).v y5=p5 at *
 generalize hq5:((uOr false).rep false m5).n y5=z5 at *
 rw[eR0];have hxs:x.s=t:=by rw[←hx]
 simp only[go_sem,eSt] at ks kj;rw[hxs];refine Qa h rfl ?_;rw[hx0] at k1;simp only[F517,c517,go_sem,JiK,k1];refine YeT h530 h539 (y:=y1) (m:=m1) (n:=0) (mk:=⟨0,0,0⟩) (j:=zJb) (is:=[]) (ls:=[]) (ss:=[]) (os:=[]) hm1 ⟨by simp only[go_sem],by simp only[go_sem],by simp only[go_sem],by simp only[go_sem],by simp only[go_sem]<;>rfl,by simp only[go_sem]<;>rfl,rfl,rfl,rfl,rfl,rfl⟩ (by simp only[go_sem]) (by simp only[go_sem]) (by simp only[go_sem]) fun S1 hS=>?_;rw[hp1,hq1] at hS;obtain⟨t2,t4,t5,u9,u2,u5,b33,b50,b70,b82,b109⟩:=hS;have w5:=u5;simp only[drP,go_sem] at w5;simp only[go_sem,JiK,t4,u9,k2];refine YeD h530 h540 h541 (y:=y2) (m:=m2) (n:=0) (mk:=⟨0,0,0⟩) (j:=zJb) (ps:=p1) (ls:=[]) (ss:=[]) (os:=[]) hm2 ⟨by simp only[go_sem,t2],by simp only[go_sem,t4],by simp only[go_sem,t5],by simp only[go_sem],by simp only[go_sem,u2],by simp only[go_sem,w5]<;>rfl,by simp only[go_sem,b33],by simp only[go_sem,b50],by simp only[go_sem,b70],by simp only[go_sem,b82],by simp only[go_sem,b109]⟩ (by simp only[go_sem]) (by simp only[go_sem]) fun S2 hS=>?_;rw[hp2,hq2] at hS;obtain⟨t2,t4,t5,u9,u2,u5,b33,b50,b70,b82,b109⟩:=hS;have w5:=u5;simp only[drP,go_sem] at w5;simp only[go_sem,JiK,t4,t5,u9,w5,kn,k3];refine YeL h530 h542 (y:=y3) (m:=m3) (n:=vn) (mk:=⟨0,0,0⟩) (j:=zJb) (ps:=p1) (is:=p2) (ss:=[]) (os:=[]) hm3 ⟨by simp only[go_sem,t2],by simp only[go_sem,t4],by simp only[go_sem,t5],by simp only[go_sem],by simp only[go_sem,u2],by simp only[go_sem,w5]<;>rfl,by simp only[go_sem,b33],by simp only[go_sem,b50],by simp only[go_sem,b70],by simp only[go_sem,b82],by simp only[go_sem,b109]⟩ (by simp only[go_sem]) (by simp only[go_sem]) fun S3 hS=>?_;rw[hp3,hq3] at hS;obtain⟨t2,t4,t5,u9,u2,u5,b33,b50,b70,b82,b109⟩:=hS;have w5:=u5;simp only[drP,go_sem] at w5;simp only[go_sem,JiK,t4,u9,k4];refine YeZ h542 (y:=y4) (m:=m4) (n:=vn) (mk:=⟨0,0,0⟩) (j:=zJb) (ps:=p1) (is:=p2) (ls:=p3) (os:=[]) hm4 ⟨by simp only[go_sem,t2],by simp only[go_sem,t4],by simp only[go_sem,t5],by simp only[go_sem],by simp only[go_sem,u2],by simp only[go_sem,w5]<;>rfl,by simp only[go_sem,b33],by simp only[go_sem,b50],by simp only[go_sem,b70],by simp only[go_sem,b82],by simp only[go_sem,b109]⟩ (by simp only[go_sem]) (by simp only[go_sem]) fun S4 hS=>?_;rw[hp4,hq4] at hS;obtain⟨t2,t4,t5,u9,u2,u5,b33,b50,b70,b82,b109⟩:=hS;have w5:=u5;simp only[drP,go_sem] at w5;simp only[go_sem,JiK,t4,t5,u9,w5,ks,kj,k5];refine YeR h530 h542 (y:=y5) (m:=m5) (n:=vn) (mk:=vs) (j:=vj) (ps:=p1) (is:=p2) (ls:=p3) (ss:=p4) hm5 ⟨by simp only[go_sem,t2],by simp only[go_sem,t4],by simp only[go_sem,t5],by simp only[go_sem],by simp only[go_sem,u2],by simp only[go_sem,w5]<;>rfl,by simp only[go_sem,b33],by simp only[go_sem,b50],by simp only[go_sem,b70],by simp only[go_sem,b82],by simp only[go_sem,b109]⟩ (by simp only[go_sem]) (by simp only[go_sem]) fun S5 hS=>?_;rw[hp5,hq5] at hS;obtain⟨t2,t4,t5,u9,u2,u5,b33,b50,b70,b82,b109⟩:=hS;have w5:=u5;simp only[drP,go_sem] at w5;have c33:=YL b33 (by simp);have c50:=YL b50 (by simp);have c70:=YL b70 (by simp);have c82:=YL b82 (by simp);have c109:=YL b109 (by simp);obtain⟨zs,zb,zh⟩:=z5;simp only[eR] at u9;simp only[YdI] at u2;cases zb with
 |true=>
  rw[Gq (by simp)];simp only[go_sem,t2,t4,u9,u2,Yb9]
 |false=>
  cases c2:decide (zs=[]) with
  |false=>
   rw[Gq (by simp[Ge c2])];simp only[go_sem,t2,t4,u9,u2,c2,Yb9]
  |true=>
   have hu:=Gg c2;have k328:=K328 h328 _ (hd rfl hu);cases c3:Yao (YcH (p1,p2,vn,p3,p4,vs,vj,p5)) with
   |false=>
    rw[c3] at k328;rw[Gq (by simp)];simp only[go_sem,YcH] at k328;simp only[go_sem,t2,t4,t5,u9,u2,w5,c2,c33,c50,c70,c82,c109,k328,Yb9]
   |true=>
    rw[c3] at k328;rw[Gx ⟨⟨rfl,hu⟩,rfl⟩];simp only[go_sem,YcH] at k328;simp only[go_sem,t2,t4,t5,u9,u2,w5,c2,c33,c50,c70,c82,c109,k328,Yb9,YcH]
theorem Yek {n:Nat} (h:n<2 ^ 21):(putB n).length≤3:=(Ya7 2 n).2 (by simpa using h)
theorem Yej {n:Nat} (h:n<2 ^ 14):(putB n).length≤2:=(Ya7 1 n).2 (by simpa using h)
theorem YaY {n:Nat} (h:n<2 ^ 42):(putB n).length≤6:=(Ya7 5 n).2 (by simpa using h)
theorem Yai {α:Type} {W:α→List UInt8} {k:Nat}:∀{l:List α},(∀a∈l,(W a).length≤k)→(l.flatMap W).length≤k*l.length
 |[],_=>by simp
 |a::l,h=>by
  have h1:=h a (Gaj ..);have h2:=Yai (l:=l) fun b hb=>h b (Gag _ hb);simp only[GB,Gc,List.length_cons,Nat.mul_succ];omega
theorem YaZ {s:Stamp} (h:Ya s=true):(stB s).length≤11:=by
 simp only[Ya,Ybr,Gi,GA] at h;have h1:=YaY (n:=s.wall.toNat) (by omega);have h2:=Yek (n:=s.tick.toNat) (by omega);have h3:=Yej (n:=s.node.toNat) (by omega);simp only[stB,Gc];omega
theorem YbZ {x:Bool}:(YI x).length=1:=by simp[YI]
theorem K487i (h:H487 Pg) (n:Int) (h0:0≤n) (h1:n<2 ^ 63):K' Pg 487 [iz n]=some (.tuple [.str (putB n.toNat),iz 0]):=by
 have:=K487 h n.toNat (by omega);rw[show ((n.toNat:Nat):Int)=n by omega] at this;exact this
theorem K460g {f:Nat} (h:Pg f=some (.code F460)) (h487:H487 Pg) (n:Int) (h0:0≤n) (h1:n<2 ^ 63):K' Pg f [iz n]=some (.str (putB n.toNat)):=by
 have k:=K487i h487 n h0 h1;refine Qa h rfl ?_;simp only[F460,c460,go_sem,k]
def H503 (Pg:PgT):Prop:=Pg 503=some (.code F503)∧H487 Pg
theorem K503 (h:H503 Pg) (t:List UInt8) (ht:t.length<2 ^ 61):K' Pg 503 [.str t]=some (.str (Ym t)):=by
 obtain⟨h,h487⟩:=h;have k:=K487 h487 t.length (by omega);have hl:(putB t.length).length+t.length≤4611686018427387904:=by have:=YD.2 (show t.length<2 ^ 63 by omega);omega
 refine Qa h rfl ?_;simp only[F503,c503,go_sem,k,hl,Ym]
theorem K488g {f:Nat} (h:Pg f=some (.code F488)) (h503:H503 Pg) (t:List UInt8) (ht:t.length<2 ^ 61):K' Pg f [.str t]=some (.str (Ym t)):=by
 have k:=K503 h503 t ht;refine Qa h rfl ?_;simp only[F488,c488,go_sem,k]
def H504 (Pg:PgT):Prop:=Pg 504=some (.code F504)
theorem K504 (h:H504 Pg) (b:Bool):K' Pg 504 [.bool b]=some (.str (YI b)):=by
 refine Qa h rfl ?_;cases b<;>simp only[F504,c504,go_sem,YI]<;>rfl
theorem K459g {f:Nat} (h:Pg f=some (.code F459)) (h486:H486 Pg) (s:Stamp) (hs:Ya s=true):K' Pg f [.agg (Yd s)]=some (.str (stB s)):=by
 have k:=K486 h486 s hs;simp only[go_sem] at k;refine Qa h rfl ?_;simp only[F459,c459,go_sem,k]
def H533 (Pg:PgT):Prop:=Pg 533=some (.code F460)∧H487 Pg
def H535 (Pg:PgT):Prop:=Pg 535=some (.code F488)∧H503 Pg
def H544 (Pg:PgT):Prop:=Pg 544=some (.code F459)∧H486 Pg
theorem K533 (h:H533 Pg) (n:Int) (hn:NV n):K' Pg 533 [iz n]=some (.str (nB n)):=K460g h.1 h.2 n (YaH hn).1 (YaH hn).2
theorem K533n (h:H533 Pg) (n:Nat) (hn:n<2 ^ 63):K' Pg 533 [iz n]=some (.str (putB n)):=K533 h n ⟨by omega,by omega⟩
theorem K535 (h:H535 Pg) (t:List UInt8) (ht:t.length≤2 ^ 30):K' Pg 535 [.str t]=some (.str (Ym t)):=K488g h.1 h.2 t (by omega)
theorem K544 (h:H544 Pg) (s:Stamp) (hs:Ya s=true):K' Pg 544 [.agg [iz s.wall,iz s.tick,iz s.node]]=some (.str (stB s)):=K459g h.1 h.2 s hs
theorem YaE {α:Type} {W:α→List UInt8} {l:List α} {i:Nat} {x:α} (h:l[i]?=some x):(l.take (i+1)).flatMap W=(l.take i).flatMap W++W x:=by
 rw[GY,h];simp
def H534 (Pg:PgT):Prop:=Pg 534=some (.code F534)∧H533 Pg
theorem K534 (h:H534 Pg) (l:List Int) (hl:∀n∈l,NV n) (hb:l.length≤2 ^ 40):K' Pg 534 [.slice 1 (l.map fun a=>[iz a])]=some (.str (YJ nB l)):=by
 obtain⟨h,h533⟩:=h;have k:=K533n h533 l.length (by omega);have hlen:∀i,(putB l.length++(l.take i).flatMap nB).length≤2 ^ 50:=fun i=>by
  have h1:=YD.2 (show l.length<2 ^ 63 by omega);have h2:=Yai (W:=nB) (l:=l.take i) (k:=9) fun n hn=>YD.2 (hl n (Gak hn)).1;simp only[Gc,GL] at h2 ⊢;omega
 refine Qa h rfl ?_;simp only[F534,c534,go_sem,k,Gj];unfold l534_0;refine JiX (fun (i:Nat) S=>i≤l.length∧S.ρ 0=.slice 1 (l.map fun a=>[iz a])∧S.ρ 3=.str (putB l.length++(l.take i).flatMap nB)∧S.ρ 4=iz i) (fun i=>l.length-i) 0 ?_ ?_
 ·simp[go_sem,JD]
 ·intro i S ⟨hi,s0,s3,s4⟩;cases c1:decide ((i:Int)<(l.length:Int)) with
  |false=>
   have hil:i=l.length:=by have:=Ge c1;omega
   rw[hil,Gz] at s3;simp only[go_sem,s0,s3,s4,c1,Gj,YJ]
  |true=>
   have hlt:=Yg c1;obtain⟨e,hx,-⟩:=JiF hlt;have hinc:=inc64q (i:=i) (by omega)
   have q:=K533 h533 e (hl e (List.mem_of_getElem? hx));have hb1:=hlen (i+1);have hf:putB l.length++(l.take (i+1)).flatMap nB=putB l.length++(l.take i).flatMap nB++nB e:=by rw[YaE hx,Gs]
   rw[hf,Gc] at hb1;have hc:(putB l.length).length+((l.take i).flatMap nB).length+(nB e).length≤4611686018427387904:=by simp only[Gc] at hb1;omega
   simp only[go_sem,s0,s3,s4,c1,hx,q,hinc,hc,JhU,Gj];refine⟨i+1,by omega,by omega,?_⟩
   and_intros
   all_goals first|rfl|rw[hf]
set_option maxHeartbeats 1000000
theorem Yec (h533:H533 Pg) (h535:H535 Pg) {d:Drc} {g:List UInt8} (he:∀e∈d.places,PlS e) (hb:g.length+(d.places.flatMap plB).length≤2 ^ 50) {S:St} {Q:Ex→St→Prop}
  (s1:S.ρ 1=.lref 1 0) (m1:S.μ 1=some (YM d,false)) (s3:S.ρ 3=.str g) (n9:S.μ 9=none) (n12:S.μ 12=none) (n5:S.μ 5=none) (si:S.ρ 4=iz 0)
  (hq:∀S',S'.ρ 1=.lref 1 0→S'.μ 1=some (YM d,false)→S'.ρ 3=.str (g++d.places.flatMap plB)→S'.μ 9=none→S'.μ 12=none→Q .norm S'):Wp (K' Pg) l518_0 S (Blk 0 Q):=by
 have hll:d.places.length≤(d.places.flatMap plB).length:=YP (P:=fun _=>True) (fun e _=>by first|exact Yah|exact st_pos|(simp only[plB,nB,Gc];have:=fun n=>putB_pos n;first|(have:=this e.view.toNat;omega)|(have:=this e.id.toNat;omega)|(have:=this e.client.toNat;omega)|(have:=this e.shard.toNat;omega))) (fun _ _=>Gn)
 unfold l518_0
 refine JiX (fun (i:Nat) S=>i≤d.places.length∧S.ρ 1=.lref 1 0∧S.μ 1=some (YM d,false)∧S.ρ 3=.str (g++(d.places.take i).flatMap plB)∧S.μ 9=none∧S.μ 12=none∧S.μ 5=none∧S.ρ 4=iz i) (fun i=>d.places.length-i) 0 ?_ ?_
 ·exact⟨GJ _,JiJ s1 rfl,Ya4 m1 rfl,JiJ (by rw[s3];simp) rfl,JiH (.inl n9),JiH (.inl n12),JiH (.inr rfl),JiJ si rfl⟩
 ·intro i S ⟨hi,s1,m1,s3,n9,n12,n5,si⟩
  have v1:=m1
  simp only[go_sem] at v1
  cases c1:decide ((i:Int)<(d.places.length:Int)) with
  |false=>
   have hil:i=d.places.length:=by have:=Ge c1;omega
   rw[hil,Gz] at s3
   simp only[go_sem,s1,v1,si,c1,Gj]
   exact hq _ (by simp only[go_sem,s1]) m1 (by simp only[go_sem,s3]) n9 n12
  |true=>
   have hlt:=Yg c1
   obtain⟨e,hx,-⟩:=JiF hlt
   have hinc:=inc64q (i:=i) (by omega)
   have hv:=he e (List.mem_of_getElem? hx)
   have q1:=K535 h535 e.span.lo hv.2.1
   have q2:=K535 h535 e.span.hi hv.2.2
   have q3:=K533 h533 e.shard hv.1.1.2.2.1
   have q4:=K533 h533 e.cell hv.1.1.2.2.2.1
   have q5:=K533 h533 e.epoch hv.1.1.2.2.2.2
   have hbl:=Y5 (W:=plB) (l:=d.places) (i:=i+1)
   rw[YaE hx,Gc] at hbl
   have hf:g++(d.places.take (i+1)).flatMap plB=g++(d.places.take i).flatMap plB++plB e:=by rw[YaE hx,Gs]
   have hgl:(g++(d.places.take i).flatMap plB).length=g.length+((d.places.take i).flatMap plB).length:=Gc
   generalize g++(d.places.take i).flatMap plB=g1 at *
   simp only[plB,Gc] at hbl
   simp only[plB] at hf
   simp only[go_sem,s1,v1,s3,si,c1,hx,q1,q2,q3,q4,q5,hinc,n5,Gj]
   repeat (rw[Gx (by omega)];simp only[go_sem,q1,q2,q3,q4,q5,hinc,hx,si,s1,v1,s3,Gj])
   try simp only[JhU]
   refine⟨i+1,by omega,by omega,?_⟩
   and_intros
   all_goals first|rfl|(rw[hf];simp only[Gs];done)|(rw[hf];done)|exact hf▸rfl|(simp only[n9,n12,Option.map_none];done)
theorem Yd8 (h533:H533 Pg) (h534:H534 Pg) (h504:H504 Pg) {d:Drc} {g:List UInt8} (he:∀e∈d.cells,InS e) (hb:g.length+(d.cells.flatMap inB).length≤2 ^ 50) {S:St} {Q:Ex→St→Prop}
  (s1:S.ρ 1=.lref 1 0) (m1:S.μ 1=some (YM d,false)) (s3:S.ρ 3=.str g) (n9:S.μ 9=none) (n12:S.μ 12=none) (si:S.ρ 6=iz 0)
  (hq:∀S',S'.ρ 1=.lref 1 0→S'.μ 1=some (YM d,false)→S'.ρ 3=.str (g++d.cells.flatMap inB)→S'.μ 9=none→S'.μ 12=none→Q .norm S'):Wp (K' Pg) l518_1 S (Blk 2 Q):=by
 have hll:d.cells.length≤(d.cells.flatMap inB).length:=YP (P:=fun _=>True) (fun e _=>by first|exact Yah|exact st_pos|(simp only[inB,nB,Gc];have:=fun n=>putB_pos n;first|(have:=this e.view.toNat;omega)|(have:=this e.id.toNat;omega)|(have:=this e.client.toNat;omega)|(have:=this e.shard.toNat;omega))) (fun _ _=>Gn)
 unfold l518_1
 refine JiX (fun (i:Nat) S=>i≤d.cells.length∧S.ρ 1=.lref 1 0∧S.μ 1=some (YM d,false)∧S.ρ 3=.str (g++(d.cells.take i).flatMap inB)∧S.μ 9=none∧S.μ 12=none∧S.ρ 6=iz i) (fun i=>d.cells.length-i) 0 ?_ ?_
 ·simp only[JhU]
  exact⟨GJ _,s1,m1,by rw[s3];simp,n9,n12,si⟩
 ·intro i S ⟨hi,s1,m1,s3,n9,n12,si⟩
  have v1:=m1
  simp only[go_sem] at v1
  cases c1:decide ((i:Int)<(d.cells.length:Int)) with
  |false=>
   have hil:i=d.cells.length:=by have:=Ge c1;omega
   rw[hil,Gz] at s3
   simp only[go_sem,s1,v1,si,c1,Gj]
   exact hq _ (by simp only[go_sem,s1]) m1 (by simp only[go_sem,s3]) n9 n12
  |true=>
   have hlt:=Yg c1
   obtain⟨e,hx,-⟩:=JiF hlt
   have hinc:=inc64q (i:=i) (by omega)
   have hv:=he e (List.mem_of_getElem? hx)
   have q1:=K533 h533 e.view hv.1.1.1
   have q2:=K534 h534 e.mem hv.1.1.2.1.2 (by have:=hv.2;omega)
   have q3:=K504 h504 e.whole
   have hbl:=Y5 (W:=inB) (l:=d.cells) (i:=i+1)
   rw[YaE hx,Gc] at hbl
   have hf:g++(d.cells.take (i+1)).flatMap inB=g++(d.cells.take i).flatMap inB++inB e:=by rw[YaE hx,Gs]
   have hgl:(g++(d.cells.take i).flatMap inB).length=g.length+((d.cells.take i).flatMap inB).length:=Gc
   generalize g++(d.cells.take i).flatMap inB=g1 at *
   simp only[inB,Gc] at hbl
   simp only[inB] at hf
   simp only[go_sem,s1,v1,s3,si,c1,hx,q1,q2,q3,hinc,Gj]
   repeat (rw[Gx (by omega)];simp only[go_sem,q1,q2,q3,hinc,hx,si,s1,v1,s3,Gj])
   try simp only[JhU]
   refine⟨i+1,by omega,by omega,?_⟩
   and_intros
   all_goals first|rfl|(rw[hf];simp only[Gs];done)|(rw[hf];done)|exact hf▸rfl|(simp only[n9,n12,Option.map_none];done)
theorem Yd9 (h533:H533 Pg) (h544:H544 Pg) {d:Drc} {g:List UInt8} (he:∀e∈d.leases,LeV e) (hb:g.length+(d.leases.flatMap leB).length≤2 ^ 50) {S:St} {Q:Ex→St→Prop}
  (s1:S.ρ 1=.lref 1 0) (m1:S.μ 1=some (YM d,false)) (s3:S.ρ 3=.str g) (n9:S.μ 9=none) (n12:S.μ 12=none) (si:S.ρ 7=iz 0)
  (hq:∀S',S'.ρ 1=.lref 1 0→S'.μ 1=some (YM d,false)→S'.ρ 3=.str (g++d.leases.flatMap leB)→S'.μ 9=none→S'.μ 12=none→Q .norm S'):Wp (K' Pg) l518_2 S (Blk 4 Q):=by
 have hll:d.leases.length≤(d.leases.flatMap leB).length:=YP (P:=fun _=>True) (fun e _=>by first|exact Yah|exact st_pos|(simp only[leB,nB,Gc];have:=fun n=>putB_pos n;first|(have:=this e.view.toNat;omega)|(have:=this e.id.toNat;omega)|(have:=this e.client.toNat;omega)|(have:=this e.shard.toNat;omega))) (fun _ _=>Gn)
 unfold l518_2
 refine JiX (fun (i:Nat) S=>i≤d.leases.length∧S.ρ 1=.lref 1 0∧S.μ 1=some (YM d,false)∧S.ρ 3=.str (g++(d.leases.take i).flatMap leB)∧S.μ 9=none∧S.μ 12=none∧S.ρ 7=iz i) (fun i=>d.leases.length-i) 0 ?_ ?_
 ·simp only[JhU]
  exact⟨GJ _,s1,m1,by rw[s3];simp,n9,n12,si⟩
 ·intro i S ⟨hi,s1,m1,s3,n9,n12,si⟩
  have v1:=m1
  simp only[go_sem] at v1
  cases c1:decide ((i:Int)<(d.leases.length:Int)) with
  |false=>
   have hil:i=d.leases.length:=by have:=Ge c1;omega
   rw[hil,Gz] at s3
   simp only[go_sem,s1,v1,si,c1,Gj]
   exact hq _ (by simp only[go_sem,s1]) m1 (by simp only[go_sem,s3]) n9 n12
  |true=>
   have hlt:=Yg c1
   obtain⟨e,hx,-⟩:=JiF hlt
   have hinc:=inc64q (i:=i) (by omega)
   have hv:=he e (List.mem_of_getElem? hx)
   have q1:=K533 h533 e.id hv.1.1
   have q2:=K533 h533 e.lft hv.1.2.1
   have q3:=K544 h544 e.at_ hv.1.2.2
   have hbl:=Y5 (W:=leB) (l:=d.leases) (i:=i+1)
   rw[YaE hx,Gc] at hbl
   have hf:g++(d.leases.take (i+1)).flatMap leB=g++(d.leases.take i).flatMap leB++leB e:=by rw[YaE hx,Gs]
   have hgl:(g++(d.leases.take i).flatMap leB).length=g.length+((d.leases.take i).flatMap leB).length:=Gc
   generalize g++(d.leases.take i).flatMap leB=g1 at *
   simp only[leB,Gc] at hbl
   simp only[leB] at hf
   simp only[go_sem,s1,v1,s3,si,c1,hx,q1,q2,q3,hinc,Gj]
   repeat (rw[Gx (by omega)];simp only[go_sem,q1,q2,q3,hinc,hx,si,s1,v1,s3,Gj])
   try simp only[JhU]
   refine⟨i+1,by omega,by omega,?_⟩
   and_intros
   all_goals first|rfl|(rw[hf];simp only[Gs];done)|(rw[hf];done)|exact hf▸rfl|(simp only[n9,n12,Option.map_none];done)
theorem Yea (h544:H544 Pg) {d:Drc} {g:List UInt8} (he:∀e∈d.lows,(fun s=>Ya s=true) e) (hb:g.length+(d.lows.flatMap stB).length≤2 ^ 50) {S:St} {Q:Ex→St→Prop}
  (s1:S.ρ 1=.lref 1 0) (m1:S.μ 1=some (YM d,false)) (s3:S.ρ 3=.str g) (n9:S.μ 9=none) (n12:S.μ 12=none) (si:S.ρ 8=iz 0)
  (hq:∀S',S'.ρ 1=.lref 1 0→S'.μ 1=some (YM d,false)→S'.ρ 3=.str (g++d.lows.flatMap stB)→S'.μ 9=none→S'.μ 12=none→Q .norm S'):Wp (K' Pg) l518_3 S (Blk 6 Q):=by
 have hll:d.lows.length≤(d.lows.flatMap stB).length:=YP (P:=fun _=>True) (fun e _=>by first|exact Yah|exact st_pos|(simp only[nB,nB,List.length_append];have:=fun n=>putB_pos n;first|(have:=this e.view.toNat;omega)|(have:=this e.id.toNat;omega)|(have:=this e.client.toNat;omega)|(have:=this e.shard.toNat;omega))) (fun _ _=>Gn)
 unfold l518_3
 refine JiX (fun (i:Nat) S=>i≤d.lows.length∧S.ρ 1=.lref 1 0∧S.μ 1=some (YM d,false)∧S.ρ 3=.str (g++(d.lows.take i).flatMap stB)∧S.μ 9=none∧S.μ 12=none∧S.ρ 8=iz i) (fun i=>d.lows.length-i) 0 ?_ ?_
 ·simp only[JhU]
  exact⟨GJ _,s1,m1,by rw[s3];simp,n9,n12,si⟩
 ·intro i S ⟨hi,s1,m1,s3,n9,n12,si⟩
  have v1:=m1
  simp only[go_sem] at v1
  cases c1:decide ((i:Int)<(d.lows.length:Int)) with
  |false=>
   have hil:i=d.lows.length:=by have:=Ge c1;omega
   rw[hil,Gz] at s3
   simp only[go_sem,s1,v1,si,c1,Gj]
   exact hq _ (by simp only[go_sem,s1]) m1 (by simp only[go_sem,s3]) n9 n12
  |true=>
   have hlt:=Yg c1
   obtain⟨e,hx,-⟩:=JiF hlt
   have hinc:=inc64q (i:=i) (by omega)
   have hv:=he e (List.mem_of_getElem? hx)
   have q1:=K544 h544 e hv
   have hbl:=Y5 (W:=stB) (l:=d.lows) (i:=i+1)
   rw[YaE hx,Gc] at hbl
   have hf:g++(d.lows.take (i+1)).flatMap stB=g++(d.lows.take i).flatMap stB++stB e:=by rw[YaE hx,Gs]
   have hgl:(g++(d.lows.take i).flatMap stB).length=g.length+((d.lows.take i).flatMap stB).length:=Gc
   generalize g++(d.lows.take i).flatMap stB=g1 at *
   simp only[go_sem,s1,v1,s3,si,c1,hx,q1,hinc,Gj]
   repeat (rw[Gx (by omega)];simp only[go_sem,q1,hinc,hx,si,s1,v1,s3,Gj])
   try simp only[JhU]
   refine⟨i+1,by omega,by omega,?_⟩
   and_intros
   all_goals first|rfl|(rw[hf];simp only[List.append_assoc];done)|(rw[hf];done)|exact hf▸rfl|(simp only[n9,n12,Option.map_none];done)
theorem Yed (h535:H535 Pg) {d:Drc} {g:List UInt8} (he:∀e∈d.job.parts,(fun t=>t.length≤2 ^ 30) e) (hb:g.length+(d.job.parts.flatMap Ym).length≤2 ^ 50) {S:St} {Q:Ex→St→Prop}
  (s1:S.ρ 1=.lref 1 0) (m1:S.μ 1=some (YM d,false)) (s3:S.ρ 3=.str g) (s9:S.ρ 9=.lref 9 0) (m9:S.μ 9=some (eJb d.job,false)) (n12:S.μ 12=none) (si:S.ρ 10=iz 0)
  (hq:∀S',S'.ρ 1=.lref 1 0→S'.μ 1=some (YM d,false)→S'.ρ 3=.str (g++d.job.parts.flatMap Ym)→S'.ρ 9=.lref 9 0→S'.μ 9=some (eJb d.job,false)→S'.μ 12=none→Q .norm S'):Wp (K' Pg) l518_4 S (Blk 8 Q):=by
 have hll:d.job.parts.length≤(d.job.parts.flatMap Ym).length:=YP (P:=fun _=>True) (fun e _=>by first|exact Yah|exact st_pos|(simp only[nB,nB,List.length_append];have:=fun n=>putB_pos n;first|(have:=this e.view.toNat;omega)|(have:=this e.id.toNat;omega)|(have:=this e.client.toNat;omega)|(have:=this e.shard.toNat;omega))) (fun _ _=>Gn)
 unfold l518_4
 refine JiX (fun (i:Nat) S=>i≤d.job.parts.length∧S.ρ 1=.lref 1 0∧S.μ 1=some (YM d,false)∧S.ρ 3=.str (g++(d.job.parts.take i).flatMap Ym)∧S.ρ 9=.lref 9 0∧S.μ 9=some (eJb d.job,false)∧S.μ 12=none∧S.ρ 10=iz i) (fun i=>d.job.parts.length-i) 0 ?_ ?_
 ·simp only[JhU]
  exact⟨GJ _,s1,m1,by rw[s3];simp,s9,m9,n12,si⟩
 ·intro i S ⟨hi,s1,m1,s3,s9,m9,n12,si⟩
  have v1:=m1
  simp only[go_sem] at v1
  have v9:=m9
  simp only[go_sem,Ybz] at v9
  cases c1:decide ((i:Int)<(d.job.parts.length:Int)) with
  |false=>
   have hil:i=d.job.parts.length:=by have:=Ge c1;omega
   rw[hil,Gz] at s3
   simp only[go_sem,s1,v1,s9,v9,eS1,si,c1,Gj]
   exact hq _ (by simp only[go_sem,s1]) m1 (by simp only[go_sem,s3]) (by simp only[go_sem,s9]) m9 n12
  |true=>
   have hlt:=Yg c1
   obtain⟨e,hx,-⟩:=JiF hlt
   have hinc:=inc64q (i:=i) (by omega)
   have hv:=he e (List.mem_of_getElem? hx)
   have q1:=K535 h535 e hv
   have hbl:=Y5 (W:=Ym) (l:=d.job.parts) (i:=i+1)
   rw[YaE hx,Gc] at hbl
   have hf:g++(d.job.parts.take (i+1)).flatMap Ym=g++(d.job.parts.take i).flatMap Ym++Ym e:=by rw[YaE hx,Gs]
   have hgl:(g++(d.job.parts.take i).flatMap Ym).length=g.length+((d.job.parts.take i).flatMap Ym).length:=Gc
   generalize g++(d.job.parts.take i).flatMap Ym=g1 at *
   simp only[go_sem,s1,v1,s3,s9,v9,eS1,si,c1,hx,q1,hinc,Gj]
   repeat (rw[Gx (by omega)];simp only[go_sem,q1,hinc,hx,si,s1,v1,s3,s9,v9,eS1,Gj])
   try simp only[JhU]
   refine⟨i+1,by omega,by omega,?_⟩
   and_intros
   all_goals first|rfl|(rw[hf];simp only[List.append_assoc];done)|(rw[hf];done)|exact hf▸rfl|(simp only[n12,Option.map_none];done)
theorem Yeb (h533:H533 Pg) (h544:H544 Pg) {d:Drc} {g:List UInt8} (he:∀e∈d.opened,OrV e) (hb:g.length+(d.opened.flatMap orB).length≤2 ^ 50) {S:St} {Q:Ex→St→Prop}
  (s1:S.ρ 1=.lref 1 0) (m1:S.μ 1=some (YM d,false)) (s3:S.ρ 3=.str g) (n12:S.μ 12=none) (si:S.ρ 11=iz 0)
  (hq:∀S',S'.ρ 1=.lref 1 0→S'.μ 1=some (YM d,false)→S'.ρ 3=.str (g++d.opened.flatMap orB)→ Q .norm S'):Wp (K' Pg) l518_5 S (Blk 10 Q):=by
 have hll:d.opened.length≤(d.opened.flatMap orB).length:=YP (P:=fun _=>True) (fun e _=>by first|exact Yah|exact st_pos|(simp only[orB,nB,Gc];have:=fun n=>putB_pos n;first|(have:=this e.view.toNat;omega)|(have:=this e.id.toNat;omega)|(have:=this e.client.toNat;omega)|(have:=this e.shard.toNat;omega))) (fun _ _=>Gn)
 unfold l518_5
 refine JiX (fun (i:Nat) S=>i≤d.opened.length∧S.ρ 1=.lref 1 0∧S.μ 1=some (YM d,false)∧S.ρ 3=.str (g++(d.opened.take i).flatMap orB)∧S.μ 12=none∧S.ρ 11=iz i) (fun i=>d.opened.length-i) 0 ?_ ?_
 ·exact⟨GJ _,JiJ s1 rfl,Ya4 m1 rfl,JiJ (by rw[s3];simp) rfl,JiH (.inr rfl),JiJ si rfl⟩
 ·intro i S ⟨hi,s1,m1,s3,n12,si⟩
  have v1:=m1
  simp only[go_sem] at v1
  cases c1:decide ((i:Int)<(d.opened.length:Int)) with
  |false=>
   have hil:i=d.opened.length:=by have:=Ge c1;omega
   rw[hil,Gz] at s3
   simp only[go_sem,s1,v1,si,c1,Gj]
   exact hq _ (by simp only[go_sem,s1]) m1 (by simp only[go_sem,s3])
  |true=>
   have hlt:=Yg c1
   obtain⟨e,hx,-⟩:=JiF hlt
   have hinc:=inc64q (i:=i) (by omega)
   have hv:=he e (List.mem_of_getElem? hx)
   have q1:=K533 h533 e.client hv.1.1
   have q2:=K533 h533 e.req hv.1.2.1
   have q3:=K533 h533 e.lease hv.1.2.2.1
   have q4:=K544 h544 e.at_ hv.1.2.2.2.1
   have q5:=K533 h533 e.err hv.1.2.2.2.2
   have hbl:=Y5 (W:=orB) (l:=d.opened) (i:=i+1)
   rw[YaE hx,Gc] at hbl
   have hf:g++(d.opened.take (i+1)).flatMap orB=g++(d.opened.take i).flatMap orB++orB e:=by rw[YaE hx,Gs]
   have hgl:(g++(d.opened.take i).flatMap orB).length=g.length+((d.opened.take i).flatMap orB).length:=Gc
   generalize g++(d.opened.take i).flatMap orB=g1 at *
   simp only[orB,Gc] at hbl
   simp only[orB] at hf
   simp only[go_sem,s1,v1,s3,si,c1,hx,q1,q2,q3,q4,q5,hinc,n12,Gj]
   repeat (rw[Gx (by omega)];simp only[go_sem,q1,q2,q3,q4,q5,hinc,hx,si,s1,v1,s3,Gj])
   try simp only[JhU]
   refine⟨i+1,by omega,by omega,?_⟩
   and_intros
   all_goals first|rfl|(rw[hf];simp only[Gs];done)|(rw[hf];done)|exact hf▸rfl
def H518 (Pg:PgT):Prop:=Pg 518=some (.code F518)∧H533 Pg∧H534 Pg∧H535 Pg∧H544 Pg∧H504 Pg
theorem K518 (h:H518 Pg) (d:Drc) (c1:Yao d=true) (hl:DrL d) (hb:(drB d).length≤2 ^ 40):K' Pg 518 [.agg (YM d)]=some (.str (drB d)):=by
 obtain⟨h,h533,h534,h535,h544,h504⟩:=h;obtain⟨⟨⟨p1,p2⟩,⟨i1,i2⟩,nn,⟨l1,l2⟩,⟨s1,s2⟩,mk,jb,⟨r1,r2⟩⟩,-⟩:=YcM c1 hl;have hpl:∀p∈d.places,PlS p:=fun p hp=>⟨p2 p hp,by have:=(hl.pl p hp).1;omega,by have:=(hl.pl p hp).2;omega⟩;have hin:∀p∈d.cells,InS p:=fun p hp=>⟨i2 p hp,hl.cell p hp⟩;obtain⟨⟨v1,v2,v3,v4,v5,v6,v7,v8,v9,v10,v11,v12,v13,v14,v15,v16,v17,v18⟩,-⟩:=jb;have hpt:∀t∈d.job.parts,t.length≤2 ^ 30:=fun t ht=>by have:=hl.parts.2 t ht;omega
 have hdB:drB d=putB d.places.length++d.places.flatMap plB++putB d.cells.length++d.cells.flatMap inB++nB d.next++putB d.leases.length++d.leases.flatMap leB++putB d.lows.length++d.lows.flatMap stB++stB d.mark++nB d.job.kind++nB d.job.step++nB d.job.id++nB d.job.shard++nB d.job.other++nB d.job.cell++nB d.job.to++nB d.job.epoch++Ym d.job.key++putB d.job.parts.length++d.job.parts.flatMap Ym++nB d.job.of_++nB d.job.client++nB d.job.req++Ym d.job.span.lo++Ym d.job.span.hi++YJ nB d.job.wait++stB d.job.at_++YJ nB d.job.mem++putB d.opened.length++d.opened.flatMap orB:=by simp only[drB,YJ,jbB,Gs]
 rw[hdB] at hb ⊢;simp only[Gc] at hb;have q0:=K533n h533 d.places.length p1;have q1:=K533n h533 d.cells.length i1;have q2:=K533 h533 d.next nn;have q3:=K533n h533 d.leases.length l1;have q4:=K533n h533 d.lows.length s1;have q5:=K544 h544 d.mark mk;have qj0:=K533 h533 d.job.kind v1;have qj1:=K533 h533 d.job.step v2;have qj2:=K533 h533 d.job.id v3;have qj3:=K533 h533 d.job.shard v4;have qj4:=K533 h533 d.job.other v5;have qj5:=K533 h533 d.job.cell v6;have qj6:=K533 h533 d.job.to v7;have qj7:=K533 h533 d.job.epoch v8;have qk:=K535 h535 d.job.key (by have:=hl.key;omega);have qp:=K533n h533 d.job.parts.length v10.1;have qo:=K533 h533 d.job.of_ v11;have qc:=K533 h533 d.job.client v12;have qr:=K533 h533 d.job.req v13;have ql:=K535 h535 d.job.span.lo (by have:=hl.span.1;omega);have qh:=K535 h535 d.job.span.hi (by have:=hl.span.2;omega);have qw:=K534 h534 d.job.wait v16.2 (by have:=hl.wait;omega);have qa:=K544 h544 d.job.at_ v17;have qm:=K534 h534 d.job.mem v18.2 (by have:=hl.mem;omega);have qe:=K533n h533 d.opened.length r1;generalize putB d.places.length=b0 at *
 generalize hP:d.places.flatMap plB=b1 at *
 generalize putB d.cells.length=b2 at *
 generalize hI:d.cells.flatMap inB=b3 at *
 generalize nB d.next=b4 at *
 generalize putB d.leases.length=b5 at *
 generalize hL:d.leases.flatMap leB=b6 at *
 generalize putB d.lows.length=b7 at *
 generalize hO:d.lows.flatMap stB=b8 at *
 generalize stB d.mark=b9 at *
 generalize nB d.job.kind=b10 at *
 generalize nB d.job.step=b11 at *
 generalize nB d.job.id=b12 at *
 generalize nB d.job.shard=b13 at *
 generalize nB d.job.other=b14 at *
 generalize nB d.job.cell=b15 at *
 generalize nB d.job.to=b16 at *
 generalize nB d.job.epoch=b17 at *
 generalize Ym d.job.key=b18 at *
 generalize putB d.job.parts.length=b19 at *
 generalize hT:d.job.parts.flatMap Ym=b20 at *
 generalize nB d.job.of_=b21 at *
 generalize nB d.job.client=b22 at *
 generalize nB d.job.req=b23 at *
 generalize Ym d.job.span.lo=b24 at *
 generalize Ym d.job.span.hi=b25 at *
 generalize YJ nB d.job.wait=b26 at *
 generalize stB d.job.at_=b27 at *
 generalize YJ nB d.job.mem=b28 at *
 generalize putB d.opened.length=b29 at *
 generalize hE:d.opened.flatMap orB=b30 at *
 have u30:=hb;have u29:=Nat.le_of_add_right_le u30;have u28:=Nat.le_of_add_right_le u29;have u27:=Nat.le_of_add_right_le u28;have u26:=Nat.le_of_add_right_le u27;have u25:=Nat.le_of_add_right_le u26;have u24:=Nat.le_of_add_right_le u25;have u23:=Nat.le_of_add_right_le u24;have u22:=Nat.le_of_add_right_le u23;have u21:=Nat.le_of_add_right_le u22;have u20:=Nat.le_of_add_right_le u21;have u19:=Nat.le_of_add_right_le u20;have u18:=Nat.le_of_add_right_le u19;have u17:=Nat.le_of_add_right_le u18;have u16:=Nat.le_of_add_right_le u17;have u15:=Nat.le_of_add_right_le u16;have u14:=Nat.le_of_add_right_le u15;have u13:=Nat.le_of_add_right_le u14;have u12:=Nat.le_of_add_right_le u13;have u11:=Nat.le_of_add_right_le u12;have u10:=Nat.le_of_add_right_le u11;have u9:=Nat.le_of_add_right_le u10;have u8:=Nat.le_of_add_right_le u9;have u7:=Nat.le_of_add_right_le u8;have u6:=Nat.le_of_add_right_le u7;have u5:=Nat.le_of_add_right_le u6;have u4:=Nat.le_of_add_right_le u5;have u3:=Nat.le_of_add_right_le u4;have u2:=Nat.le_of_add_right_le u3;have u1:=Nat.le_of_add_right_le u2;have u0:=Nat.le_of_add_right_le u1;have w1:=Gr u1 (show 2 ^ 40≤4611686018427387904 by decide);have w2:=Gr u2 (show 2 ^ 40≤4611686018427387904 by decide);have w3:=Gr u3 (show 2 ^ 40≤4611686018427387904 by decide);have w4:=Gr u4 (show 2 ^ 40≤4611686018427387904 by decide);have w5:=Gr u5 (show 2 ^ 40≤4611686018427387904 by decide);have w6:=Gr u6 (show 2 ^ 40≤4611686018427387904 by decide);have w7:=Gr u7 (show 2 ^ 40≤4611686018427387904 by decide);have w8:=Gr u8 (show 2 ^ 40≤4611686018427387904 by decide);have w9:=Gr u9 (show 2 ^ 40≤4611686018427387904 by decide);have w10:=Gr u10 (show 2 ^ 40≤4611686018427387904 by decide);have w11:=Gr u11 (show 2 ^ 40≤4611686018427387904 by decide);have w12:=Gr u12 (show 2 ^ 40≤4611686018427387904 by decide);have w13:=Gr u13 (show 2 ^ 40≤4611686018427387904 by decide);have w14:=Gr u14 (show 2 ^ 40≤4611686018427387904 by decide);have w15:=Gr u15 (show 2 ^ 40≤4611686018427387904 by decide);have w16:=Gr u16 (show 2 ^ 40≤4611686018427387904 by decide);have w17:=Gr u17 (show 2 ^ 40≤4611686018427387904 by decide);have w18:=Gr u18 (show 2 ^ 40≤4611686018427387904 by decide);have w19:=Gr u19 (show 2 ^ 40≤4611686018427387904 by decide);have w20:=Gr u20 (show 2 ^ 40≤4611686018427387904 by decide);have w21:=Gr u21 (show 2 ^ 40≤4611686018427387904 by decide);have w22:=Gr u22 (show 2 ^ 40≤4611686018427387904 by decide);have w23:=Gr u23 (show 2 ^ 40≤4611686018427387904 by decide);have w24:=Gr u24 (show 2 ^ 40≤4611686018427387904 by decide);have w25:=Gr u25 (show 2 ^ 40≤4611686018427387904 by decide);have w26:=Gr u26 (show 2 ^ 40≤4611686018427387904 by decide);have w27:=Gr u27 (show 2 ^ 40≤4611686018427387904 by decide);have w28:=Gr u28 (show 2 ^ 40≤4611686018427387904 by decide);have w29:=Gr u29 (show 2 ^ 40≤4611686018427387904 by decide);have w30:=Gr u30 (show 2 ^ 40≤4611686018427387904 by decide);refine Qa h rfl ?_;simp only[F518,c518,go_sem,q0,Gj];refine Yec h533 h535 (d:=d) (g:=b0) hpl (by simp only[hP,Gc];exact Gr u1 (by decide)) (by simp only[go_sem]) (by simp only[go_sem]) (by simp only[go_sem]) (by simp only[go_sem]) (by simp only[go_sem]) (by simp only[go_sem]) (by simp only[go_sem]) fun S1 t1 y1 t3 n9 n12=>?_;rw[hP] at t3;have x1:=y1;simp only[go_sem] at x1;simp only[go_sem,t1,x1,t3,q1,w1,w2,w3,w4,w5,w6,w7,w8,w9,w10,w11,w12,w13,w14,w15,w16,w17,w18,w19,w20,w21,w22,w23,w24,w25,w26,w27,w28,w29,w30,Gj];refine Yd8 h533 h534 h504 (d:=d) (g:=b0++b1++b2) hin (by simp only[hI,Gc];exact Gr u3 (by decide)) (by simp only[go_sem,t1]) (by simp only[go_sem,y1]) (by simp only[go_sem]) (by simp only[go_sem,n9]) (by simp only[go_sem,n12]) (by simp only[go_sem]) fun S1 t1 y1 t3 n9 n12=>?_;rw[hI] at t3;have x1:=y1;simp only[go_sem] at x1;simp only[go_sem,t1,x1,t3,q2,q3,w1,w2,w3,w4,w5,w6,w7,w8,w9,w10,w11,w12,w13,w14,w15,w16,w17,w18,w19,w20,w21,w22,w23,w24,w25,w26,w27,w28,w29,w30,Gj];refine Yd9 h533 h544 (d:=d) (g:=b0++b1++b2++b3++b4++b5) l2 (by simp only[hL,Gc];exact Gr u6 (by decide)) (by simp only[go_sem,t1]) (by simp only[go_sem,y1]) (by simp only[go_sem]) (by simp only[go_sem,n9]) (by simp only[go_sem,n12]) (by simp only[go_sem]) fun S1 t1 y1 t3 n9 n12=>?_;rw[hL] at t3;have x1:=y1;simp only[go_sem] at x1;simp only[go_sem,t1,x1,t3,q4,w1,w2,w3,w4,w5,w6,w7,w8,w9,w10,w11,w12,w13,w14,w15,w16,w17,w18,w19,w20,w21,w22,w23,w24,w25,w26,w27,w28,w29,w30,Gj];refine Yea h544 (d:=d) (g:=b0++b1++b2++b3++b4++b5++b6++b7) s2 (by simp only[hO,Gc];exact Gr u8 (by decide)) (by simp only[go_sem,t1]) (by simp only[go_sem,y1]) (by simp only[go_sem]) (by simp only[go_sem,n9]) (by simp only[go_sem,n12]) (by simp only[go_sem]) fun S1 t1 y1 t3 n9 n12=>?_;rw[hO] at t3;have x1:=y1;simp only[go_sem] at x1;simp only[go_sem,t1,x1,t3,n9,q5,qj0,qj1,qj2,qj3,qj4,qj5,qj6,qj7,qk,qp,w1,w2,w3,w4,w5,w6,w7,w8,w9,w10,w11,w12,w13,w14,w15,w16,w17,w18,w19,w20,w21,w22,w23,w24,w25,w26,w27,w28,w29,w30,Gj];refine Yed h535 (d:=d) (g:=b0++b1++b2++b3++b4++b5++b6++b7++b8++b9++b10++b11++b12++b13++b14++b15++b16++b17++b18++b19) hpt (by simp only[hT,Gc];exact Gr u20 (by decide)) (by simp only[go_sem,t1]) (by simp only[go_sem,y1]) (by simp only[go_sem]) (by simp only[go_sem]) (by simp only[go_sem]) (by simp only[go_sem,n12]) (by simp only[go_sem]) fun S1 t1 y1 t3 t9 y9 n12=>?_;rw[hT] at t3;have x1:=y1;simp only[go_sem] at x1;have x9:=y9;simp only[go_sem] at x9;simp only[go_sem,t1,x1,t3,t9,x9,qo,qc,qr,ql,qh,qw,qa,qm,qe,w1,w2,w3,w4,w5,w6,w7,w8,w9,w10,w11,w12,w13,w14,w15,w16,w17,w18,w19,w20,w21,w22,w23,w24,w25,w26,w27,w28,w29,w30,Gj];refine Yeb h533 h544 (d:=d) (g:=b0++b1++b2++b3++b4++b5++b6++b7++b8++b9++b10++b11++b12++b13++b14++b15++b16++b17++b18++b19++b20++b21++b22++b23++b24++b25++b26++b27++b28++b29) r2 (by simp only[hE,Gc];exact Gr u30 (by decide)) (by simp only[go_sem,t1]) (by simp only[go_sem,y1]) (by simp only[go_sem]) (by simp only[go_sem,n12]) (by simp only[go_sem]) fun S1 t1 y1 t3=>?_;rw[hE] at t3;simp only[go_sem,t3]
def H353 (Pg:PgT):Prop:=Pg 353=some (.code F353)
theorem K353 (h:H353 Pg) (l:List Int) (hl:l.length<2 ^ 60):K' Pg 353 [Yf l,Yf l]=some (.bool true):=by
 refine Qa h rfl ?_;simp only[go_sem];unfold l353_0;refine JiX (fun (i:Nat) S=>i≤l.length∧S.ρ 0=Yf l∧S.ρ 1=Yf l∧S.ρ 5=iz i) (fun i=>l.length-i) 0 ?_ ?_
 ·simp[go_sem]
 ·intro i S ⟨hi,h0,h1,h5⟩;simp only[go_sem,h0,h5];refine JiY (fun h=>?_) (fun h=>?_)
  ·have h:=Yg h;obtain⟨x,hx,hd⟩:=JiF h;simp only[go_sem,h0,h1,h5,hx];exact⟨i+1,by omega,by omega,by rw[Yi h hl]⟩
  ·simp only[go_sem]
def H354 (Pg:PgT):Prop:=Pg 354=some (.code F354)∧H353 Pg
theorem K354 (h:H354 Pg) (j:Jb) (h1:j.parts.length<2 ^ 60) (h2:j.wait.length<2 ^ 60) (h3:j.mem.length<2 ^ 60):K' Pg 354 [.agg (eJb j),.agg (eJb j)]=some (.bool true):=by
 obtain⟨h,h353⟩:=h;have kw:=K353 h353 j.wait h2;have km:=K353 h353 j.mem h3;simp only[Yf] at kw km;refine Qa h rfl ?_;simp only[go_sem];unfold l354_0;refine JiX (fun (i:Nat) S=>i≤j.parts.length∧S.ρ 2=.lref 2 0∧S.μ 2=some (eJb j,false)∧S.ρ 3=.lref 3 0∧S.μ 3=some (eJb j,false)∧S.ρ 5=iz i) (fun i=>j.parts.length-i) 0 ?_ ?_
 ·simp[go_sem]
 ·intro i S ⟨hi,s2,m2,s3,m3,s5⟩;simp only[go_sem,s2,m2,s5];refine JiY (fun h=>?_) (fun h=>?_)
  ·have h:=Yg h;obtain⟨x,hx,hd⟩:=JiF h;simp only[go_sem,eS1,s2,m2,s3,m3,s5,hx];exact⟨i+1,by omega,by omega,by rw[Yi h h1]⟩
  ·simp only[go_sem,s2,m2,s3,m3,kw,km]
def H332 (Pg:PgT):Prop:=Pg 332=some (.code F332)∧H116 Pg∧H153 Pg∧H353 Pg∧H354 Pg
def SmE (d:Drc):Prop:=d.places.length≤10000∧d.cells.length≤10000∧d.lows.length≤10000∧SmD d
theorem K332 (h:H332 Pg) (d:Drc) (hd:SmE d):K' Pg 332 [.agg (YM d),.agg (YM d)]=some (.bool true):=by
 obtain⟨h,h116,h153,h353,h354⟩:=h;obtain⟨hp,hc,hl,hle,hop,⟨hw,hm,hpa⟩,hcm⟩:=hd;have k153:=K153 h153 d.places (by omega);have k116:=K116 h116 d.leases (by omega);have k354:=K354 h354 d.job (by omega) (by omega) (by omega);have k353:∀x∈d.cells,K' Pg 353 [Yf x.mem,Yf x.mem]=some (.bool true):=fun x hx=>K353 h353 x.mem (by have:=hcm x hx;omega);simp only[Yz,YB,eJb,Ybz,Yf] at k153 k116 k354 k353;clear h116 h153 h353 h354;refine Qa h rfl ?_;simp only[go_sem];unfold l332_0;refine JiX (fun (i:Nat) S=>i≤d.cells.length∧S.ρ 2=.lref 2 0∧S.μ 2=some (YM d,false)∧S.ρ 3=.lref 3 0∧S.μ 3=some (YM d,false)∧S.ρ 5=iz i) (fun i=>d.cells.length-i) 0 ?_ ?_
 ·simp[go_sem]
 ·intro i S ⟨hi,s2,m2,s3,m3,s5⟩;simp only[go_sem,s2,m2,s5];refine JiY (fun h=>?_) (fun h=>?_)
  ·have h:=Yg h;obtain⟨x,hx,hd⟩:=JiF h;have k:=k353 x (List.mem_of_getElem? hx);have eb:(x.whole == x.whole)=true:=beq_self_eq_true _;simp only[go_sem,s2,m2,s3,m3,s5,hx,k,eb];exact⟨i+1,by omega,by omega,by rw[Yi h (by omega)]⟩
  ·simp only[go_sem];unfold l332_1;clear hi h s5;refine JiX (fun (i:Nat) S=>i≤d.lows.length∧S.ρ 2=.lref 2 0∧S.μ 2=some (YM d,false)∧S.ρ 3=.lref 3 0∧S.μ 3=some (YM d,false)∧S.ρ 6=iz i) (fun i=>d.lows.length-i) 0 ?_ ?_
   ·simp[go_sem,s2,m2,s3,m3]
   ·intro i S ⟨hi,s2,m2,s3,m3,s6⟩;simp only[go_sem,s2,m2,s6];refine JiY (fun h=>?_) (fun h=>?_)
    ·have h:=Yg h;obtain⟨x,hx,hd⟩:=JiF h;simp only[go_sem,s2,m2,s3,m3,s6,hx];exact⟨i+1,by omega,by omega,by rw[Yi h (by omega)]⟩
    ·simp only[go_sem];unfold l332_2;clear hi h s6;refine JiX (fun (i:Nat) S=>i≤d.opened.length∧S.ρ 2=.lref 2 0∧S.μ 2=some (YM d,false)∧S.ρ 3=.lref 3 0∧S.μ 3=some (YM d,false)∧S.ρ 7=iz i) (fun i=>d.opened.length-i) 0 ?_ ?_
     ·simp[go_sem,s2,m2,s3,m3]
     ·intro i S ⟨hi,s2,m2,s3,m3,s7⟩;simp only[go_sem,s2,m2,s7];refine JiY (fun h=>?_) (fun h=>?_)
      ·have h:=Yg h;obtain⟨x,hx,hd⟩:=JiF h;simp only[go_sem,s2,m2,s3,m3,s7,hx];exact⟨i+1,by omega,by omega,by rw[Yi h (by omega)]⟩
      ·simp only[go_sem,s2,m2,s3,m3,k153,k116,k354]
structure C411 (S:St) (y:Rd) (t:Stamp) (d:Int) (vs:List Shd):Prop where
 r2:S.ρ 2=.lref 2 0
 r4:S.ρ 4=.lref 10 0
 r5:S.ρ 5=.lref 5 0
 m10:S.μ 10=some (eRd y,false)
 m2:S.μ 2=some ([.slice 17 [],.int .i64 0,.int .i64 0,.int .i64 0,.int .i64 0],false)
 m5:S.μ 5=some (clP t d (nilOr 36 17 vs.length),false)
 a36:S.A 36=Yax 17 (vs.map YW) vs.length
theorem C411.head {S:St} {y:Rd} {t:Stamp} {d:Int} {vs:List Shd} (h:C411 S y t d vs):C411 (S.head [] [] [] []) y t d vs:=by rw[JhU];exact h
def RepOk (r:Rep):Prop:=r.members.length≤10000∧r.acks.length≤10000
theorem RepOk.ok {r:Rep} (h:RepOk r):r.Ok:=⟨by have:=h.1;omega,by have:=h.2;omega⟩
theorem faL {a:Nat} {b:Fn} {l:List (Nat×Fn)} (h1:Pg a=some b) (h2:∀x∈l,Pg x.1=some x.2):∀x∈(a,b)::l,Pg x.1=some x.2:=Gm.2 ⟨h1,h2⟩
end Sg
