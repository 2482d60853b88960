/- StoreHears, wherever what it reads is of bulk at most 1048576: proved over a checked abstract run of the translated code; no condition but that. A part. -/
import Derived.KernelRfl
import Derived.Test.YtidacoblmebfcaaGreatDoorStoreHearsA4
set_option linter.unusedSimpArgs false
set_option linter.unusedVariables false
set_option linter.constructorNameAsVariable false
set_option linter.defProp false
set_option maxRecDepth 100000
set_option maxHeartbeats 4000000
namespace Sg
open _root_.Go (IntKind BinOp UnOp)
variable {Pg:PgT}
def fF:List aH->aH->List aH
 |[],d=>[d]
 |x::l,d=>if d.client<x.client then d::x::l else if x.client=d.client then d::l else x::fF l d
theorem P3 {d:aH}:∀{t:List aH},ep t d.client=true->t.set (bD t d.client) d=fF t d
 |[],h=>by simp[ep] at h
 |x::l,h=>by
  by_cases j:d.client<=x.client
  ·have q:x.client=d.client:=by simpa [ep,bD,j] using h
   have:¬d.client<x.client:=by omega
   simp[bD,fF,q]
  ·have h1:ep l d.client=true:=by simpa [ep,bD,j] using h
   have o:¬d.client<x.client:=by omega
   have p:¬x.client=d.client:=by omega
   simp[bD,fF,j,o,p,P3 h1]
theorem PV {d:aH}:∀{t:List aH},ep t d.client=false->t.take (bD t d.client)++d::t.drop (bD t d.client)=fF t d
 |[],h=>by simp[bD,fF]
 |x::l,h=>by
  by_cases j:d.client<=x.client
  ·have q:x.client≠d.client:=by simpa [ep,bD,j] using h
   have o:d.client<x.client:=by omega
   simp[bD,fF,j,o]
  ·have h1:ep l d.client=false:=by simpa [ep,bD,j] using h
   have o:¬d.client<x.client:=by omega
   have p:¬x.client=d.client:=by omega
   simp[bD,fF,j,o,p];exact PV h1
theorem Pr {d:aH}:∀{t:List aH} {p:Int},dj p t=true->(fF t d).length=if ep t d.client then t.length else t.length+1
 |[],_,_=>by simp[fF,ep]
 |x::l,p,h=>by
  obtain⟨-,-,q⟩:=nl h;simp only[fF];by_cases h1:d.client<x.client
  ·have:ep (x::l) d.client=false:=by
    have o:d.client<=x.client:=by omega
    simp[ep,bD,o];omega
   simp[h1,this]
  ·by_cases j:x.client=d.client
   ·have:ep (x::l) d.client=true:=by simp[ep,bD,j]
    simp[j,this]
   ·have o:¬d.client<=x.client:=by omega
    have:ep (x::l) d.client=ep l d.client:=by simp only[ep,bD,o,Gv,List.getElem?_cons_succ]
    simp only[h1,j,Gv,List.length_cons,this,Pr q];split<;>rfl
theorem Lv {d:aH} (o:cm d=true):∀{t:List aH} {p:Int},dj p t=true->p<d.client->dj p (fF t d)=true
 |[],p,_,hp=>by simp[fF,dj,o,hp]
 |x::l,p,h,hp=>by
  have⟨h1,q,j⟩:=nl h;simp only[fF];split
  ·rename_i u;simp[dj,o,hp,u,q,j]
  ·split
   ·rename_i w;rw[w] at j;simp[dj,o,hp,j]
   ·simp only[dj,h1,q,jS,Gy];exact Lv o j (by omega)
theorem Oz {d:aH} {c:Int}:∀{t:List aH} {p:Int},dj p t=true->Yo (fF t d) c=if d.client=c then some d else Yo t c
 |[],_,_=>by simp[fF,Yo]
 |x::l,p,h=>by
  obtain⟨-,-,o⟩:=nl h;simp only[fF];split
  ·simp[Yo]
  ·split
   ·rename_i w;simp only[Yo];split
    ·rfl
    ·rename_i q;rw[Gn (by omega)]
   ·rename_i h1 u;simp only[Yo,Oz o];by_cases j:x.client=c
    ·rw[Gt j,Gn (by omega),Gt j]
    ·rw[Gn j,Gn j]
theorem CH:∀{l:List aH} {p:Int},dj p l=true->pq l
 |[],_,_=>List.Pairwise.nil
 |a::l,p,h=>by
  obtain⟨-,-,j⟩:=nl h;exact GT.2 ⟨fun b o=>CN j o,CH j⟩
def Lq {l:List aH} {p:Int} {d:aH} (h:dj p l=true) (hd:d∈l):Yo l d.client=some d:=by
 induction l generalizing p with
 |nil=>simp at hd
 |cons a l o=>
  obtain⟨-,-,j⟩:=nl h;rcases GH.1 hd with rfl|hd
  ·simp[Yo]
  ·have:=CN j hd;simp only[Yo];rw[Gn (by omega)];exact o j hd
def KC {l:List aH} {y:aH} (h:y∈l):∃x,Yo l y.client=some x:=by
 induction l with
 |nil=>simp at h
 |cons a l o=>
  simp only[Yo];split
  ·exact⟨_,rfl⟩
  ·rcases GH.1 h with rfl|h
   ·rename_i j;exact absurd rfl j
   ·exact o h
def pf {t:List aH} {d:aH} (h:dj 0 t=true) (hd:cm d=true):eH (d::t) (fF t d):=by
 have h0:0<d.client:=by simp only[cm,Ym,Ge,Gj] at hd;omega
 have hr:=Lv hd h h0;have key:∀c,Yo (fF t d) c=Yo (d::t) c:=fun c=>by rw[Oz h];rfl
 refine⟨CH hr,fun x hx=>by rw[<-key];exact Lq hr hx,fun y hy=>?_⟩;have⟨x,hx⟩:=KC hy;rw[<-key] at hx;exact⟨x,(py hx).2,(py hx).1⟩
def Om {t:List aH} {d:aH} (B:YA t=true) (y:cm d=true) :
  dQ t d=if d.req<=eV t d.client then ([],9) else if 8<(fF t d).length then ([],6) else (fF t d,0):=by
 have⟨q,L⟩:=sE B
 have M:1<=d.req:=by simp only[cm,Ym,Ge,Gj] at y;omega
 have p:=KG (c:=d.client) q
 have w:=Pr (d:=d) q
 have o:=DX (l:=t) (c:=d.client)
 cases j:ep t d.client with
 |true=>
  rw[j] at p w
  simp only[Gw] at p w
  have z:bD t d.client<t.length:=by
   rcases GF (bD t d.client) t.length with h|h
   ·exact h
   ·simp only[ep,List.getElem?_eq_none h] at j;simp at j
  obtain⟨x,u,-⟩:=aZ z
  have D:x.client=d.client:=by simp only[ep,u] at j;simpa using j
  rw[u] at p
  rw[p] at o
  simp only at o
  have I:¬8<(fF t d).length:=by omega
  simp only[dQ,B,y,GL,Gw,u,D,o,P3 j,I,Gv]
 |false=>
  rw[j] at p w
  simp only[Gl,Gv] at p w
  rw[p] at o
  simp only at o
  have E:¬d.req<=eV t d.client:=by omega
  have H:(8<(fF t d).length)=(t.length=8):=propext (by omega)
  have J:dQ t d=if t.length=8 then ([],6) else (t.take (bD t d.client)++d::t.drop (bD t d.client),0):=by
   simp only[dQ,B,y];simp only[ep] at j;cases u:t[bD t d.client]? with
   |none=>rfl
   |some x=>rw[u] at j;simp only[Gs] at j;simp[j]
  rw[J,Gn E,PV j]
  simp only[H]
def Fl:=HpC 89 F89<|HpA Do<|HpA Dp<|uN
def VD (h:Fl Pg) (t:List aH) (d:aH) (L:t.length<2^60):K' Pg 89 [Yb t,.agg (YK d)]=some (ut (dQ t d)):=by
 have⟨h,B,E,z⟩:=h;have o:=Ca B t L;have j:=Ca B [d] (by simp);rw[ON] at j;have q:=DV E t d.client L;simp only[Yb,GA,Gk,YK,YB] at o j q;refine aA h rfl ?_;cases w:YA t with
 |false=>simp only[go_sem,o,w,dQ]
 |true=>
 cases y:cm d with
 |false=>simp only[go_sem,o,w,j,y,dQ]
 |true=>
  have⟨I,M⟩:=sE w;have p:=A5 z (d::t) (by simp only[List.length_cons];omega) _ (pf I y);simp only[Yb,GA,YK,YB] at p;rw[Om w y];have u:t.length+1<=aU:=by simp only[aU];omega
  have D:1+t.length=t.length+1:=Nat.add_comm ..;by_cases H:d.req<=eV t d.client
  ·simp only[go_sem,o,w,j,y,q,H]
  ·have hn:(8<(fF t d).length)\/¬8<(fF t d).length:=by omega
   have J:decide ((8:Int)<((fF t d).length:Int))=decide (8<(fF t d).length):=GO.2 (by omega);rcases hn with hn|hn
   ·simp only[go_sem,o,w,j,y,q,H,CY,D,u,p,J,hn]
   ·simp only[go_sem,o,w,j,y,q,H,CY,D,u,p,J,hn]
def YE:List aH->List aH->List aH
 |[],b=>b
 |x::a,[]=>x::a
 |x::a,y::b=>if x.client<y.client then x::YE a (y::b) else if y.client<x.client then y::YE (x::a) b else if y.req<=x.req then x::YE a b else y::YE a b
 termination_by a b=>a.length+b.length
def Ol {a:List aH}:YE a []=a:=by cases a<;>simp[YE]
theorem D0:∀(a b:List aH),(YE a b).length<=a.length+b.length
 |[],b=>by simp[YE]
 |x::a,[]=>by simp[YE]
 |x::a,y::b=>by
  have h1:=D0 a (y::b);have j:=D0 (x::a) b;have o:=D0 a b;simp only[List.length_cons] at h1 j ⊢;simp only[YE]
  repeat' split
  all_goals (simp only[List.length_cons];omega)
 termination_by a b=>a.length+b.length
theorem ww:∀(a b:List aH) (p:Int),dj p a=true->dj p b=true->dj p (YE a b)=true
 |[],b,p,_,hb=>by simpa [YE] using hb
 |x::a,[],p,ha,_=>by simpa [YE] using ha
 |x::a,y::b,p,ha,hb=>by
  have⟨w,q,j⟩:=nl ha;have⟨z,u,o⟩:=nl hb;simp only[YE];split
  ·rename_i h;have:=ww a (y::b) x.client j (by simp[dj,h,u,o]);simp[dj,w,q,this]
  ·split
   ·rename_i h;have:=ww (x::a) b y.client (by simp[dj,h,q,j]) o;simp[dj,z,u,this]
   ·have B:x.client=y.client:=by omega
    split
    ·have:=ww a b x.client j (by rw[B];exact o);simp[dj,w,q,this]
    ·have:=ww a b y.client (by rw[<-B];exact j) o;simp[dj,z,u,this]
 termination_by a b=>a.length+b.length
def P7 {l:List aH} {p c:Int} (h:dj p l=true) (o:c<=p):Yo l c=none:=KH fun d j=>by have:=CN h j;omega
theorem eg:∀(a b:List aH) (p c:Int),dj p a=true->dj p b=true->
  Yo (YE a b) c=(match Yo a c,Yo b c with|none,o=>o|some x,none=>some x|some x,some y=>if y.req<=x.req then some x else some y)
 |[],b,p,c,_,hb=>by simp[YE,Yo]
 |x::a,[],p,c,ha,_=>by
  simp only[YE,Yo];split
  ·rfl
  ·cases Yo a c<;>rfl
 |x::a,y::b,p,c,ha,hb=>by
  have⟨a1,a2,a3⟩:=nl ha;have⟨b1,b2,b3⟩:=nl hb;simp only[YE];split
  ·rename_i h;have dy:dj x.client (y::b)=true:=by simp[dj,h,b2,b3]
   have ih:=eg a (y::b) x.client c a3 dy;by_cases hx:x.client=c
   ·have hn:Yo (y::b) c=none:=P7 dy (by omega);simp only[Yo,hx,Gw] at hn ⊢;rw[hn]
   ·have e1:∀l,Yo (x::l) c=Yo l c:=fun l=>by simp[Yo,hx]
    rw[e1,e1,ih]
  ·split
   ·rename_i h;have yu:dj y.client (x::a)=true:=by simp[dj,h,a2,a3]
    have ih:=eg (x::a) b y.client c yu b3;by_cases hy:y.client=c
    ·have hn:Yo (x::a) c=none:=P7 yu (by omega);rw[hn];simp only[Yo,hy,Gw]
    ·have e1:∀l,Yo (y::l) c=Yo l c:=fun l=>by simp[Yo,hy]
     rw[e1,e1,ih]
   ·have he:x.client=y.client:=by omega
    have ih:=eg a b x.client c a3 (by rw[he];exact b3);by_cases hx:x.client=c
    ·have hy:y.client=c:=by omega
     split
     ·rename_i hq;simp[Yo,hx,hy,hq]
     ·rename_i hq;simp[Yo,hx,hy,hq]
    ·have hy:¬y.client=c:=by omega
     have e1:∀l,Yo (y::l) c=Yo l c:=fun l=>by simp[Yo,hy]
     have e2:∀l,Yo (x::l) c=Yo l c:=fun l=>by simp[Yo,hx]
     split
     ·rw[e2,e2,e1,ih]
     ·rw[e1,e2,e1,ih]
 termination_by a b=>a.length+b.length
def YX (a b:List aH):List aH×Int:=if YA a&&YA b then (if 8<(YE a b).length then ([],6) else (YE a b,0)) else ([],1)
def MF:=HpC 91 F91 xr
def VE (h:MF Pg) (a b:List aH) (Y:a.length<=10000) (Z:b.length<=10000):K' Pg 91 [Yb a,Yb b]=some (ut (YX a b)):=by
 have⟨h,Q⟩:=h;have w:=wj Q a (by omega);have z:=wj Q b (by omega);simp only[Yb] at w z;refine aA h rfl ?_;cases L:YA a with
 |false=>simp only[go_sem,w,L,YX]
 |true=>
 cases R:YA b with
 |false=>simp only[go_sem,w,z,L,R,YX]
 |true=>
  simp only[go_sem,w,z,L,R,YX];unfold l91_0;refine bu (fun (p:List aH×List aH×List aH) S=>S.ρ 0=Yb p.1/\S.ρ 1=Yb p.2.1/\S.A 6=some (11,p.2.2.map YK,.live)/\S.ρ 6=.own 6 11 p.2.2.length/\p.2.2++YE p.1 p.2.1=YE a b/\p.1.length+p.2.1.length+p.2.2.length<=20000) (fun p=>p.1.length+p.2.1.length) (a,b,[]) ?_ ?_
  ·simp[go_sem];omega
  ·intro⟨a',b',o⟩ S ⟨h0,h1,D,B,q,u⟩;simp only at h0 h1 D B q u;have j:o.length+1<=aU:=by simp only[aU];omega
   cases a' with
   |nil=>
    cases b' with
    |nil=>
     simp only[YE,GD] at q;simp only[go_sem,h0,h1,B,q];have W:decide ((8:Int)<((YE a b).length:Int))=decide (8<(YE a b).length):=GO.2 (by omega);rw[q] at D B;by_cases X:8<(YE a b).length<;>simp only[go_sem,D,B,W,X]
    |cons y b'=>
     have hz:decide (((b'.length+1:Nat):Int)=0)=false:=Gp (by omega);have T:1<=b'.length+1:=by omega
     have U:List.take b'.length (List.map YK b')=List.map YK b':=by rw[tG];simp
     simp only[YE] at q;simp only[go_sem,h0,h1,D,B,pF,hz,j,T,U];refine⟨([],b',o++[y]),by simp,rfl,rfl,by simp[YK,YB],by simp,by simp[YE,q],by simp at u ⊢;omega⟩
   |cons x a'=>
    have N:decide (((a'.length+1:Nat):Int)=0)=false:=Gp (by omega);have E:1<=a'.length+1:=by omega
    have H:List.take a'.length (List.map YK a')=List.map YK a':=by rw[tG];simp
    cases b' with
    |nil=>
     rw[Ol] at q;simp only[go_sem,h0,h1,D,B,pF,j,E,H];refine⟨(a',[],o++[x]),by simp,rfl,rfl,by simp[YK,YB],by simp,by simp[Ol,q],by simp at u ⊢;omega⟩
    |cons y b'=>
     have I:decide (((b'.length+1:Nat):Int)=0)=false:=Gp (by omega);have J:1<=b'.length+1:=by omega
     have M:List.take b'.length (List.map YK b')=List.map YK b':=by rw[tG];simp
     simp only[YE] at q;by_cases O:x.client<y.client
     ·rw[Gt O] at q;simp only[go_sem,h0,h1,D,B,pF,I,j,E,H,O];refine⟨(a',y::b',o++[x]),by simp,rfl,rfl,by simp[YK,YB],by simp,by simp[q],by simp at u ⊢;omega⟩
     ·rw[Gn O] at q;by_cases P:y.client<x.client
      ·rw[Gt P] at q;simp only[go_sem,h0,h1,D,B,pF,N,I,j,J,M,O,P];refine⟨(x::a',b',o++[y]),by simp,rfl,rfl,by simp[YK,YB],by simp,by simp[q],by simp at u ⊢;omega⟩
      ·rw[Gn P] at q;by_cases c3:y.req<=x.req
       ·rw[Gt c3] at q;simp only[go_sem,h0,h1,D,B,pF,N,I,j,E,J,H,M,O,P,c3];refine⟨(a',b',o++[x]),by simp;omega,rfl,rfl,by simp[YK,YB],by simp,by simp[q],by simp at u ⊢;omega⟩
       ·rw[Gn c3] at q;simp only[go_sem,h0,h1,D,B,pF,N,I,j,E,J,H,M,O,P,c3];refine⟨(a',b',o++[y]),by simp;omega,rfl,rfl,by simp[YK,YB],by simp,by simp[q],by simp at u ⊢;omega⟩
def fA (a b:List aH):List aH:=a.filter fun x=>decide (eV b x.client<=x.req)
def fB (a b:List aH):List aH:=b.filter fun y=>decide (eV a y.client<y.req)
def yk (l:List aH):Prop:=l.Pairwise fun a b=>a.client≠b.client
theorem Kv:∀{l:List aH} {y:aH},yk l->y∈l->Yo l y.client=some y
 |[],_,_,h=>by simp at h
 |a::l,y,h,hy=>by
  simp only[yk,GT] at h;rcases GH.1 hy with rfl|hy
  ·simp[Yo]
  ·simp only[Yo,Gn (h.1 y hy)];exact Kv h.2 hy
def V0 {l:List aH} (h:yk l):l.Nodup:=h.imp fun j e=>j (by rw[e])
def P0 {l:List aH} {p:Int} {y:aH} (h:dj p l=true) (j:y∈l):eV l y.client=y.req:=by
 rw[DX,Lq h j]
def P1 {l:List aH} {p:Int} {y:aH} (h:dj p l=true) (j:y∈l):0<y.req:=by
 have:=Pt h j;simp only[cm,Ym,Ge,Gj] at this;omega
def KV {a b:List aH} (o:dj 0 a=true) (p:dj 0 b=true):yk (fA a b++fB a b):=by
 have inc:∀{l:List aH},pq l->yk l:=fun h=>h.imp fun u=>by omega
 rw[yk,List.pairwise_append];refine⟨(inc (CH o)).filter _,(inc (CH p)).filter _,fun x j y q e=>?_⟩;simp only[fA,fB,G8,Gj] at j q;have h1:=P0 o j.1;have w:=P0 p q.1;rw[e] at h1 j;omega
def OK {a b:List aH} (o:dj 0 a=true) (p:dj 0 b=true) {x:aH} (w:x∈YE a b):x∈fA a b++fB a b:=by
 have h:=Lq (ww a b 0 o p) w;rw[eg a b 0 _ o p] at h;rw[GS];simp only[fA,fB,G8,Gj];have ra:=DX (l:=a) (c:=x.client);have rb:=DX (l:=b) (c:=x.client);cases h1:Yo a x.client with
 |none=>
  rw[h1] at h ra;simp only at h ra;have hm:=(py h).2;exact .inr ⟨hm,by rw[ra];exact P1 p hm⟩
 |some u=>
  rw[h1] at h ra;simp only at ra;cases j:Yo b x.client with
  |none=>
   rw[j] at h rb;simp only[Gb] at h rb;subst h;have hm:=(py h1).2;exact .inl ⟨hm,by rw[rb];have:=P1 o hm;omega⟩
  |some v=>
   rw[j] at h rb;simp only at h rb;split at h
   ·rename_i q;simp only[Gb] at h;subst h;exact .inl ⟨(py h1).2,by rw[rb];exact q⟩
   ·rename_i q;simp only[Gb] at h;subst h;exact .inr ⟨(py j).2,by rw[ra];omega⟩
def OW {a b:List aH} (o:dj 0 a=true) (p:dj 0 b=true):eH (fA a b++fB a b) (YE a b):=by
 refine⟨CH (ww a b 0 o p),fun x j=>Kv (KV o p) (OK o p j),fun y hy=>?_⟩;have hm:=eg a b 0 y.client o p;have q:∃x,Yo (YE a b) y.client=some x:=by
  rw[hm];rcases GS.1 hy with hy|hy<;>simp only[fA,fB,G8] at hy
  ·have⟨x,j⟩:=KC hy.1;rw[j];cases Yo b y.client with
   |none=>exact⟨x,rfl⟩
   |some v=>simp only;split<;>exact⟨_,rfl⟩
  ·have⟨x,j⟩:=KC hy.1;rw[j];cases Yo a y.client with
   |none=>exact⟨x,rfl⟩
   |some v=>simp only;split<;>exact⟨_,rfl⟩
 have⟨x,j⟩:=q;exact⟨x,(py j).2,(py j).1⟩
def V4 {a b:List aH} (j:dj 0 a=true) (o:dj 0 b=true):(YE a b).length=(fA a b++fB a b).length:=by
 have u:=OW j o;have h1:=D6 (OH u.inc) (fun x p=>OK j o p);have D:=D6 (V0 (KV j o)) (m:=YE a b) fun y w=>by
  have⟨x,p,B⟩:=u.all y w;have z:=Kv (KV j o) w;have q:=u.first x p;rw[B,z] at q;simp only[Gb] at q;rw[q];exact p
 omega
def ZD {a b:List aH} {i:Nat} {x:aH} (j:a[i]?=some x):(a.take (i+1)).filter (fun x=>decide (eV b x.client<=x.req))=
  if eV b x.client<=x.req then (a.take i).filter (fun x=>decide (eV b x.client<=x.req))++[x] else (a.take i).filter (fun x=>decide (eV b x.client<=x.req)):=by
 rw[YW j,List.filter_append]
 split<;>simp_all
def ZE {a b:List aH} {i:Nat} {x:aH} (j:b[i]?=some x):(b.take (i+1)).filter (fun y=>decide (eV a y.client<y.req))=
  if eV a x.client<x.req then (b.take i).filter (fun y=>decide (eV a y.client<y.req))++[x] else (b.take i).filter (fun y=>decide (eV a y.client<y.req)):=by
 rw[YW j,List.filter_append]
 split<;>simp_all
def MG:=HpC 92 F92<|HpA Do<|HpA Dp<|uN
def VF (h:MG Pg) (a b:List aH) (X:a.length<=10000) (Y:b.length<=10000):K' Pg 92 [Yb a,Yb b]=some (ut (YX a b)):=by
 have⟨h,M,N,L⟩:=h;have p:=Ca M a (by omega);have w:=Ca M b (by omega);have D:=fun c=>DV N a c (by omega);have E:=fun c=>DV N b c (by omega);simp only[Yb] at p w D E;refine aA h rfl ?_;cases B:YA a with
 |false=>simp only[go_sem,p,B,YX]
 |true=>
 cases I:YA b with
 |false=>simp only[go_sem,p,w,B,I,YX]
 |true=>
  have O:=sE B;have P:=sE I;have R:=V4 O.1 P.1;have u:=A5 L (fA a b++fB a b) (by have:=D0 a b;omega) _ (OW O.1 P.1);simp only[Yb] at u;simp only[go_sem,p,w,B,I,YX];unfold l92_0;refine bu (fun (i:Nat) S=>i<=a.length/\S.ρ 0=Yb a/\S.ρ 1=Yb b/\S.A 6=some (11,(fA (a.take i) b).map YK,.live)/\S.ρ 6=.own 6 11 (fA (a.take i) b).length/\S.ρ 7=iz i) (fun i=>a.length-i) 0 ?_ ?_
  ·simp[go_sem,fA]
  ·intro i S ⟨hi,h0,h1,y,q,z⟩;have Q:(fA (a.take i) b).length<=i:=GI (List.length_filter_le _ _) (by simp;omega);have o:(fA (a.take i) b).length+1<=aU:=by simp only[aU];omega
   simp only[go_sem,h0,z];refine aY (fun h=>?_) (fun h=>?_)
   ·have h:=Yj h;have⟨x,J,W⟩:=aZ h;have j:=ZD (b:=b) J;simp only[go_sem,h0,h1,z,J,E];refine aY (fun H=>?_) (fun H=>?_)
    ·rw[Gt (Gc H)] at j;simp only[go_sem,h0,h1,y,q,z,J,o];exact⟨i+1,by omega,by omega,by simp only[fA] at j ⊢;rw[j];simp[YK,YB],by simp only[fA] at j ⊢;rw[j];simp,by rw[Yn h (by omega)]⟩
    ·rw[Gn (Ga H)] at j;simp only[go_sem,h0,h1,y,q,z];exact⟨i+1,by omega,by omega,by simp only[fA] at j ⊢;rw[j],by simp only[fA] at j ⊢;rw[j],by rw[Yn h (by omega)]⟩
   ·have h:=YC hi h;subst h;rw[GB] at y q Q;simp only[go_sem];unfold l92_1;refine bu (fun (i:Nat) S=>i<=b.length/\S.ρ 0=Yb a/\S.ρ 1=Yb b/\S.A 6=some (11,(fA a b++fB a (b.take i)).map YK,.live)/\S.ρ 6=.own 6 11 (fA a b++fB a (b.take i)).length/\S.ρ 8=iz i) (fun i=>b.length-i) 0 ?_ ?_
    ·simp[go_sem,fB,h0,h1,y,q]
    ·intro i S ⟨hi,h0,h1,y,q,z⟩;have U:(fB a (b.take i)).length<=i:=GI (List.length_filter_le _ _) (by simp;omega);have o:(fA a b++fB a (b.take i)).length+1<=aU:=by simp only[aU,Gf];omega
     simp only[go_sem,h1,z];refine aY (fun h=>?_) (fun h=>?_)
     ·have h:=Yj h;have⟨x,J,W⟩:=aZ h;have j:=ZE (a:=a) J;simp only[Gf] at o;simp only[go_sem,h0,h1,z,J,D];refine aY (fun H=>?_) (fun H=>?_)
      ·rw[Gt (Gc H)] at j;simp only[go_sem,h0,h1,y,q,z,J,o,Gz];exact⟨i+1,by omega,by omega,by simp only[fB] at j ⊢;rw[j];simp[YK,YB],by simp only[fB] at j ⊢;rw[j];simp;omega,by rw[Yn h (by omega)]⟩
      ·rw[Gn (Ga H)] at j;simp only[go_sem,h0,h1,y,q,z,Gz];exact⟨i+1,by omega,by omega,by simp only[fB] at j ⊢;rw[j],by simp only[fB] at j ⊢;rw[j],by rw[Yn h (by omega)]⟩
     ·have h:=YC hi h;subst h;rw[GB] at y q;have T:decide ((8:Int)<(((fA a b).length+(fB a b).length:Nat):Int))=decide (8<(YE a b).length):=GO.2 (by rw[R,Gf];omega);simp only[Gz] at y u;simp only[Gf] at q;have hn:8<(YE a b).length\/¬8<(YE a b).length:=by omega
      rcases hn with hn|hn
      ·simp only[go_sem,q,T,hn]
      ·simp only[go_sem,y,q,T,hn,u]
structure aM where
 id:Int
 epoch:Int
 span:ce
 phase:Int
 ents:List aF
 mark:aB
 top:aB
 done:List aH
 hold:Int
 seen:Int
 move:Int
 closed:Int
@[go_sem] def Yg (s:aM):Eq:=[iz s.id,iz s.epoch,.str s.span.lo,.str s.span.hi,iz s.phase,Yf s.ents,iz s.mark.wall,iz s.mark.tick,iz s.mark.node,iz s.top.wall,iz s.top.tick,iz s.top.node,Yb s.done,iz s.hold,iz s.seen,iz s.move,iz s.closed]
@[go_sem] def Yw (l:List aM):V:=.slice 17 (l.map Yg)
structure aP where
 shards:List aM
 top:aB
 dropped:Int
@[go_sem] def Yq (c:aP):Eq:=[Yw c.shards,iz c.top.wall,iz c.top.tick,iz c.top.node,iz c.dropped]
structure Rq where
 client:Int
 req:Int
 kind:Int
 key:mp
 value:mp
 had:Bool
 old:mp
 at_:aB
 hi:mp
 limit:Int
@[go_sem] def lu (r:Rq):Eq:=[iz r.client,iz r.req,iz r.kind,.str r.key,.str r.value,.bool r.had,.str r.old,iz r.at_.wall,iz r.at_.tick,iz r.at_.node,.str r.hi,iz r.limit]
def dq (n:Int):Bool:=decide (0<=n)&&decide (n<=1099511627776)
def bE (s:aM):Bool:=Ym s.id&&(Ym s.epoch&&(dq s.hold&&(dq s.seen&&(dq s.move&&(dq s.closed&&(decide (1<=s.phase)&&(decide (s.phase<=3)&&(Yz s.span&&(ck s.ents&&(Ya s.mark&&(Ya s.top&&YA s.done)))))))))))
def bx (s:aM):Bool:=bE s&&s.ents.all fun e=>dF s.span e.key
def cc (s:aM) (top:aB):Bool:=s.ents.all fun e=>match e.chain.getLast? with|some v=>decide (Yc v.at_ top<=0)|none=>true
def lp (top:aB):Int->List aM->Bool
 |_,[]=>true
 |p,s::l=>decide (p<s.id)&&(bx s&&(cc s top&&lp top s.id l))
def Yy (c:aP):Bool:=decide (c.shards.length<=8)&&(Ya c.top&&(dq c.dropped&&lp c.top 0 c.shards))
def df (r:Rq):Bool:=Ym r.client&&(Ym r.req&&(decide (1<=r.kind)&&(decide (r.kind<=6)&&(decide (r.value.length<=16)&&(decide (r.old.length<=16)&&(decide (0<=r.limit)&&(decide (r.limit<=8)&&(Ya r.at_&&((decide (r.hi=[])||aS r.hi) &&
 (if r.kind=6 then (decide (r.key=[])||aS r.key)&&decide (1<=r.limit) else aS r.key))))))))))
def Yk:aM:=⟨0,0,⟨[],[]⟩,0,[],⟨0,0,0⟩,⟨0,0,0⟩,[],0,0,0,0⟩
def kz (s:aM):Prop:=Sm s.ents/\s.done.length<=10000/\(∀d∈s.done,d.ans.items.length<2^60)/\s.span.lo.length<=10000/\s.span.hi.length<=10000
def eG (c:aP):Prop:=c.shards.length<=10000/\∀s∈c.shards,kz s
def Y3 (l:List aM) (id:Int):Option aM:=l.find? fun s=>decide (s.id=id)
def br:List aM->aM->List aM
 |[],s=>[s]
 |x::l,s=>if s.id<x.id then s::x::l else if x.id=s.id then s::l else x::br l s
def fE (l:List aM) (id:Int):List aM:=l.filter fun s=>!decide (s.id=id)
def gN (D:Bool):Rd->Nat×Rd:=bif D then cu (tk 9) 0 else rd (tk 9) 0
def gT (D:Bool):Rd->mp×Rd:=bif D then cu dh [] else rd dh []
def gF (D:Bool):Rd->Bool×Rd:=bif D then cu dY false else rd dY false
def gS (D:Bool):Rd->aB×Rd:=bif D then cu cJ zS else rd cJ zS
def gL (D:Bool) {α:Type} (R:Rd->α×Rd):Rd->List α×Rd:=bif D then lstD R else lstP R
def cN {D:Bool}:dA (gN D) aD (fun n=>n<2^63):=by
 cases D
 ·exact eC
 ·exact jw
def cT {D:Bool}:dA (gT D) dE (fun t=>t.length<2^63):=by
 cases D
 ·exact dA.rd WI
 ·exact dA.cu WI
def cF {D:Bool}:dA (gF D) fp (fun _=>True):=by
 have h:∀{s r:mp} {b:Bool},dY s=some (b,r)↔s=fp b++r/\True:=fun {s r b}=>by rw[XW];simp
 cases D
 ·exact dA.rd h
 ·exact dA.cu h
def cS {D:Bool}:dA (gS D) dJ (fun s=>Ya s=true):=by
 cases D
 ·exact dA.rd WH
 ·exact dA.cu WH
def cL {D:Bool} {α:Type} {R:Rd->α×Rd} {W:α->mp} {P:α->Prop} (h:dA R W P) (j:∀a,P a->1<=(W a).length):dA (gL D R) (fC W) (fun l=>l.length<2^63/\∀a∈l,P a):=by
 cases D
 ·exact h.lstP j
 ·exact h.lstD
def K9 {t:mp}:1<=(dE t).length:=by
 have:=ue t.length;simp only[dE,Gf];omega
def gV (D:Bool):Rd->bz×Rd:=gW (fun p:aB×Bool×mp=>⟨p.1,p.2.1,p.2.2⟩) (bR (gS D) (bR (gF D) (gT D)))
def fG (v:bz):mp:=dJ v.at_++(fp v.gone++dE v.val)
def EP (v:bz):Prop:=(Ya v.at_=true/\True/\v.val.length<2^63)/\True
def cV {D:Bool}:dA (gV D) fG EP:=by
 have h:=((cS (D:=D)).pair ((cF (D:=D)).pair (cT (D:=D)))).map (g:=fun p:aB×Bool×mp=>(⟨p.1,p.2.1,p.2.2⟩:bz)) (k:=fun v=>(v.at_,v.gone,v.val)) (fun a=>rfl);exact⟨fun j=>⟨(h.get j).1,(h.get j).2.1,GN⟩,fun o=>h.put ⟨o.1,rfl⟩,h.bad,h.len⟩
def gE (D:Bool):Rd->aF×Rd:=gW (fun p:mp×List bz=>⟨p.1,p.2⟩) (bR (gT D) (gL D (gV D)))
def eT (e:aF):mp:=dE e.key++fC fG e.chain
def wT (e:aF):Prop:=e.key.length<2^63/\e.chain.length<2^63/\∀v∈e.chain,EP v
def Lb (v:bz) (h:EP v):1<=(fG v).length:=by
 have:=K9 (t:=v.val);simp only[fG,Gf];omega
def cE {D:Bool}:dA (gE D) eT wT:=by
 have h:=((cT (D:=D)).pair (cL (D:=D) (cV (D:=D)) Lb)).map (g:=fun p:mp×List bz=>(⟨p.1,p.2⟩:aF)) (k:=fun v=>(v.key,v.chain)) (fun a=>rfl);exact⟨fun j=>⟨(h.get j).1,(h.get j).2.1⟩,fun o=>h.put ⟨o,rfl⟩,h.bad,h.len⟩
def mY (p:Nat×Nat×Nat×aB×Bool×mp):aH:=⟨p.1,p.2.1,⟨p.2.2.1,p.2.2.2.1,p.2.2.2.2.1,p.2.2.2.2.2,[],[],false⟩⟩
def gD (D:Bool):Rd->aH×Rd:=gW mY (bR (gN D) (bR (gN D) (bR (gN D) (bR (gS D) (bR (gF D) (gT D))))))
def ff (d:aH):mp:=aD d.client.toNat++(aD d.req.toNat++(aD d.ans.err.toNat++(dJ d.ans.at_++(fp d.ans.found++dE d.ans.val))))
def Me (d:aH):Nat×Nat×Nat×aB×Bool×mp:=(d.client.toNat,d.req.toNat,d.ans.err.toNat,d.ans.at_,d.ans.found,d.ans.val)
def EF (d:aH):Prop:=(d.client.toNat<2^63/\d.req.toNat<2^63/\d.ans.err.toNat<2^63/\Ya d.ans.at_=true/\True/\d.ans.val.length<2^63)/\mY (Me d)=d
def cD {D:Bool}:dA (gD D) ff EF:=
 ((cN (D:=D)).pair ((cN (D:=D)).pair ((cN (D:=D)).pair ((cS (D:=D)).pair ((cF (D:=D)).pair (cT (D:=D))))))).map (g:=mY) (k:=Me) (fun a=>rfl)
def Ld (e:aF) (h:wT e):1<=(eT e).length:=by
 have:=K9 (t:=e.key);simp only[eT,Gf];omega
def KK (d:aH) (h:EF d):1<=(ff d).length:=by
 have:=ue d.client.toNat;simp only[ff,Gf];omega
abbrev N9:=Nat×Nat×Nat×Nat×Nat×Nat×Nat×mp×mp×aB×aB×List aF×List aH
def mh (p:N9):aM:=
 ⟨p.1,p.2.1,⟨p.2.2.2.2.2.2.2.1,p.2.2.2.2.2.2.2.2.1⟩,p.2.2.1,p.2.2.2.2.2.2.2.2.2.2.2.1,p.2.2.2.2.2.2.2.2.2.1,p.2.2.2.2.2.2.2.2.2.2.1,p.2.2.2.2.2.2.2.2.2.2.2.2,p.2.2.2.1,p.2.2.2.2.1,p.2.2.2.2.2.1,p.2.2.2.2.2.2.1⟩
def Mf (s:aM):N9:=(s.id.toNat,s.epoch.toNat,s.phase.toNat,s.hold.toNat,s.seen.toNat,s.move.toNat,s.closed.toNat,s.span.lo,s.span.hi,s.mark,s.top,s.ents,s.done)
def dX (D:Bool):Rd->aM×Rd:=gW mh (bR (gN D) (bR (gN D) (bR (gN D) (bR (gN D) (bR (gN D) (bR (gN D) (bR (gN D) (bR (gT D) (bR (gT D) (bR (gS D) (bR (gS D) (bR (gL D (gE D)) (gL D (gD D))))))))))))))
def cW (s:aM):mp:=aD s.id.toNat++(aD s.epoch.toNat++(aD s.phase.toNat++(aD s.hold.toNat++(aD s.seen.toNat++(aD s.move.toNat++(aD s.closed.toNat++(dE s.span.lo++(dE s.span.hi++(dJ s.mark++(dJ s.top++(fC eT s.ents++fC ff s.done)))))))))))
def Cc (s:aM):Prop:=(s.id.toNat<2^63/\s.epoch.toNat<2^63/\s.phase.toNat<2^63/\s.hold.toNat<2^63/\s.seen.toNat<2^63/\s.move.toNat<2^63/\s.closed.toNat<2^63/\s.span.lo.length<2^63/\s.span.hi.length<2^63/\
 Ya s.mark=true/\Ya s.top=true/\(s.ents.length<2^63/\∀e∈s.ents,wT e)/\(s.done.length<2^63/\∀d∈s.done,EF d))/\mh (Mf s)=s
def tf {D:Bool}:dA (dX D) cW Cc:=
 ((cN (D:=D)).pair ((cN (D:=D)).pair ((cN (D:=D)).pair ((cN (D:=D)).pair ((cN (D:=D)).pair ((cN (D:=D)).pair ((cN (D:=D)).pair ((cT (D:=D)).pair ((cT (D:=D)).pair ((cS (D:=D)).pair ((cS (D:=D)).pair
  ((cL (D:=D) (cE (D:=D)) Ld).pair (cL (D:=D) (cD (D:=D)) KK))))))))))))).map (g:=mh) (k:=Mf) (fun a=>rfl)
def EA (s:aM) (h:Cc s):1<=(cW s).length:=by
 have:=ue s.id.toNat;simp only[cW,Gf];omega
def iM (p:aB×Nat×List aM):aP:=⟨p.2.2,p.1,p.2.1⟩
def Md (c:aP):aB×Nat×List aM:=(c.top,c.dropped.toNat,c.shards)
def gC (D:Bool):Rd->aP×Rd:=gW iM (bR (gS D) (bR (gN D) (gL D (dX D))))
def cB (c:aP):mp:=dJ c.top++(aD c.dropped.toNat++fC cW c.shards)
def CV (c:aP):Prop:=(Ya c.top=true/\c.dropped.toNat<2^63/\(c.shards.length<2^63/\∀s∈c.shards,Cc s))/\iM (Md c)=c
def cC {D:Bool}:dA (gC D) cB CV:=
 ((cS (D:=D)).pair ((cN (D:=D)).pair (cL (D:=D) (tf (D:=D)) EA))).map (g:=iM) (k:=Md) (fun a=>rfl)
def kN (l:List aM):Prop:=l.Pairwise fun a b=>a.id<b.id
theorem Py {top:aB}:∀{l:List aM} {p:Int},lp top p l=true↔kN l/\∀s∈l,p<s.id/\bx s=true/\cc s top=true
 |[],p=>by simp[lp,kN]
 |s::l,p=>by
  simp only[lp,Ge,Gj,Py (l:=l),kN,GT,GH,forall_eq_or_imp];constructor
  ·rintro⟨h1,q,u,w,o⟩;exact⟨⟨fun x j=>(o x j).1,w⟩,⟨h1,q,u⟩,fun x j=>⟨by have:=(o x j).1;omega,(o x j).2⟩⟩
  ·rintro⟨⟨h1,q⟩,⟨u,w,o⟩,y⟩;exact⟨u,w,o,q,fun x j=>⟨h1 x j,(y x j).2⟩⟩
def Yv {c:aP}:Yy c=true↔c.shards.length<=8/\Ya c.top=true/\dq c.dropped=true/\kN c.shards/\∀s∈c.shards,0<s.id/\bx s=true/\cc s c.top=true:=by
 simp only[Yy,Ge,Gj,Py]
def cY (n:Int):List aM->Nat
 |[]=>0
 |s::l=>if s.id<n then cY n l+1 else 0
theorem CD {n:Int}:∀(l:List aM),cY n l<=l.length
 |[]=>GC _
 |s::l=>by
  have:=CD (n:=n) l;simp only[cY,List.length_cons];split<;>omega
theorem PR {n:Int}:∀ {l:List aM} {j:Nat} {s:aM}, j < cY n l -> l[j]? = some s -> s.id < n
  | [], _, _, h, _ => by simp [cY] at h
  | a :: l, j, s, h, hs => by
    simp only [cY] at h;split at h
    · rename_i o
      cases j with
      | zero => obtain rfl:a=s:=by simpa using hs
                exact o
      | succ j => exact PR (l:=l) (j:=j) (by omega) (by simpa using hs)
    · omega
theorem PQ {n:Int}:∀ {l:List aM} {j:Nat} {s:aM}, kN l -> cY n l <= j -> l[j]? = some s -> n <= s.id
  | [], _, _, _, _, hs => by simp at hs
  | a :: l, j, s, h, hj, hs => by
    have⟨h1, o⟩:=GT.1 h;simp only [cY] at hj;split at hj
    · cases j with
      | zero => omega
      | succ j => exact PQ (l:=l) (j:=j) o (by omega) (by simpa using hs)
    · cases j with
      | zero => obtain rfl:a=s:=by simpa using hs
                omega
      | succ j => have:=h1 s (List.mem_of_getElem? (by simpa using hs)); omega
def eB (n:Int) (l:List aM):Bool:=match l[cY n l]? with|none=>false|some s=>decide (s.id=n)
theorem Lf {n:Int}:∀{l:List aM},kN l->Y3 l n=if eB n l then l[cY n l]? else none
 |[],_=>rfl
 |a::l,h=>by
  have⟨h1,y⟩:=GT.1 h;have u:=Lf (n:=n) y;simp only[Y3] at u;simp only[Y3,List.find?_cons];rcases rj a.id n with q|q|q
  ·have p:decide (a.id=n)=false:=Gp (by omega);have j:cY n (a::l)=cY n l+1:=by simp[cY,q]
   have o:eB n (a::l)=eB n l:=by simp[eB,j]
   rw[p,o,j];simpa using u
  ·have j:cY n (a::l)=0:=by simp[cY];omega
   have o:eB n (a::l)=true:=by simp[eB,j,q]
   rw[o,j];simp[q]
  ·have p:decide (a.id=n)=false:=Gp (by omega);have j:cY n (a::l)=0:=by simp[cY];omega
   have o:eB n (a::l)=false:=by simp[eB,j];omega
   have w:l.find? (fun s=>decide (s.id=n))=none:=List.find?_eq_none.2 fun x z=>by have:=h1 x z;simp;omega
   rw[p,o];simp[w]
def Ys {l:List aM} {n:Int} {s:aM} (h:Y3 l n=some s):s∈l/\s.id=n:=⟨List.mem_of_find?_eq_some h,by simpa using List.find?_some h⟩
theorem Lz {s:aM}:∀{l:List aM},kN l->br l s=l.take (cY s.id l)++s::l.drop (cY s.id l+if eB s.id l then 1 else 0)
 |[],_=>rfl
 |x::l,h=>by
  have⟨h1,u⟩:=GT.1 h;have w:=Lz (s:=s) u;simp only[br];rcases rj x.id s.id with q|q|q
  ·have j:cY s.id (x::l)=cY s.id l+1:=by simp[cY,q]
   have o:eB s.id (x::l)=eB s.id l:=by simp[eB,j]
   have p:cY s.id l+1+(if eB s.id l=true then 1 else 0)=cY s.id l+(if eB s.id l=true then 1 else 0)+1:=by omega
   rw[Gn (by omega),Gn (by omega),w,j,o,p];rfl
  ·have j:cY s.id (x::l)=0:=by simp[cY];omega
   have o:eB s.id (x::l)=true:=by simp[eB,j,q]
   rw[Gn (by omega),Gt q,j,o];rfl
  ·have j:cY s.id (x::l)=0:=by simp[cY];omega
   have o:eB s.id (x::l)=false:=by simp[eB,j];omega
   rw[Gt q,j,o];rfl
def Es {l:List aM} {n:Int} (h:∀s∈l,s.id≠n):fE l n=l:=List.filter_eq_self.2 fun s j=>by simp[h s j]
theorem PB {n:Int}:∀{l:List aM},kN l->fE l n=if eB n l then l.take (cY n l)++l.drop (cY n l+1) else l
 |[],_=>rfl
 |x::l,h=>by
  have⟨h1,y⟩:=GT.1 h;have w:=PB (n:=n) y;simp only[fE] at w;simp only[fE,List.filter_cons];rcases rj x.id n with q|q|q
  ·have p:decide (x.id=n)=false:=Gp (by omega);have j:cY n (x::l)=cY n l+1:=by simp[cY,q]
   have o:eB n (x::l)=eB n l:=by simp[eB,j]
   rw[p,j,o,w];cases eB n l<;>simp
  ·have j:cY n (x::l)=0:=by simp[cY];omega
   have o:eB n (x::l)=true:=by simp[eB,j,q]
   have:=Es (l:=l) (n:=n) fun s u=>by have:=h1 s u;omega
   simp only[fE] at this;rw[j,o];simp[q,this]
  ·have p:decide (x.id=n)=false:=Gp (by omega);have j:cY n (x::l)=0:=by simp[cY];omega
   have o:eB n (x::l)=false:=by simp[eB,j];omega
   have:=Es (l:=l) (n:=n) fun s u=>by have:=h1 s u;omega
   simp only[fE] at this;rw[p,o];simp[this]
def qU (s:aM):List aM->Bool->List aM
 |[],put=>if put then [] else [s]
 |x::l,put=>(if !put&&decide (s.id<=x.id) then [s] else [])++((if decide (x.id=s.id) then [] else [x])++qU s l (put||decide (s.id<=x.id)))
theorem yi {s:aM}:∀{l:List aM},qU s l true=fE l s.id
 |[]=>rfl
 |x::l=>by
  simp only[qU,Gx,Gm,Gl,Gv,jm,yi (l:=l),fE,List.filter_cons];cases decide (x.id=s.id)<;>simp
theorem oO {s:aM}:∀{l:List aM},kN l->qU s l false=br l s
 |[],_=>rfl
 |x::l,h=>by
  have⟨h1,u⟩:=GT.1 h;simp only[qU,br,GR,Gy,G7];rcases rj x.id s.id with q|q|q
  ·have j:decide (s.id<=x.id)=false:=Gp (by omega);have o:decide (x.id=s.id)=false:=Gp (by omega);rw[j,o,Gn (show ¬s.id<x.id by omega),Gn (show ¬x.id=s.id by omega),oO u];rfl
  ·have j:decide (s.id<=x.id)=true:=Gu (by omega);have o:decide (x.id=s.id)=true:=Gu q;rw[j,o,Gn (show ¬s.id<x.id by omega),Gt q,yi,Es fun y p=>by have:=h1 y p;omega];rfl
  ·have j:decide (s.id<=x.id)=true:=Gu (by omega);have o:decide (x.id=s.id)=false:=Gp (by omega);rw[j,o,Gt q,yi,Es fun y p=>by have:=h1 y p;omega];rfl
theorem D9 {s:aM}:∀{l:List aM} {x:aM},x∈br l s->x=s\/x∈l
 |[],x,h=>by simpa [br] using h
 |y::l,x,h=>by
  simp only[br] at h;split at h
  ·rcases GH.1 h with h|h
   ·exact .inl h
   ·exact .inr h
  ·split at h
   ·rcases GH.1 h with h|h
    ·exact .inl h
    ·exact .inr (by simp[h])
   ·rcases GH.1 h with h|h
    ·exact .inr (by simp[h])
    ·rcases D9 h with h|h
     ·exact .inl h
     ·exact .inr (by simp[h])
theorem Oe {s:aM}:∀{l:List aM},(br l s).length<=l.length+1
 |[]=>by simp[br]
 |y::l=>by
  have:=Oe (s:=s) (l:=l);simp only[br]
  repeat' split
  all_goals simp only[List.length_cons];omega
theorem Li {s:aM}:∀{l:List aM},kN l->kN (br l s)
 |[],_=>List.pairwise_singleton _ _
 |y::l,h=>by
  have⟨h1,j⟩:=GT.1 h;simp only[br];split
  ·rename_i q;exact GT.2 ⟨fun z hz=>by
    rcases GH.1 hz with rfl|hz
    ·exact q
    ·have:=h1 z hz;omega,h⟩
  ·split
   ·rename_i q;exact GT.2 ⟨fun z hz=>by have:=h1 z hz;omega,j⟩
   ·refine GT.2 ⟨fun z hz=>?_,Li j⟩;rcases D9 hz with rfl|hz
    ·omega
    ·exact h1 z hz
def PC {n:Int} {l:List aM} (h:kN l):kN (fE l n):=h.sublist uJ
theorem CF:∀{l:List bz} {p:Option bz},ed p l=true->∀v∈l,YQ v=true
 |[],_,_,v,hv=>by simp at hv
 |a::l,p,h,v,hv=>by
  simp only[ed,Ge] at h;rcases GH.1 hv with rfl|hv
  ·exact h.1.1
  ·exact CF h.2 v hv
theorem xZ:∀{l:List aF} {p:Option aF},gc p l=true->∀v∈l,iw v=true
 |[],_,_,v,hv=>by simp at hv
 |a::l,p,h,v,hv=>by
  simp only[gc,Ge] at h;rcases GH.1 hv with rfl|hv
  ·exact h.1
  ·exact xZ h.2.2 v hv
theorem wy:∀{l:List aH} {p:Int},dj p l=true->∀v∈l,cm v=true
 |[],_,_,v,hv=>by simp at hv
 |a::l,p,h,v,hv=>by
  simp only[dj,Ge] at h;rcases GH.1 hv with rfl|hv
  ·exact h.2.1
  ·exact wy h.2.2 v hv
def Zv {v:bz} (h:YQ v=true):EP v:=by
 simp only[YQ,Ge,Gj] at h;exact⟨⟨h.1.1,GN,by omega⟩,GN⟩
def Qa {e:aF} (h:iw e=true):wT e:=by
 simp only[iw,Yh,Ge,Gj] at h;have⟨h1,p,j,q⟩:=h;exact⟨by have:=(ir h1).1;omega,by omega,fun v o=>Zv (CF j v o)⟩
def oI {n:Int} (h:0<=n):((n.toNat:Nat):Int)=n:=by omega
def ZT {d:aH} (h:cm d=true):EF d:=by
 simp only[cm,Ym,nn,Ge,Gj,GM] at h;have⟨⟨u,B⟩,⟨w,D⟩,j,E,c3,H,o,p,q⟩:=h;refine⟨⟨by omega,by omega,by omega,c3,GN,by omega⟩,?_⟩;have⟨y,z,⟨I,at_,J,N,it,M,L⟩⟩:=d;simp only at u w j o p q;subst o;subst p;subst q;simp only[mY,Me,oI (show (0:Int)<=y by omega),oI (show (0:Int)<=z by omega),oI j]
def wK {s:aM} (h:bx s=true):Cc s:=by
 simp only[bx,bE,Ym,dq,Yz,ck,YA,Ge,G1,Gj,GG] at h;obtain⟨⟨⟨u,M⟩,⟨w,N⟩,⟨j,O⟩,⟨o,Q⟩,⟨p,S⟩,⟨q,U⟩,z,W,⟨i1,i2⟩,⟨Y,E⟩,H,I,J,Z⟩,-⟩:=h;refine⟨⟨by omega,by omega,by omega,by omega,by omega,by omega,by omega,?_,?_,H,I,⟨by omega,fun e D=>Qa (xZ E e D)⟩,⟨by omega,fun d B=>ZT (wy J d B)⟩⟩,?_⟩
 ·rcases i1 with i1|i1
  ·rw[i1];simp
  ·have:=(ir i1).1;omega
 ·rcases i2 with i2|i2
  ·rw[i2];simp
  ·have:=(ir i2.1).1;omega
 ·have⟨id,y,⟨lo,hi⟩,L,T,mk,tp,R,X,se,mv,P⟩:=s;simp only at u w j o p q z;simp only[mh,Mf,oI (show (0:Int)<=id by omega),oI (show (0:Int)<=y by omega),oI j,oI o,oI p,oI q,oI (show (0:Int)<=L by omega)]
def O4 {c:aP} (h:Yy c=true):CV c:=by
 have⟨h1,o,j,w,p⟩:=Yv.1 h;simp only[dq,Ge,Gj] at j;refine⟨⟨o,by omega,by omega,fun s q=>wK (p s q).2.1⟩,?_⟩;have⟨sh,y,u⟩:=c;simp only at j;simp only[iM,Md,oI j.1]
def gG (t:mp):Option aP:=if (gC false (t,false)).2=([],false)/\Yy (gC false (t,false)).1=true then some (gC false (t,false)).1 else none
def xQ {t:mp} {c:aP}:gG t=some c↔t=cB c/\Yy c=true:=by
 unfold gG;constructor
 ·intro h;split at h
  ·rename_i p;simp only[Gb] at h;have⟨h1,j⟩:=p;have⟨o,q⟩:=(cC (D:=false)).get (s:=t) (r:=[]) (a:=c) (Prod.ext h h1);rw[h] at j;exact⟨by rw[o];simp,j⟩
  ·cases h
 ·rintro⟨rfl,h⟩;have:=(cC (D:=false)).put (r:=[]) (O4 h);rw[GD] at this;rw[this,Gt ⟨rfl,h⟩]
def tz {t:mp}:(if (gC true (t,false)).2.2=false/\Yy (gC true (t,false)).1=true/\cB (gC true (t,false)).1=t then some (gC true (t,false)).1 else none)=gG t:=by
 cases hq:gG t with
 |some c=>
  obtain⟨rfl,h⟩:=xQ.1 hq;have:=(cC (D:=true)).put (r:=[]) (O4 h);rw[GD] at this;rw[this,Gt ⟨rfl,h,rfl⟩]
 |none=>
  rw[Gn];rintro⟨h1,h2,h3⟩;rw[xQ.2 ⟨h3.symm,h2⟩] at hq;cases hq
def mR (t:mp):Option aM:=if (dX false (t,false)).2=([],false)/\bx (dX false (t,false)).1=true then some (dX false (t,false)).1 else none
def La {t:mp} {c:aM}:mR t=some c↔t=cW c/\bx c=true:=by
 unfold mR;constructor
 ·intro h;split at h
  ·rename_i p;simp only[Gb] at h;have⟨h1,j⟩:=p;have⟨o,q⟩:=(tf (D:=false)).get (s:=t) (r:=[]) (a:=c) (Prod.ext h h1);rw[h] at j;exact⟨by rw[o];simp,j⟩
  ·cases h
 ·rintro⟨rfl,h⟩;have:=(tf (D:=false)).put (r:=[]) (wK h);rw[GD] at this;rw[this,Gt ⟨rfl,h⟩]
def Xq {t:mp}:(if (dX true (t,false)).2.2=false/\bx (dX true (t,false)).1=true/\cW (dX true (t,false)).1=t then some (dX true (t,false)).1 else none)=mR t:=by
 cases j:mR t with
 |some c=>
  obtain⟨rfl,h⟩:=La.1 j;have:=(tf (D:=true)).put (r:=[]) (wK h);rw[GD] at this;rw[this,Gt ⟨rfl,h,rfl⟩]
 |none=>
  rw[Gn];rintro⟨h1,o,p⟩;rw[La.2 ⟨p.symm,o⟩] at j;cases j
def rW:=HpR 466 F466 0 nY
def sA (h:rW Pg) (x:Rd) (u:x.1.length<2^62):K' Pg 466 [.tuple (.lref 0 0::bM x)]=some (.tuple [iz (rL x).1,.tuple (bM (rL x).2)]):=by
 have⟨h,j⟩:=h;have k:=gJ j x u;have o:=fun (S:St) (hm:S.μ 0=some (bM x,false))=>aG (p:=20000) k hm;unfold rL;generalize rd (tk 9) 0 x=y at o;have⟨n,s,b⟩:=y;simp only[go_sem] at o;refine sO [.t 2] (ws:=[iz _]) h rfl rfl (hK _) (hK _) (nt _) fun S ⟨r0,r,hm,m0,w⟩=>?_;simp only[go_sem] at hm;have c:decide (((s.length:Nat):Int)<(n:Int))=decide (s.length<n):=GO.2 (by omega);simp only;by_cases h1:s.length<n
 ·have q:decide (s.length<n)=true:=Gu h1;rw[Gt h1];simp only[F466,c466,go_sem,r0,hm,o,c,q];exact⟨_,rfl,fun _=>rfl⟩
 ·have q:decide (s.length<n)=false:=Gp h1;rw[Gn h1];simp only[F466,c466,go_sem,r0,hm,o,c,q];exact⟨_,rfl,fun _=>rfl⟩
structure dL where
 span:ce
 shard:Int
 cell:Int
 epoch:Int
 deriving DecidableEq
@[go_sem] def C2 (p:dL):Eq:=[.str p.span.lo,.str p.span.hi,iz p.shard,iz p.cell,iz p.epoch]
@[go_sem] def kF (l:List dL):V:=.slice 5 (l.map C2)
def xJ:dL:=⟨⟨[],[]⟩,0,0,0⟩
@[go_sem] def Z6 (o:Option dL):V:=.tuple [.agg (C2 (o.getD xJ)),.bool o.isSome]
def sG (l:List dL) (k:mp):Option dL:=l.find? fun p=>decide (k=[])||dF p.span k
@[go_sem] def Kc (l:List aB):V:=.slice 3 (l.map Ye)
theorem Ka {T:Nat->Option Fn} (h:∀f x,T f=some x->Pg f=some x):∀n,Le (Jm T n) (Jm Pg n)
 |0=>fun f a r h=>by simp[Jm] at h
 |n+1=>fun f a r j=>by
  rw[Jm] at j ⊢;split at j
  ·simp at j
  ·rename_i o p q;rw[h _ _ q];exact j
  ·rename_i F k q;rw[h _ _ q];simp only;split at j<;>try (simp at j;done)
   rename_i w;rw[Gt w];split at j<;>try (simp at j;done)
   simp only[Gg] at j ⊢;have⟨x,h0,y,h1,u⟩:=j;exact⟨x,h0,y,Jq (Ka h n) (GC n) h1,u⟩
  ·rename_i F q;rw[h _ _ q];simp only;split at j<;>try (simp at j;done)
   rename_i w;rw[Gt w];simp only[Gg] at j ⊢;have⟨x,h1,u⟩:=j;exact⟨x,Jq (Ka h n) (GC n) h1,u⟩
def Ck:List (Nat×Fn)->Nat->Option Fn
 |[],_=>none
 |a::l,n=>bif Nat.beq a.1 n then some a.2 else Ck l n
def yy:Option V->Bool
 |some (.bool true)=>true
 |_=>false
theorem Wh:∀{x:Option V},yy x=true->x=some (.bool true)
 |some (.bool true),_=>rfl
 |none,h=>by simp[yy] at h
 |some (.bool false),h=>by simp[yy] at h
 |some (.int _ _),h=>by simp[yy] at h
 |some .undef,h=>by simp[yy] at h
theorem Oc:∀{l:List (Nat×Fn)},(∀a∈l,Pg a.1=some a.2)->∀f x,Ck l f=some x->Pg f=some x
 |[],_,f,x,h=>by simp[Ck] at h
 |a::l,ha,f,x,h=>by
  rw[Ck] at h;cases q:Nat.beq a.1 f with
  |true=>
   rw[q,cond_true] at h;rw[<-Nat.eq_of_beq_eq_true q,<-h];exact ha a (.head _)
  |false=>
   rw[q,cond_false] at h;exact Oc (fun b j=>ha b (.tail _ j)) f x h
def Qx (a:Int):Eq:=[iz a]
def bA (s z n:Nat):V:=if n=0 then .nslice z else .own s z n
def i8 (z:Nat) (rows:List Eq) (n:Nat):Option (Nat×List Eq×Fz):=if n=0 then none else some (z,rows,.live)
@[go_sem] theorem YmE {s z n:Nat}:(bA s z n).cells=some [bA s z n]:=by unfold bA;split<;>rfl
def EW (S:St) (s z n:Nat) (y:V) (a:Option (Nat×List Eq×Fz)):Option (V×St):=if n=0 then DL S s z y a else CZ S s z n y a
def sL {S:St} {s z n:Nat} {y:V}:jD S s z (bA s z n) y=EW S s z n y (S.A s):=by
 unfold bA EW;split
 ·exact NK
 ·rw[NL,NU]
def sM {S:St} {s z n:Nat} {rows:List Eq} {r:Eq} (j:rows.length=n) (o:n+1<=aU) :
  EW S s z n (.slice z [r]) (i8 z rows n)=some (bA s z (n+1),⟨S.ρ,S.μ,aI S.A s (i8 z (rows++[r]) (n+1))⟩):=by
 have p:bA s z (n+1)=.own s z (n+1):=rfl
 have q:i8 z (rows++[r]) (n+1)=some (z,rows++[r],.live):=rfl
 rw[p,q]
 unfold EW i8
 split
 ·rename_i h
  subst h
  have j:rows=[]:=GJ j
  subst j
  have:1<=aU:=by simpa using o
  simp[DL,V.rowsOf,this]
 ·rw[NT]
  simp[V.rowsOf,j,o]
def sF {A:Nat->Option (Nat×List Eq×Fz)} {s z n:Nat} {rows:List Eq} (o:A s=i8 z rows n) (j:rows.length=n):cn A (bA s z n)=some (.slice z rows):=by
 unfold bA;split
 ·rename_i h;subst h;have j:rows=[]:=GJ j;rw[j,ND]
 ·rename_i h;have:A s=some (z,rows,.live):=by rw[o,i8,Gn h]
  simp[cn,this,j]
def ij {α:Type} {R:Rd->α×Rd} {m j:Nat} {vs:List α} {y y':Rd} (hj:j<m) (h:cO R m y=(vs++(cO R (m-j) y').1,(cO R (m-j) y').2)) :
  cO R m y=((vs++[(R y').1])++(cO R (m-(j+1)) (R y').2).1,(cO R (m-(j+1)) (R y').2).2):=by
 rw[h,show m-j=(m-(j+1))+1 by omega]
 simp[cO]
def Eo {α:Type} {R:Rd->α×Rd} {m:Nat} {vs:List α} {y j:Rd} (h:cO R m y=(vs++(cO R (m-m) j).1,(cO R (m-m) j).2)):cO R m y=(vs,j):=by
 rw[h,Nat.sub_self];simp[cO]
def Zu (I:mC Pg) (L:oe Pg) (J:od Pg) {y:Rd} {m:Nat} {key:mp} (hy:y.1.length<=2^20) (hm:m<=2^20) {S:St} {Q:Ex->St->Prop}
  (s0:S.ρ 0=.lref 0 0) (s4:S.ρ 4=.lref 4 0) (aa:S.ρ 49=iz m) (ab:S.ρ 50=iz 0) (n0:S.μ 0=some (bM y,false)) (n4:S.μ 4=some ([.str key,.nslice 5],false)) (w:S.A 62=none)
  (hq:∀S',(∀i,i≠50->i≠51->S'.ρ i=S.ρ i)->S'.μ 0=some (bM (cO (gV false) m y).2,false)->S'.μ 4=some ([.str key,bA 62 5 m],false)->S'.A 62=i8 5 ((cO (gV false) m y).1.map dv) m->(cO (gV false) m y).1.length=m->
   (∀i,i≠0->i≠4->S'.μ i=S.μ i)->(∀i,i≠62->S'.A i=S.A i)->Q .norm S'):Wp (K' Pg) l467_1 S (gm 2 Q):=by
 unfold l467_1
 refine bu (fun (j:Nat) S'=>j<=m/\(∀i,i≠50->i≠51->S'.ρ i=S.ρ i)/\S'.ρ 50=iz j/\(∀i,i≠0->i≠4->S'.μ i=S.μ i)/\(∀i,i≠62->S'.A i=S.A i)/\∃(vs:List bz) (o:Rd),vs.length=j/\o.1.length<=2^20/\
  cO (gV false) m y=(vs++(cO (gV false) (m-j) o).1,(cO (gV false) (m-j) o).2)/\S'.μ 0=some (bM o,false)/\S'.μ 4=some ([.str key,bA 62 5 j],false)/\S'.A 62=i8 5 (vs.map dv) j) (fun j=>m-j) 0 ?_ ?_
 ·simp only[nj]
  exact⟨GY _,by intros;first|rfl|trivial,ab,by intros;first|rfl|trivial,by intros;first|rfl|trivial,[],y,rfl,hy,rfl,n0,n4,w⟩
 ·intro j S' ⟨hj,u,P,N,hA,vs,o,H,Y,B,m0,m4,w⟩
  have t0:S'.ρ 0=.lref 0 0:=(u 0 (by omega) (by omega)).trans s0
  have t4:S'.ρ 4=.lref 4 0:=(u 4 (by omega) (by omega)).trans s4
  have O:S'.ρ 49=iz m:=(u 49 (by omega) (by omega)).trans aa
  cases R:decide ((j:Int)<(m:Int)) with
  |false=>
   have W:j=m:=by have:=Ga R;omega
   subst W
   have he:=Eo B
   simp only[go_sem,P,O,R]
   rw[he] at hq
   refine hq _ (fun i h1 E=>?_) m0 m4 w H N hA
   show aI S'.ρ 51 _ i=_
   rw[jr (by simp;omega)]
   exact u i h1 E
  |true=>
   have X:=Yj R
   have M:=inc64q (i:=j) (by omega)
   have q:=ij X B
   have l1:(rd cJ zS o).2.1.length<=2^20:=GI ((cS (D:=false)).len o) Y
   have Z:(rd dY false (rd cJ zS o).2).2.1.length<=2^20:=GI ((cF (D:=false)).len _) l1
   have T:(rd dh [] (rd dY false (rd cJ zS o).2).2).2.1.length<=2^20:=GI ((cT (D:=false)).len _) Z
   have k1:=ox I o (by omega)
   have k2:=B9 L (rd cJ zS o).2 (by omega)
   have k3:=oC J (rd dY false (rd cJ zS o).2).2 (by omega)
   have hR:gV false o=(⟨(rd cJ zS o).1,(rd dY false (rd cJ zS o).2).1,(rd dh [] (rd dY false (rd cJ zS o).2).2).1⟩,(rd dh [] (rd dY false (rd cJ zS o).2).2).2):=rfl
   rw[hR] at q
   generalize rd cJ zS o=p1 at *
   have⟨b1,x1⟩:=p1
   simp only at k2 k3 q Z T l1
   generalize rd dY false x1=p2 at *
   have⟨b2,x2⟩:=p2
   simp only at k3 q T Z
   generalize rd dh [] x2=p3 at *
   have⟨b3,x3⟩:=p3
   simp only at q T
   have r1:=fun (S:St) (hm:S.μ 0=some (bM o,false))=>aG (p:=21400) k1 hm
   have r2:=fun (S:St) (hm:S.μ 0=some (bM x1,false))=>aG (p:=21500) k2 hm
   have r3:=fun (S:St) (hm:S.μ 0=some (bM x2,false))=>aG (p:=21600) k3 hm
   have U:(vs.map dv).length=j:=by simp[H]
   have ha:=fun S=>sM (S:=S) (s:=62) (z:=5) (r:=dv ⟨b1,b2,b3⟩) U (by unfold aU;omega)
   simp only[go_sem,jc] at r1 r2 r3 m0 ha
   simp only[go_sem,t0,t4,P,O,R,m0,m4,w,r1,r2,r3,sL,ha,M,nj]
   refine⟨j+1,by omega,by omega,fun i h1 E=>?_,rfl,fun i h1 E=>?_,fun i h1=>?_,vs++[⟨b1,b2,b3⟩],x3,by simp[H],T,q,rfl,rfl,by rw[Gz];rfl⟩
   ·rw[jr (by simpa using h1),jr (by simpa using E)];exact u i h1 E
   ·rw[jr (by simpa using E),jr (by simpa using h1),jr (by simpa using h1),jr (by simpa using h1)];exact N i h1 E
   ·rw[jr (by simpa using h1)];exact hA i h1
def lx (s:aM) (e d:V):Eq:=[iz s.id,iz s.epoch,.str s.span.lo,.str s.span.hi,iz s.phase,e,iz s.mark.wall,iz s.mark.tick,iz s.mark.node,iz s.top.wall,iz s.top.tick,iz s.top.node,d,iz s.hold,iz s.seen,iz s.move,iz s.closed]
def iY:Eq:=[.int .i64 0,.int .i64 0,.str [],.str [],.int .i64 0,.slice 2 [],.int .i64 0,.int .i64 0,.int .i64 0,.int .i64 0,.int .i64 0,.int .i64 0,.slice 11 [],.int .i64 0,.int .i64 0,.int .i64 0,.int .i64 0]
def jj {Wa:List Nat} {s z n:Nat} (h:Wa.contains s=false):Ju Wa (bA s z n)=bA s z n:=by
 unfold bA;split
 ·rfl
 ·simp only[Ju,h,Gl,Gv]
def xT {S:St} {v:Nat} {Wv Wa:List Nat} {x:aM} {s z n s' o j:Nat} (hm:S.μ v=some (lx x (bA s z n) (bA s' o j),false)) (q:Wv.contains v=false) (h:Wa.contains s=false) (p:Wa.contains s'=false) :
  (S.head [] [] Wv Wa).μ v=some (lx x (bA s z n) (bA s' o j),false):=by
 show (if Wv.contains v then none else (S.μ v).map _)=_
 rw[q,hm]
 simp only[Gl,Gv,Option.map_some]
 have:(lx x (bA s z n) (bA s' o j)).map (Ju Wa)=lx x (bA s z n) (bA s' o j):=by
  simp only[lx,GA,Gk,jj h,jj p]
  rfl
 rw[this]
 cases Wa.isEmpty<;>rfl
theorem lJ {S:St} {Wv Wa:List Nat} {x:Nat} (h:Wa.contains x=false):(S.head [] [] Wv Wa).A x=S.A x:=by
 show (if Wa.contains x then none else S.A x)=S.A x
 rw[h];rfl
theorem Po {S:St} {Wv Wa:List Nat} {x:Nat} (h:Wa.contains x=true):(S.head [] [] Wv Wa).A x=none:=by
 show (if Wa.contains x then none else S.A x)=none
 rw[h];rfl
def OR {s z n:Nat}:(Jc (bA s z n)).all (fun t=>t == s)=true:=by
 unfold bA;split<;>simp[Jc]
structure uG (S:St) (y:Rd) (sh:aM) (m j:Nat) (vs:List aF):Prop where
 r0:S.ρ 0=.lref 0 0
 r2:S.ρ 2=.lref 2 0
 r3:S.ρ 3=.lref 3 0
 m0:S.μ 0=some (bM y,false)
 m2:S.μ 2=some (iY,false)
 m3:S.μ 3=some (lx sh (bA 69 2 j) (bA 95 11 0),false)
 m5:S.μ 5=none
 a69:S.A 69=i8 2 (vs.map dk) j
 a95:S.A 95=none
 vl:vs.length=j
def XN (N:mC Pg) (P:oe Pg) (B:od Pg) (O:rW Pg) {y:Rd} {m:Nat} {sh:aM} (hy:y.1.length<=2^20) (hm:m<=2^20) {S:St} {Q:Ex->St->Prop}
  (hS:uG S y sh m 0 []) (ag:S.ρ 42=iz m) (ah:S.ρ 43=iz 0) (n4:S.μ 4=none) (M:S.A 62=none)
  (hq:∀S',uG S' (cO (gE false) m y).2 sh m m (cO (gE false) m y).1->Q .norm S'):Wp (K' Pg) l467_0 S (gm 0 Q):=by
 unfold l467_0
 refine bu (fun (j:Nat) S'=>j<=m/\S'.ρ 42=iz m/\S'.ρ 43=iz j/\S'.μ 4=none/\S'.A 62=none/\∃(vs:List aF) (q:Rd),q.1.length<=2^20/\
  cO (gE false) m y=(vs++(cO (gE false) (m-j) q).1,(cO (gE false) (m-j) q).2)/\uG S' q sh m j vs) (fun j=>m-j) 0 ?_ ?_
 ·exact⟨GY _,bB ag rfl,bB ah rfl,gZ (.inl n4),Po rfl,[],y,hy,rfl,bB hS.r0 rfl,bB hS.r2 rfl,bB hS.r3 rfl,km hS.m0 rfl rfl,km hS.m2 rfl rfl,xT hS.m3 rfl rfl rfl,gZ (.inl hS.m5),(lJ rfl).trans hS.a69,(lJ rfl).trans hS.a95,rfl⟩
 ·intro j S' ⟨hj,I,J,m4,M,vs,q,ae,E,hE⟩
  have⟨X,t2,t3,m0,m2,m3,m5,a69,a95,H⟩:=hE
  cases U:decide ((j:Int)<(m:Int)) with
  |false=>
   have ab:j=m:=by have:=Ga U;omega
   subst ab
   have he:=Eo E
   simp only[go_sem,I,J,U]
   rw[he] at hq
   exact hq _ ⟨by simp only[go_sem,X],by simp only[go_sem,t2],by simp only[go_sem,t3],m0,m2,m3,m5,a69,a95,H⟩
  |true=>
   have ac:=Yj U
   have R:=inc64q (i:=j) (by omega)
   have o:=ij ac E
   have l1:(rd dh [] q).2.1.length<=2^20:=GI ((cT (D:=false)).len q) ae
   have k1:=oC B q (by omega)
   have k2:=sA O (rd dh [] q).2 (by omega)
   have hR:gE false q=(⟨(rd dh [] q).1,(cO (gV false) (rL (rd dh [] q).2).1 (rL (rd dh [] q).2).2).1⟩,(cO (gV false) (rL (rd dh [] q).2).1 (rL (rd dh [] q).2).2).2):=rfl
   rw[hR] at o
   generalize rd dh [] q=p1 at *
   have⟨Y,T⟩:=p1
   simp only at k2 o l1
   have w:(rL T).1<=2^20/\(rL T).2.1.length<=2^20:=by
    have hc:=(eC).len T;unfold rL;split
    ·exact⟨GY _,by simp only;omega⟩
    ·exact⟨by omega,by omega⟩
   generalize rL T=p2 at *
   have⟨W,x2⟩:=p2
   simp only at k2 o w
   have r1:=fun (S:St) (hm:S.μ 0=some (bM q,false))=>aG (p:=21200) k1 hm
   have r2:=fun (S:St) (hm:S.μ 0=some (bM T,false))=>aG (p:=21300) k2 hm
   simp only[go_sem] at r1 r2 m0
   simp only[go_sem,X,I,J,U,m0,m4,r1,r2]
   refine Zu N P B (y:=x2) (m:=W) (key:=Y) w.2 w.1 (by simp only[go_sem,X]) (by simp only[go_sem]) (by simp only[go_sem]) (by simp only[go_sem]) (by simp only[go_sem]) (by simp only[go_sem]) M fun u L q2 q3 q4 q5 q6 q7=>?_
   have u0:u.ρ 0=.lref 0 0:=by rw[L 0 (by omega) (by omega)];simp only[go_sem,X]
   have u2:u.ρ 2=.lref 2 0:=by rw[L 2 (by omega) (by omega)];simp only[go_sem,t2]
   have u3:u.ρ 3=.lref 3 0:=by rw[L 3 (by omega) (by omega)];simp only[go_sem,t3]
   have u4:u.ρ 4=.lref 4 0:=by rw[L 4 (by omega) (by omega)];simp only[go_sem]
   have ai:u.ρ 42=iz m:=by rw[L 42 (by omega) (by omega)];simp only[go_sem,I]
   have aj:u.ρ 43=iz j:=by rw[L 43 (by omega) (by omega)];simp only[go_sem,J]
   have v2:u.μ 2=some (iY,false):=by rw[q6 2 (by omega) (by omega)];simp only[go_sem,m2]
   have v3:u.μ 3=some (lx sh (bA 69 2 j) (bA 95 11 0),false):=by rw[q6 3 (by omega) (by omega)];simp only[go_sem,m3]
   have v5:u.μ 5=none:=by rw[q6 5 (by omega) (by omega)];simp only[go_sem,m5]
   have ak:u.A 69=i8 2 (vs.map dk) j:=(q7 69 (by omega)).trans a69
   have al:u.A 95=none:=(q7 95 (by omega)).trans a95
   generalize hz:cO (gV false) W x2=z at *
   have⟨z1,z2⟩:=z
   simp only at q2 q4 q5 o
   have Z:=sF q4 (by simp[q5])
   have ad:=OR (s:=62) (z:=5) (n:=W)
   have aa:(vs.map dk).length=j:=by simp[H]
   have ha:=fun S=>sM (S:=S) (s:=69) (z:=2) (r:=dk ⟨Y,z1⟩) aa (by unfold aU;omega)
   simp only[go_sem,Yd] at ha
   simp only[lx] at v3
   simp only[go_sem,u3,u4,ai,aj,q3,v3,ak,Z,ad,sL,ha,R]
   have af:z2.1.length<=2^20:=by
    have:=Cm (cV (D:=false)) (k:=W) (x:=x2);rw[hz] at this;exact GI this w.2
   refine⟨j+1,by omega,by omega,rfl,vs++[⟨Y,z1⟩],z2,af,o,bB (by simp only[go_sem,u0]) rfl,bB (by simp only[go_sem,u2]) rfl,bB (by simp only[go_sem,u3]) rfl,km (by simp only[go_sem,q2]) rfl rfl,km (by simp only[go_sem,v2,iY]) rfl rfl,
    xT (by simp only[go_sem];rfl) rfl rfl rfl,gZ (.inl (by simp only[go_sem,v5])),(lJ rfl).trans (by simp only[go_sem,Gz];rfl),(lJ rfl).trans (by simp only[go_sem,al]),by simp[H]⟩
structure wm (S:St) (y:Rd) (sh:aM) (es:List aF) (ds:List aH) (j:Nat):Prop where
 r0:S.ρ 0=.lref 0 0
 r2:S.ρ 2=.lref 2 0
 r3:S.ρ 3=.lref 3 0
 m0:S.μ 0=some (bM y,false)
 m2:S.μ 2=some (iY,false)
 m3:S.μ 3=some (lx sh (bA 69 2 es.length) (bA 95 11 j),false)
 a69:S.A 69=i8 2 (es.map dk) es.length
 a95:S.A 95=i8 11 (ds.map YK) j
 vl:ds.length=j
def X7 (E:mC Pg) (I:oe Pg) (H:od Pg) (u:nY Pg) {y:Rd} {m:Nat} {sh:aM} {es:List aF} (hy:y.1.length<=2^20) (hm:m<=2^20) {S:St} {Q:Ex->St->Prop}
  (hS:wm S y sh es [] 0) (aa:S.ρ 73=iz m) (ab:S.ρ 74=iz 0) (n5:S.μ 5=none)
  (hq:∀S',wm S' (cO (gD false) m y).2 sh es (cO (gD false) m y).1 m->Q .norm S'):Wp (K' Pg) l467_2 S (gm 4 Q):=by
 unfold l467_2
 refine bu (fun (j:Nat) S'=>j<=m/\S'.ρ 73=iz m/\S'.ρ 74=iz j/\S'.μ 5=none/\∃(vs:List aH) (q:Rd),q.1.length<=2^20/\
  cO (gD false) m y=(vs++(cO (gD false) (m-j) q).1,(cO (gD false) (m-j) q).2)/\wm S' q sh es vs j) (fun j=>m-j) 0 ?_ ?_
 ·exact⟨GY _,bB aa rfl,bB ab rfl,gZ (.inl n5),[],y,hy,rfl,bB hS.r0 rfl,bB hS.r2 rfl,bB hS.r3 rfl,km hS.m0 rfl rfl,km hS.m2 rfl rfl,xT hS.m3 rfl rfl rfl,(lJ rfl).trans hS.a69,(lJ rfl).trans hS.a95,rfl⟩
 ·intro j S' ⟨hj,L,M,m5,vs,q,Z,w,hE⟩
  have⟨t0,t2,t3,m0,m2,m3,a69,a95,B⟩:=hE
  cases N:decide ((j:Int)<(m:Int)) with
  |false=>
   have X:j=m:=by have:=Ga N;omega
   subst X
   have he:=Eo w
   simp only[go_sem,L,M,N]
   rw[he] at hq
   exact hq _ ⟨by simp only[go_sem,t0],by simp only[go_sem,t2],by simp only[go_sem,t3],m0,m2,m3,a69,a95,B⟩
  |true=>
   have Y:=Yj N
   have J:=inc64q (i:=j) (by omega)
   have o:=ij Y w
   have le:∀{α:Type} {R:Rd->α×Rd} {W:α->mp} {P:α->Prop},dA R W P->∀{x:Rd},x.1.length<=2^20->(R x).2.1.length<=2^20:=fun h x hx=>GI (h.len x) hx
   have k1:=gJ u q (by omega)
   have hR:gD false q=(mY ((rd (tk 9) 0 q).1,(rd (tk 9) 0 (rd (tk 9) 0 q).2).1,(rd (tk 9) 0 (rd (tk 9) 0 (rd (tk 9) 0 q).2).2).1,(rd cJ zS (rd (tk 9) 0 (rd (tk 9) 0 (rd (tk 9) 0 q).2).2).2).1,
     (rd dY false (rd cJ zS (rd (tk 9) 0 (rd (tk 9) 0 (rd (tk 9) 0 q).2).2).2).2).1,(rd dh [] (rd dY false (rd cJ zS (rd (tk 9) 0 (rd (tk 9) 0 (rd (tk 9) 0 q).2).2).2).2).2).1),
     (rd dh [] (rd dY false (rd cJ zS (rd (tk 9) 0 (rd (tk 9) 0 (rd (tk 9) 0 q).2).2).2).2).2).2):=rfl
   rw[hR] at o
   have l1:=le eC Z
   generalize rd (tk 9) 0 q=p1 at *
   have⟨b1,x1⟩:=p1
   simp only at o l1
   have k2:=gJ u x1 (by omega)
   have l2:=le eC l1
   generalize rd (tk 9) 0 x1=p2 at *
   have⟨b2,x2⟩:=p2
   simp only at o l2
   have k3:=gJ u x2 (by omega)
   have l3:=le eC l2
   generalize rd (tk 9) 0 x2=p3 at *
   have⟨b3,x3⟩:=p3
   simp only at o l3
   have k4:=ox E x3 (by omega)
   have l4:=le (cS (D:=false)) l3
   change (rd cJ zS x3).2.1.length<=2^20 at l4
   generalize rd cJ zS x3=p4 at *
   have⟨b4,O⟩:=p4
   simp only at o l4
   have k5:=B9 I O (by omega)
   have l5:=le (cF (D:=false)) l4
   change (rd dY false O).2.1.length<=2^20 at l5
   generalize rd dY false O=p5 at *
   have⟨b5,T⟩:=p5
   simp only at o l5
   have k6:=oC H T (by omega)
   have l6:=le (cT (D:=false)) l5
   change (rd dh [] T).2.1.length<=2^20 at l6
   generalize rd dh [] T=p6 at *
   have⟨b6,x6⟩:=p6
   simp only at o l6
   have r1:=fun (S:St) (hm:S.μ 0=some (bM q,false))=>aG (p:=21800) k1 hm
   have r2:=fun (S:St) (hm:S.μ 0=some (bM x1,false))=>aG (p:=21900) k2 hm
   have r3:=fun (S:St) (hm:S.μ 0=some (bM x2,false))=>aG (p:=22000) k3 hm
   have r4:=fun (S:St) (hm:S.μ 0=some (bM x3,false))=>aG (p:=22100) k4 hm
   have r5:=fun (S:St) (hm:S.μ 0=some (bM O,false))=>aG (p:=22200) k5 hm
   have r6:=fun (S:St) (hm:S.μ 0=some (bM T,false))=>aG (p:=22300) k6 hm
   have U:(vs.map YK).length=j:=by simp[B]
   have ha:=fun S=>sM (S:=S) (s:=95) (z:=11) (r:=YK (mY (b1,b2,b3,b4,b5,b6))) U (by unfold aU;omega)
   have v3:=m3
   simp only[lx] at v3
   simp only[go_sem,jc,mY,Gk] at r1 r2 r3 r4 r5 r6 m0 ha
   simp only[go_sem,t0,t3,L,M,N,m0,m5,v3,a95,r1,r2,r3,r4,r5,r6,sL,ha,J]
   refine⟨j+1,by omega,by omega,rfl,vs++[mY (b1,b2,b3,b4,b5,b6)],x6,l6,o,bB (by simp only[go_sem,t0]) rfl,bB (by simp only[go_sem,t2]) rfl,bB (by simp only[go_sem,t3]) rfl,km (by simp only[go_sem]) rfl rfl,km (by simp only[go_sem,m2,iY]) rfl rfl,
    xT (by simp only[go_sem];rfl) rfl rfl rfl,(lJ rfl).trans (by simp only[go_sem,a69]),(lJ rfl).trans (by simp only[go_sem,Gz];rfl),by simp[B]⟩
def LB {x:Rd} (o:x.1.length<=2^20):(rL x).1<=2^20/\(rL x).2.1.length<=2^20:=by
 have j:=(eC).len x;unfold rL;split
 ·exact⟨GY _,by simp only;omega⟩
 ·exact⟨by omega,by omega⟩
def rX:=HpR 467 F467 0<|HpA mC<|HpA oe<|HpA od<|HpA nY<|rW
theorem B2 (h:rX Pg) (x:Rd) (hx:x.1.length<=2^20):K' Pg 467 [.tuple (.lref 0 0::bM x)]=some (.tuple [.agg (Yg (dX false x).1),.tuple (bM (dX false x).2)]):=by
 have⟨h,u,H,w,o,z⟩:=h;have le:∀{α:Type} {R:Rd->α×Rd} {W:α->mp} {P:α->Prop},dA R W P->∀{x:Rd},x.1.length<=2^20->(R x).2.1.length<=2^20:=fun h x hx=>GI (h.len x) hx;have hR:∀{a1 a2 a3 a4 a5 a6 a7:Nat} {b1 b2:mp} {c1 c2:aB} {I J x3 L M N O Q T q j:Rd},rd (tk 9) 0 x=(a1,I)->rd (tk 9) 0 I=(a2,J)->rd (tk 9) 0 J=(a3,x3)->rd (tk 9) 0 x3=(a4,L)->rd (tk 9) 0 L=(a5,M)->rd (tk 9) 0 M=(a6,N)->rd (tk 9) 0 N=(a7,O)->
   rd dh [] O=(b1,Q)->rd dh [] Q=(b2,T)->rd cJ zS T=(c1,q)->rd cJ zS q=(c2,j)->
   dX false x=(mh (a1,a2,a3,a4,a5,a6,a7,b1,b2,c1,c2,(cO (gE false) (rL j).1 (rL j).2).1,(cO (gD false) (rL (cO (gE false) (rL j).1 (rL j).2).2).1 (rL (cO (gE false) (rL j).1 (rL j).2).2).2).1),(cO (gD false) (rL (cO (gE false) (rL j).1 (rL j).2).2).1 (rL (cO (gE false) (rL j).1 (rL j).2).2).2).2):=by
  intro a1 a2 a3 a4 a5 a6 a7 b1 b2 c1 c2 I J x3 L M N O Q T q j e1 e2 e3 e4 e5 e6 e7 e8 e9 B E
  have d1:gN false=rd (tk 9) 0:=rfl
  have d2:gT false=rd dh []:=rfl
  have d3:gS false=rd cJ zS:=rfl
  simp only[dX,gW,bR,d1,d2,d3,e1,e2,e3,e4,e5,e6,e7,e8,e9,B,E]
  rfl
 have k1:=gJ o x (by omega);have l1:(rd (tk 9) 0 x).2.1.length<=2^20:=le eC hx;cases e1:rd (tk 9) 0 x with
 |mk a1 I=>
 rw[e1] at k1 l1;simp only at k1 l1;have k2:=gJ o I (by omega);have l2:(rd (tk 9) 0 I).2.1.length<=2^20:=le eC l1;cases e2:rd (tk 9) 0 I with
 |mk a2 J=>
 rw[e2] at k2 l2;simp only at k2 l2;have k3:=gJ o J (by omega);have l3:(rd (tk 9) 0 J).2.1.length<=2^20:=le eC l2;cases e3:rd (tk 9) 0 J with
 |mk a3 x3=>
 rw[e3] at k3 l3;simp only at k3 l3;have k4:=gJ o x3 (by omega);have l4:(rd (tk 9) 0 x3).2.1.length<=2^20:=le eC l3;cases e4:rd (tk 9) 0 x3 with
 |mk a4 L=>
 rw[e4] at k4 l4;simp only at k4 l4;have k5:=gJ o L (by omega);have l5:(rd (tk 9) 0 L).2.1.length<=2^20:=le eC l4;cases e5:rd (tk 9) 0 L with
 |mk a5 M=>
 rw[e5] at k5 l5;simp only at k5 l5;have k6:=gJ o M (by omega);have l6:(rd (tk 9) 0 M).2.1.length<=2^20:=le eC l5;cases e6:rd (tk 9) 0 M with
 |mk a6 N=>
 rw[e6] at k6 l6;simp only at k6 l6;have k7:=gJ o N (by omega);have l7:(rd (tk 9) 0 N).2.1.length<=2^20:=le eC l6;cases e7:rd (tk 9) 0 N with
 |mk a7 O=>
 rw[e7] at k7 l7;simp only at k7 l7;have k8:=oC w O (by omega);have l8:(rd dh [] O).2.1.length<=2^20:=le (cT (D:=false)) l7;cases e8:rd dh [] O with
 |mk b1 Q=>
 rw[e8] at k8 l8;simp only at k8 l8;have k9:=oC w Q (by omega);have l9:(rd dh [] Q).2.1.length<=2^20:=le (cT (D:=false)) l8;cases e9:rd dh [] Q with
 |mk b2 T=>
 rw[e9] at k9 l9;simp only at k9 l9;have X:=ox u T (by omega);have Z:(rd cJ zS T).2.1.length<=2^20:=le (cS (D:=false)) l9;cases B:rd cJ zS T with
 |mk c1 q=>
 rw[B] at X Z;simp only at X Z;have Y:=ox u q (by omega);have aa:(rd cJ zS q).2.1.length<=2^20:=le (cS (D:=false)) Z;cases E:rd cJ zS q with
 |mk c2 j=>
 rw[E] at Y aa;simp only at Y aa;rw[hR e1 e2 e3 e4 e5 e6 e7 e8 e9 B E];have kL:=sA z j (by omega);have lL:=LB aa;generalize rL j=pL at *
 have⟨m,y⟩:=pL;simp only at kL lL ⊢;have lE:=GI (Cm (cE (D:=false)) (k:=m) (x:=y)) lL.2;generalize hE:cO (gE false) m y=pE at *
 have⟨es,y2⟩:=pE;simp only at lE ⊢;have kM:=sA z y2 (by omega);have lM:=LB lE;generalize rL y2=pM at *
 have⟨m2,y3⟩:=pM;simp only at kM lM ⊢;generalize hD:cO (gD false) m2 y3=pD at *
 have⟨ds,y4⟩:=pD;simp only;refine KW [.cell 2 (some 17)] (ws:=[.agg _]) h rfl rfl (hK _) (hK _) (nt _) fun S ⟨r0,r,hm,m0,a0⟩=>?_;have n2:=m0 2 rfl;have n3:=m0 3 rfl;have n4:=m0 4 rfl;have n5:=m0 5 rfl;have r1:=fun (S:St) (hm:S.μ 0=some (bM x,false))=>aG (p:=20000) k1 hm;have r2:=fun (S:St) (hm:S.μ 0=some (bM I,false))=>aG (p:=20100) k2 hm;have r3:=fun (S:St) (hm:S.μ 0=some (bM J,false))=>aG (p:=20200) k3 hm;have r4:=fun (S:St) (hm:S.μ 0=some (bM x3,false))=>aG (p:=20300) k4 hm;have r5:=fun (S:St) (hm:S.μ 0=some (bM L,false))=>aG (p:=20400) k5 hm;have r6:=fun (S:St) (hm:S.μ 0=some (bM M,false))=>aG (p:=20500) k6 hm;have r7:=fun (S:St) (hm:S.μ 0=some (bM N,false))=>aG (p:=20600) k7 hm;have r8:=fun (S:St) (hm:S.μ 0=some (bM O,false))=>aG (p:=20700) k8 hm;have r9:=fun (S:St) (hm:S.μ 0=some (bM Q,false))=>aG (p:=20800) k9 hm;have ae:=fun (S:St) (hm:S.μ 0=some (bM T,false))=>aG (p:=20900) X hm;have af:=fun (S:St) (hm:S.μ 0=some (bM q,false))=>aG (p:=21000) Y hm;have rA:=fun (S:St) (hm:S.μ 0=some (bM j,false))=>aG (p:=21100) kL hm;have rB:=fun (S:St) (hm:S.μ 0=some (bM y2,false))=>aG (p:=21700) kM hm;simp only[go_sem,jc] at hm r1 r2 r3 r4 r5 r6 r7 r8 r9 ae af rA rB;simp only[F467,c467,go_sem,r0,hm,n2,n3,r1,r2,r3,r4,r5,r6,r7,r8,r9,ae,af,rA];refine XN u H w z (y:=y) (m:=m) (sh:=mh (a1,a2,a3,a4,a5,a6,a7,b1,b2,c1,c2,[],[])) lL.2 lL.1 ⟨by simp only[go_sem,r0],by simp only[go_sem],by simp only[go_sem],by simp only[go_sem],by simp only[go_sem,iY],by simp only[go_sem];rfl,by simp only[go_sem,n5],a0 69,a0 95,rfl⟩ (by simp only[go_sem]) (by simp only[go_sem]) (by simp only[go_sem,n4]) (a0 62) fun S1 ac=>?_;rw[hE] at ac;have⟨t0,t2,t3,u0,u2,u3,u5,ag,ak,U⟩:=ac;simp only at U ag u0;simp only[go_sem] at u0;simp only[go_sem,t0,u0,rB];refine X7 u H w o (y:=y3) (m:=m2) (sh:=mh (a1,a2,a3,a4,a5,a6,a7,b1,b2,c1,c2,[],[])) (es:=es) lM.2 lM.1 ⟨by simp only[go_sem,t0],by simp only[go_sem,t2],by simp only[go_sem,t3],by simp only[go_sem],by simp only[go_sem,u2],by simp only[go_sem,u3,U],by simp only[go_sem,ag,U],by simp only[go_sem,ak];rfl,rfl⟩ (by simp only[go_sem]) (by simp only[go_sem]) (by simp only[go_sem,u5]) fun S2 ab=>?_;rw[hD] at ab;have⟨q0,q2,q3,v0,v2,v3,al,ah,ad⟩:=ab;simp only at ad ah v0;have ai:=sF al (by simp);have aj:=sF ah (by simp[ad]);simp only[lx,mh] at v3;simp only[iY] at v2;simp only[go_sem,q2,q3,v2,v3];refine⟨v0,_,rfl,?_⟩;simp only[go_sem,ai,aj,mh]
def pI (l:List aF) (k:mp) (t:aB):Option bz:=if ck l then (match (if fa k l then l[cw k l]? else none) with|some e=>cZ t e.chain|none=>none) else none
def aE (e:Int):eE:=⟨e,⟨0,0,0⟩,false,[],[],[],false⟩
def fy (s:aM) (k:mp) (t:aB):eE:=match pI s.ents k t with
 |some v=>⟨0,v.at_,!v.gone,v.val,[],[],false⟩
 |none=>aE 0
def mr (r:Rq):Bool:=decide (r.kind=1)||(decide (r.kind=2)||decide (r.kind=3))
def iR (s:aM) (r:Rq):Bool:=(decide (r.key=[])&&decide (s.span.lo=[]))||dF s.span r.key
def iJ (o:eE) (r:Rq):Bool:=decide (r.kind=3)&&(!(o.found == r.had)||(o.found&&!decide (o.val=r.old)))
def dM (o:eE) (r:Rq) (aL:aB):eE:=if iJ o r then ⟨15,aL,o.found,o.val,[],[],false⟩ else ⟨0,aL,o.found,[],[],[],false⟩
def Y0 (o:eE) (s:aM) (r:Rq) (aL:aB):List aF×Int:=
 if iJ o r then (s.ents,0) else if !decide (r.kind=2) then ej s.ents r.key ⟨aL,false,r.value⟩ else if o.found then ej s.ents r.key ⟨aL,true,[]⟩ else (s.ents,0)
def YO (c:aP) (s:aM) (r:Rq) (aL:aB):aP×eE:=
 if li s.done r.client r.req=2 then (c,((oS s.done r.client).getD YR).ans)
 else if li s.done r.client r.req=3 then (c,aE 10)
 else if Yc aL c.top<=0 then (c,aE 1)
 else if (Y0 (fy s r.key c.top) s r aL).2≠0 then (c,aE (Y0 (fy s r.key c.top) s r aL).2)
 else if (dQ s.done ⟨r.client,r.req,dM (fy s r.key c.top) r aL⟩).2≠0 then (c,aE (dQ s.done ⟨r.client,r.req,dM (fy s r.key c.top) r aL⟩).2)
 else (⟨br c.shards {s with ents:=(Y0 (fy s r.key c.top) s r aL).1,done:=(dQ s.done ⟨r.client,r.req,dM (fy s r.key c.top) r aL⟩).1},aL,c.dropped⟩,dM (fy s r.key c.top) r aL)
def j4 (s:aM) (r:Rq):Bool:=!decide (s.span.hi=[])&&(decide (r.hi=[])||bQ s.span.hi r.hi)
def C6 (s:aM) (r:Rq):mp:=if j4 s r then s.span.hi else r.hi
def yh (s:aM) (r:Rq):eE:=
 let p:=lZ s.ents r.key (C6 s r) r.at_ r.limit
 if j4 s r&&!p.2.2 then ⟨0,r.at_,false,[],p.1,C6 s r,true⟩ else ⟨0,r.at_,false,[],p.1,p.2.1,p.2.2⟩
def ul (s:aM) (r:Rq):eE:=match pI s.ents r.key r.at_ with
 |some v=>⟨0,r.at_,!v.gone,v.val,[],[],false⟩
 |none=>⟨0,r.at_,false,[],[],[],false⟩
def iv (c:aP) (s:aM) (r:Rq) (wall:Int):aP×eE:=
 if Yc r.at_ s.mark<0 then (c,aE 13) else if wall<r.at_.wall-1000 then (c,aE 12)
 else (⟨c.shards,later c.top r.at_,c.dropped⟩,if r.kind=5 then ul s r else yh s r)
def fI (c:aP) (id epoch:Int) (r:Rq) (aL:aB) (wall:Int):aP×eE:=
 if Yy c&&(Ym id&&(Ym epoch&&(dq wall&&(Ya aL&&df r)))) then
  match Y3 c.shards id with
  |none=>(c,aE 10)
  |some s=>if !decide (s.epoch=epoch)||!iR s r then (c,aE 10)
   else if !decide (s.phase=1)||(mr r&&!decide (s.hold=0)) then (c,aE 11)
   else if mr r then YO c s r aL else if r.kind=4 then (c,fy s r.key c.top) else iv c s r wall
 else (c,aE 1)
def YP (c:aP) (id:Int):Option aM:=if Yy c&&Ym id then Y3 c.shards id else none
def ll (c:aP) (s:aM):aP:=⟨br c.shards s,c.top,c.dropped⟩
def jx (c:aP) (id epoch lease:Int):aP×Bool:=match YP c id with
 |none=>(c,false)
 |some s=>if (Ym epoch&&Ym lease)&&(decide (s.epoch=epoch)&&(decide (s.phase=1)&&(decide (s.seen<lease)&&(decide (s.hold=0)||decide (s.hold=lease))))) then (ll c {s with hold:=lease},true) else (c,false)
def jV (c:aP) (id lease:Int) (t:aB):aP×Bool:=match YP c id with
 |none=>(c,false)
 |some s=>if Ym lease&&Ya t then (if lease<=s.seen then (c,true) else (⟨br c.shards {s with seen:=lease,hold:=if s.hold=lease then 0 else s.hold},later c.top t,c.dropped⟩,true)) else (c,false)
def gP (s:aM) (move:Int):Bool:=decide (s.phase=2)&&decide (s.move=move)
def kG (s:aM) (move:Int):Bool:=decide (s.phase=3)&&decide (s.move=move)
def YJ (c:aP) (id epoch move:Int):aP×Bool:=match YP c id with
 |none=>(c,false)
 |some s=>if Ym epoch&&Ym move then (if gP s move then (c,true)
   else if decide (s.epoch=epoch)&&(decide (s.phase=1)&&(decide (s.hold=0)&&decide (s.closed<move))) then (ll c {s with phase:=2,move:=move,top:=c.top},true) else (c,false)) else (c,false)
def gU (c:aP) (id move:Int):aP×Bool:=match YP c id with
 |none=>(c,false)
 |some s=>if Ym move then (if decide (move<=s.closed)||(decide (s.phase=2)&&!decide (s.move=move)) then (c,true)
   else (ll c {s with closed:=move,phase:=if gP s move then 1 else s.phase},true)) else (c,false)
def i6 (c:aP) (id move:Int):aP×Bool:=if Yy c&&(Ym id&&Ym move) then (match Y3 c.shards id with
 |none=>(c,true)
 |some s=>if gP s move then (⟨fE c.shards id,c.top,c.dropped⟩,true) else (c,false)) else (c,false)
def aO (c:aP) (s:aM) (move:Int):aP×Bool:=if Yy c&&Ym move then (match Y3 c.shards s.id with
 |some o=>(c,kG o move)
 |none=>if decide (c.dropped<move)&&(!decide (c.shards.length=8)&&(bx s&&(gP s move&&cc s s.top))) then (⟨br c.shards {s with phase:=3},later c.top s.top,c.dropped⟩,true) else (c,false)) else (c,false)
def iL (c:aP) (id move epoch:Int):aP×Bool:=match YP c id with
 |none=>(c,false)
 |some s=>if Ym move&&Ym epoch then (if decide (s.phase=1)&&(decide (s.epoch=epoch)&&decide (s.closed=move)) then (c,true)
   else if kG s move&&decide (s.epoch<epoch) then (⟨br c.shards {s with phase:=1,epoch:=epoch,closed:=move},c.top,max c.dropped move⟩,true) else (c,false)) else (c,false)
def i7 (c:aP) (id move:Int):aP×Bool:=if Yy c&&(Ym id&&Ym move) then
  (⟨(match Y3 c.shards id with|some s=>if kG s move then fE c.shards id else c.shards|none=>c.shards),c.top,max c.dropped move⟩,true) else (c,false)
def iu (s:aM) (epoch:Int):Bool:=decide (s.epoch=epoch)&&(decide (s.phase=1)&&decide (s.hold=0))
def hJ (c:aP) (id epoch:Int) (k:mp) (ei next:Int):aP×Bool:=
 if Yy c&&(Ym id&&(Ym epoch&&(Ym ei&&Ym next))) then (match Y3 c.shards id with
  |none=>(c,false)
  |some a=>match Y3 c.shards ei with
   |some b=>(c,decide (a.epoch=next)&&(decide (a.span.hi=k)&&decide (b.epoch=next)))
   |none=>if iu a epoch&&(decide (epoch<next)&&(decide (a.closed<next)&&(!decide (c.shards.length=8)&&decide ((f7 a.span k).2.2=0)))) then
     (⟨br (br c.shards {a with ents:=(ma a.ents k).1,span:=(f7 a.span k).1,epoch:=next}) {a with id:=ei,ents:=(ma a.ents k).2,span:=(f7 a.span k).2.1,epoch:=next},c.top,c.dropped⟩,true)
    else (c,false)) else (c,false)
def g0 (c:aP) (id ei epoch next:Int):aP×Bool:=
 if Yy c&&(Ym id&&(Ym ei&&(Ym epoch&&Ym next))) then (match Y3 c.shards id with
  |none=>(c,false)
  |some a=>match Y3 c.shards ei with
   |none=>(c,decide (a.epoch=next))
   |some b=>if iu a epoch&&(iu b b.epoch&&(decide (a.epoch<next)&&(decide (b.epoch<next)&&(decide (a.closed<next)&&(decide ((Y6 a.span b.span).2=0)&&(decide ((eA a.ents b.ents).2=0)&&decide ((YX a.done b.done).2=0))))))) then
     (⟨fE (br c.shards {a with span:=(Y6 a.span b.span).1,done:=(YX a.done b.done).1,epoch:=next,move:=0,mark:=later a.mark b.mark,ents:=fS (eA a.ents b.ents).1 (later a.mark b.mark),seen:=max a.seen b.seen,closed:=max a.closed b.closed}) ei,c.top,c.dropped⟩,true)
    else (c,false)) else (c,false)
def pB (c:aP) (t:aB):aP:=if Yy c&&Ya t then ⟨c.shards,later c.top t,c.dropped⟩ else c
def fe (t:aB) (s:aM):aM:={s with ents:=fS s.ents t,mark:=later s.mark t}
def kD (c:aP) (t:aB):aP:=if Yy c&&Ya t then ⟨c.shards.map (fe t),c.top,c.dropped⟩ else c
def jX {n:Int}:decide (n<1)=!decide (1<=n):=by by_cases h:1<=n<;>simp[h]<;>omega
def wW {n:Int}:decide (3<n)=!decide (n<=3):=by by_cases h:n<=3<;>simp[h]<;>omega
def mo (m n:Int):Bool:=!(decide (n<m)||decide (1099511627776<n))
def mn (n:Int):mo 1 n=Ym n:=by
 simp only[mo,Ym];by_cases h:1<=n<;>by_cases j:n<=1099511627776<;>simp[h,j]<;>omega
def L6 (n:Int):mo 0 n=dq n:=by
 simp only[mo,dq];by_cases h:0<=n<;>by_cases j:n<=1099511627776<;>simp[h,j]<;>omega
def zJ:=HpZ 313 F313
def HU (h:zJ Pg) (n m:Int):K' Pg 313 [iz n,.cptr [iz m] 0]=some (.bool (decide (n<m)||decide (1099511627776<n))):=by
 refine aA h rfl ?_;cases c:decide (n<m)<;>simp only[go_sem,c,jm,G7]
def ek:=HpC 284 F284<|HpA Dn<|zJ
def vQ (h:ek Pg) (m:Int) (l:List Int) (p:l.length<2^60):K' Pg 284 [iz m,Yi l]=some (.bool (!(l.any fun n=>decide (n<m)||decide (1099511627776<n)))):=by
 have⟨h,o,j⟩:=h;have k:=I3 o l 313 [.cptr [iz m] 0] (fun n=>decide (n<m)||decide (1099511627776<n)) p rfl (fun n _=>HU j n m);simp only[Yi] at k;refine aA h rfl ?_;simp only[go_sem,Yi,k]
def i3 (h:ek Pg) (m a:Int):K' Pg 284 [iz m,.slice 1 [[iz a]]]=some (.bool (mo m a)):=by
 have:=vQ h m [a] (by simp);simpa [Yi,mo] using this
def gq (h:ek Pg) (m a b:Int):K' Pg 284 [iz m,.slice 1 [[iz a],[iz b]]]=some (.bool (mo m a&&mo m b)):=by
 have:=vQ h m [a,b] (by simp);simpa [Yi,mo,Bool.and_assoc] using this
def oq (h:ek Pg) (m a b c d:Int):K' Pg 284 [iz m,.slice 1 [[iz a],[iz b],[iz c],[iz d]]]=some (.bool (mo m a&&(mo m b&&(mo m c&&mo m d)))):=by
 have:=vQ h m [a,b,c,d] (by simp);simpa [Yi,mo,Bool.and_assoc] using this
def zH:=HpC 298 F298 rp
def HR (h:zH Pg) (e:aF) (s:aM):K' Pg 298 [.agg (dk e),.cptr (Yg s) 0]=some (.bool (!dF s.span e.key)):=by
 have⟨h,j⟩:=h;have k:=sk j s.span e.key;simp only[YZ] at k;refine aA h rfl ?_;simp only[go_sem,Yd,k]
def pQ:List aF->(aF->Bool)->Nat->Int
 |[],_,_=>-1
 |a::l,p,i=>if p a then i else pQ l p (i+1)
theorem Pc:∀{l:List aF} {p:aF->Bool} {i:Nat},decide (0<=pQ l p i)=l.any p
 |[],p,i=>by simp[pQ]
 |a::l,p,i=>by
  simp only[pQ];split
  ·rename_i h;simp[h]
  ·rename_i h;rw[Pc];simp[h]
def zK:=HpZ 315 F315
def HV (h:zK Pg) (l:List aF) (g:Nat) (aN:Eq) (p:aF->Bool) (D:l.length<2^60) (y:∀x∈l,K' Pg g (.agg (dk x)::aN)=some (.bool (p x))) :
  K' Pg 315 [Yf l,.func g aN]=some (iz (pQ l p 0)):=by
 refine aA h rfl ?_
 simp only[dk,Yd] at y
 simp only[go_sem]
 unfold l315_0
 refine bu (fun (i:Nat) S=>i<=l.length/\S.ρ 0=Yf l/\S.ρ 1=.func g aN/\S.ρ 7=iz l.length/\S.ρ 8=iz i/\pQ (l.drop i) p i=pQ l p 0) (fun i=>l.length-i) 0 ?_ ?_
 ·simp[go_sem]
 ·intro i S ⟨hi,h0,h1,w,o,j⟩
  simp only[go_sem,w,o]
  refine aY (fun h=>?_) (fun h=>?_)
  ·have h:=Yj h
   have⟨x,z,B⟩:=aZ h
   rw[B] at j
   have u:=y x (List.mem_of_getElem? z)
   simp only[go_sem,Yd,h0,h1,o,z,u]
   refine aY (fun q=>?_) (fun q=>?_)
   ·simp only[pQ,q,Gw] at j
    simp only[go_sem,<-j]
   ·simp only[pQ,q,Gl,Gv] at j
    simp only[go_sem,h0,h1,w,o]
    exact⟨i+1,by omega,by omega,by rw[Yn h D],j⟩
  ·have h:=YC hi h
   subst h
   simp only[GQ,pQ] at j
   simp only[go_sem,<-j]
def uY:=HpC 299 F299 zK
def Bt (h:uY Pg) (l:List aF) (g:Nat) (aN:Eq) (p:aF->Bool) (q:l.length<2^60) (o:∀x∈l,K' Pg g (.agg (dk x)::aN)=some (.bool (p x))) :
  K' Pg 299 [Yf l,.func g aN]=some (.bool (l.any p)):=by
 have⟨h,j⟩:=h
 have k:=HV j l g aN p q o
 simp only[Yf] at k
 refine aA h rfl ?_
 simp only[go_sem,k,Pc]
def W5 {α:Type} {l:List α} {p:α->Bool}:(!(l.any fun x=>!p x))=l.all p:=by
 induction l with
 |nil=>rfl
 |cons a l j=>simp only[List.any_cons,List.all_cons,<-j];cases p a<;>simp
def nO:=HpC 244 F244<|HpA lC<|HpA xr<|HpA nL<|HpA kd<|HpA ek<|HpA zH<|uY
def sr (h:nO Pg) (s:aM) (J:kz s):K' Pg 244 [.agg (Yg s)]=some (.bool (bx s)):=by
 have⟨h,w,z,o,p,j,q,u⟩:=h;have B:=J.1.len;have M:=gq j 1 s.id s.epoch;have N:=oq j 0 s.hold s.seen s.move s.closed;have D:=om o s.span;have E:=kv p s.ents J.1;have y:=lh w s.mark;have I:=lh w s.top;have L:=wj z s.done (by have:=J.2.1;omega);have H:=Bt u s.ents 298 [.cptr (Yg s) 0] (fun e=>!dF s.span e.key) (by omega) (fun e _=>HR q e s);simp only[mn] at M;simp only[L6] at N;simp only[Yg,YZ,Ye,Yf,Yb] at D E y I L H;clear J B w z o p j q u;refine aA h rfl ?_;clear h;cases S:Ym s.id with
 |false=>simp only[go_sem,bx,bE, *]
 |true=>
 cases T:Ym s.epoch with
 |false=>simp only[go_sem,bx,bE, *]
 |true=>
 cases c3:dq s.hold with
 |false=>simp only[go_sem,bx,bE, *]
 |true=>
 cases U:dq s.seen with
 |false=>simp only[go_sem,bx,bE, *]
 |true=>
 cases W:dq s.move with
 |false=>simp only[go_sem,bx,bE, *]
 |true=>
 cases X:dq s.closed with
 |false=>simp only[go_sem,bx,bE, *]
 |true=>
 cases Y:decide (1<=s.phase) with
 |false=>simp only[go_sem,bx,bE,jX, *]
 |true=>
 cases Z:decide (s.phase<=3) with
 |false=>simp only[go_sem,bx,bE,jX,wW, *]
 |true=>
 cases c9:Yz s.span with
 |false=>simp only[go_sem,bx,bE,jX,wW, *]
 |true=>
 cases O:ck s.ents with
 |false=>simp only[go_sem,bx,bE,jX,wW, *]
 |true=>
 cases P:Ya s.mark with
 |false=>simp only[go_sem,bx,bE,jX,wW, *]
 |true=>
 cases Q:Ya s.top with
 |false=>simp only[go_sem,bx,bE,jX,wW, *]
 |true=>
 cases R:YA s.done with
 |false=>simp only[go_sem,bx,bE,jX,wW, *]
 |true=>
 simp only[go_sem,bx,bE,jX,wW,W5, *]
def il:=HpZ 292 F292
def LA {n:Int}:decide (0<n)=decide (1<=n):=GO.2 (by omega)
def cp (h:il Pg) (n:Int):K' Pg 292 [iz n]=some (.bool (Ym n)):=by
 refine aA h rfl ?_;simp only[go_sem,LA];cases j:decide (1<=n)<;>simp only[go_sem,j,Ym]
def ry:=HpC 293 F293 il
def vR (h:ry Pg) (n:Int):K' Pg 293 [iz n]=some (.bool (dq n)):=by
 have⟨h,j⟩:=h;have k:=cp j n;have e:dq n=(decide (n=0)||Ym n):=by
  simp only[dq,Ym];by_cases h1:n=0<;>by_cases p:0<=n<;>by_cases q:n<=1099511627776<;>by_cases u:1<=n<;>simp[h1,p,q,u]<;>omega
 refine aA h rfl ?_;rw[e];cases o:decide (n=0)<;>simp only[go_sem,o,k,jm,G7]
def rx:=HpC 245 F245<|HpA nN<|HpA Do<|HpA uO<|HpA nK<|HpA rr<|HpA il<|ry
def vP (h:rx Pg) (s:aM) (P:kz s):K' Pg 245 [.agg (Yg s)]=some (.bool (bx s)):=by
 have⟨h,y,I,j,o,p,q,u⟩:=h;have Z:=P.1.len;have aa:=fun n=>cp q n;have ab:=fun n=>vR u n;have J:=lF o s.span;have L:=sn p s.ents P.1;have B:=mD y s.mark;have M:=mD y s.top;have W:=Ca I s.done (by have:=P.2.1;omega);have w:=fun k=>A6 j s.span k;simp only[YZ,Ye,Yf,Yb] at J L B M W w;clear P y I j o p q u;refine aA h rfl ?_;clear h;cases c1:Ym s.id with
 |false=>simp only[go_sem,bx,bE, *]
 |true=>
 cases c2:Ym s.epoch with
 |false=>simp only[go_sem,bx,bE, *]
 |true=>
 cases c3:dq s.hold with
 |false=>simp only[go_sem,bx,bE, *]
 |true=>
 cases c4:dq s.seen with
 |false=>simp only[go_sem,bx,bE, *]
 |true=>
 cases c5:dq s.move with
 |false=>simp only[go_sem,bx,bE, *]
 |true=>
 cases c6:dq s.closed with
 |false=>simp only[go_sem,bx,bE, *]
 |true=>
 cases Q:decide (1<=s.phase) with
 |false=>
  have T:decide (s.phase=1)=false:=Gp (by have:=Ga Q;omega);have X:decide (s.phase=2)=false:=Gp (by have:=Ga Q;omega);have q3:decide (s.phase=3)=false:=Gp (by have:=Ga Q;omega);simp only[go_sem,bx,bE, *]
 |true=>
 cases R:decide (s.phase<=3) with
 |false=>
  have T:decide (s.phase=1)=false:=Gp (by have:=Ga R;omega);have X:decide (s.phase=2)=false:=Gp (by have:=Ga R;omega);have q3:decide (s.phase=3)=false:=Gp (by have:=Ga R;omega);simp only[go_sem,bx,bE, *]
 |true=>
 have D:∀S:St,S.ρ 1=.lref 1 0->S.μ 1=some (Yg s,false)->S.ρ 3=iz 0->bE s=true->Wp (K' Pg) (.seq (.block 0 l245_0) (.seq (.region false r245_10) .ret)) S (fun Y S=>(Y=.norm\/Y=.ret)/\jT F245 S=some (.bool (bx s))):=by
  intro S E N H O;have e:bx s=s.ents.all fun e=>dF s.span e.key:=by simp[bx,O]
  rw[e];simp only[go_sem];unfold l245_0;refine bu (fun (i:Nat) S=>i<=s.ents.length/\S.ρ 1=.lref 1 0/\S.μ 1=some (Yg s,false)/\S.ρ 3=iz i/\((s.ents.drop i).all fun e=>dF s.span e.key)=s.ents.all fun e=>dF s.span e.key) (fun i=>s.ents.length-i) 0 ?_ ?_
  ·simp[go_sem,E,N,H]
  ·intro i S ⟨hi,E,N,H,z⟩;simp only[go_sem,E,N,H];refine aY (fun h=>?_) (fun h=>?_)
   ·have h:=Yj h;have⟨x,hx,hd⟩:=aZ h;rw[hd,List.all_cons] at z;simp only[go_sem,E,N,H,hx,Yd,w];cases c:dF s.span x.key with
    |false=>
     rw[c,Gm] at z;simp only[go_sem,<-z]
    |true=>
     rw[c,Gy] at z;simp only[go_sem,E,N,H];exact⟨i+1,by omega,by omega,by rw[Yn h (by omega)],z⟩
   ·have h:=YC hi h;subst h;rw[GQ,List.all_nil] at z;simp only[go_sem,<-z]
 have U:∀b,(decide (s.phase=1)=true\/(decide (s.phase=1)=false/\decide (s.phase=2)=true)\/(decide (s.phase=1)=false/\decide (s.phase=2)=false/\decide (s.phase=3)=true))\/b=true:=fun b=>by
  have:=Gc Q;have:=Gc R;left;by_cases h1:s.phase=1
  ·left;simp[h1]
  ·by_cases h2:s.phase=2
   ·right;left;simp[h2]
   ·right;right;have:s.phase=3:=by omega
    simp[this]
 have U:=(U false).resolve_right (by simp);rcases U with T|⟨T,X⟩|⟨T,X,q3⟩
 all_goals
  cases c9:Yz s.span with
  |false=>simp only[go_sem,bx,bE, *]
  |true=>
  cases ac:ck s.ents with
  |false=>simp only[go_sem,bx,bE, *]
  |true=>
  cases ad:Ya s.mark with
  |false=>simp only[go_sem,bx,bE, *]
  |true=>
  cases ae:Ya s.top with
  |false=>simp only[go_sem,bx,bE, *]
  |true=>
  cases af:YA s.done with
  |false=>simp only[go_sem,bx,bE, *]
  |true=>
  have O:bE s=true:=by simp only[bE,GL, *]
  simp only[go_sem, *,-D,-O]
  exact LD (D _ (by simp only[go_sem]) (by simp only[go_sem]) (by simp only[go_sem]) O)
def zL:=HpC 316 F316 rm
def HX (h:zL Pg) (e:aF) (t:aB) (v:bz) (u:e.chain.getLast?=some v) (z:e.chain.length<=10000):K' Pg 316 [.agg (dk e),.cptr (Ye t) 0]=some (.bool (decide (0<Yc v.at_ t))):=by
 have⟨h,q⟩:=h;have p:=tU q v.at_ t;have o:0<e.chain.length:=uK.2 fun w=>by rw[w] at u;simp at u
 have y:e.chain[e.chain.length-1]?=some v:=by rw[<-List.getLast?_eq_getElem?];exact u
 have j:IntKind.i64.wrap ((e.chain.length:Int)-1)=((e.chain.length-1:Nat):Int):=ug o (by omega);simp only[Ye] at p;refine aA h rfl ?_;simp only[go_sem,Yd,j,y,p]
def ui (t:aB) (e:aF):Bool:=match e.chain.getLast? with|some v=>decide (0<Yc v.at_ t)|none=>false
def OV {s:aM} {t:aB}:cc s t=!(s.ents.any (ui t)):=by
 rw[List.not_any_eq_all_not];simp only[cc]
 congr 1
 funext e
 unfold ui;cases e.chain.getLast? with
 |none=>rfl
 |some v=>by_cases h:Yc v.at_ t<=0<;>simp[h]<;>omega
def u9:=HpC 301 F301<|HpA uY<|zL
def Bv (h:u9 Pg) (s:aM) (t:aB) (w:Sm s.ents) (y:∀e∈s.ents,e.chain≠[]):K' Pg 301 [.agg (Yg s),.agg (Ye t)]=some (.bool (cc s t)):=by
 have⟨h,j,o⟩:=h;have u:=w.len;have k:=Bt j s.ents 316 [.cptr (Ye t) 0] (ui t) (by omega) (fun e q=>by
  cases p:e.chain.getLast? with
  |none=>exact absurd (List.getLast?_eq_none_iff.1 p) (y e q)
  |some v=>rw[HX o e t v p (w.2 e q).1];simp only[ui,p])
 simp only[Yf,Ye] at k;refine aA h rfl ?_;simp only[go_sem,k,OV]
def pw {s:aM} (h:bx s=true):ck s.ents=true/\∀e∈s.ents,e.chain≠[]:=by
 simp only[bx,bE,Ge] at h;exact⟨h.1.2.2.2.2.2.2.2.2.2.1,fun e j=>(oK.1 ((jv.1 h.1.2.2.2.2.2.2.2.2.2.1).2.2 e j)).2.1⟩
def xX {s:aM} (h:bx s=true):1<=s.id/\s.id<=1099511627776:=by
 simp only[bx,bE,Ge,Ym,Gj] at h;exact h.1.1
def nq (l:List aM) (i:Nat):Int:=if i=0 then 0 else (l[i-1]?.map aM.id).getD 0
def Ej {l:List aM} {i:Nat} {x:aM} (h:l[i]?=some x):nq l (i+1)=x.id:=by simp[nq,h]
def gH:=HpC 249 F249<|HpA lC<|HpA nO<|HpA ek<|u9
def le8 {n:Nat}:decide ((n:Int)<=8)=decide (n<=8):=E3 (b:=8)
def E0 {n:Nat}:decide ((8:Int)<(n:Int))=!decide (n<=8):=yt (a:=8)
def Qc {a b:Int}:decide (a<=b)=!decide (b<a):=by by_cases h:b<a<;>simp[h]<;>omega
def ip (h:gH Pg) (c:aP) (P:eG c):K' Pg 249 [.agg (Yq c)]=some (.bool (Yy c)):=by
 have⟨h,L,z,B,D⟩:=h;have Q:=P.1;have y:=lh L c.top;have w:=i3 B 0 c.dropped;simp only[L6] at w;simp only[Ye] at y;refine aA h rfl ?_;simp only[go_sem];unfold l249_0;refine bu (fun (i:Nat) S=>i<=c.shards.length/\S.ρ 1=.lref 1 0/\S.μ 1=some (Yq c,false)/\S.ρ 3=iz (nq c.shards i)/\S.μ 5=none/\S.ρ 7=Yw c.shards/\S.ρ 8=iz c.shards.length/\S.ρ 9=iz i/\lp c.top (nq c.shards i) (c.shards.drop i)=lp c.top 0 c.shards) (fun i=>c.shards.length-i) 0 ?_ ?_
 ·simp[go_sem,nq]
 ·intro i S ⟨hi,h1,I,R,m5,N,O,M,o⟩;simp only[go_sem,O,M];refine aY (fun h=>?_) (fun h=>?_)
  ·have h:=Yj h;have⟨x,J,T⟩:=aZ h;have H:=P.2 x (List.mem_of_getElem? J);have j:=sr z x H;have E:IntKind.i64.wrap ((i:Int)+1)=((i+1:Nat):Int):=Yn h (by omega);rw[T] at o;simp only[lp] at o;simp only[Yg,Yf,Yb] at j;simp only[go_sem,R,m5,N,M,J,Qc];cases u:decide (nq c.shards i<x.id) with
   |false=>
    simp only[u,Gm] at o;simp only[go_sem,Yy,<-o]
   |true=>
   cases q:bx x with
   |false=>
    simp only[u,q,Gm,Gq] at o;simp only[go_sem,q,j,Yy,<-o]
   |true=>
   have p:=Bv D x c.top H.1 (pw q).2;simp only[Yg,Yf,Yb,Ye] at p;cases c3:cc x c.top with
   |false=>
    simp only[u,q,c3,Gm,Gq] at o;simp only[go_sem,h1,I,q,c3,j,p,Yy,<-o]
   |true=>
   simp only[u,q,c3,Gy] at o;simp only[go_sem,h1,I,N,O,M,q,c3,j,p];exact⟨i+1,by omega,by omega,by rw[Ej J],by rw[E],by rw[Ej J];exact o⟩
  ·have h:=YC hi h;subst h;rw[GQ] at o;simp only[lp] at o;simp only[go_sem,h1,I,le8];cases u:decide (c.shards.length<=8) with
   |false=>simp only[go_sem,u,Yy]
   |true=>
   cases q:Ya c.top with
   |false=>simp only[go_sem,h1,I,u,q,y,Yy]
   |true=>simp only[go_sem,h1,I,u,q,y,w,Yy,<-o]
def Wd {c:List bz} {v:bz} {t:aB} (H:Yh c=true) (I:c.getLast?=some v):(c.any fun x=>aV t x.at_)=decide (0<Yc v.at_ t):=by
 have D:=(pu H).1;have p:c[c.length-1]?=some v:=by rw[<-List.getLast?_eq_getElem?];exact I
 have j:∀{a b:aB},aV a b=decide (0<Yc b a):=fun {a b}=>by
  simp only[aV];refine GO.2 ?_;have:=@pz a b;constructor
  ·intro h;rcases rj (Yc b a) 0 with q|q|q
   ·have:=this.2 (by omega);omega
   ·have:=this.2 (by omega);omega
   ·exact q
  ·intro h;rcases rj (Yc a b) 0 with q|q|q
   ·exact q
   ·have:=this.1 (by omega);omega
   ·have:=this.1 (by omega);omega
 cases q:decide (0<Yc v.at_ t) with
 |true=>exact List.any_eq_true.2 ⟨v,List.mem_of_getElem? p,by rw[j];exact q⟩
 |false=>
  refine List.any_eq_false.2 fun y J=>?_;have⟨i,hi⟩:=List.mem_iff_getElem?.1 J;have E:=(List.getElem?_eq_some_iff.1 hi).1;rw[j];have w:=Ga q;by_cases e:i=c.length-1
  ·subst e;rw[p] at hi;obtain rfl:v=y:=by simpa using hi
   simpa using w
  ·have o:=xY D (show i<c.length-1 by omega) hi p;have h1:=mN.1 o;have z:¬0<Yc y.at_ t:=fun u=>by
    have u:=wG.1 u;have B:¬0<Yc v.at_ t:=w;rw[wG] at B;omega
   simpa using z
def uZ:=HpC 300 F300 H6
def Bu (h:uZ Pg) (s:aM) (t:aB) (M:Sm s.ents) (U:ck s.ents=true):K' Pg 300 [.agg (Yg s),.agg (Ye t)]=some (.bool (cc s t)):=by
 have⟨h,O⟩:=h;have L:=M.len;have N:=fun x=>K6 O t x;simp only[Ye] at N;have I:∀e∈s.ents,(e.chain.any fun x=>aV t x.at_)=ui t e:=fun e I=>by
  obtain⟨-,T,P⟩:=oK.1 ((jv.1 U).2.2 e I);cases J:e.chain.getLast? with
  |none=>exact absurd (List.getLast?_eq_none_iff.1 J) T
  |some v=>rw[Wd P J];simp only[ui,J]
 refine aA h rfl ?_;rw[OV];simp only[go_sem];unfold l300_0;refine bu (fun (i:Nat) S=>i<=s.ents.length/\S.ρ 2=.lref 2 0/\S.μ 2=some (Yg s,false)/\S.ρ 3=.lref 3 0/\S.μ 3=some (Ye t,false)/\S.ρ 5=iz i/\(s.ents.drop i).any (ui t)=s.ents.any (ui t)) (fun i=>s.ents.length-i) 0 ?_ ?_
 ·simp[go_sem]
 ·intro i S ⟨hi,p,m2,B,m3,u,z⟩;simp only[go_sem,p,m2,u];refine aY (fun h=>?_) (fun h=>?_)
  ·have h:=Yj h;have⟨x,E,Q⟩:=aZ h;have D:IntKind.i64.wrap ((i:Int)+1)=((i+1:Nat):Int):=Yn h (by omega);have W:=(M.at E).1;rw[Q,List.any_cons,<-I x (List.mem_of_getElem? E)] at z;simp only[go_sem];unfold l300_1;refine bu (fun (j:Nat) S=>j<=x.chain.length/\S.ρ 2=.lref 2 0/\S.μ 2=some (Yg s,false)/\S.ρ 3=.lref 3 0/\S.μ 3=some (Ye t,false)/\S.ρ 5=iz i/\S.ρ 6=iz j/\((x.chain.drop j).any fun y=>aV t y.at_)=x.chain.any fun y=>aV t y.at_) (fun j=>x.chain.length-j) 0 ?_ ?_
   ·simp[go_sem,p,m2,B,m3,u]
   ·intro j S ⟨R,p,m2,B,m3,u,w,hw⟩;simp only[go_sem,p,m2,u,w,E,Yd];refine aY (fun o=>?_) (fun o=>?_)
    ·have o:=Yj o;have⟨y,X,H⟩:=aZ o;rw[H,List.any_cons] at hw;simp only[go_sem,p,m2,B,m3,u,w,E,X,Yd,N];cases q:aV t y.at_ with
     |true=>
      rw[q,jm] at hw;rw[<-hw,jm] at z;simp only[go_sem,<-z]
     |false=>
      rw[q,G7] at hw;simp only[go_sem,p,m2,B,m3,u,w];exact⟨j+1,by omega,by omega,by rw[Yn o (by omega)],hw⟩
    ·have o:=YC R o;subst o;rw[GQ,List.any_nil] at hw;rw[<-hw,G7] at z;simp only[go_sem,p,m2,B,m3,u,D];exact⟨i+1,by omega,by omega,rfl,z⟩
  ·have h:=YC hi h;subst h;rw[GQ,List.any_nil] at z;simp only[go_sem,<-z]
def jo:=HpC 246 F246<|HpA nN<|HpA rx<|HpA ry<|uZ
def gI (h:jo Pg) (c:aP) (X:eG c):K' Pg 246 [.agg (Yq c)]=some (.bool (Yy c)):=by
 have⟨h,T,J,L,M⟩:=h;have p:=mD T c.top;have z:=vR L c.dropped;simp only[Ye] at p;refine aA h rfl ?_;cases E:decide (c.shards.length<=8) with
 |false=>simp only[go_sem,E0,E,Yy]
 |true=>
 cases R:Ya c.top with
 |false=>simp only[go_sem,E0,E,R,p,Yy]
 |true=>
 cases c3:dq c.dropped with
 |false=>simp only[go_sem,E0,E,R,c3,p,z,Yy]
 |true=>
 have U:=Gc E;have e:Yy c=lp c.top 0 c.shards:=by simp only[Yy,E,R,c3,Gy]
 rw[e];simp only[go_sem,E0,E,R,c3,p,z];unfold l246_0;refine bu (fun (i:Nat) S=>i<=c.shards.length/\S.ρ 1=.lref 1 0/\S.μ 1=some (Yq c,false)/\S.ρ 3=iz i/\lp c.top (nq c.shards i) (c.shards.drop i)=lp c.top 0 c.shards) (fun i=>c.shards.length-i) 0 ?_ ?_
 ·simp[go_sem,nq]
 ·intro i S ⟨hi,h1,I,H,j⟩;simp only[go_sem,h1,I,H];refine aY (fun h=>?_) (fun h=>?_)
  ·have h:=Yj h;have⟨x,D,Y⟩:=aZ h;have O:=X.2 x (List.mem_of_getElem? D);have w:=vP J x O;have u:IntKind.i64.wrap ((i:Int)+1)=((i+1:Nat):Int):=Yn h (by omega);rw[Y] at j;simp only[lp] at j;simp only[Yg,Yf,Yb] at w;simp only[go_sem,h1,I,H,D,w];cases P:bx x with
   |false=>
    simp only[P,Gm,Gq] at j;simp only[go_sem,<-j]
   |true=>
   have o:=Bu M x c.top O.1 (pw P).1;simp only[Yg,Yf,Yb,Ye] at o;cases Q:cc x c.top with
   |false=>
    simp only[P,Q,Gm,Gq] at j;simp only[go_sem,h1,I,H,D,Q,o,<-j]
   |true=>
   simp only[P,Q,Gy] at j;rcases nI i with hz|hz
   ·have B:decide ((0:Int)<(i:Int))=false:=Gp (by omega);have Z:decide (nq c.shards i<x.id)=true:=Gu (by
     have:=(xX P).1;simp[nq,hz];omega)
    rw[Z,Gy] at j;simp only[go_sem,h1,I,H,D,Q,o,B];exact⟨i+1,by omega,by omega,by rw[u],by rw[Ej D];exact j⟩
   ·have B:decide ((0:Int)<(i:Int))=true:=Gu (by omega);have N:IntKind.i64.wrap ((i:Int)-1)=((i-1:Nat):Int):=ug hz (by omega);obtain⟨y,W,-⟩:=aZ (l:=c.shards) (i:=i-1) (by omega);have hp:nq c.shards i=y.id:=by simp[nq,Nat.ne_of_gt hz,W]
    rw[hp] at j;simp only[go_sem,h1,I,H,D,Q,o,B,N,W,Qc];cases q:decide (y.id<x.id) with
    |false=>
     rw[q,Gm] at j;simp only[go_sem,<-j]
    |true=>
     rw[q,Gy] at j;simp only[go_sem,h1,I,H];exact⟨i+1,by omega,by omega,by rw[u],by rw[Ej D];exact j⟩
  ·have h:=YC hi h;subst h;rw[GQ] at j;simp only[lp] at j;simp only[go_sem,<-j]
def eU {n:Nat}:decide ((16:Int)<(n:Int))=!decide (n<=16):=yt (a:=16)
def sT {n:Int}:decide (6<n)=!decide (n<=6):=by by_cases h:n<=6<;>simp[h]<;>omega
def sU {n:Int}:decide (8<n)=!decide (n<=8):=by by_cases h:n<=8<;>simp[h]<;>omega
def pT {n:Int}:decide (n<0)=!decide (0<=n):=by by_cases h:0<=n<;>simp[h]<;>omega
def pU {n:Int}:decide (n<9)=decide (n<=8):=GO.2 (by omega)
def zB:=HpC 285 F285<|HpA lC<|HpA lB<|ek
def HL (h:zB Pg) (r:Rq):K' Pg 285 [.agg (lu r)]=some (.bool (df r)):=by
 have⟨h,q,j,o⟩:=h;have y:=gq o 1 r.client r.req;have w:=lh q r.at_;have P:=kr j r.hi;have Q:=kr j r.key;simp only[mn] at y;simp only[Ye] at w;clear q j o;refine aA h rfl ?_;clear h;cases E:Ym r.client with
 |false=>simp only[go_sem,df, *]
 |true=>
 cases H:Ym r.req with
 |false=>simp only[go_sem,df, *]
 |true=>
 cases c3:decide (1<=r.kind) with
 |false=>simp only[go_sem,df,jX, *]
 |true=>
 cases I:decide (r.kind<=6) with
 |false=>simp only[go_sem,df,jX,sT, *]
 |true=>
 cases J:decide (r.value.length<=16) with
 |false=>simp only[go_sem,df,jX,sT,eU, *]
 |true=>
 cases L:decide (r.old.length<=16) with
 |false=>simp only[go_sem,df,jX,sT,eU, *]
 |true=>
 cases M:decide (0<=r.limit) with
 |false=>simp only[go_sem,df,jX,sT,eU,pT, *]
 |true=>
 cases N:decide (r.limit<=8) with
 |false=>simp only[go_sem,df,jX,sT,eU,pT,sU, *]
 |true=>
 cases O:Ya r.at_ with
 |false=>simp only[go_sem,df,jX,sT,eU,pT,sU, *]
 |true=>
 cases R:decide (r.hi=[]) with
 |true=>
  cases u:decide (r.kind=6) with
  |true=>
   have p:=Gc u;cases B:decide (r.key=[]) with
   |true=>simp only[go_sem,df,eU,pT,sU, *]
   |false=>cases D:aS r.key<;>simp only[go_sem,df,eU,pT,sU, *]
  |false=>
   have p:=Ga u;simp only[go_sem,df,jX,sT,eU,pT,sU, *]
 |false=>
  cases z:aS r.hi with
  |false=>simp only[go_sem,df,jX,sT,eU,pT,sU, *]
  |true=>
  cases u:decide (r.kind=6) with
  |true=>
   have p:=Gc u;cases B:decide (r.key=[]) with
   |true=>simp only[go_sem,df,eU,pT,sU, *]
   |false=>cases D:aS r.key<;>simp only[go_sem,df,eU,pT,sU, *]
  |false=>
   have p:=Ga u;simp only[go_sem,df,jX,sT,eU,pT,sU, *]
def El {α:Type} {W:α->mp} {P:α->Prop} (o:∀a,P a->1<=(W a).length) {l:List α} (j:∀a∈l,P a):l.length<=(fC W l).length/\∀a∈l,(W a).length<=(fC W l).length:=by
 have h1:=Ct o j;refine⟨by simp only[fC,Gf];omega,fun a ha=>?_⟩;have:(W a).length<=(l.flatMap W).length:=by
  clear h1 j
  induction l with
  |nil=>simp at ha
  |cons b l p=>
   simp only[GV,Gf];rcases GH.1 ha with rfl|ha
   ·omega
   ·have:=p ha;omega
 simp only[fC,Gf];omega
def K2 {t:mp}:t.length<=(dE t).length:=by simp[dE]
def X8 {e:aF} (h:wT e):e.key.length<=(eT e).length/\e.chain.length<=(eT e).length:=by
 have h1:=K2 (t:=e.key);have j:=(El Lb h.2.2).1;simp only[eT,Gf];omega
def CI {s:aM} (h:Cc s) (D:(cW s).length<=10000):kz s:=by
 obtain⟨⟨E,H,I,J,L,M,N,O,P,q,u,⟨w,j⟩,⟨y,o⟩⟩,-⟩:=h;have⟨S,z⟩:=El Ld j;have⟨Q,R⟩:=El KK o;have T:=K2 (t:=s.span.lo);have U:=K2 (t:=s.span.hi);simp only[cW,Gf] at D;refine⟨⟨by omega,fun e p=>?_⟩,by omega,fun d B=>?_,by omega,by omega⟩
 ·have:=z e p;have:=X8 (j e p);omega
 ·have:=(o d B).2;rw[<-this];simp[mY]
def PG {c:aP} (h:CV c) (q:(cB c).length<=10000):eG c:=by
 obtain⟨⟨u,w,y,j⟩,-⟩:=h;have⟨z,p⟩:=El EA j;simp only[cB,Gf] at q;exact⟨by omega,fun s o=>CI (j s o) (by have:=p s o;omega)⟩
def yq (t:aB) (d:Int) (e:V):Eq:=[e,iz t.wall,iz t.tick,iz t.node,iz d]
structure uF (S:St) (y:Rd) (t:aB) (d:Int) (vs:List aM) (j:Nat):Prop where
 r2:S.ρ 2=.lref 2 0
 r4:S.ρ 4=.lref 8 0
 r5:S.ρ 5=.lref 5 0
 m8:S.μ 8=some (bM y,false)
 m2:S.μ 2=some ([.slice 17 [],.int .i64 0,.int .i64 0,.int .i64 0,.int .i64 0],false)
 m5:S.μ 5=some (yq t d (bA 23 17 j),false)
 yp:S.A 23=i8 17 (vs.map Yg) j
 vl:vs.length=j
def Z1 (B:rX Pg) {y:Rd} {m:Nat} {t:aB} {d:Int} (hy:y.1.length<=2^20) (hm:m<=2^20) {S:St} {Q:Ex->St->Prop} (hS:uF S y t d [] 0) (P:S.ρ 15=iz m) (R:S.ρ 16=iz 0)
  (Y:∀S',uF S' (cO (dX false) m y).2 t d (cO (dX false) m y).1 m->Q .norm S'):Wp (K' Pg) l428_0 S (gm 0 Q):=by
 unfold l428_0
 refine bu (fun (j:Nat) S'=>j<=m/\S'.ρ 15=iz m/\S'.ρ 16=iz j/\∃(vs:List aM) (o:Rd),o.1.length<=2^20/\
  cO (dX false) m y=(vs++(cO (dX false) (m-j) o).1,(cO (dX false) (m-j) o).2)/\uF S' o t d vs j) (fun j=>m-j) 0 ?_ ?_
 ·simp only[nj]
  exact⟨GY _,P,R,[],y,hy,rfl,hS⟩
 ·intro j S' ⟨hj,I,J,vs,o,H,u,hE⟩
  have⟨t2,T,U,m8,m2,m5,yp,w⟩:=hE
  cases L:decide ((j:Int)<(m:Int)) with
  |false=>
   have N:j=m:=by have:=Ga L;omega
   subst N
   have he:=Eo u
   simp only[go_sem,I,J,L]
   rw[he] at Y
   exact Y _ ⟨by simp only[go_sem,t2],by simp only[go_sem,T],by simp only[go_sem,U],m8,m2,m5,yp,w⟩
  |true=>
   have O:=Yj L
   have E:=inc64q (i:=j) (by omega)
   have q:=ij O u
   have k1:=B2 B o H
   have Z:=GI ((tf (D:=false)).len o) H
   generalize dX false o=p1 at *
   have⟨W,x1⟩:=p1
   simp only at q Z
   have r1:=fun (S:St) (hm:S.μ 8=some (bM o,false))=>aG (p:=20300) k1 hm
   have M:(vs.map Yg).length=j:=by simp[w]
   have X:=fun S=>sM (S:=S) (s:=23) (z:=17) (r:=Yg W) M (by unfold aU;omega)
   have v5:=m5
   simp only[yq] at v5
   simp only[go_sem] at r1 m8 X
   simp only[go_sem,T,U,I,J,L,m8,v5,yp,r1,sL,X,E,nj]
   exact⟨j+1,by omega,by omega,rfl,vs++[W],x1,Z,q,by simp only[go_sem,t2],by simp only[go_sem,T],by simp only[go_sem,U],by simp only[go_sem],by simp only[go_sem,m2],by simp only[go_sem]<;>rfl,by simp only[go_sem,Gz]<;>rfl,by simp[w]⟩
def pN (o:Option aP):V:=match o with
 |some c=>.tuple [.agg (Yq c),iz 0]
 |none=>.tuple [.agg [.slice 17 [],iz 0,iz 0,iz 0,iz 0],iz 3]
def nU:=HpC 428 F428<|HpA mC<|HpA nY<|HpA rW<|HpA rX<|gH
theorem BU (h:nU Pg) (t:mp) (ht:t.length<=2^20) (U:∀c,CV c->cB c=t->eG c):K' Pg 428 [.str t]=some (pN (gG t)):=by
 have⟨h,B,E,H,I,z⟩:=h;have hR:∀{a:aB} {n:Nat} {q o:Rd},rd cJ zS (t,false)=(a,q)->rd (tk 9) 0 q=(n,o)->
   gC false (t,false)=(iM (a,n,(cO (dX false) (rL o).1 (rL o).2).1),(cO (dX false) (rL o).1 (rL o).2).2):=by
  intro a n q o N O
  have d1:gN false=rd (tk 9) 0:=rfl
  have d3:gS false=rd cJ zS:=rfl
  simp only[gC,gW,bR,d1,d3,N,O]
  rfl
 have W:=ox B (t,false) (by simp only;omega);have Y:=(cS (D:=false)).len (t,false);change (rd cJ zS (t,false)).2.1.length<=t.length at Y;cases N:rd cJ zS (t,false) with
 |mk a q=>
 rw[N] at W Y;simp only at W Y;have X:=gJ E q (by omega);have l2:=eC.len q;cases O:rd (tk 9) 0 q with
 |mk n o=>
 rw[O] at X l2;simp only at X l2;have k3:=sA H o (by omega);have Z:=LB (x:=o) (by omega);have P:=hR N O;generalize rL o=pL at *
 have⟨m,y⟩:=pL;simp only at k3 Z P;generalize hD:cO (dX false) m y=pD at *
 have⟨sh,u,b⟩:=pD;simp only at P;have T:b=false->u=[]->eG (iM (a,n,sh)):=fun hb hu=>by
  subst hb;subst hu;have⟨g1,g2⟩:=(cC (D:=false)).get P;exact U _ g2 (by rw[GD] at g1;exact g1.symm)
 refine aA h rfl ?_;have r1:=fun (S:St) (hm:S.μ 8=some (bM (t,false),false))=>aG (p:=20000) W hm;have r2:=fun (S:St) (hm:S.μ 8=some (bM q,false))=>aG (p:=20100) X hm;have r3:=fun (S:St) (hm:S.μ 8=some (bM o,false))=>aG (p:=20200) k3 hm;simp only[go_sem,jc] at r1 r2 r3;simp only[F428,c428,go_sem,r1,r2,r3];refine Z1 I (y:=y) (m:=m) (t:=a) (d:=n) Z.2 Z.1 ⟨by simp only[go_sem],by simp only[go_sem],by simp only[go_sem],by simp only[go_sem],by simp only[go_sem],by simp only[go_sem]<;>rfl,rfl,rfl⟩ (by simp only[go_sem]) (by simp only[go_sem]) fun S1 J=>?_;rw[hD] at J;have⟨Q,R,t5,m8,m2,m5,yp,M⟩:=J;simp only at m8 yp M;have L:=sF yp (by simp[M]);simp only[yq] at m5;simp only[go_sem] at m8;have e0:gG t=if (b=false/\u=[])/\Yy (iM (a,n,sh))=true then some (iM (a,n,sh)) else none:=by
  unfold gG;rw[P];simp only[Gr,and_comm]
 rw[e0];cases b with
 |true=>
  rw[Gn (by simp)];simp only[go_sem,Q,R,m8,m2,pN]
 |false=>
  cases w:decide (u=[]) with
  |false=>
   rw[Gn (by simp[Ga w])];simp only[go_sem,Q,R,m8,m2,w,pN]
  |true=>
   have hu:=Gc w;have j:=ip z (iM (a,n,sh)) (T rfl hu);cases c3:Yy (iM (a,n,sh)) with
   |false=>
    rw[c3] at j;rw[Gn (by simp)];simp only[go_sem,iM] at j;simp only[go_sem,Q,R,t5,m8,m2,m5,w,L,j,pN]
   |true=>
    rw[c3] at j;rw[Gt ⟨⟨rfl,hu⟩,rfl⟩];simp only[go_sem,iM] at j;simp only[go_sem,Q,R,t5,m8,m2,m5,w,L,j,pN,iM]
def BT (h:nU Pg) (t:mp) (ht:t.length<=10000):K' Pg 428 [.str t]=some (pN (gG t)):=
 BU h t (by omega) fun c j e=>PG j (by rw[e];exact ht)
def fP {α:Type} {R:Rd->α×Rd} {m j:Nat} {vs:List α} {y y':Rd} (hj:j<m) (hn:y'.2=false) (h:cR R m y=(vs++(cR R (m-j) y').1,(cR R (m-j) y').2)) :
  cR R m y=((vs++[(R y').1])++(cR R (m-(j+1)) (R y').2).1,(cR R (m-(j+1)) (R y').2).2):=by
 rw[h,show m-j=(m-(j+1))+1 by omega]
 simp[cR,hn]
def Ea {α:Type} {R:Rd->α×Rd} {m j:Nat} {vs:List α} {y o:Rd} (h:cR R m y=(vs++(cR R (m-j) o).1,(cR R (m-j) o).2)) (hs:m<=j\/o.2=true):cR R m y=(vs,o):=by
 rw[h];rcases hs with hs|hs
 ·rw[show m-j=0 by omega];simp[cR]
 ·have⟨s,b⟩:=o;simp only at hs;subst hs;rw[xV];simp
def CA {S:St} {Wv:List Nat} {v:Nat} (j:Wv.contains v=false):(S.head [] [] Wv []).μ v=S.μ v:=by
 show (if Wv.contains v then none else (S.μ v).map _)=_
 rw[j];cases S.μ v<;>rfl
structure fj (S:St) (y:Rd) (sh:aM) (es:List aF) (ds:List aH):Prop where
 r0:S.ρ 0=.lref 0 0
 r2:S.ρ 2=.lref 2 0
 r3:S.ρ 3=.lref 3 0
 m0:S.μ 0=some (bM y,false)
 m2:S.μ 2=some (iY,false)
 m3:S.μ 3=some (lx sh (bA 97 2 es.length) (bA 139 11 ds.length),false)
 m11:S.μ 11=none
 a97:S.A 97=i8 2 (es.map dk) es.length
 a139:S.A 139=i8 11 (ds.map YK) ds.length
def fj.head {S:St} {y:Rd} {sh:aM} {es:List aF} {ds:List aH} {Wv Wa:List Nat} (h:fj S y sh es ds) (h0:Wv.contains 0=false) (p:Wv.contains 2=false) (q:Wv.contains 3=false) (o:Wa.contains 97=false) (j:Wa.contains 139=false) :
  fj (S.head [] [] Wv Wa) y sh es ds:=
 ⟨bB h.r0 (by simp only[gj,h0];rfl),bB h.r2 (by simp only[gj,p];rfl),bB h.r3 (by simp only[gj,q];rfl),km h.m0 rfl h0,km h.m2 rfl p,xT h.m3 q o j,gZ (.inl h.m11),(lJ o).trans h.a97,(lJ j).trans h.a139⟩
structure wo (S:St) (M I m j:Nat) (key:mp) (vs:List bz):Prop where
 r4:S.ρ 4=iz M
 r5:S.ρ 5=iz I
 r6:S.ρ 6=.lref 6 0
 r7:S.ρ 7=iz m
 r8:S.ρ 8=iz j
 m6:S.μ 6=some ([.str key,bA 91 5 vs.length],false)
 m9:S.μ 9=none
 a91:S.A 91=i8 5 (vs.map dv) vs.length
 vl:vs.length=j
def Z5 (L:mA Pg) (O:oa Pg) (N:nZ Pg) {y:Rd} {M I m:Nat} {key:mp} {sh:aM} {es:List aF} {ds:List aH} (hy:y.1.length<=2^21) {S:St} {Q:Ex->St->Prop}
  (hB:fj S y sh es ds) (w:wo S M I m 0 key [])
  (hm:(cR (gV true) m y).1.length<=2^21)
  (hq:∀S' j,fj S' (cR (gV true) m y).2 sh es ds->wo S' M I m j key (cR (gV true) m y).1->Q .norm S'):Wp (K' Pg) l436_1 S (gm 2 Q):=by
 unfold l436_1
 refine bu (fun (j:Nat) S'=>j<=m/\∃(vs:List bz) (E:Rd),E.1.length<=2^21/\
  cR (gV true) m y=(vs++(cR (gV true) (m-j) E).1,(cR (gV true) (m-j) E).2)/\fj S' E sh es ds/\wo S' M I m j key vs) (fun j=>m-j) 0 ?_ ?_
 ·exact⟨GY _,[],y,hy,rfl,hB.head rfl rfl rfl rfl rfl,bB w.r4 rfl,bB w.r5 rfl,bB w.r6 rfl,bB w.r7 rfl,bB w.r8 rfl,(CA rfl).trans w.m6,gZ (.inr rfl),(lJ rfl).trans w.a91,rfl⟩
 ·intro j S' ⟨hj,vs,E,T,B,hB,w⟩
  have⟨Y,t2,t3,m0,m2,m3,m11,a97,a139⟩:=hB
  have⟨t4,t5,t6,U,Z,m6,m9,a91,R⟩:=w
  have⟨u,b⟩:=E
  simp only[go_sem] at m0
  have J:(m<=j\/b=true)->∀(ρ':Nat->V),(∀i,i≠75->ρ' i=S'.ρ i)->Q .norm ⟨ρ',S'.μ,S'.A⟩:=fun hs ρ' q=>by
   have he:=Ea B hs;rw[he] at hq;exact hq _ j ⟨(q 0 (by omega)).trans Y,(q 2 (by omega)).trans t2,(q 3 (by omega)).trans t3,m0,m2,m3,m11,a97,a139⟩ ⟨(q 4 (by omega)).trans t4,(q 5 (by omega)).trans t5,(q 6 (by omega)).trans t6,(q 7 (by omega)).trans U,(q 8 (by omega)).trans Z,m6,m9,a91,R⟩
  cases H:decide ((j:Int)<(m:Int)) with
  |false=>
   have aa:m<=j:=by have:=Ga H;omega
   simp only[go_sem,U,Z,H]
   exact J (.inl aa) _ fun i hi=>jr (by simpa using hi)
  |true=>
   cases b with
   |true=>
    simp only[go_sem,Y,U,Z,m0,H]
    exact J (.inr rfl) _ fun i hi=>jr (by simpa using hi)
   |false=>
    have ab:=Yj H
    have o:=fP ab rfl B
    have ac:j+1<=2^21:=by
     have:=gp (fun p=>p.1.length) o;simp only[Gf,List.length_singleton] at this;omega
    have P:=inc64q (i:=j) (by omega)
    have k1:=ou L (u,false) (by simp only at T ⊢;omega)
    have l1:(cu cJ zS (u,false)).2.1.length<=2^21:=GI ((cS (D:=true)).len (u,false)) T
    have hR:gV true (u,false)=(⟨(cu cJ zS (u,false)).1,(cu dY false (cu cJ zS (u,false)).2).1,(cu dh [] (cu dY false (cu cJ zS (u,false)).2).2).1⟩,(cu dh [] (cu dY false (cu cJ zS (u,false)).2).2).2):=rfl
    rw[hR] at o
    generalize cu cJ zS (u,false)=p1 at *
    have⟨b1,W⟩:=p1
    simp only at o l1
    have k2:=B3 O W (by omega)
    have l2:(cu dY false W).2.1.length<=2^21:=GI ((cF (D:=true)).len W) l1
    generalize cu dY false W=p2 at *
    have⟨b2,X⟩:=p2
    simp only at o l2
    have k3:=oz N X (by omega)
    have l3:(cu dh [] X).2.1.length<=2^21:=GI ((cT (D:=true)).len X) l2
    generalize cu dh [] X=p3 at *
    have⟨b3,x3⟩:=p3
    simp only at o l3
    have r1:=fun (S:St) (hm:S.μ 0=some (bM (u,false),false))=>aG (p:=21400) k1 hm
    have r2:=fun (S:St) (hm:S.μ 0=some (bM W,false))=>aG (p:=21500) k2 hm
    have r3:=fun (S:St) (hm:S.μ 0=some (bM X,false))=>aG (p:=21600) k3 hm
    have ha:=fun S=>sM (S:=S) (s:=91) (z:=5) (n:=vs.length) (rows:=vs.map dv) (r:=dv ⟨b1,b2,b3⟩) (by simp) (by unfold aU;omega)
    simp only[go_sem,jc] at r1 r2 r3 ha
    simp only[go_sem,Y,t6,U,Z,H,m0,m6,m9,a91,r1,r2,r3,sL,ha,P]
    refine⟨j+1,by omega,by omega,vs++[⟨b1,b2,b3⟩],x3,l3,o,fj.head ⟨by simp only[go_sem,Y],by simp only[go_sem,t2],by simp only[go_sem,t3],by simp only[go_sem],by simp only[go_sem,m2],by simp only[go_sem,m3],by simp only[go_sem,m11],by simp only[go_sem,a97],by simp only[go_sem,a139]⟩ rfl rfl rfl rfl rfl,
     bB (by simp only[go_sem,t4]) rfl,bB (by simp only[go_sem,t5]) rfl,bB (by simp only[go_sem,t6]) rfl,bB (by simp only[go_sem,U]) rfl,bB (by simp only[go_sem]) rfl,(CA rfl).trans (by simp only[go_sem,Gf]<;>rfl),gZ (.inr rfl),(lJ rfl).trans (by simp only[go_sem,Gz,Gf]<;>rfl),by simp[R]⟩
theorem Cl {α:Type} {R:Rd->α×Rd} {W:α->mp} {P:α->Prop} (h:dA R W P) (j:∀a,P a->1<=(W a).length):∀{k:Nat} {x:Rd},(cR R k x).1.length<=x.1.length+1
 |0,x=>by simp[cR]
 |k+1,(s,true)=>by rw[xV];simp
 |k+1,(s,false)=>by
  have e:cR R (k+1) (s,false)=((R (s,false)).1::(cR R k (R (s,false)).2).1,(cR R k (R (s,false)).2).2):=rfl;rw[e];simp only[List.length_cons];cases w:R (s,false) with
  |mk a y=>
   have⟨r,b⟩:=y;cases b with
   |true=>simp only[xV,List.length_nil];omega
   |false=>
    have⟨o,p⟩:=h.get w;have h1:=j a p;have q:=Cl h j (k:=k) (x:=(r,false));have u:=gp List.length o;simp only[Gf] at u;simp only at q ⊢;omega
def XL (L:mA Pg) (O:oa Pg) (q:nZ Pg) (N:nV Pg) {y:Rd} {m:Nat} {sh:aM} {ds:List aH} (hy:y.1.length<=2^20) {S:St} {Q:Ex->St->Prop}
  (hB:fj S y sh [] ds) (s4:S.ρ 4=iz m) (s5:S.ρ 5=iz 0) (n6:S.μ 6=none) (n9:S.μ 9=none) (a91:S.A 91=none)
  (hq:∀S',fj S' (cR (gE true) m y).2 sh (cR (gE true) m y).1 ds->Q .norm S'):Wp (K' Pg) l436_0 S (gm 0 Q):=by
 have aj:=Cl (cE (D:=true)) Ld (k:=m) (x:=y)
 unfold l436_0
 refine bu (fun (j:Nat) S'=>j<=m/\S'.ρ 4=iz m/\S'.ρ 5=iz j/\S'.μ 6=none/\S'.μ 9=none/\S'.A 91=none/\∃(vs:List aF) (E:Rd),vs.length=j/\E.1.length<=2^20/\
  cR (gE true) m y=(vs++(cR (gE true) (m-j) E).1,(cR (gE true) (m-j) E).2)/\fj S' E sh vs ds) (fun j=>m-j) 0 ?_ ?_
 ·exact⟨GY _,bB s4 rfl,bB s5 rfl,gZ (.inl n6),gZ (.inl n9),Po rfl,[],y,rfl,hy,rfl,hB.head rfl rfl rfl rfl rfl⟩
 ·intro j S' ⟨hj,t4,t5,m6,m9,a91,vs,E,af,U,w,hB⟩
  have⟨t0,t2,t3,m0,m2,m3,m11,a97,a139⟩:=hB
  have⟨u,b⟩:=E
  simp only[go_sem] at m0
  have J:(m<=j\/b=true)->∀(ρ':Nat->V),(∀i,i≠58->ρ' i=S'.ρ i)->Q .norm ⟨ρ',S'.μ,S'.A⟩:=fun hs ρ' B=>by
   have he:=Ea w hs;rw[he] at hq;exact hq _ ⟨(B 0 (by omega)).trans t0,(B 2 (by omega)).trans t2,(B 3 (by omega)).trans t3,m0,m2,m3,m11,a97,a139⟩
  cases H:decide ((j:Int)<(m:Int)) with
  |false=>
   have ac:m<=j:=by have:=Ga H;omega
   simp only[go_sem,t4,t5,H]
   exact J (.inl ac) _ fun i hi=>jr (by simpa using hi)
  |true=>
   cases b with
   |true=>
    simp only[go_sem,t0,t4,t5,m0,H]
    exact J (.inr rfl) _ fun i hi=>jr (by simpa using hi)
   |false=>
    have ad:=Yj H
    have o:=fP ad rfl w
    have ak:vs.length+1<=2^21:=by
     have:=gp (fun p=>p.1.length) o;simp only[Gf,List.length_singleton] at this;omega
    have T:=inc64q (i:=j) (by omega)
    have k1:=oz q (u,false) (by simp only at U ⊢;omega)
    have l1:(cu dh [] (u,false)).2.1.length<=2^20:=GI ((cT (D:=true)).len (u,false)) U
    have hR:gE true (u,false)=(⟨(cu dh [] (u,false)).1,(cR (gV true) (cu (tk 9) 0 (cu dh [] (u,false)).2).1 (cu (tk 9) 0 (cu dh [] (u,false)).2).2).1⟩,(cR (gV true) (cu (tk 9) 0 (cu dh [] (u,false)).2).1 (cu (tk 9) 0 (cu dh [] (u,false)).2).2).2):=rfl
    rw[hR] at o
    generalize cu dh [] (u,false)=p1 at *
    have⟨b1,Y⟩:=p1
    simp only at o l1
    have k2:=fk N Y (by omega)
    have l2:(cu (tk 9) 0 Y).2.1.length<=2^20:=GI (jw.len Y) l1
    generalize cu (tk 9) 0 Y=p2 at *
    have⟨Z,x2⟩:=p2
    simp only at o l2
    have r1:=fun (S:St) (hm:S.μ 0=some (bM (u,false),false))=>aG (p:=21200) k1 hm
    have r2:=fun (S:St) (hm:S.μ 0=some (bM Y,false))=>aG (p:=21300) k2 hm
    have aa:=Cl (cV (D:=true)) Lb (k:=Z) (x:=x2)
    have lz:=GI (Eb (cV (D:=true)) (k:=Z) (x:=x2)) l2
    simp only[go_sem] at r1 r2
    simp only[go_sem,t0,t4,t5,H,m0,m6,r1,r2]
    refine Z5 L O q (y:=x2) (M:=m) (I:=j) (m:=Z) (key:=b1) (sh:=sh) (es:=vs) (ds:=ds) (by omega) ⟨by simp only[go_sem,t0],by simp only[go_sem,t2],by simp only[go_sem,t3],by simp only[go_sem],by simp only[go_sem,m2],by simp only[go_sem,m3],by simp only[go_sem,m11],by simp only[go_sem,a97],by simp only[go_sem,a139]⟩
     ⟨by simp only[go_sem,t4],by simp only[go_sem,t5],by simp only[go_sem],by simp only[go_sem],by simp only[go_sem],by simp only[go_sem]<;>rfl,by simp only[go_sem,m9],a91,rfl⟩ (by omega) fun S2 j2 P R=>?_
    generalize hz:cR (gV true) Z x2=z at *
    have⟨z1,z2⟩:=z
    simp only at P R o aa lz
    have⟨u0,u2,u3,v0,v2,v3,ag,ai,X⟩:=P
    have⟨u4,u5,u6,u7,u8,v6,v9,ah,al⟩:=R
    have ab:=sF ah (by simp)
    have ae:=OR (s:=91) (z:=5) (n:=z1.length)
    have ha:=fun S=>sM (S:=S) (s:=97) (z:=2) (n:=vs.length) (rows:=vs.map dk) (r:=dk ⟨b1,z1⟩) (by simp) (by unfold aU;omega)
    simp only[go_sem,Yd] at ha
    have W:=v3
    simp only[lx] at W
    simp only[go_sem,u3,u4,u5,u6,W,v6,ai,ab,ae,sL,ha,T]
    refine⟨j+1,by omega,by omega,rfl,vs++[⟨b1,z1⟩],z2,by simp[af],lz,o,?_⟩
    refine fj.head ?_ rfl rfl rfl rfl rfl
    exact⟨by simp only[go_sem,u0],by simp only[go_sem,u2],by simp only[go_sem,u3],by simp only[go_sem,v0],by simp only[go_sem,v2],by simp only[go_sem,Gf]<;>rfl,by simp only[go_sem,ag],by simp only[go_sem,Gz,Gf]<;>rfl,by simp only[go_sem,X]⟩
def ZI {S:St} {y:Rd} {sh:aM} {es:List aF} {ds:List aH} (r0:S.ρ 0=.lref 0 0) (r2:S.ρ 2=.lref 2 0) (r3:S.ρ 3=.lref 3 0) (m0:S.μ 0=some (bM y,false)) (m2:S.μ 2=some (iY,false))
  (m3:S.μ 3=some (lx sh (bA 97 2 es.length) (bA 139 11 ds.length),false)) (a97:S.A 97=i8 2 (es.map dk) es.length) (a139:S.A 139=i8 11 (ds.map YK) ds.length):fj (S.head [] [] [11] []) y sh es ds:=
 ⟨bB r0 rfl,bB r2 rfl,bB r3 rfl,km m0 rfl rfl,km m2 rfl rfl,xT m3 rfl rfl rfl,gZ (.inr rfl),(lJ rfl).trans a97,(lJ rfl).trans a139⟩
def X5 (L:mA Pg) (N:oa Pg) (M:nZ Pg) (w:nV Pg) {y:Rd} {m:Nat} {sh:aM} {es:List aF} (hy:y.1.length<=2^20) {S:St} {Q:Ex->St->Prop}
  (Z:fj S y sh es []) (s4:S.ρ 4=iz m) (af:S.ρ 10=iz 0)
  (hq:∀S',fj S' (cR (gD true) m y).2 sh es (cR (gD true) m y).1->Q .norm S'):Wp (K' Pg) l436_2 S (gm 4 Q):=by
 have ag:=Cl (cD (D:=true)) KK (k:=m) (x:=y)
 unfold l436_2
 refine bu (fun (j:Nat) S'=>j<=m/\S'.ρ 4=iz m/\S'.ρ 10=iz j/\∃(vs:List aH) (q:Rd),vs.length=j/\q.1.length<=2^20/\
  cR (gD true) m y=(vs++(cR (gD true) (m-j) q).1,(cR (gD true) (m-j) q).2)/\fj S' q sh es vs) (fun j=>m-j) 0 ?_ ?_
 ·exact⟨GY _,bB s4 rfl,bB af rfl,[],y,rfl,hy,rfl,Z.head rfl rfl rfl rfl rfl⟩
 ·intro j S' ⟨hj,t4,H,vs,q,ac,ae,B,Z⟩
  have⟨U,t2,t3,m0,m2,m3,m11,a97,a139⟩:=Z
  have⟨u,b⟩:=q
  simp only[go_sem] at m0
  have J:(m<=j\/b=true)->∀(ρ':Nat->V),(∀i,i≠110->ρ' i=S'.ρ i)->Q .norm ⟨ρ',S'.μ,S'.A⟩:=fun hs ρ' E=>by
   have he:=Ea B hs;rw[he] at hq;exact hq _ ⟨(E 0 (by omega)).trans U,(E 2 (by omega)).trans t2,(E 3 (by omega)).trans t3,m0,m2,m3,m11,a97,a139⟩
  cases I:decide ((j:Int)<(m:Int)) with
  |false=>
   have aa:m<=j:=by have:=Ga I;omega
   simp only[go_sem,t4,H,I]
   exact J (.inl aa) _ fun i hi=>jr (by simpa using hi)
  |true=>
   cases b with
   |true=>
    simp only[go_sem,U,t4,H,m0,I]
    exact J (.inr rfl) _ fun i hi=>jr (by simpa using hi)
   |false=>
    have ab:=Yj I
    have o:=fP ab rfl B
    have ah:vs.length+1<=2^21:=by
     have:=gp (fun p=>p.1.length) o;simp only[Gf,List.length_singleton] at this;omega
    have O:=inc64q (i:=j) (by omega)
    have le:∀{α:Type} {R:Rd->α×Rd} {W:α->mp} {P:α->Prop},dA R W P->∀{x:Rd},x.1.length<=2^20->(R x).2.1.length<=2^20:=fun h x hx=>GI (h.len x) hx
    generalize ad:((u,false):Rd)=q at *
    have T:q.1.length<=2^20:=ae
    have k1:=fk w q (by omega)
    have hR:gD true q=(mY ((cu (tk 9) 0 q).1,(cu (tk 9) 0 (cu (tk 9) 0 q).2).1,(cu (tk 9) 0 (cu (tk 9) 0 (cu (tk 9) 0 q).2).2).1,(cu cJ zS (cu (tk 9) 0 (cu (tk 9) 0 (cu (tk 9) 0 q).2).2).2).1,
      (cu dY false (cu cJ zS (cu (tk 9) 0 (cu (tk 9) 0 (cu (tk 9) 0 q).2).2).2).2).1,(cu dh [] (cu dY false (cu cJ zS (cu (tk 9) 0 (cu (tk 9) 0 (cu (tk 9) 0 q).2).2).2).2).2).1),
      (cu dh [] (cu dY false (cu cJ zS (cu (tk 9) 0 (cu (tk 9) 0 (cu (tk 9) 0 q).2).2).2).2).2).2):=rfl
    rw[hR] at o
    have l1:=le jw T
    generalize cu (tk 9) 0 q=p1 at *
    have⟨b1,x1⟩:=p1
    simp only at o l1
    have k2:=fk w x1 (by omega)
    have l2:=le jw l1
    generalize cu (tk 9) 0 x1=p2 at *
    have⟨b2,x2⟩:=p2
    simp only at o l2
    have k3:=fk w x2 (by omega)
    have l3:=le jw l2
    generalize cu (tk 9) 0 x2=p3 at *
    have⟨b3,x3⟩:=p3
    simp only at o l3
    have k4:=ou L x3 (by omega)
    have l4:=le (cS (D:=true)) l3
    change (cu cJ zS x3).2.1.length<=2^20 at l4
    generalize cu cJ zS x3=p4 at *
    have⟨b4,X⟩:=p4
    simp only at o l4
    have k5:=B3 N X (by omega)
    have l5:=le (cF (D:=true)) l4
    change (cu dY false X).2.1.length<=2^20 at l5
    generalize cu dY false X=p5 at *
    have⟨b5,Y⟩:=p5
    simp only at o l5
    have k6:=oz M Y (by omega)
    have l6:=le (cT (D:=true)) l5
    change (cu dh [] Y).2.1.length<=2^20 at l6
    generalize cu dh [] Y=p6 at *
    have⟨b6,x6⟩:=p6
    simp only at o l6
    have r1:=fun (S:St) (hm:S.μ 0=some (bM q,false))=>aG (p:=21800) k1 hm
    have r2:=fun (S:St) (hm:S.μ 0=some (bM x1,false))=>aG (p:=21900) k2 hm
    have r3:=fun (S:St) (hm:S.μ 0=some (bM x2,false))=>aG (p:=22000) k3 hm
    have r4:=fun (S:St) (hm:S.μ 0=some (bM x3,false))=>aG (p:=22100) k4 hm
    have r5:=fun (S:St) (hm:S.μ 0=some (bM X,false))=>aG (p:=22200) k5 hm
    have r6:=fun (S:St) (hm:S.μ 0=some (bM Y,false))=>aG (p:=22300) k6 hm
    have ha:=fun S=>sM (S:=S) (s:=139) (z:=11) (n:=vs.length) (rows:=vs.map YK) (r:=YK (mY (b1,b2,b3,b4,b5,b6))) (by simp) (by unfold aU;omega)
    have v3:=m3
    simp only[lx] at v3
    subst ad
    simp only[go_sem,jc,mY,Gk] at r1 r2 r3 r4 r5 r6 ha
    simp only[go_sem,U,t3,t4,H,I,m0,m11,v3,a139,r1,r2,r3,r4,r5,r6,sL,ha,O]
    refine⟨j+1,by omega,by omega,rfl,vs++[mY (b1,b2,b3,b4,b5,b6)],x6,by simp[ac],l6,o,?_⟩
    exact ZI (by simp only[go_sem,U]) (by simp only[go_sem,t2]) (by simp only[go_sem,t3]) (by simp only[go_sem]) (by simp only[go_sem,m2]) (by simp only[go_sem,Gf]<;>rfl) (by simp only[go_sem,a97]) (by simp only[go_sem,Gz,Gf]<;>rfl)
def rQ:=HpR 436 F436 0<|HpA mA<|HpA oa<|HpA nZ<|nV
theorem BV (h:rQ Pg) (x:Rd) (hx:x.1.length<=2^20):K' Pg 436 [.tuple (.lref 0 0::bM x)]=some (.tuple [.agg (Yg (dX true x).1),.tuple (bM (dX true x).2)]):=by
 have⟨h,u,E,w,j⟩:=h;have le:∀{α:Type} {R:Rd->α×Rd} {W:α->mp} {P:α->Prop},dA R W P->∀{x:Rd},x.1.length<=2^20->(R x).2.1.length<=2^20:=fun h x hx=>GI (h.len x) hx;have hR:∀{a1 a2 a3 a4 a5 a6 a7:Nat} {b1 b2:mp} {c1 c2:aB} {H I x3 J L M N O Q q o:Rd},cu (tk 9) 0 x=(a1,H)->cu (tk 9) 0 H=(a2,I)->cu (tk 9) 0 I=(a3,x3)->cu (tk 9) 0 x3=(a4,J)->cu (tk 9) 0 J=(a5,L)->cu (tk 9) 0 L=(a6,M)->cu (tk 9) 0 M=(a7,N)->
   cu dh [] N=(b1,O)->cu dh [] O=(b2,Q)->cu cJ zS Q=(c1,q)->cu cJ zS q=(c2,o)->
   dX true x=(mh (a1,a2,a3,a4,a5,a6,a7,b1,b2,c1,c2,(lstD (gE true) o).1,(lstD (gD true) (lstD (gE true) o).2).1),(lstD (gD true) (lstD (gE true) o).2).2):=by
  intro a1 a2 a3 a4 a5 a6 a7 b1 b2 c1 c2 H I x3 J L M N O Q q o e1 e2 e3 e4 e5 e6 e7 e8 e9 z B
  have d1:gN true=cu (tk 9) 0:=rfl
  have d2:gT true=cu dh []:=rfl
  have d3:gS true=cu cJ zS:=rfl
  simp only[dX,gW,bR,d1,d2,d3,e1,e2,e3,e4,e5,e6,e7,e8,e9,z,B]
  rfl
 have k1:=fk j x (by omega);have l1:(cu (tk 9) 0 x).2.1.length<=2^20:=le jw hx;cases e1:cu (tk 9) 0 x with
 |mk a1 H=>
 rw[e1] at k1 l1;simp only at k1 l1;have k2:=fk j H (by omega);have l2:(cu (tk 9) 0 H).2.1.length<=2^20:=le jw l1;cases e2:cu (tk 9) 0 H with
 |mk a2 I=>
 rw[e2] at k2 l2;simp only at k2 l2;have k3:=fk j I (by omega);have l3:(cu (tk 9) 0 I).2.1.length<=2^20:=le jw l2;cases e3:cu (tk 9) 0 I with
 |mk a3 x3=>
 rw[e3] at k3 l3;simp only at k3 l3;have k4:=fk j x3 (by omega);have l4:(cu (tk 9) 0 x3).2.1.length<=2^20:=le jw l3;cases e4:cu (tk 9) 0 x3 with
 |mk a4 J=>
 rw[e4] at k4 l4;simp only at k4 l4;have k5:=fk j J (by omega);have l5:(cu (tk 9) 0 J).2.1.length<=2^20:=le jw l4;cases e5:cu (tk 9) 0 J with
 |mk a5 L=>
 rw[e5] at k5 l5;simp only at k5 l5;have k6:=fk j L (by omega);have l6:(cu (tk 9) 0 L).2.1.length<=2^20:=le jw l5;cases e6:cu (tk 9) 0 L with
 |mk a6 M=>
 rw[e6] at k6 l6;simp only at k6 l6;have k7:=fk j M (by omega);have l7:(cu (tk 9) 0 M).2.1.length<=2^20:=le jw l6;cases e7:cu (tk 9) 0 M with
 |mk a7 N=>
 rw[e7] at k7 l7;simp only at k7 l7;have k8:=oz w N (by omega);have l8:(cu dh [] N).2.1.length<=2^20:=le (cT (D:=true)) l7;cases e8:cu dh [] N with
 |mk b1 O=>
 rw[e8] at k8 l8;simp only at k8 l8;have k9:=oz w O (by omega);have l9:(cu dh [] O).2.1.length<=2^20:=le (cT (D:=true)) l8;cases e9:cu dh [] O with
 |mk b2 Q=>
 rw[e9] at k9 l9;simp only at k9 l9;have U:=ou u Q (by omega);have Y:(cu cJ zS Q).2.1.length<=2^20:=le (cS (D:=true)) l9;cases z:cu cJ zS Q with
 |mk c1 q=>
 rw[z] at U Y;simp only at U Y;have X:=ou u q (by omega);have Z:(cu cJ zS q).2.1.length<=2^20:=le (cS (D:=true)) Y;cases B:cu cJ zS q with
 |mk c2 o=>
 rw[B] at X Z;simp only at X Z;rw[hR e1 e2 e3 e4 e5 e6 e7 e8 e9 z B];unfold lstD;have kL:=fk j o (by omega);have lL:=le jw Z;generalize cu (tk 9) 0 o=pL at *
 have⟨m,y⟩:=pL;simp only at kL lL ⊢;have lE:=GI (Eb (cE (D:=true)) (k:=m) (x:=y)) lL;generalize hE:cR (gE true) m y=pE at *
 have⟨es,y2⟩:=pE;simp only at lE ⊢;have kM:=fk j y2 (by omega);have lM:=le jw lE;generalize cu (tk 9) 0 y2=pM at *
 have⟨m2,y3⟩:=pM;simp only at kM lM ⊢;generalize hD:cR (gD true) m2 y3=pD at *
 have⟨ds,y4⟩:=pD;simp only;refine KW [.cell 2 (some 17)] (ws:=[.agg _]) h rfl rfl (hK _) (hK _) (nt _) fun S ⟨r0,r,hm,m0,a0⟩=>?_;have n2:=m0 2 rfl;have n3:=m0 3 rfl;have n6:=m0 6 rfl;have n9:=m0 9 rfl;have ai:=m0 11 rfl;have r1:=fun (S:St) (hm:S.μ 0=some (bM x,false))=>aG (p:=20000) k1 hm;have r2:=fun (S:St) (hm:S.μ 0=some (bM H,false))=>aG (p:=20100) k2 hm;have r3:=fun (S:St) (hm:S.μ 0=some (bM I,false))=>aG (p:=20200) k3 hm;have r4:=fun (S:St) (hm:S.μ 0=some (bM x3,false))=>aG (p:=20300) k4 hm;have r5:=fun (S:St) (hm:S.μ 0=some (bM J,false))=>aG (p:=20400) k5 hm;have r6:=fun (S:St) (hm:S.μ 0=some (bM L,false))=>aG (p:=20500) k6 hm;have r7:=fun (S:St) (hm:S.μ 0=some (bM M,false))=>aG (p:=20600) k7 hm;have r8:=fun (S:St) (hm:S.μ 0=some (bM N,false))=>aG (p:=20700) k8 hm;have r9:=fun (S:St) (hm:S.μ 0=some (bM O,false))=>aG (p:=20800) k9 hm;have ac:=fun (S:St) (hm:S.μ 0=some (bM Q,false))=>aG (p:=20900) U hm;have ad:=fun (S:St) (hm:S.μ 0=some (bM q,false))=>aG (p:=21000) X hm;have rA:=fun (S:St) (hm:S.μ 0=some (bM o,false))=>aG (p:=21100) kL hm;have rB:=fun (S:St) (hm:S.μ 0=some (bM y2,false))=>aG (p:=21700) kM hm;simp only[go_sem,jc] at hm r1 r2 r3 r4 r5 r6 r7 r8 r9 ac ad rA rB;simp only[F436,c436,go_sem,r0,hm,n2,n3,r1,r2,r3,r4,r5,r6,r7,r8,r9,ac,ad,rA];refine XL u E w j (y:=y) (m:=m) (sh:=mh (a1,a2,a3,a4,a5,a6,a7,b1,b2,c1,c2,[],[])) (ds:=[]) lL ⟨by simp only[go_sem,r0],by simp only[go_sem],by simp only[go_sem],by simp only[go_sem],by simp only[go_sem,iY],by simp only[go_sem]<;>rfl,by simp only[go_sem,ai],a0 97,a0 139⟩ (by simp only[go_sem]) (by simp only[go_sem]) (by simp only[go_sem,n6]) (by simp only[go_sem,n9]) (a0 91) fun S1 ab=>?_;rw[hE] at ab;have⟨t0,t2,t3,u0,u2,u3,aj,af,ae⟩:=ab;simp only at af u0 u3;simp only[go_sem] at u0;simp only[go_sem,t0,u0,rB];refine X5 u E w j (y:=y3) (m:=m2) (sh:=mh (a1,a2,a3,a4,a5,a6,a7,b1,b2,c1,c2,[],[])) (es:=es) lM ⟨by simp only[go_sem,t0],by simp only[go_sem,t2],by simp only[go_sem,t3],by simp only[go_sem],by simp only[go_sem,u2],by simp only[go_sem,u3],by simp only[go_sem,aj],by simp only[go_sem,af],by simp only[go_sem,ae]⟩ (by simp only[go_sem]) (by simp only[go_sem]) fun S2 aa=>?_;rw[hD] at aa;have⟨q0,q2,q3,v0,v2,v3,al,ak,T⟩:=aa;simp only at T v0 v3;have ag:=sF ak (by simp);have ah:=sF T (by simp);simp only[lx,mh] at v3;simp only[iY] at v2;simp only[go_sem,q2,q3,v2,v3];refine⟨v0,_,rfl,?_⟩;simp only[go_sem,ag,ah,mh]
def wN (o:Option aM):V:=match o with
 |some s=>.tuple [.agg (Yg s),iz 0]
 |none=>.tuple [.agg iY,iz 3]
def As:=HpC 478 F478<|HpA rX<|nO
theorem IF (h:As Pg) (t:mp) (ht:t.length<=10000):K' Pg 478 [.str t]=some (wN (mR t)):=by
 have⟨h,q,o⟩:=h;have I:=B2 q (t,false) (by simp only;omega);have z:∀{s:aM},dX false (t,false)=(s,([],false))->kz s:=fun E=>by
  have⟨B,H⟩:=(tf (D:=false)).get E;exact CI H (by rw[GD] at B;rw[<-B];exact ht)
 unfold mR;generalize E:dX false (t,false)=p at *
 have⟨s,u,b⟩:=p;refine aA h rfl ?_;have w:=fun (S:St) (hm:S.μ 8=some (bM (t,false),false))=>aG (p:=20000) I hm;simp only[go_sem] at w;cases b with
 |true=>
  rw[Gn (by simp)];simp only[F478,c478,go_sem,w,wN,iY]
 |false=>
  cases y:decide (u=[]) with
  |false=>
   rw[Gn (by simp[Ga y])];simp only[F478,c478,go_sem,w,y,wN,iY]
  |true=>
   have hu:=Gc y;subst hu;have j:=sr o s (z rfl);cases c3:bx s with
   |false=>
    rw[c3] at j;rw[Gn (by simp)];simp only[go_sem] at j;simp only[F478,c478,go_sem,w,j,wN,iY]
   |true=>
    rw[c3] at j;rw[Gt ⟨rfl,rfl⟩];simp only[go_sem] at j;simp only[F478,c478,go_sem,w,j,wN]
structure HW (S:St) (v:Nat) (b:mp) (a:Nat):Prop where
 m:S.μ v=some ([.own a 1 b.length],false)
 a:S.A a=some (1,b.map dS,.live)
def ix (b:mp):Eq:=[.tuple [.slice 1 (b.map dS)]]
def Xp {args:Eq} {b:mp}:eQ args 0 (ix b)=some ⟨fun i=>if i=0 then .lref 0 0 else (args[i]?).getD .undef,aI (fun _=>none) 0 (some ([.own 9000 1 b.length],false)),aI (fun _=>none) 9000 (some (1,b.map dS,.live))⟩:=by
 unfold eQ ix;simp only[FK,NC,NP,FO,Option.bind_some,Gi]
theorem V5 {A:AA} {b:mp} {a:Nat} (h:A a=some (1,b.map dS,.live)):kl [.own a 1 b.length] A=some (ix b,aI A a (some (1,[],.dead))):=by
 simp only[FM,FL,Nz,h,NR,Gi,Gw,Option.bind_some]
 rfl
structure VK (S:St) (bL:Eq) (b:mp):Prop where
 r0:S.ρ 0=.lref 0 0
 r:∀i,S.ρ (i+1)=(bL[i]?).getD .undef
 h:HW S 0 b 9000
 m:∀i,(i == 0)=false->S.μ i=none
 a:∀x,x≠9000->S.A x=none
theorem CP {f:Nat} {F:F} {bL:Eq} {b p:mp} (u:Pg f=some (.codeR F 0)) (w:bL.length+1=F.np) (o:F.res=[])
  (h:∀S,VK S bL b->Wp (K' Pg) F.body S fun j S'=>(j=.norm\/j=.ret)/\∃a,HW S' 0 p a) :
  K' Pg f (.tuple (.lref 0 0::ix b)::bL)=some (.tuple [.tuple [],.tuple (ix p)]):=by
 have hm:∀i,(i == 0)=false->(aI (fun _=>none) 0 (some ([V.own 9000 1 b.length],false)):Nat->Option (Eq×Bool)) i=none:=fun i hi=>jr hi
 refine kp u (by simpa using w) rfl Xp ((h _ ⟨rfl,fun i=>rfl,⟨by simp[aI],by simp[aI]⟩,hm,fun x y=>by simp only[aI];rw[Gn y]⟩).mono fun j S' q=>⟨q.1,?_⟩)
 have⟨a,h1⟩:=q.2
 unfold vK
 rw[o]
 simp only[Jn,Option.bind_some,h1.m,V5 h1.a]
 rfl
def HW.head {S:St} {v:Nat} {b:mp} {a h1:Nat} {Wv Wa:List Nat} (hT:HW S v b a) (hv:Wv.contains v=false) (hw:Wa.contains h1=false) :
  HW (S.head [] [v,0,h1] Wv Wa) v b h1/\(∀x,Wa.contains x=true->(S.head [] [v,0,h1] Wv Wa).A x=none)/\(∀x,x≠a->x≠h1->S.A x=none->(S.head [] [v,0,h1] Wv Wa).A x=none):=by
 have e1:S.swp1 v 0 h1=S.ren a h1:=by rw[xB,hT.m,xC];rfl
 have eh:S.head [] [v,0,h1] Wv Wa=(S.ren a h1).scrub [] Wv Wa:=by rw[AY,e1];rfl
 rw[eh]
 refine⟨⟨?_,?_⟩,fun x hx=>?_,fun x h2 h3 h0=>?_⟩
 ·show (if Wv.contains v then none else ((S.μ v).map _).map _)=_
  rw[hv,hT.m]
  have:dm a h1 a=h1:=xD
  simp only[Gl,Gv,Option.map_some,GA,Gk,JS,this,Ju,hw]
  cases Wa.isEmpty<;>rfl
 ·show (if Wa.contains h1 then none else S.A (dm a h1 h1))=_
  rw[hw,Ue];exact hT.a
 ·show (if Wa.contains x then none else _)=_
  rw[hx];rfl
 ·show (if Wa.contains x then none else S.A (dm a h1 x))=_
  split
  ·rfl
  ·rw[oL h2 h3];exact h0
theorem OO (l:mp):(l.map fun b=>[V.int .u8 (b.toNat:Int)])=l.map dS:=rfl
def nS:=HpR 422 F422 0 nW
def BQ {f:Nat} (h:Pg f=some (.codeR F422 0)) (o:nW Pg) (b:mp) (l:List Int) (M:∀n∈l,0<=n/\n<2^63) (U:b.length+9*l.length<=2^29) :
  K' Pg f [.tuple (.lref 0 0::ix b),Yi l]=some (.tuple [.tuple [],.tuple (ix (b++dP l))]):=by
 refine CP h rfl rfl fun R ⟨r0,r,q,m0,T⟩=>?_
 have J:=r 0
 simp only[vM,Option.getD_some] at J
 simp only[go_sem] at J
 simp only[F422,c422,go_sem,J,Gi]
 unfold l422_0
 refine bu (fun (i:Nat) S=>i<=l.length/\S.ρ 0=.lref 0 0/\S.ρ 8=Yi l/\S.ρ 9=iz l.length/\S.ρ 10=iz i/\HW S 0 (b++dP (l.take i)) 9000) (fun i=>l.length-i) 0 ?_ ?_
 ·exact⟨GY _,bB (by simp only[go_sem,r0]) rfl,bB (by simp only[go_sem]) rfl,bB (by simp only[go_sem]) rfl,bB (by simp only[go_sem]) rfl,(HW.head (a:=9000) (h1:=9000) ⟨by simp only[go_sem,q.m]<;>simp[dP],by simp only[q.a]<;>simp[dP]⟩ rfl rfl).1⟩
 ·intro i S ⟨hi,N,O,L,y,p⟩
  have hm:=p.m
  have P:=p.a
  cases z:decide ((i:Int)<(l.length:Int)) with
  |false=>
   have D:i=l.length:=by have:=Ga z;omega
   rw[D,GB] at p
   simp only[go_sem,L,y,z]
   exact⟨9000,p.m,p.a⟩
  |true=>
   have E:=Yj z
   obtain⟨n,H,-⟩:=aZ E
   have u:=inc64q (i:=i) (by omega)
   have⟨n0,X⟩:=M n (List.mem_of_getElem? H)
   have k:K' Pg 456 [iz n]=some (.tuple [.str (aD n.toNat),iz 0]):=by
    have:=we o n.toNat (by omega);rw[show ((n.toNat:Nat):Int)=n by omega] at this;exact this
   have I:l.take (i+1)=l.take i++[n]:=by rw[G3,H];rfl
   have B:=Ed (l:=l.take i) fun m hm=>by have:=M m (xn hm);omega
   rw[GK] at B
   have W:=iQ.2 (show n.toNat<2^63 by omega)
   have w:(b++dP (l.take i)).length+(aD n.toNat).length<=aU:=by rw[Gf];unfold aU;omega
   generalize Q:b++dP (l.take i)=g at *
   have j:b++dP (l.take (i+1))=g++aD n.toNat:=by rw[I,Lh,<-GX,Q]
   simp only[go_sem,N,O,L,y,z,H,k,u,hm,P,w,Gi]
   refine⟨i+1,by omega,by omega,bB (by simp only[go_sem,N]) rfl,bB (by simp only[go_sem,O]) rfl,bB (by simp only[go_sem,L]) rfl,bB (by simp only[go_sem]) rfl,(HW.head (a:=9000) (h1:=9000) ⟨?_,?_⟩ rfl rfl).1⟩
   ·rw[j];simp only[go_sem,Gf]
   ·rw[j];simp only[go_sem,Gz]<;>rfl
def Ih (h:nS Pg) (b:mp) (l:List Int) (j:∀n∈l,0<=n/\n<2^63) (o:b.length+9*l.length<=2^24) :
  K' Pg 422 [.tuple (.lref 0 0::ix b),Yi l]=some (.tuple [.tuple [],.tuple (ix (b++dP l))]):=
 BQ h.1 h.2 b l j (by omega)
def Lo (l:List mp):V:=.slice 1 (l.map fun t=>[.str t])
attribute [go_sem] Lo
def fq (l:List mp):mp:=l.flatMap dE
def O2 {l:List mp} {n:mp}:fq (l++[n])=fq l++dE n:=by simp[fq]
def rT:=HpR 457 F457 0 vB
def BY {f:Nat} (h:Pg f=some (.codeR F457 0)) (p:vB Pg) (b:mp) (l:List mp) (R:∀n∈l,n.length<=2^30) (X:b.length+(fq l).length<=2^29) :
  K' Pg f [.tuple (.lref 0 0::ix b),Lo l]=some (.tuple [.tuple [],.tuple (ix (b++fq l))]):=by
 have T:l.length<=(fq l).length:=Ct (P:=fun _=>True) (fun a _=>K9) (fun _ _=>GN)
 refine CP h rfl rfl fun U ⟨r0,r,u,m0,W⟩=>?_
 have M:=r 0
 simp only[vM,Option.getD_some] at M
 simp only[go_sem] at M
 simp only[F457,c457,go_sem,M,Gi]
 unfold l457_0
 refine bu (fun (i:Nat) S=>i<=l.length/\S.ρ 0=.lref 0 0/\S.ρ 6=Lo l/\S.ρ 7=iz l.length/\S.ρ 8=iz i/\HW S 0 (b++fq (l.take i)) 9000) (fun i=>l.length-i) 0 ?_ ?_
 ·exact⟨GY _,bB (by simp only[go_sem,r0]) rfl,bB (by simp only[go_sem]) rfl,bB (by simp only[go_sem]) rfl,bB (by simp only[go_sem]) rfl,(HW.head (a:=9000) (h1:=9000) ⟨by simp only[go_sem,u.m]<;>simp[fq],by simp only[u.a]<;>simp[fq]⟩ rfl rfl).1⟩
 ·intro i S ⟨hi,N,B,o,D,q⟩
  have hm:=q.m
  have O:=q.a
  cases E:decide ((i:Int)<(l.length:Int)) with
  |false=>
   have I:i=l.length:=by have:=Ga E;omega
   rw[I,GB] at q
   simp only[go_sem,o,D,E]
   exact⟨9000,q.m,q.a⟩
  |true=>
   have J:=Yj E
   obtain⟨n,L,-⟩:=aZ J
   have w:=inc64q (i:=i) (by omega)
   have n0:=R n (List.mem_of_getElem? L)
   have k:=IJ p n (by omega)
   have z:l.take (i+1)=l.take i++[n]:=by rw[G3,L];rfl
   have H:(fq (l.take (i+1))).length<=(fq l).length:=by
    conv=>rhs;rw[<-G4 (i+1) l]
    simp only[fq,rg,Gf];omega
   rw[z,O2,Gf] at H
   have y:(b++fq (l.take i)).length+(dE n).length<=aU:=by rw[Gf];unfold aU;omega
   generalize Q:b++fq (l.take i)=g at *
   have j:b++fq (l.take (i+1))=g++dE n:=by rw[z,O2,<-GX,Q]
   simp only[go_sem,N,B,o,D,E,L,k,w,hm,O,y,Gi]
   refine⟨i+1,by omega,by omega,bB (by simp only[go_sem,N]) rfl,bB (by simp only[go_sem,B]) rfl,bB (by simp only[go_sem,o]) rfl,bB (by simp only[go_sem]) rfl,(HW.head (a:=9000) (h1:=9000) ⟨?_,?_⟩ rfl rfl).1⟩
   ·rw[j];simp only[go_sem,Gf]
   ·rw[j];simp only[go_sem,Gz]<;>rfl
def Ix (h:rT Pg) (b:mp) (l:List mp) (j:∀n∈l,n.length<=2^20) (p:b.length+(fq l).length<=2^24) :
  K' Pg 457 [.tuple (.lref 0 0::ix b),Lo l]=some (.tuple [.tuple [],.tuple (ix (b++fq l))]):=
 BY h.1 h.2 b l (fun n o=>by have:=j n o;omega) (by omega)
def Z2 {s:aB}:1<=(dJ s).length:=by
 have:=ue s.wall.toNat;simp only[dJ,Gf];omega
def YG (l:List aB):mp:=l.flatMap dJ
def OS {l:List aB} {n:aB}:YG (l++[n])=YG l++dJ n:=by simp[YG]
def nR:=HpR 421 F421 0 vx
def BP {f:Nat} (h:Pg f=some (.codeR F421 0)) (p:vx Pg) (b:mp) (l:List aB) (R:∀n∈l,Ya n=true) (Y:b.length+(YG l).length<=2^29) :
  K' Pg f [.tuple (.lref 0 0::ix b),Kc l]=some (.tuple [.tuple [],.tuple (ix (b++YG l))]):=by
 have T:l.length<=(YG l).length:=Ct (P:=fun _=>True) (fun a _=>Z2) (fun _ _=>GN)
 refine CP h rfl rfl fun W ⟨r0,r,u,m0,X⟩=>?_
 have M:=r 0
 simp only[vM,Option.getD_some] at M
 simp only[go_sem] at M
 simp only[F421,c421,go_sem,M,Gi]
 unfold l421_0
 refine bu (fun (i:Nat) S=>i<=l.length/\S.ρ 0=.lref 0 0/\S.ρ 8=Kc l/\S.ρ 9=iz l.length/\S.ρ 10=iz i/\HW S 0 (b++YG (l.take i)) 9000/\S.μ 5=none) (fun i=>l.length-i) 0 ?_ ?_
 ·exact⟨GY _,bB (by simp only[go_sem,r0]) rfl,bB (by simp only[go_sem]) rfl,bB (by simp only[go_sem]) rfl,bB (by simp only[go_sem]) rfl,(HW.head (a:=9000) (h1:=9000) ⟨by simp only[go_sem,u.m]<;>simp[YG],by simp only[u.a]<;>simp[YG]⟩ rfl rfl).1,gZ (.inr rfl)⟩
 ·intro i S ⟨hi,N,B,o,D,q,U⟩
  have hm:=q.m
  have O:=q.a
  cases E:decide ((i:Int)<(l.length:Int)) with
  |false=>
   have I:i=l.length:=by have:=Ga E;omega
   rw[I,GB] at q
   simp only[go_sem,o,D,E]
   exact⟨9000,q.m,q.a⟩
  |true=>
   have J:=Yj E
   obtain⟨n,L,-⟩:=aZ J
   have w:=inc64q (i:=i) (by omega)
   have n0:=R n (List.mem_of_getElem? L)
   have k:=Iw p n n0
   simp only[go_sem] at k
   have z:l.take (i+1)=l.take i++[n]:=by rw[G3,L];rfl
   have H:(YG (l.take (i+1))).length<=(YG l).length:=by
    conv=>rhs;rw[<-G4 (i+1) l]
    simp only[YG,rg,Gf];omega
   rw[z,OS,Gf] at H
   have y:(b++YG (l.take i)).length+(dJ n).length<=aU:=by rw[Gf];unfold aU;omega
   generalize Q:b++YG (l.take i)=g at *
   have j:b++YG (l.take (i+1))=g++dJ n:=by rw[z,OS,<-GX,Q]
   simp only[go_sem,N,B,o,D,E,L,k,w,hm,O,U,y,Gi]
   refine⟨i+1,by omega,by omega,bB (by simp only[go_sem,N]) rfl,bB (by simp only[go_sem,B]) rfl,bB (by simp only[go_sem,o]) rfl,bB (by simp only[go_sem]) rfl,(HW.head (a:=9000) (h1:=9000) ⟨?_,?_⟩ rfl rfl).1,gZ (.inr rfl)⟩
   ·rw[j];simp only[go_sem,Gf]
   ·rw[j];simp only[go_sem,Gz]<;>rfl
def Ig (h:nR Pg) (b:mp) (l:List aB) (j:∀n∈l,Ya n=true) (o:b.length+(YG l).length<=2^24) :
  K' Pg 421 [.tuple (.lref 0 0::ix b),Kc l]=some (.tuple [.tuple [],.tuple (ix (b++YG l))]):=
 BP h.1 h.2 b l j (by omega)
def rU:=HpR 458 F458 0 Aw
def Iy (h:rU Pg) (b:mp) (x:Bool) (B:b.length<=2^24) :
  K' Pg 458 [.tuple (.lref 0 0::ix b),.bool x]=some (.tuple [.tuple [],.tuple (ix (b++fp x))]):=by
 have⟨h,j⟩:=h
 have k:=IK j x
 have w:(fp x).length=1:=by simp[fp]
 refine CP h rfl rfl fun y ⟨r0,r,o,m0,z⟩=>?_
 have q:=r 0
 simp only[vM,Option.getD_some] at q
 have hm:=o.m
 have u:=o.a
 have p:b.length+(fp x).length<=aU:=by unfold aU;omega
 generalize fp x=g at *
 simp only[F458,c458,go_sem,r0,q,hm,u,k,p,Gi]
 exact⟨9000,by simp only[go_sem,Gf],by simp only[go_sem,Gz]<;>rfl⟩
def je (h:nS Pg) (g:mp) (l:List Int) (hl:∀n∈l,0<=n/\n<2^63) (hb:g.length+9*l.length<=2^24) :
  K' Pg 422 [.tuple [.lref 0 0,.tuple [.slice 1 (g.map dS)]],.slice 1 (l.map fun a=>[iz a])]=some (.tuple [.tuple [],.tuple [.tuple [.slice 1 ((g++dP l).map dS)]]]):=Ih h g l hl hb
def EN (h:rT Pg) (g:mp) (l:List mp) (o:∀n∈l,n.length<=2^20) (j:g.length+(fq l).length<=2^24) :
  K' Pg 457 [.tuple [.lref 0 0,.tuple [.slice 1 (g.map dS)]],.slice 1 (l.map fun t=>[.str t])]=some (.tuple [.tuple [],.tuple [.tuple [.slice 1 ((g++fq l).map dS)]]]):=Ix h g l o j
def EE (h:nR Pg) (g:mp) (l:List aB) (o:∀n∈l,Ya n=true) (j:g.length+(YG l).length<=2^24) :
  K' Pg 421 [.tuple [.lref 0 0,.tuple [.slice 1 (g.map dS)]],.slice 3 (l.map Ye)]=some (.tuple [.tuple [],.tuple [.tuple [.slice 1 ((g++YG l).map dS)]]]):=Ig h g l o j
def Qf (h:rU Pg) (g:mp) (x:Bool) (j:g.length<=2^24) :
  K' Pg 458 [.tuple [.lref 0 0,.tuple [.slice 1 (g.map dS)]],.bool x]=some (.tuple [.tuple [],.tuple [.tuple [.slice 1 ((g++fp x).map dS)]]]):=Iy h g x j
def Cz {α:Type} {W:α->mp} {l:List α} {i:Nat}:((l.take i).flatMap W).length<=(l.flatMap W).length:=by
 conv=>rhs;rw[<-G4 i l]
 simp only[rg,Gf];omega
def Dq (Pg:PgT):Prop:=nS Pg/\rT Pg/\nR Pg/\rU Pg
def Z4 (hw:Dq Pg) {g:mp} {e:aF} (he:wT e) (ac:∀v∈e.chain,v.val.length<=2^20) (hc:e.chain.length<2^60) (hb:g.length+(e.chain.flatMap fG).length<=2^24) {S:St} {Q:Ex->St->Prop} {x3:Eq} {Dc Dd De:V}
  (N:gj [7] Dc=true) (O:gj [7] Dd=true) (P:gj [7] De=true) (Y:x3.all V.datC=true)
  (Z:S.ρ 0=.lref 0 0) (s3:S.ρ 3=.lref 3 0) (o:S.ρ 50=Dc) (p:S.ρ 51=Dd) (q:S.ρ 52=De) (m3:S.μ 3=some (x3,false))
  (u:S.ρ 68=.slice 5 (e.chain.map dv)) (j:S.ρ 69=iz e.chain.length) (w:S.ρ 70=iz 0) {a:Nat} (y:HW S 0 g a) (H:S.A 20900=none)
  (hq:∀S',S'.ρ 0=.lref 0 0->S'.ρ 3=.lref 3 0->S'.ρ 50=Dc->S'.ρ 51=Dd->S'.ρ 52=De->S'.μ 3=some (x3,false)->HW S' 0 (g++e.chain.flatMap fG) 9000->S'.A 20900=none->Q .norm S'):Wp (K' Pg) l423_1 S (gm 2 Q):=by
 have⟨ae,L,J,M⟩:=hw
 unfold l423_1
 refine bu (fun (i:Nat) S=>i<=e.chain.length/\S.ρ 0=.lref 0 0/\S.ρ 3=.lref 3 0/\S.ρ 50=Dc/\S.ρ 51=Dd/\S.ρ 52=De/\S.μ 3=some (x3,false)/\S.ρ 68=.slice 5 (e.chain.map dv)/\S.ρ 69=iz e.chain.length/\S.ρ 70=iz i/\HW S 0 (g++(e.chain.take i).flatMap fG) 9000/\S.μ 7=none/\S.A 20600=none/\S.A 20700=none/\S.A 20800=none/\S.A 20900=none) (fun i=>e.chain.length-i) 0 ?_ ?_
 ·have R:=y.a
  have E:=HW.head (Wv:=[7]) (Wa:=[20600,20700,20800]) (h1:=9000) y rfl rfl
  exact⟨GY _,bB Z rfl,bB s3 rfl,bB o N,bB p O,bB q P,km m3 Y rfl,bB u rfl,bB j rfl,bB w rfl,by simpa using E.1,gZ (.inr rfl),E.2.1 _ rfl,E.2.1 _ rfl,E.2.1 _ rfl,E.2.2 _ (fun e=>by rw[<-e,H] at R;cases R) (by decide) H⟩
 ·intro i S ⟨hi,Z,s3,o,p,q,m3,u,j,w,y,n7,a1,a2,a3,H⟩
  have hm:=y.m
  have hA:=y.a
  cases c1:decide ((i:Int)<(e.chain.length:Int)) with
  |false=>
   have aa:i=e.chain.length:=by have:=Ga c1;omega
   rw[aa,GB] at y
   simp only[go_sem,j,w,c1]
   exact hq _ (by simp only[go_sem,Z]) (by simp only[go_sem,s3]) (by simp only[go_sem,o]) (by simp only[go_sem,p]) (by simp only[go_sem,q]) m3 ⟨y.m,y.a⟩ H
  |true=>
   have ab:=Yj c1
   obtain⟨v,hn,-⟩:=aZ ab
   have U:=inc64q (i:=i) (by omega)
   have z:=List.mem_of_getElem? hn
   have hv:=he.2.2 v z
   have ad:=ac v z
   have X:e.chain.take (i+1)=e.chain.take i++[v]:=by rw[G3,hn];rfl
   have T:=Cz (W:=fG) (l:=e.chain) (i:=i+1)
   have D:g++(e.chain.take (i+1)).flatMap fG=g++(e.chain.take i).flatMap fG++dJ v.at_++fp v.gone++dE v.val:=by rw[X];simp[fG]
   rw[X,rg,Gf] at T
   simp only[GV,G5,GD,fG,Gf] at T
   generalize hg:g++(e.chain.take i).flatMap fG=B at *
   have af:B.length=g.length+((e.chain.take i).flatMap fG).length:=by rw[<-hg,Gf]
   have q1:=EE J B [v.at_] (by simpa using hv.1.1) (by simp only[YG,GV,G5,GD];omega)
   have q2:=Qf M (B++YG [v.at_]) v.gone (by simp only[YG,GV,G5,GD,Gf];omega)
   have q3:=EN L (B++YG [v.at_]++fp v.gone) [v.val] (by simpa using ad) (by simp only[YG,fq,GV,G5,GD,Gf];omega)
   simp only[YG,fq,GV,G5,GD,GA,Gk] at q1 q2 q3
   simp only[go_sem] at q1 q2 q3
   generalize dJ v.at_=b1 at *
   generalize fp v.gone=b2 at *
   generalize dE v.val=b3 at *
   simp only[go_sem,si,Z,u,j,w,c1,hn,hm,hA,n7,a1,a2,a3,q1,q2,q3,U,Gi]
   have E:=fun {S:St} {a:Nat} (h:HW S 0 (B++b1++b2++b3) a)=>HW.head (Wv:=[7]) (Wa:=[20600,20700,20800]) (h1:=9000) h rfl rfl
   have I:=fun {S:St} (h:HW S 0 (B++b1++b2++b3) 20800)=>E h
   have hf:∀S,HW S 0 (B++b1++b2++b3) 9000->HW S 0 (g++(e.chain.take (i+1)).flatMap fG) 9000:=fun S h=>by rw[D];exact h
   refine⟨i+1,by omega,by omega,bB (by simp only[go_sem,Z]) rfl,bB (by simp only[go_sem,s3]) rfl,bB (by simp only[go_sem,o]) N,bB (by simp only[go_sem,p]) O,bB (by simp only[go_sem,q]) P,km (by simp only[go_sem,m3]) Y rfl,bB (by simp only[go_sem,u]) rfl,bB (by simp only[go_sem,j]) rfl,bB (by simp only[go_sem]) rfl,hf _ (I ⟨?_,?_⟩).1,gZ (.inr rfl),(I ⟨?_,?_⟩).2.1 _ rfl,(I ⟨?_,?_⟩).2.1 _ rfl,(I ⟨?_,?_⟩).2.1 _ rfl,(I ⟨?_,?_⟩).2.2 _ (by decide) (by decide) ?_⟩
   all_goals simp only[go_sem,H,Gf]
def yB (e:aF):Prop:=wT e/\e.key.length<=2^20/\(∀v∈e.chain,v.val.length<=2^20)/\e.chain.length<2^60
def HW.out {S:St} {v:Nat} {b j:mp} {a:Nat} (h:HW S v b a) (e:b=j):HW S v j a:=e▸h
def XK (hw:Dq Pg) {g:mp} {es:List aF} (he:∀e∈es,yB e) (hc:es.length<2^60) (hb:g.length+(es.flatMap eT).length+100<=2^24) {S:St} {Q:Ex->St->Prop} {x3:Eq}
  (y:x3.all V.datC=true)
  (M:S.ρ 0=.lref 0 0) (s3:S.ρ 3=.lref 3 0) (m3:S.μ 3=some (x3,false))
  (q:S.ρ 50=.slice 2 (es.map dk)) (j:S.ρ 51=iz es.length) (o:S.ρ 52=iz 0) {a:Nat} (u:HW S 0 g a) (z:S.A 20900=none)
  (hq:∀S',S'.ρ 0=.lref 0 0->S'.ρ 3=.lref 3 0->S'.μ 3=some (x3,false)->HW S' 0 (g++es.flatMap eT) 9000->S'.A 20900=none->Q .norm S'):Wp (K' Pg) l423_0 S (gm 0 Q):=by
 have Z:=hw
 have⟨B,D,ad,ae⟩:=hw
 unfold l423_0
 refine bu (fun (i:Nat) S=>i<=es.length/\S.ρ 0=.lref 0 0/\S.ρ 3=.lref 3 0/\S.μ 3=some (x3,false)/\S.ρ 50=.slice 2 (es.map dk)/\S.ρ 51=iz es.length/\S.ρ 52=iz i/\HW S 0 (g++(es.take i).flatMap eT) 9000/\S.μ 5=none/\S.A 20400=none/\S.A 20500=none/\S.A 20900=none) (fun i=>es.length-i) 0 ?_ ?_
 ·have E:=u.a
  have p:=HW.head (Wv:=[5,7]) (Wa:=[20400,20500,20600,20700,20800]) (h1:=9000) u rfl rfl
  exact⟨GY _,bB M rfl,bB s3 rfl,km m3 y rfl,bB q rfl,bB j rfl,bB o rfl,by simpa using p.1,gZ (.inr rfl),p.2.1 _ rfl,p.2.1 _ rfl,p.2.2 _ (fun e=>by rw[<-e,z] at E;cases E) (by decide) z⟩
 ·intro i S ⟨hi,M,s3,m3,q,j,o,u,n5,a1,a2,z⟩
  have hm:=u.m
  have hA:=u.a
  cases N:decide ((i:Int)<(es.length:Int)) with
  |false=>
   have T:i=es.length:=by have:=Ga N;omega
   rw[T,GB] at u
   simp only[go_sem,j,o,N]
   exact hq _ (by simp only[go_sem,M]) (by simp only[go_sem,s3]) m3 ⟨u.m,u.a⟩ z
  |true=>
   have U:=Yj N
   obtain⟨e,X,-⟩:=aZ U
   have J:=inc64q (i:=i) (by omega)
   have⟨hv,hk,Y,R⟩:=he e (List.mem_of_getElem? X)
   have L:es.take (i+1)=es.take i++[e]:=by rw[G3,X];rfl
   have I:=Cz (W:=eT) (l:=es) (i:=i+1)
   have w:g++(es.take (i+1)).flatMap eT=g++(es.take i).flatMap eT++dE e.key++aD e.chain.length++e.chain.flatMap fG:=by rw[L];simp[eT,fC]
   rw[L,rg,Gf] at I
   simp only[GV,G5,GD,eT,fC,Gf] at I
   generalize hg:g++(es.take i).flatMap eT=O at *
   have af:O.length=g.length+((es.take i).flatMap eT).length:=by rw[<-hg,Gf]
   have q1:=EN D O [e.key] (by simpa using hk) (by simp only[fq,GV,G5,GD];omega)
   have q2:=je B (O++fq [e.key]) [(e.chain.length:Int)] (by simp only[List.mem_singleton,forall_eq];omega) (by simp only[fq,GV,G5,GD,Gf,List.length_cons,List.length_nil];omega)
   simp only[dP,fq,GV,G5,GD,GA,Gk,Int.toNat_natCast] at q1 q2
   simp only[go_sem,Yd,si,M,q,j,o,N,X,hm,hA,n5,a1,a2,q1,q2,Gi]
   refine Z4 Z (g:=O++dE e.key++aD e.chain.length) (Dc:=.slice 2 (es.map dk)) (Dd:=iz es.length) (De:=iz i) hv Y R (by simp only[Gf];omega) rfl rfl rfl y (by simp only[go_sem,M]) (by simp only[go_sem,s3]) (by simp only[go_sem,q]) (by simp only[go_sem,j]) (by simp only[go_sem,o]) (by simp only[go_sem,m3]) (by simp only[go_sem]) (by simp only[go_sem]) (by simp only[go_sem]) (a:=20500) ⟨by simp only[go_sem,Gf],by simp only[go_sem]⟩ (by simp only[go_sem,z]) fun P t0 t3 aa ab ac u3 H b9=>?_
   have p:=HW.head (Wv:=[5,7]) (Wa:=[20400,20500,20600,20700,20800]) (h1:=9000) (S:=⟨aI P.ρ 52 (iz ((i+1:Nat):Int)),P.μ,P.A⟩) (v:=0) ⟨H.m,H.a⟩ rfl rfl
   simp only[go_sem,ac,J]
   refine⟨i+1,by omega,by omega,bB (by simp only[go_sem,t0]) rfl,bB (by simp only[go_sem,t3]) rfl,km (by simp only[go_sem,u3]) y rfl,bB (by simp only[go_sem,aa]) rfl,bB (by simp only[go_sem,ab]) rfl,bB (by simp only[go_sem]) rfl,p.1.out w.symm,gZ (.inr rfl),p.2.1 _ rfl,p.2.1 _ rfl,p.2.2 _ (by decide) (by decide) b9⟩
def yA (d:aH):Prop:=(0<=d.client/\d.client<2^63)/\(0<=d.req/\d.req<2^63)/\(0<=d.ans.err/\d.ans.err<2^63)/\Ya d.ans.at_=true/\d.ans.val.length<=2^20
def X4 (hw:Dq Pg) {g:mp} {ds:List aH} (he:∀d∈ds,yA d) (hc:ds.length<2^60) (hb:g.length+(ds.flatMap ff).length+100<=2^24) {S:St} {Q:Ex->St->Prop}
  (O:S.ρ 0=.lref 0 0)
  (o:S.ρ 97=.slice 11 (ds.map YK)) (j:S.ρ 98=iz ds.length) (p:S.ρ 99=iz 0) {a:Nat} (q:HW S 0 g a)
  (hq:∀S',HW S' 0 (g++ds.flatMap ff) 9000->Q .norm S'):Wp (K' Pg) l423_2 S (gm 4 Q):=by
 have ac:=hw
 have⟨D,E,B,H⟩:=hw
 unfold l423_2
 refine bu (fun (i:Nat) S=>i<=ds.length/\S.ρ 0=.lref 0 0/\S.ρ 97=.slice 11 (ds.map YK)/\S.ρ 98=iz ds.length/\S.ρ 99=iz i/\HW S 0 (g++(ds.take i).flatMap ff) 9000/\S.μ 9=none/\S.A 21000=none/\S.A 21100=none/\S.A 21200=none/\S.A 21300=none) (fun i=>ds.length-i) 0 ?_ ?_
 ·have aa:=q.a
  have J:=HW.head (Wv:=[9]) (Wa:=[21000,21100,21200,21300]) (h1:=9000) q rfl rfl
  exact⟨GY _,bB O rfl,bB o rfl,bB j rfl,bB p rfl,by simpa using J.1,gZ (.inr rfl),J.2.1 _ rfl,J.2.1 _ rfl,J.2.1 _ rfl,J.2.1 _ rfl⟩
 ·intro i S ⟨hi,O,o,j,p,q,n9,Z,a2,a3,a4⟩
  have hm:=q.m
  have hA:=q.a
  cases N:decide ((i:Int)<(ds.length:Int)) with
  |false=>
   have P:i=ds.length:=by have:=Ga N;omega
   rw[P,GB] at q
   simp only[go_sem,j,p,N]
   exact hq _ ⟨q.m,q.a⟩
  |true=>
   have R:=Yj N
   obtain⟨d,y,-⟩:=aZ R
   have L:=inc64q (i:=i) (by omega)
   have⟨d1,d2,d3,d4,d5⟩:=he d (List.mem_of_getElem? y)
   have M:ds.take (i+1)=ds.take i++[d]:=by rw[G3,y];rfl
   have I:=Cz (W:=ff) (l:=ds) (i:=i+1)
   have u:g++(ds.take (i+1)).flatMap ff=g++(ds.take i).flatMap ff++(aD d.client.toNat++(aD d.req.toNat++aD d.ans.err.toNat))++dJ d.ans.at_++fp d.ans.found++dE d.ans.val:=by rw[M];simp[ff]
   rw[M,rg,Gf] at I
   simp only[GV,G5,GD,ff,Gf] at I
   have p1:=iQ.2 (show d.client.toNat<2^63 by omega)
   have p2:=iQ.2 (show d.req.toNat<2^63 by omega)
   have p3:=iQ.2 (show d.ans.err.toNat<2^63 by omega)
   generalize hg:g++(ds.take i).flatMap ff=w at *
   have ab:w.length=g.length+((ds.take i).flatMap ff).length:=by rw[<-hg,Gf]
   have T:=je D w [d.client,d.req,d.ans.err] (by intro n y;simp only[GH,List.not_mem_nil,or_false] at y;rcases y with rfl|rfl|rfl<;>assumption) (by simp only[List.length_cons,List.length_nil];omega)
   have U:=EE B (w++dP [d.client,d.req,d.ans.err]) [d.ans.at_] (by simpa using d4) (by simp only[dP,YG,GV,G5,GD,Gf];omega)
   have X:=Qf H (w++dP [d.client,d.req,d.ans.err]++YG [d.ans.at_]) d.ans.found (by simp only[dP,YG,GV,G5,GD,Gf];omega)
   have Y:=EN E (w++dP [d.client,d.req,d.ans.err]++YG [d.ans.at_]++fp d.ans.found) [d.ans.val] (by simpa using d5) (by simp only[dP,YG,fq,GV,G5,GD,Gf];omega)
   simp only[dP,YG,fq,GV,G5,GD,GA,Gk] at T U X Y
   simp only[go_sem] at T U X Y
   generalize aD d.client.toNat++(aD d.req.toNat++aD d.ans.err.toNat)=b0 at *
   generalize dJ d.ans.at_=b1 at *
   generalize fp d.ans.found=b2 at *
   generalize dE d.ans.val=b3 at *
   simp only[go_sem,si,O,o,j,p,N,y,hm,hA,n9,Z,a2,a3,a4,T,U,X,Y,L,Gi]
   have z:=fun {S:St} (h:HW S 0 (w++b0++b1++b2++b3) 21300)=>HW.head (Wv:=[9]) (Wa:=[21000,21100,21200,21300]) (h1:=9000) h rfl rfl
   refine⟨i+1,by omega,by omega,bB (by simp only[go_sem,O]) rfl,bB (by simp only[go_sem,o]) rfl,bB (by simp only[go_sem,j]) rfl,bB (by simp only[go_sem]) rfl,(z ⟨?_,?_⟩).1.out u.symm,gZ (.inr rfl),(z ⟨?_,?_⟩).2.1 _ rfl,(z ⟨?_,?_⟩).2.1 _ rfl,(z ⟨?_,?_⟩).2.1 _ rfl,(z ⟨?_,?_⟩).2.1 _ rfl⟩
   all_goals simp only[go_sem,Gf]
def Cd (s:aM):Prop:=(∀n∈[s.id,s.epoch,s.phase,s.hold,s.seen,s.move,s.closed],0<=n/\n<2^63)/\s.span.lo.length<=2^20/\s.span.hi.length<=2^20/\Ya s.mark=true/\Ya s.top=true/\
 (∀e∈s.ents,yB e)/\s.ents.length<2^60/\(∀d∈s.done,yA d)/\s.done.length<2^60
def rJ:=HpR 423 F423 0<|HpA nS<|HpA rT<|HpA nR<|rU
theorem BR (h:rJ Pg) (b:mp) (s:aM) (hs:Cd s) (hb:b.length+(cW s).length+300<=2^24) :
  K' Pg 423 [.tuple (.lref 0 0::ix b),.agg (Yg s)]=some (.tuple [.tuple [],.tuple (ix (b++cW s))]):=by
 have⟨h,hw⟩:=h
 have I:Dq Pg:=hw
 have⟨j,y,w,Z⟩:=hw
 have⟨n7,lo,hi,mk,tp,he,O,hd,N⟩:=hs
 have M:=hb
 simp only[cW,fC,Gf] at M
 have R:=je j b [s.id,s.epoch,s.phase,s.hold,s.seen,s.move,s.closed] n7 (by simp only[List.length_cons,List.length_nil];omega)
 have Q:=Ed (l:=[s.id,s.epoch,s.phase,s.hold,s.seen,s.move,s.closed]) fun m hm=>by have:=n7 m hm;omega
 simp only[List.length_cons,List.length_nil] at Q
 have ab:dP [s.id,s.epoch,s.phase,s.hold,s.seen,s.move,s.closed]=aD s.id.toNat++(aD s.epoch.toNat++(aD s.phase.toNat++(aD s.hold.toNat++(aD s.seen.toNat++(aD s.move.toNat++aD s.closed.toNat))))):=by simp[dP]
 have H:cW s=dP [s.id,s.epoch,s.phase,s.hold,s.seen,s.move,s.closed]++(fq [s.span.lo,s.span.hi]++(YG [s.mark,s.top]++(dP [(s.ents.length:Int)]++(s.ents.flatMap eT++(dP [(s.done.length:Int)]++s.done.flatMap ff))))):=by
  simp[cW,fC,dP,fq,YG]
 have aa:(cW s).length=(dP [s.id,s.epoch,s.phase,s.hold,s.seen,s.move,s.closed]).length+((fq [s.span.lo,s.span.hi]).length+((YG [s.mark,s.top]).length+((dP [(s.ents.length:Int)]).length+((s.ents.flatMap eT).length+((dP [(s.done.length:Int)]).length+(s.done.flatMap ff).length))))):=by
  rw[H];simp only[Gf]
 rw[H]
 generalize dP [s.id,s.epoch,s.phase,s.hold,s.seen,s.move,s.closed]=p at *
 have S:=EN y (b++p) [s.span.lo,s.span.hi] (by simpa using ⟨lo,hi⟩) (by simp only[Gf];omega)
 generalize fq [s.span.lo,s.span.hi]=u at *
 have T:=EE w (b++p++u) [s.mark,s.top] (by simpa using ⟨mk,tp⟩) (by simp only[Gf];omega)
 generalize YG [s.mark,s.top]=c3 at *
 have U:=je j (b++p++u++c3) [(s.ents.length:Int)] (by simp only[List.mem_singleton,forall_eq];omega) (by simp only[Gf,List.length_cons,List.length_nil];omega)
 generalize dP [(s.ents.length:Int)]=J at *
 generalize D:s.ents.flatMap eT=Y at *
 have W:=je j (b++p++u++c3++J++Y) [(s.done.length:Int)] (by simp only[List.mem_singleton,forall_eq];omega) (by simp only[Gf,List.length_cons,List.length_nil];omega)
 generalize dP [(s.done.length:Int)]=c6 at *
 generalize E:s.done.flatMap ff=c7 at *
 simp only[GA,Gk] at R S T U W
 simp only[go_sem] at R S T U W
 refine CP h rfl rfl fun S0 ⟨r0,r,z,m0,q⟩=>?_
 have X:=r 0
 simp only[vM,Option.getD_some] at X
 simp only[go_sem] at X
 have hm:=z.m
 have hA:=z.a
 have m3:=m0 3 rfl
 have a1:=q 20000 (by decide)
 have a2:=q 20100 (by decide)
 have a3:=q 20200 (by decide)
 have a4:=q 20300 (by decide)
 have a9:=q 20900 (by decide)
 simp only[F423,c423,go_sem,si,r0,X,hm,hA,m3,a1,a2,a3,a4,R,S,T,U,Gi]
 refine XK I (g:=b++p++u++c3++J) (es:=s.ents) (x3:=Yg s) he O (by simp only[Gf,D];omega) rfl (by simp only[go_sem,r0]) (by simp only[go_sem]) (by simp only[go_sem]) (by simp only[go_sem]) (by simp only[go_sem]) (by simp only[go_sem]) (a:=20300) ⟨by simp only[go_sem,Gf],by simp only[go_sem]⟩ (by simp only[go_sem,a9]) fun S1 t0 t3 u3 o b9=>?_
 rw[D] at o
 have P:=o.m
 have L:=o.a
 simp only[go_sem] at u3
 simp only[go_sem,si,t0,t3,u3,P,L,b9,W,Gi]
 refine X4 I (g:=b++p++u++c3++J++Y++c6) (ds:=s.done) hd N (by simp only[Gf,E];omega) (by simp only[go_sem,t0]) (by simp only[go_sem]) (by simp only[go_sem]) (by simp only[go_sem]) (a:=20900) ⟨by simp only[go_sem,Gf],by simp only[go_sem]⟩ fun S2 B=>?_
 rw[E] at B
 simp only[go_sem]
 exact⟨9000,B.out (by simp)⟩
def wJ {n:Nat} (h:n<128):(aD n).length<=1:=(xU 0 n).2 (by simpa using h)
def ZO {n:Nat} (h:n<2^21):(aD n).length<=3:=(xU 2 n).2 (by simpa using h)
def ZN {n:Nat} (h:n<2^14):(aD n).length<=2:=(xU 1 n).2 (by simpa using h)
def pA {n:Nat} (h:n<2^42):(aD n).length<=6:=(xU 5 n).2 (by simpa using h)
theorem Cy {α:Type} {W:α->mp} {k:Nat}:∀{l:List α},(∀a∈l,(W a).length<=k)->(l.flatMap W).length<=k*l.length
 |[],_=>by simp
 |a::l,h=>by
  have h1:=h a (G0 ..);have o:=Cy (l:=l) fun b j=>h b (G2 _ j);simp only[GV,Gf,List.length_cons,Nat.mul_succ];omega
def CM {s:aB} (h:Ya s=true):(dJ s).length<=11:=by
 simp only[Ya,pC,Ge,Gj] at h;have h1:=pA (n:=s.wall.toNat) (by omega);have j:=ZO (n:=s.tick.toNat) (by omega);have o:=ZN (n:=s.node.toNat) (by omega);simp only[dJ,Gf];omega
def Cn {t:mp} (h:t.length<=16):(dE t).length<=17:=by
 have:=wJ (n:=t.length) (by omega);simp only[dE,Gf];omega
def Pa {x:Bool}:(fp x).length=1:=by simp[fp]
def XZ {v:bz} (h:YQ v=true):(fG v).length<=29:=by
 simp only[YQ,Ge,Gj] at h;have h1:=CM h.1.1;have j:=Cn h.1.2;have o:=Pa (x:=v.gone);simp only[fG,Gf];omega
def X9 {e:aF} (h:iw e=true):(eT e).length<=1874:=by
 simp only[iw,Yh,Ge,Gj] at h;have⟨h1,p,j,q⟩:=h;have u:=Cn (ir h1).1;have w:=wJ (n:=e.chain.length) (by omega);have k3:=Cy (W:=fG) (l:=e.chain) (k:=29) fun v o=>XZ (CF j v o);simp only[eT,fC,Gf];omega
def P2 {d:aH} (h:cm d=true):(0<=d.client/\d.client<=1099511627776)/\(0<=d.req/\d.req<=1099511627776)/\(0<=d.ans.err/\d.ans.err<128)/\Ya d.ans.at_=true/\d.ans.val.length<=16:=by
 simp only[cm,Ym,nn,Ge,Gj,GM] at h;have⟨⟨h1,y⟩,⟨z,B⟩,o,p,c3,j,q,u,w⟩:=h;exact⟨⟨by omega,by omega⟩,⟨by omega,by omega⟩,⟨by omega,by omega⟩,c3,j⟩
def Xu {d:aH} (h:cm d=true):(ff d).length<=42:=by
 have⟨h1,p,q,j,o⟩:=P2 h;have u:=pA (n:=d.client.toNat) (by omega);have w:=pA (n:=d.req.toNat) (by omega);have k3:=wJ (n:=d.ans.err.toNat) (by omega);have y:=CM j;have z:=Cn o;have B:=Pa (x:=d.ans.found);simp only[ff,Gf];omega
def CL {n:Int} (h:dq n=true):0<=n/\n<=1099511627776:=by simpa [dq] using h
def wQ {s:aM} (z:bx s=true):Cd s/\(cW s).length<=121000:=by
 simp only[bx,bE,Ym,Yz,ck,YA,Ge,G1,Gj,GG] at z;obtain⟨⟨⟨R,S⟩,⟨T,U⟩,p,q,u,w,X,Y,⟨i1,i2⟩,⟨j1,B⟩,D,E,H,l2⟩,-⟩:=z;have p:=CL p;have q:=CL q;have u:=CL u;have w:=CL w;have lo:s.span.lo.length<=16:=by
  rcases i1 with i1|i1
  ·rw[i1];simp
  ·exact (ir i1).1
 have hi:s.span.hi.length<=16:=by
  rcases i2 with i2|i2
  ·rw[i2];simp
  ·exact (ir i2.1).1
 have q1:=pA (n:=s.id.toNat) (by omega);have q2:=pA (n:=s.epoch.toNat) (by omega);have q3:=wJ (n:=s.phase.toNat) (by omega);have q4:=pA (n:=s.hold.toNat) (by omega);have q5:=pA (n:=s.seen.toNat) (by omega);have q6:=pA (n:=s.move.toNat) (by omega);have q7:=pA (n:=s.closed.toNat) (by omega);have q8:=Cn lo;have q9:=Cn hi;have L:=CM D;have M:=CM E;have N:=wJ (n:=s.ents.length) (by omega);have O:=wJ (n:=s.done.length) (by omega);have P:=Cy (W:=eT) (l:=s.ents) (k:=1874) fun e o=>X9 (xZ B e o);have Q:=Cy (W:=ff) (l:=s.done) (k:=42) fun d j=>Xu (wy H d j);refine⟨⟨?_,by omega,by omega,D,E,fun e o=>?_,by omega,fun d j=>?_,by omega⟩,?_⟩
 ·intro n y;simp only[GH,List.not_mem_nil,or_false] at y;rcases y with rfl|rfl|rfl|rfl|rfl|rfl|rfl<;>omega
 ·have h0:=xZ B e o;have h1:=h0;simp only[iw,Yh,Ge,Gj] at h1;refine⟨Qa h0,by have:=(ir h1.1).1;omega,fun v J=>?_,by omega⟩;have:=CF h1.2.2.1 v J;simp only[YQ,Ge,Gj] at this;omega
 ·have⟨h1,Z,h3,I,h5⟩:=P2 (wy H d j);exact⟨by omega,by omega,by omega,I,by omega⟩
 ·simp only[cW,fC,Gf];omega
theorem Px {top:aB}:∀{l:List aM} {p:Int},lp top p l=true->∀s∈l,bx s=true
 |[],_,_,s,hs=>by cases hs
 |x::l,p,h,s,hs=>by
  simp only[lp,Ge] at h;rcases GH.1 hs with rfl|hs
  ·exact h.2.1
  ·exact Px h.2.2.2 s hs
def EG {c:aP} (h:Yy c=true):c.shards.length<=8/\Ya c.top=true/\(0<=c.dropped/\c.dropped<=1099511627776)/\∀s∈c.shards,bx s=true:=by
 simp only[Yy,Ge,Gj] at h;exact⟨h.1,h.2.1,CL h.2.2.1,Px h.2.2.2⟩
def OE {c:aP} (h:Yy c=true):(cB c).length<=968030:=by
 have⟨h1,j,q,o⟩:=EG h;have u:=CM j;have w:=pA (n:=c.dropped.toNat) (by omega);have k3:=wJ (n:=c.shards.length) (by omega);have y:=Cy (W:=cW) (l:=c.shards) (k:=121000) fun s p=>(wQ (o s p)).2;simp only[cB,fC,Gf];omega
def WA {s:aM} (j:bx s=true):kz s:=by
 have h0:=j;simp only[bx,bE,Ym,Yz,ck,YA,Ge,G1,Gj,GG] at j;obtain⟨⟨⟨y,z⟩,⟨B,D⟩,E,H,I,J,L,M,⟨i1,i2⟩,⟨N,u⟩,O,P,w,Q⟩,-⟩:=j;have lo:s.span.lo.length<=16:=by
  rcases i1 with i1|i1
  ·rw[i1];simp
  ·exact (ir i1).1
 have hi:s.span.hi.length<=16:=by
  rcases i2 with i2|i2
  ·rw[i2];simp
  ·exact (ir i2.1).1
 refine⟨⟨by omega,fun e q=>?_⟩,by omega,fun d p=>?_,by omega,by omega⟩
 ·have h1:=xZ u e q;simp only[iw,Yh,Ge,Gj] at h1;have:=(ir h1.1).1;omega
 ·have:=wy w d p;simp only[cm,Ym,nn,Ge,Gj,GM] at this;obtain⟨-,-,-,-,-,-,o,-,-⟩:=this;rw[o];simp
def YU {c:aP} (h:Yy c=true):eG c:=by
 have⟨h1,p,q,j⟩:=EG h;exact⟨by omega,fun s o=>WA (j s o)⟩
def AE:=HpC 500 F500<|HpA nO<|rJ
def IS (h:AE Pg) (s:aM) (y:kz s):K' Pg 500 [.agg (Yg s)]=some (if bx s=true then .tuple [.str (cW s),iz 0] else .tuple [.str [],iz 1]):=by
 have⟨h,j,o⟩:=h;have p:=sr j s y;simp only[go_sem] at p;refine aA h rfl ?_;cases q:bx s with
 |false=>
  rw[Gn (by simp)];rw[q] at p;simp only[F500,c500,go_sem,p]
 |true=>
  rw[Gt rfl];rw[q] at p;have⟨hw,z⟩:=wQ q;have u:=BR o [] s hw (by simp only[List.length_nil];omega);simp only[ix,List.nil_append,Gk] at u;simp only[go_sem] at u;have w:=DG (cW s);simp only[OO] at w;simp only[F500,c500,go_sem,si,p,u,w,Gi]
def ZZ (w:rJ Pg) {g:mp} {ss:List aM} (U:∀s∈ss,bx s=true) (hc:ss.length<2^60) (hb:g.length+(ss.flatMap cW).length+300<=2^24) {S:St} {Q:Ex->St->Prop}
  (D:S.ρ 4=.lref 4 0) (o:S.ρ 22=.slice 17 (ss.map Yg)) (j:S.ρ 23=iz ss.length) (p:S.ρ 24=iz 0) {a:Nat} (q:HW S 4 g a)
  (Z:∀S',S'.ρ 4=.lref 4 0->HW S' 4 (g++ss.flatMap cW) 10400->Q .norm S'):Wp (K' Pg) l401_0 S (gm 0 Q):=by
 unfold l401_0
 refine bu (fun (i:Nat) S=>i<=ss.length/\S.ρ 4=.lref 4 0/\S.ρ 22=.slice 17 (ss.map Yg)/\S.ρ 23=iz ss.length/\S.ρ 24=iz i/\HW S 4 (g++(ss.take i).flatMap cW) 10400/\S.μ 6=none/\S.A 20200=none) (fun i=>ss.length-i) 0 ?_ ?_
 ·have O:=HW.head (Wv:=[6]) (Wa:=[20200]) (h1:=10400) q rfl rfl
  exact⟨GY _,bB D rfl,bB o rfl,bB j rfl,bB p rfl,by simpa using O.1,gZ (.inr rfl),O.2.1 _ rfl⟩
 ·intro i S ⟨hi,D,o,j,p,q,n6,P⟩
  have hm:=q.m
  have T:=q.a
  cases E:decide ((i:Int)<(ss.length:Int)) with
  |false=>
   have I:i=ss.length:=by have:=Ga E;omega
   rw[I,GB] at q
   simp only[go_sem,j,p,E]
   exact Z _ (by simp only[go_sem,D]) ⟨q.m,q.a⟩
  |true=>
   have J:=Yj E
   obtain⟨s,L,-⟩:=aZ J
   have z:=inc64q (i:=i) (by omega)
   have hs:=U s (List.mem_of_getElem? L)
   have B:ss.take (i+1)=ss.take i++[s]:=by rw[G3,L];rfl
   have y:=Cz (W:=cW) (l:=ss) (i:=i+1)
   have u:g++(ss.take (i+1)).flatMap cW=g++(ss.take i).flatMap cW++cW s:=by rw[B];simp
   rw[B,rg,Gf] at y
   simp only[GV,G5,GD] at y
   generalize X:g++(ss.take i).flatMap cW=H at *
   have Y:H.length=g.length+((ss.take i).flatMap cW).length:=by rw[<-X,Gf]
   have M:=BR w H s (wQ hs).1 (by omega)
   simp only[ix] at M
   simp only[go_sem] at M
   generalize cW s=R at *
   simp only[go_sem,si,D,o,j,p,E,L,hm,T,n6,P,M,z,Gi]
   have N:=fun {S:St} (h:HW S 4 (H++R) 20200)=>HW.head (Wv:=[6]) (Wa:=[20200]) (h1:=10400) h rfl rfl
   refine⟨i+1,by omega,by omega,bB (by simp only[go_sem,D]) rfl,bB (by simp only[go_sem,o]) rfl,bB (by simp only[go_sem,j]) rfl,bB (by simp only[go_sem]) rfl,(N ⟨?_,?_⟩).1.out u.symm,gZ (.inr rfl),(N ⟨?_,?_⟩).2.1 _ rfl⟩
   all_goals simp only[go_sem,Gf]
def vn:=HpC 401 F401<|HpA gH<|HpA nR<|HpA nS<|rJ
theorem BH (h:vn Pg) (c:aP) (N:eG c):K' Pg 401 [.agg (Yq c)]=some (if Yy c=true then .tuple [.str (cB c),iz 0] else .tuple [.str [],iz 1]):=by
 have⟨h,j,o,p,q⟩:=h;have w:=ip j c N;simp only[go_sem] at w;refine aA h rfl ?_;cases y:Yy c with
 |false=>
  rw[Gn (by simp)];rw[y] at w;simp only[F401,c401,go_sem,w]
 |true=>
  rw[Gt rfl];rw[y] at w;have⟨R,r2,r3,r4⟩:=EG y;have M:=OE y;simp only[cB,fC,Gf] at M;have E:=EE o [] [c.top] (by simpa using r2) (by simp only[YG,GV,G5,GD,List.length_nil];omega);have H:=je p ([]++YG [c.top]) [c.dropped,(c.shards.length:Int)] (by simp only[GH,List.not_mem_nil,or_false,forall_eq_or_imp,forall_eq];omega) (by simp only[YG,GV,G5,GD,Gf,List.length_cons,List.length_nil];omega);have B:cB c=YG [c.top]++dP [c.dropped,(c.shards.length:Int)]++c.shards.flatMap cW:=by simp[cB,fC,YG,dP]
  have Q:(dP [c.dropped,(c.shards.length:Int)]).length=(aD c.dropped.toNat).length+(aD c.shards.length).length:=by simp[dP]
  have ht:(YG [c.top]).length=(dJ c.top).length:=by simp[YG]
  simp only[List.nil_append,GA,Gk] at E H;simp only[go_sem] at E H;rw[B];generalize YG [c.top]=I at *
  generalize dP [c.dropped,(c.shards.length:Int)]=J at *
  simp only[F401,c401,go_sem,si,w,E,H,Gi];refine ZZ q (g:=I++J) (ss:=c.shards) r4 (by omega) (by simp only[Gf];omega) (by simp only[go_sem]) (by simp only[go_sem]) (by simp only[go_sem]) (by simp only[go_sem]) (a:=20100) ⟨by simp only[go_sem,Gf],by simp only[go_sem]⟩ fun P O u=>?_;have D:=u.m;have z:=u.a;have L:=DG (I++J++c.shards.flatMap cW);simp only[OO] at L;simp only[go_sem,O,D,z,L,Gi]
def B6 (h:lD Pg) (n:Int) (h0:0<=n) (h1:n<2^63):K' Pg 487 [iz n]=some (.tuple [.str (aD n.toNat),iz 0]):=by
 have:=sB h n.toNat (by omega);rw[show ((n.toNat:Nat):Int)=n by omega] at this;exact this
def nX:=HpC 460 F460 lD
def B0 {f:Nat} (h:Pg f=some (.code F460)) (j:lD Pg) (n:Int) (h0:0<=n) (h1:n<2^63):K' Pg f [iz n]=some (.str (aD n.toNat)):=by
 have k:=B6 j n h0 h1;refine aA h rfl ?_;simp only[F460,c460,go_sem,k]
def fl (h:nX Pg) (n:Int) (h0:0<=n) (h1:n<2^63):K' Pg 460 [iz n]=some (.str (aD n.toNat)):=B0 h.1 h.2 n h0 h1
def vD:=HpC 503 F503 lD
def IW (h:vD Pg) (t:mp) (ht:t.length<2^61):K' Pg 503 [.str t]=some (.str (dE t)):=by
 have⟨h,j⟩:=h;have k:=sB j t.length (by omega);have o:(aD t.length).length+t.length<=4611686018427387904:=by have:=iQ.2 (show t.length<2^63 by omega);omega
 refine aA h rfl ?_;simp only[F503,c503,go_sem,k,o,dE]
def ob:=HpC 488 F488 vD
def B7 {f:Nat} (h:Pg f=some (.code F488)) (j:vD Pg) (t:mp) (ht:t.length<2^61):K' Pg f [.str t]=some (.str (dE t)):=by
 have k:=IW j t ht;refine aA h rfl ?_;simp only[F488,c488,go_sem,k]
def oA (h:ob Pg) (t:mp) (ht:t.length<2^61):K' Pg 488 [.str t]=some (.str (dE t)):=B7 h.1 h.2 t ht
def AH:=HpZ 504 F504
def IX (h:AH Pg) (b:Bool):K' Pg 504 [.bool b]=some (.str (fp b)):=by
 refine aA h rfl ?_;cases b<;>simp only[F504,c504,go_sem,fp]<;>rfl
def oc:=HpC 489 F489 AH
def B8 (h:oc Pg) (b:Bool):K' Pg 489 [.bool b]=some (.str (fp b)):=by
 have⟨h,j⟩:=h;have k:=IX j b;refine aA h rfl ?_;simp only[F489,c489,go_sem,k]
def mB:=HpC 459 F459 vC
def BZ {f:Nat} (h:Pg f=some (.code F459)) (j:vC Pg) (s:aB) (o:Ya s=true):K' Pg f [.agg (Ye s)]=some (.str (dJ s)):=by
 have k:=IL j s o;simp only[go_sem] at k;refine aA h rfl ?_;simp only[F459,c459,go_sem,k]
def ow (h:mB Pg) (s:aB) (j:Ya s=true):K' Pg 459 [.agg (Ye s)]=some (.str (dJ s)):=BZ h.1 h.2 s j
def Ky {α:Type} {W:α->mp} {l:List α} {j:Nat}:((l.take j).flatMap W).length<=(l.flatMap W).length:=by
 conv=>rhs;rw[<-G4 j l]
 simp only[rg,Gf];omega
def Kx {α:Type} {W:α->mp} {l:List α} {j:Nat} {x:α} (h:l[j]?=some x):(l.take (j+1)).flatMap W=(l.take j).flatMap W++W x:=by
 rw[G3,h];simp
def Zt (o:mB Pg) (q:oc Pg) (p:ob Pg) {sh:aM} {key g:mp} {chain:List bz} {I:Nat} (Z:∀v∈chain,Ya v.at_=true/\v.val.length<=2^20) (hn:chain.length<=2^20) (hg:g.length+(chain.flatMap fG).length<=2^40)
  {S:St} {Q:Ex->St->Prop} (s1:S.ρ 1=.lref 1 0) (s3:S.ρ 3=.str g) (s4:S.ρ 4=iz I) (s5:S.ρ 5=.lref 5 0) (s6:S.ρ 6=iz 0) (n1:S.μ 1=some (Yg sh,false)) (n5:S.μ 5=some ([.str key,Yd chain],false)) (n8:S.μ 8=none)
  (hq:∀S',S'.ρ 1=.lref 1 0->S'.ρ 3=.str (g++chain.flatMap fG)->S'.ρ 4=iz I->S'.μ 1=some (Yg sh,false)->S'.μ 8=none->Q .norm S'):Wp (K' Pg) l461_1 S (gm 2 Q):=by
 unfold l461_1
 refine bu (fun (j:Nat) S'=>j<=chain.length/\S'.ρ 1=.lref 1 0/\S'.ρ 3=.str (g++(chain.take j).flatMap fG)/\S'.ρ 4=iz I/\S'.ρ 5=.lref 5 0/\S'.ρ 6=iz j/\S'.μ 1=some (Yg sh,false)/\S'.μ 5=some ([.str key,Yd chain],false)/\S'.μ 8=none) (fun j=>chain.length-j) 0 ?_ ?_
 ·simp only[nj]
  exact⟨GY _,s1,by rw[s3];simp,s4,s5,s6,n1,n5,n8⟩
 ·intro j S' ⟨hj,N,H,O,P,R,M,m5,m8⟩
  simp only[Yd] at m5
  cases z:decide ((j:Int)<(chain.length:Int)) with
  |false=>
   have B:j=chain.length:=by have:=Ga z;omega
   subst B
   rw[GB] at H
   simp only[go_sem,P,R,m5,z,Gi]
   exact hq _ (by simp only[go_sem,N]) (by simp only[go_sem,H]) (by simp only[go_sem,O]) M m8
  |true=>
   have D:=Yj z
   obtain⟨v,E,-⟩:=aZ D
   have⟨v1,v2⟩:=Z v (List.mem_of_getElem? E)
   have u:=inc64q (i:=j) (by omega)
   have L:=ow o v.at_ v1
   have k2:=B8 q v.gone
   have k3:=oA p v.val (by omega)
   have y:=Kx (W:=fG) E
   have w:=Ky (W:=fG) (l:=chain) (j:=j+1)
   rw[y,Gf] at w
   simp only[fG,Gf] at w
   generalize J:g++(chain.take j).flatMap fG=G at *
   have Y:G.length=g.length+((chain.take j).flatMap fG).length:=by rw[<-J,Gf]
   have T:G.length+(dJ v.at_).length<=4611686018427387904:=by omega
   have U:G.length+(dJ v.at_).length+(fp v.gone).length<=4611686018427387904:=by omega
   have X:G.length+(dJ v.at_).length+(fp v.gone).length+(dE v.val).length<=4611686018427387904:=by omega
   simp only[go_sem] at L
   simp only[go_sem,N,H,O,P,R,m5,z,E,L,k2,k3,u,T,U,X,Gi,Gf,nj]
   refine⟨j+1,by omega,by omega,by rw[y,<-GX,J];simp[fG],rfl,M,rfl,m8⟩
def XM (q:mB Pg) (w:oc Pg) (p:ob Pg) (u:nX Pg) {sh:aM} {g:mp} (hc:∀e∈sh.ents,e.key.length<=2^20/\e.chain.length<=2^20/\∀v∈e.chain,Ya v.at_=true/\v.val.length<=2^20) (hn:sh.ents.length<=2^20) (hg:g.length+(sh.ents.flatMap eT).length<=2^40)
  {S:St} {Q:Ex->St->Prop} (s1:S.ρ 1=.lref 1 0) (s3:S.ρ 3=.str g) (s4:S.ρ 4=iz 0) (n1:S.μ 1=some (Yg sh,false)) (n5:S.μ 5=none) (n8:S.μ 8=none)
  (hq:∀S',S'.ρ 1=.lref 1 0->S'.ρ 3=.str (g++sh.ents.flatMap eT)->S'.μ 1=some (Yg sh,false)->S'.μ 8=none->Q .norm S'):Wp (K' Pg) l461_0 S (gm 0 Q):=by
 unfold l461_0
 refine bu (fun (j:Nat) S'=>j<=sh.ents.length/\S'.ρ 1=.lref 1 0/\S'.ρ 3=.str (g++(sh.ents.take j).flatMap eT)/\S'.ρ 4=iz j/\S'.μ 1=some (Yg sh,false)/\S'.μ 5=none/\S'.μ 8=none) (fun j=>sh.ents.length-j) 0 ?_ ?_
 ·exact⟨GY _,bB s1 rfl,bB (by rw[s3];simp) rfl,bB s4 rfl,(CA rfl).trans n1,gZ (.inr rfl),gZ (.inl n8)⟩
 ·intro j S' ⟨hj,H,O,P,X,m5,m8⟩
  have o:=X
  simp only[go_sem] at o
  cases E:decide ((j:Int)<(sh.ents.length:Int)) with
  |false=>
   have L:j=sh.ents.length:=by have:=Ga E;omega
   rw[L,GB] at O
   simp only[go_sem,H,P,o,E,Gi]
   exact hq _ (by simp only[go_sem,H]) (by simp only[go_sem,O]) X m8
  |true=>
   have M:=Yj E
   obtain⟨e,J,-⟩:=aZ M
   have⟨v1,v2,v3⟩:=hc e (List.mem_of_getElem? J)
   have z:=inc64q (i:=j) (by omega)
   have k1:=oA p e.key (by omega)
   have U:=fl u e.chain.length (by omega) (by omega)
   have N:((e.chain.length:Int)).toNat=e.chain.length:=by omega
   rw[N] at U
   have D:=Kx (W:=eT) J
   have B:=Ky (W:=eT) (l:=sh.ents) (j:=j+1)
   rw[D,Gf] at B
   simp only[eT,fC,Gf] at B
   generalize T:g++(sh.ents.take j).flatMap eT=G at *
   have aa:G.length=g.length+((sh.ents.take j).flatMap eT).length:=by rw[<-T,Gf]
   have Y:G.length+(dE e.key).length<=4611686018427387904:=by omega
   have Z:G.length+(dE e.key).length+(aD e.chain.length).length<=4611686018427387904:=by omega
   simp only[go_sem,Yd,H,O,P,o,m5,E,J,k1,U,Y,Z,Gi,Gf]
   refine Zt q w p (sh:=sh) (key:=e.key) (g:=G++dE e.key++aD e.chain.length) (chain:=e.chain) (I:=j) v3 v2 (by simp only[Gf];omega) (by simp only[go_sem,H]) (by simp only[go_sem]) (by simp only[go_sem,P]) (by simp only[go_sem]) (by simp only[go_sem]) (by simp only[go_sem,o]) (by simp only[go_sem,Yd]) (by simp only[go_sem,m8]) fun S2 u1 u3 u4 w1 w8=>?_
   have R:=w1
   have y:g++(sh.ents.take (j+1)).flatMap eT=G++dE e.key++aD e.chain.length++e.chain.flatMap fG:=by rw[D,<-GX,T];simp[eT,fC]
   simp only[go_sem,u4,z,u1,u3,R,w8,Option.map_some,Option.map_none]
   exact⟨j+1,by omega,by omega,by rw[y],rfl⟩
def X6 (q:mB Pg) (w:oc Pg) (u:ob Pg) (o:nX Pg) {sh:aM} {g:mp} (hc:∀d∈sh.done,cm d=true) (hn:sh.done.length<=2^20) (hg:g.length+(sh.done.flatMap ff).length<=2^40)
  {S:St} {Q:Ex->St->Prop} (s1:S.ρ 1=.lref 1 0) (s3:S.ρ 3=.str g) (s7:S.ρ 7=iz 0) (n1:S.μ 1=some (Yg sh,false)) (n8:S.μ 8=none)
  (hq:∀S',S'.ρ 3=.str (g++sh.done.flatMap ff)->Q .norm S'):Wp (K' Pg) l461_2 S (gm 4 Q):=by
 unfold l461_2
 refine bu (fun (j:Nat) S'=>j<=sh.done.length/\S'.ρ 1=.lref 1 0/\S'.ρ 3=.str (g++(sh.done.take j).flatMap ff)/\S'.ρ 7=iz j/\S'.μ 1=some (Yg sh,false)/\S'.μ 8=none) (fun j=>sh.done.length-j) 0 ?_ ?_
 ·exact⟨GY _,bB s1 rfl,bB (by rw[s3];simp) rfl,bB s7 rfl,(CA rfl).trans n1,gZ (.inr rfl)⟩
 ·intro j S' ⟨hj,P,L,R,m1,m8⟩
  have p:=m1
  simp only[go_sem] at p
  cases E:decide ((j:Int)<(sh.done.length:Int)) with
  |false=>
   have I:j=sh.done.length:=by have:=Ga E;omega
   rw[I,GB] at L
   simp only[go_sem,P,R,p,E,Gi]
   exact hq _ (by simp only[go_sem,L])
  |true=>
   have J:=Yj E
   obtain⟨d,H,-⟩:=aZ J
   have N:=hc d (List.mem_of_getElem? H)
   simp only[cm,Ym,nn,Ge,Gj,GM] at N
   obtain⟨⟨a1,a2⟩,⟨a3,a4⟩,T,a6,U,a8,-⟩:=N
   have z:=inc64q (i:=j) (by omega)
   have k1:=fl o d.client (by omega) (by omega)
   have k2:=fl o d.req (by omega) (by omega)
   have k3:=fl o d.ans.err T (by omega)
   have O:=ow q d.ans.at_ U
   have k5:=B8 w d.ans.found
   have k6:=oA u d.ans.val (by omega)
   have D:=Kx (W:=ff) H
   have B:=Ky (W:=ff) (l:=sh.done) (j:=j+1)
   rw[D,Gf] at B
   simp only[ff,Gf] at B
   generalize M:g++(sh.done.take j).flatMap ff=G at *
   have aa:G.length=g.length+((sh.done.take j).flatMap ff).length:=by rw[<-M,Gf]
   have X:G.length+(aD d.client.toNat).length<=4611686018427387904:=by omega
   have Y:G.length+(aD d.client.toNat).length+(aD d.req.toNat).length<=4611686018427387904:=by omega
   have Z:G.length+(aD d.client.toNat).length+(aD d.req.toNat).length+(aD d.ans.err.toNat).length<=4611686018427387904:=by omega
   have b4:G.length+(aD d.client.toNat).length+(aD d.req.toNat).length+(aD d.ans.err.toNat).length+(dJ d.ans.at_).length<=4611686018427387904:=by omega
   have b5:G.length+(aD d.client.toNat).length+(aD d.req.toNat).length+(aD d.ans.err.toNat).length+(dJ d.ans.at_).length+(fp d.ans.found).length<=4611686018427387904:=by omega
   have b6:G.length+(aD d.client.toNat).length+(aD d.req.toNat).length+(aD d.ans.err.toNat).length+(dJ d.ans.at_).length+(fp d.ans.found).length+(dE d.ans.val).length<=4611686018427387904:=by omega
   have y:g++(sh.done.take (j+1)).flatMap ff=G++aD d.client.toNat++aD d.req.toNat++aD d.ans.err.toNat++dJ d.ans.at_++fp d.ans.found++dE d.ans.val:=by rw[D,<-GX,M];simp[ff]
   simp only[go_sem] at O
   simp only[go_sem,P,L,R,p,m8,E,H,k1,k2,k3,O,k5,k6,X,Y,Z,b4,b5,b6,z,Gi,Gf,Option.map_some]
   exact⟨j+1,by omega,by omega,by rw[y],rfl⟩
def rV:=HpC 461 F461<|HpA mB<|HpA oc<|HpA ob<|nX
theorem wg (h:rV Pg) (s:aM) (M:bx s=true) (T:(cW s).length<=2^40):K' Pg 461 [.agg (Yg s)]=some (.str (cW s)):=by
 have⟨h,o,q,p,j⟩:=h;have P:=wK M;simp only[bx,bE,Ym,dq,Yz,ck,YA,Ge,G1,Gj,GG] at M;obtain⟨⟨⟨a1,a2⟩,⟨b1,b2⟩,⟨c1,c2⟩,⟨d1,d2⟩,⟨e1,e2⟩,⟨f1,f2⟩,g1,g2,⟨i1,i2⟩,⟨j1,X⟩,Y,Z,l1,l2⟩,-⟩:=M;have lo:s.span.lo.length<=16:=by
  rcases i1 with i1|i1
  ·rw[i1];simp
  ·exact (ir i1).1
 have hi:s.span.hi.length<=16:=by
  rcases i2 with i2|i2
  ·rw[i2];simp
  ·exact (ir i2.1).1
 have u:∀e∈s.ents,e.key.length<=2^20/\e.chain.length<=2^20/\∀v∈e.chain,Ya v.at_=true/\v.val.length<=2^20:=fun e W=>by
  have:=xZ X e W;simp only[iw,Yh,Ge,Gj] at this;have⟨h1,h2,S,h4⟩:=this;refine⟨by have:=(ir h1).1;omega,by omega,fun v P=>?_⟩;have:=CF S v P;simp only[YQ,Ge,Gj] at this;exact⟨this.1.1,by omega⟩
 have q1:=fl j s.id (by omega) (by omega);have q2:=fl j s.epoch (by omega) (by omega);have q3:=fl j s.phase (by omega) (by omega);have q4:=fl j s.hold (by omega) (by omega);have q5:=fl j s.seen (by omega) (by omega);have q6:=fl j s.move (by omega) (by omega);have q7:=fl j s.closed (by omega) (by omega);have q8:=oA p s.span.lo (by omega);have q9:=oA p s.span.hi (by omega);have B:=ow o s.mark Y;have D:=ow o s.top Z;have E:=fl j s.ents.length (by omega) (by omega);have H:=fl j s.done.length (by omega) (by omega);rw[show ((s.ents.length:Int)).toNat=s.ents.length by omega] at E;rw[show ((s.done.length:Int)).toNat=s.done.length by omega] at H;simp only[go_sem] at B D;have I:=T;simp only[cW,fC,Gf] at I;have w1:(aD s.id.toNat).length+(aD s.epoch.toNat).length<=4611686018427387904:=by omega
 have w2:(aD s.id.toNat).length+(aD s.epoch.toNat).length+(aD s.phase.toNat).length<=4611686018427387904:=by omega
 have w3:(aD s.id.toNat).length+(aD s.epoch.toNat).length+(aD s.phase.toNat).length+(aD s.hold.toNat).length<=4611686018427387904:=by omega
 have w4:(aD s.id.toNat).length+(aD s.epoch.toNat).length+(aD s.phase.toNat).length+(aD s.hold.toNat).length+(aD s.seen.toNat).length<=4611686018427387904:=by omega
 have w5:(aD s.id.toNat).length+(aD s.epoch.toNat).length+(aD s.phase.toNat).length+(aD s.hold.toNat).length+(aD s.seen.toNat).length+(aD s.move.toNat).length<=4611686018427387904:=by omega
 have w6:(aD s.id.toNat).length+(aD s.epoch.toNat).length+(aD s.phase.toNat).length+(aD s.hold.toNat).length+(aD s.seen.toNat).length+(aD s.move.toNat).length+(aD s.closed.toNat).length<=4611686018427387904:=by omega
 have w7:(aD s.id.toNat).length+(aD s.epoch.toNat).length+(aD s.phase.toNat).length+(aD s.hold.toNat).length+(aD s.seen.toNat).length+(aD s.move.toNat).length+(aD s.closed.toNat).length+(dE s.span.lo).length<=4611686018427387904:=by omega
 have w8:(aD s.id.toNat).length+(aD s.epoch.toNat).length+(aD s.phase.toNat).length+(aD s.hold.toNat).length+(aD s.seen.toNat).length+(aD s.move.toNat).length+(aD s.closed.toNat).length+(dE s.span.lo).length+(dE s.span.hi).length<=4611686018427387904:=by omega
 have w9:(aD s.id.toNat).length+(aD s.epoch.toNat).length+(aD s.phase.toNat).length+(aD s.hold.toNat).length+(aD s.seen.toNat).length+(aD s.move.toNat).length+(aD s.closed.toNat).length+(dE s.span.lo).length+(dE s.span.hi).length+(dJ s.mark).length<=4611686018427387904:=by omega
 have N:(aD s.id.toNat).length+(aD s.epoch.toNat).length+(aD s.phase.toNat).length+(aD s.hold.toNat).length+(aD s.seen.toNat).length+(aD s.move.toNat).length+(aD s.closed.toNat).length+(dE s.span.lo).length+(dE s.span.hi).length+(dJ s.mark).length+(dJ s.top).length<=4611686018427387904:=by omega
 have O:(aD s.id.toNat).length+(aD s.epoch.toNat).length+(aD s.phase.toNat).length+(aD s.hold.toNat).length+(aD s.seen.toNat).length+(aD s.move.toNat).length+(aD s.closed.toNat).length+(dE s.span.lo).length+(dE s.span.hi).length+(dJ s.mark).length+(dJ s.top).length+(aD s.ents.length).length<=4611686018427387904:=by omega
 refine aA h rfl ?_;simp only[F461,c461,go_sem,q1,q2,q3,q4,q5,q6,q7,q8,q9,B,D,E,w1,w2,w3,w4,w5,w6,w7,w8,w9,N,O,Gi,Gf];refine XM o q p j (sh:=s) (g:=aD s.id.toNat++aD s.epoch.toNat++aD s.phase.toNat++aD s.hold.toNat++aD s.seen.toNat++aD s.move.toNat++aD s.closed.toNat++dE s.span.lo++dE s.span.hi++dJ s.mark++dJ s.top++aD s.ents.length) u (by omega) (by simp only[Gf];omega) (by simp only[go_sem]) (by simp only[go_sem]) (by simp only[go_sem]) (by simp only[go_sem]<;>rfl) (by simp only[go_sem]) (by simp only[go_sem]) fun S1 Q R v1 v8=>?_;have w:=v1;simp only[go_sem] at w;generalize J:aD s.id.toNat++aD s.epoch.toNat++aD s.phase.toNat++aD s.hold.toNat++aD s.seen.toNat++aD s.move.toNat++aD s.closed.toNat++dE s.span.lo++dE s.span.hi++dJ s.mark++dJ s.top++aD s.ents.length++s.ents.flatMap eT=g at R;have L:g.length+(aD s.done.length).length<=4611686018427387904:=by rw[<-J];simp only[Gf];omega
 have z:(g++aD s.done.length).length+(s.done.flatMap ff).length<=2^40:=by rw[<-J];simp only[Gf];omega
 simp only[go_sem,Q,R,w,H,L,Gi];refine X6 o q p j (sh:=s) (g:=g++aD s.done.length) (fun d U=>wy l1 d U) (by omega) z (by simp only[go_sem,Q]) (by simp only[go_sem]) (by simp only[go_sem]) (by simp only[go_sem,w]) (by simp only[go_sem,v8]) fun S2 z3=>?_;have y:g++aD s.done.length++s.done.flatMap ff=cW s:=by rw[<-J];simp[cW,fC]
 simp only[go_sem,z3,y]
def vu:=HpC 424 F424<|HpA mB<|HpA nX<|rV
theorem BS (h:vu Pg) (c:aP) (L:Yy c=true):K' Pg 424 [.agg (Yq c)]=some (.str (cB c)):=by
 have⟨h,u,o,w⟩:=h;have⟨r1,r2,r3,r4⟩:=EG L;have Z:=OE L;simp only[cB,fC,Gf] at Z;have O:=ow u c.top r2;have q2:=fl o c.dropped (by omega) (by omega);have P:=fl o c.shards.length (by omega) (by omega);rw[show ((c.shards.length:Int)).toNat=c.shards.length by omega] at P;simp only[go_sem] at O;have w1:(dJ c.top).length+(aD c.dropped.toNat).length<=4611686018427387904:=by omega
 have w2:(dJ c.top).length+(aD c.dropped.toNat).length+(aD c.shards.length).length<=4611686018427387904:=by omega
 refine aA h rfl ?_;simp only[F424,c424,go_sem,O,q2,P,w1,w2,Gi,Gf];have X:cB c=dJ c.top++aD c.dropped.toNat++aD c.shards.length++c.shards.flatMap cW:=by simp[cB,fC]
 have Y:(dJ c.top++aD c.dropped.toNat++aD c.shards.length).length+(c.shards.flatMap cW).length<=968030:=by simp only[Gf];omega
 rw[X];generalize dJ c.top++aD c.dropped.toNat++aD c.shards.length=g at *
 unfold l424_0;refine bu (fun (j:Nat) S'=>j<=c.shards.length/\S'.ρ 1=.lref 1 0/\S'.ρ 3=.str (g++(c.shards.take j).flatMap cW)/\S'.ρ 4=iz j/\S'.μ 1=some (Yq c,false)) (fun j=>c.shards.length-j) 0 ?_ ?_
 ·simp[go_sem]
 ·intro j S' ⟨hj,Q,J,R,m1⟩;have q:=m1;simp only[go_sem] at q;cases D:decide ((j:Int)<(c.shards.length:Int)) with
  |false=>
   have H:j=c.shards.length:=by have:=Ga D;omega
   rw[H,GB] at J;simp only[go_sem,Q,J,R,q,D,Gi]
  |true=>
   have I:=Yj D;obtain⟨e,E,-⟩:=aZ I;have M:=r4 e (List.mem_of_getElem? E);have y:=inc64q (i:=j) (by omega)
   have N:=wg w e M (by have:=(wQ M).2;omega);simp only[go_sem] at N;have B:c.shards.take (j+1)=c.shards.take j++[e]:=by rw[G3,E];rfl
   have z:=Cz (W:=cW) (l:=c.shards) (i:=j+1);have p:g++(c.shards.take (j+1)).flatMap cW=g++(c.shards.take j).flatMap cW++cW e:=by rw[B];simp
   rw[B,rg,Gf] at z;simp only[GV,G5,GD] at z;generalize T:g++(c.shards.take j).flatMap cW=G at *
   have U:G.length=g.length+((c.shards.take j).flatMap cW).length:=by rw[<-T,Gf]
   have S:G.length+(cW e).length<=4611686018427387904:=by omega
   simp only[go_sem,Q,J,R,q,D,E,N,S,y,Gi,nj];exact⟨j+1,by omega,by omega,by rw[p],rfl⟩
structure mt (S:St) (y:Rd) (t:aB) (d:Int) (vs:List aM):Prop where
 r2:S.ρ 2=.lref 2 0
 r4:S.ρ 4=.lref 10 0
 r5:S.ρ 5=.lref 5 0
 dD:S.μ 10=some (bM y,false)
 m2:S.μ 2=some ([.slice 17 [],.int .i64 0,.int .i64 0,.int .i64 0,.int .i64 0],false)
 m5:S.μ 5=some (yq t d (bA 36 17 vs.length),false)
 pY:S.A 36=i8 17 (vs.map Yg) vs.length
def mt.head {S:St} {y:Rd} {t:aB} {d:Int} {vs:List aM} (h:mt S y t d vs):mt (S.head [] [] [] []) y t d vs:=by rw[nj];exact h
def Z0 {tt:mp} (I:rQ Pg) {y:Rd} {m:Nat} {t:aB} {d:Int} (hy:y.1.length<=2^20) {S:St} {Q:Ex->St->Prop} (hS:mt S y t d []) (s6:S.ρ 6=iz m) (s7:S.ρ 7=iz 0) (s0:S.ρ 0=.str tt)
  (Z:∀S',mt S' (cR (dX true) m y).2 t d (cR (dX true) m y).1->S'.ρ 0=.str tt->Q .norm S'):Wp (K' Pg) l411_0 S (gm 0 Q):=by
 have Y:=Cl (tf (D:=true)) EA (k:=m) (x:=y)
 unfold l411_0
 refine bu (fun (j:Nat) S'=>j<=m/\S'.ρ 0=.str tt/\S'.ρ 6=iz m/\S'.ρ 7=iz j/\∃(vs:List aM) (B:Rd),vs.length=j/\B.1.length<=2^20/\
  cR (dX true) m y=(vs++(cR (dX true) (m-j) B).1,(cR (dX true) (m-j) B).2)/\mt S' B t d vs) (fun j=>m-j) 0 ?_ ?_
 ·simp only[nj]
  exact⟨GY _,s0,s6,s7,[],y,rfl,hy,rfl,hS⟩
 ·intro j S' ⟨hj,t0,T,U,vs,B,P,L,w,hE⟩
  have⟨t2,M,R,dD,m2,m5,pY⟩:=hE
  have⟨u,b⟩:=B
  simp only[go_sem] at dD
  have H:(m<=j\/b=true)->∀(ρ':Nat->V),(∀i,i≠28->ρ' i=S'.ρ i)->Q .norm ⟨ρ',S'.μ,S'.A⟩:=fun hs ρ' q=>by
   have he:=Ea w hs;rw[he] at Z;exact Z _ ⟨(q 2 (by omega)).trans t2,(q 4 (by omega)).trans M,(q 5 (by omega)).trans R,dD,m2,m5,pY⟩ ((q 0 (by omega)).trans t0)
  cases E:decide ((j:Int)<(m:Int)) with
  |false=>
   have N:m<=j:=by have:=Ga E;omega
   simp only[go_sem,T,U,E]
   exact H (.inl N) _ fun i hi=>jr (by simpa using hi)
  |true=>
   cases b with
   |true=>
    simp only[go_sem,M,T,U,dD,E]
    exact H (.inr rfl) _ fun i hi=>jr (by simpa using hi)
   |false=>
    have O:=Yj E
    have o:=fP O rfl w
    have aa:vs.length+1<=2^21:=by
     have:=gp (fun p=>p.1.length) o;simp only[Gf,List.length_singleton] at this;omega
    have J:=inc64q (i:=j) (by omega)
    have k1:=BV I (u,false) L
    have l1:=GI ((tf (D:=true)).len (u,false)) L
    generalize dX true (u,false)=p1 at *
    have⟨W,x1⟩:=p1
    simp only at o l1
    have r1:=fun (S:St) (hm:S.μ 10=some (bM (u,false),false))=>aG (p:=20300) k1 hm
    have X:=fun S=>sM (S:=S) (s:=36) (z:=17) (r:=Yg W) (n:=vs.length) (rows:=vs.map Yg) (by simp) (by unfold aU;omega)
    have v5:=m5
    simp only[yq] at v5
    simp only[go_sem] at r1 X
    simp only[go_sem,M,R,T,U,E,dD,v5,pY,r1,sL,X,J,nj]
    exact⟨j+1,by omega,by omega,t0,rfl,vs++[W],x1,by simp[P],l1,o,by simp only[go_sem,t2],by simp only[go_sem,M],by simp only[go_sem,R],by simp only[go_sem],by simp only[go_sem,m2],by simp only[go_sem,Gf]<;>rfl,by simp only[go_sem,Gz,Gf]<;>rfl⟩
def jY (o:Option aP):V:=match o with
 |some c=>.tuple [.agg (Yq c),.bool true]
 |none=>.tuple [.agg [.slice 17 [],iz 0,iz 0,iz 0,iz 0],.bool false]
def vr:=HpC 411 F411<|HpA mA<|HpA nV<|HpA rQ<|HpA jo<|vu
theorem BL (h:vr Pg) (t:mp) (ht:t.length<=2^20) (E:(gC true (t,false)).2.2=false->eG (gC true (t,false)).1):K' Pg 411 [.str t]=some (jY (gG t)):=by
 have⟨h,J,q,L,H,I⟩:=h;have hR:∀{a:aB} {n m:Nat} {w z x3:Rd},cu cJ zS (t,false)=(a,w)->cu (tk 9) 0 w=(n,z)->cu (tk 9) 0 z=(m,x3)->
   gC true (t,false)=(iM (a,n,(cR (dX true) m x3).1),(cR (dX true) m x3).2):=by
  intro a n m w z x3 O P Q
  have d1:gN true=cu (tk 9) 0:=rfl
  have d3:gS true=cu cJ zS:=rfl
  have d4:gL true (dX true)=lstD (dX true):=rfl
  simp only[gC,gW,bR,d1,d3,d4,O,P,Q,lstD]
 have U:=ou J (t,false) (by simp only;omega);have X:=(cS (D:=true)).len (t,false);change (cu cJ zS (t,false)).2.1.length<=t.length at X;cases O:cu cJ zS (t,false) with
 |mk a w=>
 rw[O] at U X;simp only at U X;have W:=fk q w (by omega);have l2:=jw.len w;cases P:cu (tk 9) 0 w with
 |mk n z=>
 rw[P] at W l2;simp only at W l2;have k3:=fk q z (by omega);have l3:=jw.len z;cases Q:cu (tk 9) 0 z with
 |mk m y=>
 rw[Q] at k3 l3;simp only at k3 l3;have hg:=hR O P Q;have Z:=tz (t:=t);rw[<-Z];rw[hg] at E ⊢;clear Z;generalize hD:cR (dX true) m y=pD at *
 have⟨sh,u,b⟩:=pD;simp only at hg E ⊢;refine aA h rfl ?_;have r1:=fun (S:St) (hm:S.μ 10=some (bM (t,false),false))=>aG (p:=20000) U hm;have r2:=fun (S:St) (hm:S.μ 10=some (bM w,false))=>aG (p:=20100) W hm;have r3:=fun (S:St) (hm:S.μ 10=some (bM z,false))=>aG (p:=20200) k3 hm;simp only[go_sem,jc] at r1 r2 r3;simp only[F411,c411,go_sem,r1,r2,r3];refine Z0 (tt:=t) L (y:=y) (m:=m) (t:=a) (d:=n) (by omega) ⟨by simp only[go_sem],by simp only[go_sem],by simp only[go_sem],by simp only[go_sem],by simp only[go_sem],by simp only[go_sem]<;>rfl,rfl⟩ (by simp only[go_sem]) (by simp only[go_sem]) (by simp only[go_sem]) fun S1 M t0=>?_;rw[hD] at M;have⟨R,T,Y,dD,m2,m5,pY⟩:=M;simp only at dD pY m5;have B:=sF pY (by simp);simp only[yq] at m5;simp only[go_sem] at dD;cases b with
 |true=>
  rw[Gn (by simp)];simp only[go_sem,R,T,dD,m2,jY]
 |false=>
  have j:=gI H (iM (a,n,sh)) (E rfl);cases c3:Yy (iM (a,n,sh)) with
  |false=>
   rw[c3] at j;rw[Gn (by simp)];simp only[go_sem,iM] at j;simp only[go_sem,R,T,Y,dD,m2,m5,B,j,jY]
  |true=>
   rw[c3] at j;have o:=BS I (iM (a,n,sh)) c3;simp only[go_sem,iM] at j o;cases N:decide (cB ⟨sh,a,(n:Int)⟩=t) with
   |false=>
    rw[Gn (by simpa [iM] using Ga N)];simp only[go_sem,t0,R,T,Y,dD,m2,m5,B,j,o,N,jY]
   |true=>
    rw[Gt ⟨rfl,rfl,by simpa [iM] using Gc N⟩];simp only[go_sem,t0,R,T,Y,dD,m2,m5,B,j,o,N,jY,iM]
def Id (h:vr Pg) (t:mp) (ht:t.length<=10000):K' Pg 411 [.str t]=some (jY (gG t)):=BL h t (by omega) fun j=>by
 cases o:gC true (t,false) with
 |mk c y=>
 have⟨u,b⟩:=y;rw[o] at j;simp only at j;subst j;have⟨p,q⟩:=(cC (D:=true)).get o;have:=gp List.length p;rw[Gf] at this;exact PG (c:=c) q (by omega)
def wI (o:Option aM):V:=match o with
 |some s=>.tuple [.agg (Yg s),.bool true]
 |none=>.tuple [.agg iY,.bool false]
def Au:=HpC 481 F481<|HpA rQ<|HpA rx<|rV
theorem IH (h:Au Pg) (t:mp) (ht:t.length<=10000):K' Pg 481 [.str t]=some (wI (mR t)):=by
 have⟨h,w,q,z⟩:=h;have N:=BV w (t,false) (by simp only;omega);rw[<-Xq];have B:(dX true (t,false)).2.2=false->kz (dX true (t,false)).1:=fun I=>by
  cases J:dX true (t,false) with
  |mk s y=>
  have⟨u,b⟩:=y;rw[J] at I;simp only at I;subst I;have⟨L,M⟩:=(tf (D:=true)).get J;have:=gp List.length L;rw[Gf] at this;exact CI (s:=s) M (by omega)
 generalize dX true (t,false)=p at *
 have⟨s,u,b⟩:=p;simp only at B ⊢;have E:=fun (S:St) (hm:S.μ 8=some (bM (t,false),false))=>aG (p:=20000) N hm;simp only[go_sem] at E;refine aA h rfl ?_;cases b with
 |true=>
  rw[Gn (by simp)];simp only[F481,c481,go_sem,E,wI,iY]
 |false=>
  have j:=vP q s (B rfl);cases c3:bx s with
  |false=>
   rw[c3] at j;rw[Gn (by simp)];simp only[go_sem] at j;simp only[F481,c481,go_sem,E,j,wI,iY]
  |true=>
   rw[c3] at j;have o:=wg z s c3 (by have:=(wQ c3).2;omega);simp only[go_sem] at j o;cases H:decide (cW s=t) with
   |false=>
    rw[Gn (by simpa using Ga H)];simp only[F481,c481,go_sem,E,j,o,H,wI,iY]
   |true=>
    rw[Gt ⟨rfl,rfl,Gc H⟩];simp only[F481,c481,go_sem,E,j,o,H,wI]
def rK:=HpC 425 F425 vr
def sw (h:rK Pg) (t:mp) (ht:t.length<=10000):K' Pg 425 [.str t]=some (jY (gG t)):=by
 have⟨h,j⟩:=h;have k:=Id j t ht;refine aA h rfl ?_;cases e:gG t with
 |none=>
  rw[e] at k;simp only[jY] at k ⊢;simp only[F425,c425,go_sem,k]
 |some c=>
  rw[e] at k;simp only[jY] at k ⊢;simp only[go_sem] at k;simp only[F425,c425,go_sem,k]
def uu (m n:Int):Bool:=!(decide (n<m)||decide (1099511627776<n))
def YV (n:Int):Bool:=uu 0 n
theorem OD {m:Int}:∀{l:List Int},(!(l.any fun n=>decide (n<m)||decide (1099511627776<n)))=l.all (uu m)
 |[]=>rfl
 |a::l=>by
  simp only[List.any_cons,List.all_cons,<-OD (l:=l),uu,Bool.not_or]
def Fa:=HpC 149 F149 uO
def Ve (h:Fa Pg) (l:List dL) (k:mp) (D:l.length<2^60) (E:l≠[]):K' Pg 149 [kF l,.str k]=some (Z6 (sG l k)):=by
 have⟨h,q⟩:=h;have o:=fun s=>A6 q s k;simp only[YZ] at o;refine aA h rfl ?_;cases p:decide (k=[]) with
 |true=>
  obtain⟨x,t,rfl⟩:=List.exists_cons_of_ne_nil E;have e:sG (x::t) k=some x:=by simp[sG,p]
  rw[e];simp only[go_sem,lY,p,Option.isSome_some,xJ]
 |false=>
  simp only[go_sem,lY,p];unfold l149_0;refine bu (fun (i:Nat) S=>i<=l.length/\S.ρ 0=kF l/\S.ρ 1=.str k/\S.ρ 4=.lref 4 0/\S.μ 4=some (C2 xJ,false)/\S.ρ 6=iz i/\sG (l.drop i) k=sG l k) (fun i=>l.length-i) 0 ?_ ?_
  ·simp[go_sem,xJ]
  ·intro i S ⟨hi,h0,h1,w,m4,u,j⟩;simp only[go_sem,h0,u];refine aY (fun h=>?_) (fun h=>?_)
   ·have h:=Yj h;have⟨x,z,B⟩:=aZ h;rw[B] at j;simp only[sG,List.find?_cons,p,G7] at j;simp only[go_sem,h0,h1,u,z,o];cases y:dF x.span k with
    |true=>
     rw[y] at j;simp only at j;simp only[go_sem,h0,w,m4,u,z,sG,p,G7,<-j,Option.isSome_some,xJ]
    |false=>
     rw[y] at j;simp only at j;simp only[go_sem,h0,h1,w,m4,u];refine⟨i+1,by omega,by omega,by rw[Yn h D],?_⟩;simp only[sG,p,G7];exact j
   ·have h:=YC hi h;subst h;rw[GQ] at j;have j:none=sG l k:=j;simp only[go_sem,w,m4,<-j,xJ,Option.isSome_none]
def yI:=HpZ 153 F153
def F9 (h:yI Pg) (t:List dL) (o:t.length<2^60):K' Pg 153 [kF t,kF t]=some (.bool true):=by
 refine aA h rfl ?_;simp only[go_sem];unfold l153_0;refine bu (fun (i:Nat) S=>i<=t.length/\S.ρ 0=kF t/\S.ρ 1=kF t/\S.ρ 5=iz i) (fun i=>t.length-i) 0 ?_ ?_
 ·simp[go_sem]
 ·intro i S ⟨hi,h0,h1,j⟩;simp only[go_sem,h0,j];refine aY (fun h=>?_) (fun h=>?_)
  ·have h:=Yj h;have⟨x,p,q⟩:=aZ h;simp only[go_sem,h0,h1,j,p];exact⟨i+1,by omega,by omega,by rw[Yn h o]⟩
  ·simp only[go_sem]
structure bC where
 kind:Int
 from_:Int
 to:Int
 shard:Int
 epoch:Int
 move:Int
 lease:Int
 n:Int
 of_:Int
 at_:aB
 text:mp
 req:Rq
 ans:eE
 places:List dL
 mem:List Int
@[go_sem] def di (m:bC):Eq:=[iz m.kind,iz m.from_,iz m.to,iz m.shard,iz m.epoch,iz m.move,iz m.lease,iz m.n,iz m.of_,iz m.at_.wall,iz m.at_.tick,iz m.at_.node,.str m.text,iz m.req.client,iz m.req.req,iz m.req.kind,.str m.req.key,.str m.req.value,.bool m.req.had,.str m.req.old,iz m.req.at_.wall,iz m.req.at_.tick,iz m.req.at_.node,.str m.req.hi,iz m.req.limit,iz m.ans.err,iz m.ans.at_.wall,iz m.ans.at_.tick,iz m.ans.at_.node,.bool m.ans.found,.str m.ans.val,YB m.ans.items,.str m.ans.next,.bool m.ans.more,kF m.places,Yi m.mem]
@[go_sem] def jy (l:List bC):V:=.slice 36 (l.map di)
def i5 (m:bC):Prop:=m.ans.items.length<=10000/\m.places.length<=10000/\m.mem.length<=10000
def zR:=HpC 372 F372<|HpA uM<|yI
theorem H1 (h:zR Pg) (m:bC) (hm:i5 m):K' Pg 372 [.agg (di m),.agg (di m)]=some (.bool true):=by
 have⟨h,j,o⟩:=h;have p:=A4 j m.ans (by have:=hm.1;omega);have q:=F9 o m.places (by have:=hm.2.1;omega);have w:m.mem.length<2^60:=by have:=hm.2.2;omega
 simp only[dV,YB,kF] at p q;clear hm j o;refine aA h rfl ?_;simp only[go_sem];unfold l372_0;refine bu (fun (i:Nat) S=>i<=m.mem.length/\S.ρ 2=.lref 2 0/\S.μ 2=some (di m,false)/\S.ρ 3=.lref 3 0/\S.μ 3=some (di m,false)/\S.ρ 5=iz i) (fun i=>m.mem.length-i) 0 ?_ ?_
 ·simp[go_sem]
 ·intro i S ⟨hi,u,m2,s3,m3,s5⟩;simp only[go_sem,u,m2,s5];refine aY (fun h=>?_) (fun h=>?_)
  ·have h:=Yj h;have⟨x,y,z⟩:=aZ h;simp only[go_sem,u,m2,s3,m3,s5,y];exact⟨i+1,by omega,by omega,by rw[Yn h w]⟩
  ·simp only[go_sem,u,m2,s3,m3,p,q,beq_self_eq_true]
def vj:=HpC 360 F360 zR
def BB (h:vj Pg) (l:List bC) (w:l.length<=10000) (hm:∀m∈l,i5 m):K' Pg 360 [jy l,jy l]=some (.bool true):=by
 have⟨h,o⟩:=h;have j:∀m∈l,K' Pg 372 [.agg (di m),.agg (di m)]=some (.bool true):=fun m h=>H1 o m (hm m h);simp only[di,YB,kF,Yi] at j;refine aA h rfl ?_;simp only[go_sem];unfold l360_0;refine bu (fun (i:Nat) S=>i<=l.length/\S.ρ 0=jy l/\S.ρ 1=jy l/\S.ρ 5=iz i) (fun i=>l.length-i) 0 ?_ ?_
 ·simp[go_sem]
 ·intro i S ⟨hi,q,s1,s5⟩;simp only[go_sem,q,s5];refine aY (fun h=>?_) (fun h=>?_)
  ·have h:=Yj h;have⟨x,p,u⟩:=aZ h;have k:=j x (List.mem_of_getElem? p);simp only[go_sem,q,s1,s5,p,k];exact⟨i+1,by omega,by omega,by rw[Yn h (by omega)]⟩
  ·simp only[go_sem]
def iT (m:bC):Bool:=(!decide (m.kind<1)&&(!decide (37<m.kind)&&(!decide (m.ans.err<0)&&(!decide (16<m.ans.err)&&(!decide (8<(m.ans.items.length:Int))&&(!decide (8<(m.places.length:Int))&&!decide (8<(m.mem.length:Int))))))))&&(([m.kind,m.from_,m.to,m.shard,m.epoch,m.move,m.lease,m.n,m.of_,m.req.client,m.req.req,m.req.kind,m.req.limit]++(m.places.flatMap fun p=>[p.shard,p.cell,p.epoch])++m.mem).all YV&&(Ya m.at_&&(Ya m.req.at_&&Ya m.ans.at_)))
def wP (m:bC):List Int:=[m.kind,m.from_,m.to,m.shard,m.epoch,m.move,m.lease,m.n,m.of_,m.req.client,m.req.req,m.req.kind,m.req.limit]
def nr (l:List dL):List Int:=l.flatMap fun p=>[p.shard,p.cell,p.epoch]
def oQ (m:bC):List Int:=wP m++nr m.places++m.mem
def Zm {l:List dL} {i:Nat} {x:dL} (h:l[i]?=some x):nr (l.take (i+1))=nr (l.take i)++[x.shard,x.cell,x.epoch]:=by
 rw[YW h];simp[nr]
def Ko (l:List dL):(nr l).length=3*l.length:=by
 induction l with
 |nil=>rfl
 |cons x l j=>
  have:nr (x::l)=[x.shard,x.cell,x.epoch]++nr l:=by simp[nr]
  rw[this,Gf,j];simp;omega
def zN:=HpZ 366 F366
theorem HZ (h:zN Pg) (m:bC) (B:m.places.length<=4194304) (hm:m.mem.length<=4194304):K' Pg 366 [.agg (di m)]=some (Yi (oQ m)):=by
 refine aA h rfl ?_;simp only[go_sem];unfold l366_0;refine bu (fun (i:Nat) S=>i<=m.places.length/\S.ρ 1=.lref 1 0/\S.μ 1=some (di m,false)/\S.ρ 3=.own 36 1 (13+3*i)/\S.A 36=some (1,(wP m++nr (m.places.take i)).map (fun a=>[iz a]),.live)/\S.μ 5=none/\S.ρ 38=kF m.places/\S.ρ 39=iz m.places.length/\S.ρ 40=iz i) (fun i=>m.places.length-i) 0 ?_ ?_
 ·simp[go_sem,wP,nr]
 ·intro i S ⟨hi,s1,z,s3,pY,m5,w,p,q⟩;simp only[go_sem,p,q];refine aY (fun j=>?_) (fun j=>?_)
  ·have j:=Yj j;obtain⟨x,y,-⟩:=aZ j;have u:(wP m).length+(nr (m.places.take i)).length=13+3*i:=by
    rw[Ko,GK];have:(wP m).length=13:=rfl;omega
   have o:13+3*i+3<=aU:=by simp only[aU];omega
   simp only[go_sem,s1,z,s3,pY,m5,w,p,q,y,u,o,Gi];exact⟨i+1,by omega,by omega,by congr 1,by rw[Zm y];simp,by rw[Yn j (by omega)]⟩
  ·have j:=YC hi j;subst j;rw[GB] at pY;have u:(wP m).length+(nr m.places).length=13+3*m.places.length:=by rw[Ko];rfl
   have o:13+3*m.places.length+m.mem.length<=aU:=by simp only[aU];omega
   simp only[go_sem,s1,z,s3,pY,u,o,Gi,oQ,Gz]
def zP:=HpZ 367 F367
def H0 (h:zP Pg) (n:Int):K' Pg 367 [iz n]=some (.bool (decide (n<0)||decide (1099511627776<n))):=by
 refine aA h rfl ?_;cases c:decide (n<0)<;>simp only[go_sem,c]
def rG:=HpC 341 F341<|HpA lC<|HpA Dn<|HpA zN<|zP
theorem BA (h:rG Pg) (m:bC) (hm:m.places.length<=4194304/\m.mem.length<=4194304):K' Pg 341 [.agg (di m)]=some (.bool (iT m)):=by
 have⟨h,y,L,B,D⟩:=h;have⟨P,M⟩:=hm;have j:=HZ B m P M;have o:=I3 L (oQ m) 367 [] (fun n=>decide (n<0)||decide (1099511627776<n)) (by
  unfold oQ;rw[Gf,Gf,Ko];have:(wP m).length=13:=rfl;omega) rfl (fun x _=>H0 D x)
 have e:(oQ m).any (fun n=>decide (n<0)||decide (1099511627776<n))=!(oQ m).all YV:=by
  have:=OD (m:=0) (l:=oQ m);have S:(fun n=>YV n)=uu 0:=rfl
  show _=!(oQ m).all (uu 0)
  rw[<-this,Bool.not_not]
 rw[e] at o;have p:=lh y m.at_;have u:=lh y m.req.at_;have E:=lh y m.ans.at_;have Q:iT m=((!decide (m.kind<1)&&(!decide (37<m.kind)&&(!decide (m.ans.err<0)&&(!decide (16<m.ans.err)&&(!decide (8<(m.ans.items.length:Int))&&(!decide (8<(m.places.length:Int))&&!decide (8<(m.mem.length:Int))))))))&&((oQ m).all YV&&(Ya m.at_&&(Ya m.req.at_&&Ya m.ans.at_)))):=rfl;rw[Q];generalize (oQ m).all YV=R at o ⊢;generalize oQ m=T at j o;simp only[Yi,Ye,di,YB,kF] at j o p u E;clear P M e Q y L B D;refine aA h rfl ?_;clear h;cases q:decide (m.kind<1) with
 |true=>simp only[go_sem,q]
 |false=>
 cases w:decide (37<m.kind) with
 |true=>simp only[go_sem,q,w]
 |false=>
 cases c3:decide (m.ans.err<0) with
 |true=>simp only[go_sem,q,w,c3]
 |false=>
 cases z:decide (16<m.ans.err) with
 |true=>simp only[go_sem,q,w,c3,z]
 |false=>
 cases H:decide (8<(m.ans.items.length:Int)) with
 |true=>simp only[go_sem,q,w,c3,z,H]
 |false=>
 cases I:decide (8<(m.places.length:Int)) with
 |true=>simp only[go_sem,q,w,c3,z,H,I]
 |false=>
 cases J:decide (8<(m.mem.length:Int)) with
 |true=>simp only[go_sem,q,w,c3,z,H,I,J]
 |false=>
 cases R with
 |false=>simp only[go_sem,q,w,c3,z,H,I,J,j,o]
 |true=>
 cases N:Ya m.at_ with
 |false=>simp only[go_sem,q,w,c3,z,H,I,J,j,o,p,N]
 |true=>
 cases O:Ya m.req.at_ with
 |false=>simp only[go_sem,q,w,c3,z,H,I,J,j,o,p,u,N,O]
 |true=>simp only[go_sem,q,w,c3,z,H,I,J,j,o,p,u,E,N,O]
def vV (h:rG Pg) (m:bC) (hm:i5 m):K' Pg 341 [.agg (di m)]=some (.bool (iT m)):=BA h m ⟨by have:=hm.2.1;omega,by have:=hm.2.2;omega⟩
def pe (m:bC):Bool:=decide ((m.ans.items.length:Int)<=40)&&(decide ((m.places.length:Int)<=40)&&(decide ((m.mem.length:Int)<=40)&&decide ((m.text.length:Int)<=8192)))
def vi:=HpZ 339 F339
def Bz (h:vi Pg) (m:bC):K' Pg 339 [.agg (di m)]=some (.bool (pe m)):=by
 refine aA h rfl ?_;cases j:decide ((m.ans.items.length:Int)<=40) with
 |false=>simp only[go_sem,pe,j]
 |true=>
 cases o:decide ((m.places.length:Int)<=40) with
 |false=>simp only[go_sem,pe,j,o]
 |true=>
 cases c3:decide ((m.mem.length:Int)<=40) with
 |false=>simp only[go_sem,pe,j,o,c3]
 |true=>
 cases p:decide ((m.text.length:Int)<=8192)<;>simp only[go_sem,pe,j,o,c3,p]
def Pu {m:bC} (h:pe m=true):i5 m/\m.text.length<=1048576:=by
 simp only[pe,Ge,Gj] at h;exact⟨⟨by omega,by omega,by omega⟩,by omega⟩
theorem VX {r:bG} {w:bI} (h:w∈YM r):w.members=r.members:=by
 simp only[YM,nH] at h;obtain⟨m,-,rfl⟩:=h;rfl
structure cr where
 cell:Int
 rep:bG
 outs:List bC
structure bP where
 id:Int
 owns:List cr
@[go_sem] def eJ (o:cr):Eq:=[iz o.cell,iz o.rep.id,iz o.rep.view,Yi o.rep.members,iz o.rep.n,.str o.rep.base,.str o.rep.text,Yi o.rep.acks,jy o.outs]
@[go_sem] def CQ (l:List cr):V:=.slice 9 (l.map eJ)
@[go_sem] def YT (s:bP):Eq:=[iz s.id,CQ s.owns]
def zT:=HpZ 398 F398
def BF {f:Nat} (h:Pg f=some (.code F398)) (s:bP) (M:s.owns.length<=1048576):K' Pg f [.agg (YT s)]=some (.agg (YT s)):=by
 refine aA h rfl ?_;simp only[F398,c398,go_sem,Gi];unfold l398_0;refine bu (fun (i:Nat) S=>i<=s.owns.length/\S.ρ 2=.lref 2 0/\S.ρ 3=.lref 3 0/\S.ρ 10=.slice 9 (s.owns.map eJ)/\S.ρ 11=iz s.owns.length/\S.ρ 12=iz i/\S.μ 2=some ([iz 0,.slice 9 []],false)/\S.μ 3=some ([iz s.id,bA 26 9 i],false)/\S.μ 5=none/\S.A 26=i8 9 ((s.owns.take i).map eJ) i) (fun i=>s.owns.length-i) 0 ?_ ?_
 ·refine⟨GY _,bB (by simp only[go_sem]) rfl,bB (by simp only[go_sem]) rfl,bB (by simp only[go_sem]) rfl,bB (by simp only[go_sem]) rfl,bB (by simp only[go_sem]) rfl,km (by simp only[go_sem]) rfl rfl,?_,gZ (.inr rfl),(lJ rfl).trans rfl⟩;rw[CA rfl];simp only[go_sem];rfl
 ·intro i S ⟨hi,J,s3,E,u,w,m2,m3,m5,j⟩;cases y:decide ((i:Int)<(s.owns.length:Int)) with
  |false=>
   have p:i=s.owns.length:=by have:=Ga y;omega
   rw[p,GB] at j;rw[p] at m3;have L:=sF j (by simp);simp only[go_sem,J,s3,u,w,m2,m3,y,L]
  |true=>
   have B:=Yj y;obtain⟨o,I,-⟩:=aZ B;have q:=inc64q (i:=i) (by omega)
   have H:=fun S=>sM (S:=S) (s:=26) (z:=9) (r:=eJ o) (n:=i) (rows:=(s.owns.take i).map eJ) (by simp;omega) (by unfold aU;omega);have D:s.owns.take (i+1)=s.owns.take i++[o]:=YW I;simp only[go_sem] at H;simp only[go_sem,J,s3,E,u,w,m2,m3,m5,j,y,I,sL,H,q];exact⟨i+1,by omega,by omega,rfl,rfl,by rw[D,Gz];rfl⟩
def BE (h:zT Pg) (s:bP) (j:s.owns.length<=1048576):K' Pg 398 [.agg (YT s)]=some (.agg (YT s)):=BF h s j
def dw (r:bG):Prop:=r.members.length<=10000/\r.acks.length<=10000
def dw.ok {r:bG} (h:dw r):r.Ok:=⟨by have:=h.1;omega,by have:=h.2;omega⟩
def yl (o:cr):Prop:=dw o.rep/\o.outs.length<=10000/\∀m∈o.outs,i5 m
def iK (s:bP):Prop:=s.owns.length<=10000/\∀o∈s.owns,yl o
def zU:=HpC 399 F399<|HpA Mp<|vj
def BG (h:zU Pg) (s:bP) (J:iK s):K' Pg 399 [.agg (YT s),.agg (YT s)]=some (.bool true):=by
 have⟨h,B,q⟩:=h;have⟨O,I⟩:=J;refine aA h rfl ?_;simp only[F399,c399,go_sem,Gi];unfold l399_0;refine bu (fun (i:Nat) S=>i<=s.owns.length/\S.ρ 2=.lref 2 0/\S.ρ 3=.lref 3 0/\S.μ 2=some (YT s,false)/\S.μ 3=some (YT s,false)/\S.ρ 5=iz i) (fun i=>s.owns.length-i) 0 ?_ ?_
 ·simp[go_sem]
 ·intro i S ⟨hi,H,s3,m2,m3,s5⟩;have p:=m2;have y:=m3;simp only[go_sem] at p y;cases z:decide ((i:Int)<(s.owns.length:Int)) with
  |false=>simp only[go_sem,H,p,s5,z,Gi]
  |true=>
   have D:=Yj z;obtain⟨o,E,-⟩:=aZ D;have u:=inc64q (i:=i) (by omega)
   have⟨L,M,N⟩:=I o (List.mem_of_getElem? E);have w:=Vo B o.rep L.ok;have j:=BB q o.outs M N;simp only[YN,Yi,jy] at w j;simp only[go_sem,H,s3,p,y,s5,z,E,w,j,u,Gi];exact⟨i+1,by omega,by omega,rfl⟩
def sW (o:cr):Bool:=!decide (10<(o.outs.length:Int))&&(!decide (40<(o.rep.members.length:Int))&&(!decide (40<(o.rep.acks.length:Int))&&(!decide (8192<(o.rep.base.length:Int))&&!decide (8192<(o.rep.text.length:Int)))))
def pd (o:cr):Bool:=sW o&&o.outs.all pe
def uj (s:bP):Bool:=!decide (6<(s.owns.length:Int))&&s.owns.all pd
def zV:=HpC 404 F404 vi
def ub {α:Type} {p:α->Bool} {l:List α} {i:Nat} {x:α} (h:l[i]?=some x) (j:p x=false):l.all p=false:=by
 rw[List.all_eq_false];exact⟨x,List.mem_of_getElem? h,by simp[j]⟩
def Ch {α:Type} {p:α->Bool} {l:List α} {i:Nat} {x:α} (h:l[i]?=some x) (j:p x=true) (ht:(l.take i).all p=true):(l.take (i+1)).all p=true:=by
 rw[YW h,List.all_append,ht];simp[j]
theorem Ia (h:zV Pg) (s:bP):K' Pg 404 [.agg (YT s)]=some (.bool (uj s)):=by
 have⟨h,L⟩:=h;refine aA h rfl ?_;cases R:decide (6<(s.owns.length:Int)) with
 |true=>simp only[F404,c404,go_sem,uj,R,Gi]
 |false=>
 have aa:s.owns.length<=6:=by have:=Ga R;omega
 simp only[F404,c404,go_sem,uj,R,Gi];unfold l404_0;refine bu (fun (i:Nat) S=>i<=s.owns.length/\S.ρ 1=.lref 1 0/\S.μ 1=some (YT s,false)/\S.ρ 3=iz i/\S.μ 4=none/\(s.owns.take i).all pd=true) (fun i=>s.owns.length-i) 0 ?_ ?_
 ·simp[go_sem]
 ·intro i S ⟨hi,s1,Q,s3,m4,y⟩;have p:=Q;simp only[go_sem] at p;cases B:decide ((i:Int)<(s.owns.length:Int)) with
  |false=>
   have T:i=s.owns.length:=by have:=Ga B;omega
   rw[T,GB] at y;simp only[go_sem,s1,p,s3,B,y,Gi]
  |true=>
   have X:=Yj B;obtain⟨o,H,-⟩:=aZ X;have M:=inc64q (i:=i) (by omega)
   have bad:=fun (hb:pd o=false)=>ub H hb;cases w:decide (10<(o.outs.length:Int)) with
   |true=>
    have:=bad (by simp only[pd,sW,w,Gx,Gm]);simp only[go_sem,s1,p,s3,m4,B,H,this,w,Gi]
   |false=>
   cases z:decide (40<(o.rep.members.length:Int)) with
   |true=>
    have:=bad (by simp only[pd,sW,w,z,Gm,Gq,Gx]);simp only[go_sem,s1,p,s3,m4,B,H,this,w,z,Gi]
   |false=>
   cases E:decide (40<(o.rep.acks.length:Int)) with
   |true=>
    have:=bad (by simp only[pd,sW,w,z,E,Gm,Gq,Gx]);simp only[go_sem,s1,p,s3,m4,B,H,this,w,z,E,Gi]
   |false=>
   cases I:decide (8192<(o.rep.base.length:Int)) with
   |true=>
    have:=bad (by simp only[pd,sW,w,z,E,I,Gm,Gq,Gx]);simp only[go_sem,s1,p,s3,m4,B,H,this,w,z,E,I,Gi]
   |false=>
   cases O:decide (8192<(o.rep.text.length:Int)) with
   |true=>
    have:=bad (by simp only[pd,sW,w,z,E,I,O,Gm,Gq,Gx]);simp only[go_sem,s1,p,s3,m4,B,H,this,w,z,E,I,O,Gi]
   |false=>
    have h0:sW o=true:=by simp only[sW,w,z,E,I,O,GR,GE]
    simp only[go_sem,s1,p,s3,m4,B,H,w,z,E,I,O,Gi];have ab:o.outs.length<=10:=by have:=Ga w;omega
    unfold l404_1;refine bu (fun (j:Nat) S=>j<=o.outs.length/\S.ρ 1=.lref 1 0/\S.μ 1=some (YT s,false)/\S.ρ 3=iz i/\S.ρ 4=.lref 4 0/\S.μ 4=some (eJ o,false)/\S.ρ 5=iz j/\(o.outs.take j).all pe=true) (fun j=>o.outs.length-j) 0 ?_ ?_
    ·simp[go_sem,s1,Q,s3]
    ·intro j S ⟨hj,s1,Q,s3,Z,m4,s5,u⟩;have D:=m4;have p:=Q;simp only[go_sem] at p D;cases J:decide ((j:Int)<(o.outs.length:Int)) with
     |false=>
      have U:j=o.outs.length:=by have:=Ga J;omega
      rw[U,GB] at u;have Y:pd o=true:=by simp only[pd,h0,u,GE]
      simp only[go_sem,s1,p,s3,Z,D,s5,J,M,Gi];exact⟨i+1,by omega,by omega,rfl,Ch H Y y⟩
     |true=>
      have W:=Yj J;obtain⟨m,hm,-⟩:=aZ W;have N:=inc64q (i:=j) (by omega)
      have q:=Bz L m;simp only[di,YB,kF,Yi] at q;cases P:pe m with
      |false=>
       rw[P] at q;have:=bad (by simp only[pd,h0,ub hm P,Gy]);simp only[go_sem,Z,D,s5,J,hm,q,this,Gi]
      |true=>
       rw[P] at q;simp only[go_sem,s1,p,s3,Z,D,s5,J,hm,q,N,Gi];exact⟨j+1,by omega,by omega,rfl,Ch hm P u⟩
def Ku {s:bP} (h:uj s=true):iK s/\s.owns.length<=6/\∀o∈s.owns,o.rep.base.length<=8192/\o.rep.text.length<=8192/\o.rep.members.length<=40/\o.rep.acks.length<=40/\o.outs.length<=10:=by
 simp only[uj,pd,sW,Ge,GM,Gs,GG] at h;have⟨h1,q⟩:=h;refine⟨⟨by omega,fun o j=>?_⟩,by omega,fun o j=>?_⟩
 ·have⟨⟨u,w,y,z,B⟩,p⟩:=q o j;exact⟨⟨by omega,by omega⟩,by omega,fun m hm=>(Pu (p m hm)).1⟩
 ·have⟨⟨u,w,y,z,B⟩,p⟩:=q o j;omega
def ey {α:Type} (p:α->Bool):List α->Nat->Int
 |[],_=>-1
 |a::l,i=>if p a then i else ey p l (i+1)
theorem KN {α:Type} {p:α->Bool}:∀{l:List α} {i:Nat},decide (0<=ey p l i)=l.any p
 |[],i=>by simp[ey]
 |a::l,i=>by
  simp only[ey];split
  ·rename_i h;simp[h]
  ·rename_i h;rw[KN];simp[h]
theorem dI {α:Type} {p:α->Bool}:∀{l:List α} {i:Nat},(ey p l i=-1/\l.find? p=none/\∀x∈l,p x=false)\/∃j x,ey p l i=((i+j:Nat):Int)/\l[j]?=some x/\l.find? p=some x/\p x=true
 |[],i=>.inl ⟨rfl,rfl,fun x hx=>by cases hx⟩
 |a::l,i=>by
  cases hp:p a with
  |true=>exact .inr ⟨0,a,by simp[ey,hp],rfl,by simp[List.find?,hp],hp⟩
  |false=>
   rcases dI (p:=p) (l:=l) (i:=i+1) with⟨h1,h2,h3⟩|⟨j,x,h1,h2,h3,h4⟩
   ·refine .inl ⟨by simp[ey,hp,h1],by simp[List.find?,hp,h2],fun x hx=>?_⟩;rcases GH.1 hx with rfl|hx
    ·exact hp
    ·exact h3 x hx
   ·exact .inr ⟨j+1,x,by simp only[ey,hp,Gl,Gv,h1];congr 1;omega,h2,by simp[List.find?,hp,h3],h4⟩
def vy:=HpZ 463 F463
def B1 (h:vy Pg) (l:List cr) (g:Nat) (aN:Eq) (p:cr->Bool) (D:l.length<2^60) (B:∀x∈l,K' Pg g (.agg (eJ x)::aN)=some (.bool (p x))) :
  K' Pg 463 [.slice 9 (l.map eJ),.func g aN]=some (iz (ey p l 0)):=by
 refine aA h rfl ?_
 simp only[F463,c463,go_sem,Gi]
 unfold l463_0
 refine bu (fun (i:Nat) S=>i<=l.length/\S.ρ 0=.slice 9 (l.map eJ)/\S.ρ 1=.func g aN/\S.ρ 7=iz l.length/\S.ρ 8=iz i/\ey p (l.drop i) i=ey p l 0) (fun i=>l.length-i) 0 ?_ ?_
 ·simp[go_sem]
 ·intro i S ⟨hi,h0,h1,w,q,j⟩
  simp only[go_sem,w,q]
  refine aY (fun h=>?_) (fun h=>?_)
  ·have h:=Yj h
   have⟨x,y,z⟩:=aZ h
   rw[z] at j
   have o:=B x (List.mem_of_getElem? y)
   simp only[go_sem] at o
   simp only[go_sem,h0,h1,q,y,o]
   refine aY (fun u=>?_) (fun u=>?_)
   ·simp only[ey,u,Gw] at j
    simp only[go_sem,<-j]
   ·simp only[ey,u,Gl,Gv] at j
    simp only[go_sem,h0,h1,w,q]
    exact⟨i+1,by omega,by omega,by rw[Yn h D],j⟩
  ·have h:=YC hi h
   subst h
   simp only[GQ,ey] at j
   simp only[go_sem,<-j]
def An:=HpZ 468 F468
def IA (h:An Pg) (l:List bC) (g:Nat) (aN:Eq) (p:bC->Bool) (D:l.length<2^60) (B:∀x∈l,K' Pg g (.agg (di x)::aN)=some (.bool (p x))) :
  K' Pg 468 [.slice 36 (l.map di),.func g aN]=some (iz (ey p l 0)):=by
 refine aA h rfl ?_
 simp only[F468,c468,go_sem,Gi]
 unfold l468_0
 refine bu (fun (i:Nat) S=>i<=l.length/\S.ρ 0=.slice 36 (l.map di)/\S.ρ 1=.func g aN/\S.ρ 7=iz l.length/\S.ρ 8=iz i/\ey p (l.drop i) i=ey p l 0) (fun i=>l.length-i) 0 ?_ ?_
 ·simp[go_sem]
 ·intro i S ⟨hi,h0,h1,w,q,j⟩
  simp only[go_sem,w,q]
  refine aY (fun h=>?_) (fun h=>?_)
  ·have h:=Yj h
   have⟨x,y,z⟩:=aZ h
   rw[z] at j
   have o:=B x (List.mem_of_getElem? y)
   simp only[go_sem] at o
   simp only[go_sem,h0,h1,q,y,o]
   refine aY (fun u=>?_) (fun u=>?_)
   ·simp only[ey,u,Gw] at j
    simp only[go_sem,<-j]
   ·simp only[ey,u,Gl,Gv] at j
    simp only[go_sem,h0,h1,w,q]
    exact⟨i+1,by omega,by omega,by rw[Yn h D],j⟩
  ·have h:=YC hi h
   subst h
   simp only[GQ,ey] at j
   simp only[go_sem,<-j]
def AF:=HpZ 501 F501
def IU (h:AF Pg) (l:List aM) (g:Nat) (aN:Eq) (p:aM->Bool) (D:l.length<2^60) (B:∀x∈l,K' Pg g (.agg (Yg x)::aN)=some (.bool (p x))) :
  K' Pg 501 [.slice 17 (l.map Yg),.func g aN]=some (iz (ey p l 0)):=by
 refine aA h rfl ?_
 simp only[F501,c501,go_sem,Gi]
 unfold l501_0
 refine bu (fun (i:Nat) S=>i<=l.length/\S.ρ 0=.slice 17 (l.map Yg)/\S.ρ 1=.func g aN/\S.ρ 7=iz l.length/\S.ρ 8=iz i/\ey p (l.drop i) i=ey p l 0) (fun i=>l.length-i) 0 ?_ ?_
 ·simp[go_sem]
 ·intro i S ⟨hi,h0,h1,w,q,j⟩
  simp only[go_sem,w,q]
  refine aY (fun h=>?_) (fun h=>?_)
  ·have h:=Yj h
   have⟨x,y,z⟩:=aZ h
   rw[z] at j
   have o:=B x (List.mem_of_getElem? y)
   simp only[go_sem] at o
   simp only[go_sem,h0,h1,q,y,o]
   refine aY (fun u=>?_) (fun u=>?_)
   ·simp only[ey,u,Gw] at j
    simp only[go_sem,<-j]
   ·simp only[ey,u,Gl,Gv] at j
    simp only[go_sem,h0,h1,w,q]
    exact⟨i+1,by omega,by omega,by rw[Yn h D],j⟩
  ·have h:=YC hi h
   subst h
   simp only[GQ,ey] at j
   simp only[go_sem,<-j]
def ia (c:Int) (o:cr):Bool:=decide (o.cell=c)
def kO (id c:Int):cr:=⟨c,⟨id,0,[],0,[],[],[]⟩,[]⟩
def dB (s:bP) (c:Int):Option cr:=s.owns.find? (ia c)
def rI:=HpZ 409 F409
def vX (h:rI Pg) (s:bP) (c:Int) (u:s.owns.length<2^60):K' Pg 409 [.agg (YT s),iz c]=some (iz (ey (ia c) s.owns 0)):=by
 refine aA h rfl ?_;simp only[F409,c409,go_sem];unfold l409_0;refine bu (fun (i:Nat) S=>i<=s.owns.length/\S.ρ 1=iz c/\S.ρ 2=.lref 2 0/\S.μ 2=some (YT s,false)/\S.ρ 5=iz i/\ey (ia c) (s.owns.drop i) i=ey (ia c) s.owns 0) (fun i=>s.owns.length-i) 0 ?_ ?_
 ·simp[go_sem]
 ·intro i S ⟨hi,s1,p,m2,s5,j⟩;simp only[go_sem] at m2;simp only[go_sem,p,m2,s5,Gi];refine aY (fun h=>?_) (fun h=>?_)
  ·have h:=Yj h;have⟨x,w,q⟩:=aZ h;rw[q] at j;simp only[go_sem,s1,p,m2,s5,w];refine aY (fun o=>?_) (fun o=>?_)
   ·simp only[ey,ia,o,Gw] at j;simp only[go_sem,s5,<-j]
   ·simp only[ey,ia,o,Gl,Gv] at j;simp only[go_sem,s1,p,m2,s5];exact⟨i+1,by omega,by omega,by rw[Yn h u],j⟩
  ·have h:=YC hi h;subst h;simp only[GQ,ey] at j;simp only[go_sem,<-j]
def Am:=HpZ 462 F462
def Iz (h:Am Pg) (o:cr) (c:Int):K' Pg 462 [.agg (eJ o),.cptr [iz c] 0]=some (.bool (ia c o)):=by
 refine aA h rfl ?_;simp only[F462,c462,go_sem,ia]
def Yp (s:bP) (c:Int):cr:=(dB s c).getD (kO s.id c)
def rM:=HpC 427 F427<|HpA Am<|vy
def vZ (h:rM Pg) (s:bP) (c:Int) (z:s.owns.length<2^60):K' Pg 427 [.agg (YT s),iz c]=some (.tuple [.agg (eJ (Yp s c)),.bool (dB s c).isSome]):=by
 have⟨h,o,q⟩:=h;have k:=B1 q s.owns 462 [.cptr [iz c] 0] (ia c) z fun x _=>Iz o x c;refine aA h rfl ?_;unfold Yp dB;rcases dI (p:=ia c) (l:=s.owns) (i:=0) with⟨h1,u,w⟩|⟨j,x,h1,u,w,B⟩
 ·rw[h1] at k;rw[u];simp only[Option.isSome_none,Option.getD_none,kO];simp only[F427,c427,go_sem,k,Gk]
 ·rw[h1,j8] at k;rw[w];have y:decide ((j:Int)<0)=false:=Gp (by omega);simp only[Option.isSome_some,Option.getD_some];simp only[F427,c427,go_sem,k,y,u]
def wL (r:bG):Bool:=Yl r&&!gQ r
def nT:=HpC 426 F426<|HpA tJ<|zZ
def mH (h:nT Pg) (r:bG) (w:dw r):K' Pg 426 [.agg (YN r)]=some (.bool (wL r)):=by
 have⟨h,p,q⟩:=h;have j:=vW p r;have o:=DP q r w.ok;simp only[YN,Yi] at j o;refine aA h rfl ?_;cases u:Yl r<;>rw[u] at j<;>simp only[F426,c426,go_sem,j,o,wL,u]
theorem Ci {r:bG}:YI r=(aT r&&wL r):=rfl
def eS (t:mp):Bool:=(gG t).isSome
def rO:=HpC 430 F430 nU
def wa (h:rO Pg) (t:mp) (ht:t.length<=10000):K' Pg 430 [.str t]=some (.bool (eS t)):=by
 have⟨h,j⟩:=h;have k:=BT j t ht;refine aA h rfl ?_;unfold eS;cases e:gG t with
 |none=>
  rw[e] at k;simp only[pN] at k;simp only[F430,c430,go_sem,k,Option.isSome_none]
 |some c=>
  rw[e] at k;simp only[pN] at k;simp only[go_sem] at k;simp only[F430,c430,go_sem,k,Option.isSome_some]
def fZ (c:Int):Bool:=decide (1<=c)&&decide (c<=3)
def vk:=HpZ 368 F368
def BC (h:vk Pg) (c:Int):K' Pg 368 [iz c]=some (.bool (fZ c)):=by
 refine aA h rfl ?_;cases j:decide (1<=c)<;>simp only[F368,c368,go_sem,j,fZ]
def fd (id:Int) (m:bC):Bool:=iT m&&decide (m.from_=id)
def z6:=HpC 431 F431 rG
def Ii (h:z6 Pg) (m:bC) (s:bP) (hm:i5 m):K' Pg 431 [.agg (di m),.cptr (YT s) 0]=some (.bool (!fd s.id m)):=by
 have⟨h,j⟩:=h;have k:=vV j m hm;simp only[di,YB,kF,Yi] at k;refine aA h rfl ?_;cases o:iT m<;>rw[o] at k<;>simp only[F431,c431,go_sem,k,fd,o]
def z7:=HpC 432 F432 An
def Ij (h:z7 Pg) (l:List bC) (g:Nat) (aN:Eq) (p:bC->Bool) (q:l.length<2^60) (o:∀x∈l,K' Pg g (.agg (di x)::aN)=some (.bool (p x))) :
  K' Pg 432 [jy l,.func g aN]=some (.bool (l.any p)):=by
 have⟨h,j⟩:=h
 have k:=IA j l g aN p q o
 simp only[jy]
 refine aA h rfl ?_
 simp only[F432,c432,go_sem,k,KN]
def b8 (id co:Int) (o:cr):Bool:=!decide (o.cell<=co)&&(fZ o.cell&&(decide (o.rep.id=id)&&(aT o.rep&&(eS o.rep.base&&eS o.rep.text))))
def mP (id:Int) (o:cr):Bool:=(decide ((o.outs.length:Int)<=0)||YI o.rep)&&o.outs.all (fd id)
def fg (id co:Int) (o:cr):Bool:=b8 id co o&&mP id o
def jB (id:Int):Int->List cr->Bool
 |_,[]=>true
 |co,o::l=>fg id co o&&jB id o.cell l
def tq (id:Int):Bool:=decide (1<=id)&&decide (id<=3)
def ft (s:bP):Bool:=jB s.id 0 s.owns&&tq s.id
def W6 {id:Int} {l:List bC}:(l.any fun m=>!fd id m)=!l.all (fd id):=by
 induction l with
 |nil=>rfl
 |cons a l j=>simp only[List.any_cons,List.all_cons,j,Bool.not_and]
def sD (s:bP):Prop:=∀o∈s.owns,o.rep.base.length<=10000/\o.rep.text.length<=10000
def rH:=HpC 408 F408<|HpA vk<|HpA xq<|HpA rO<|HpA vq<|HpA z6<|z7
theorem BJ (h:rH Pg) (s:bP) (hs:iK s) (hk:∀o∈s.owns,K' Pg 430 [.str o.rep.base]=some (.bool (eS o.rep.base))/\K' Pg 430 [.str o.rep.text]=some (.bool (eS o.rep.text))):K' Pg 408 [.agg (YT s)]=some (.bool (ft s)):=by
 have⟨h,T,aa,ae,ab,U,W⟩:=h;have⟨hl,ho⟩:=hs;refine aA h rfl ?_;simp only[F408,c408,go_sem,Gi];unfold l408_0;refine bu (fun (p:Nat×Int×Bool) S=>p.1<=s.owns.length/\S.ρ 1=.lref 1 0/\S.μ 1=some (YT s,p.2.2)/\S.ρ 3=iz p.2.1/\S.ρ 7=.slice 9 (s.owns.map eJ)/\S.ρ 8=iz s.owns.length/\S.ρ 9=iz p.1/\S.μ 5=none/\jB s.id p.2.1 (s.owns.drop p.1)=jB s.id 0 s.owns) (fun p=>s.owns.length-p.1) (0,0,false) ?_ ?_
 ·refine⟨GY _,?_⟩;simp[go_sem]
 ·intro p S ⟨hi,s1,E,s3,J,H,D,m5,R⟩;have⟨i,co,fz⟩:=p;simp only at hi E s3 D R;simp only[go_sem] at E;cases w:decide ((i:Int)<(s.owns.length:Int)) with
  |false=>
   have ac:i=s.owns.length:=by have:=Ga w;omega
   subst ac;simp only[GQ,jB] at R;have hr:ft s=tq s.id:=by simp only[ft,<-R,Gy]
   rw[hr];cases c2:decide (1<=s.id)<;>simp only[go_sem,s1,E,H,D,w,c2,tq]
  |true=>
   have ad:=Yj w;have⟨o,z,hd⟩:=aZ ad;have N:=inc64q (i:=i) (by omega)
   have⟨o1,o2,o3⟩:=ho o (List.mem_of_getElem? z);have⟨M,O⟩:=hk o (List.mem_of_getElem? z);rw[hd,jB] at R;have j:=BC T o.cell;have u:=BD aa o.rep o1.ok;have B:=vY ab o.rep o1.ok;have q:=Ij W o.outs 431 [.cptr (YT s) 0] (fun m=>!fd s.id m) (by omega) fun m hm=>Ii U m s (o3 m hm);rw[W6] at q;simp only[YN,Yi,jy,YT,CQ] at u B q;have bad:fg s.id co o=false->ft s=false:=fun hb=>by
    rw[hb,Gm] at R;simp only[ft,<-R,Gm]
   cases y:decide (o.cell<=co) with
   |true=>
    have:=bad (by simp only[fg,b8,y,Gx,Gm]);simp only[go_sem,s3,J,H,D,m5,w,z,this,y]
   |false=>
   cases X:fZ o.cell with
   |false=>
    have:=bad (by simp only[fg,b8,X,Gm,Gq]);rw[X] at j;simp only[go_sem,s3,J,H,D,m5,w,z,this,y,j]
   |true=>
   rw[X] at j;cases I:decide (o.rep.id=s.id) with
   |false=>
    have:=bad (by simp only[fg,b8,I,Gm,Gq]);simp only[go_sem,s1,E,s3,J,H,D,m5,w,z,this,y,j,I]
   |true=>
   cases Y:aT o.rep with
   |false=>
    have:=bad (by simp only[fg,b8,Y,Gm,Gq]);rw[Y] at u;simp only[go_sem,s1,E,s3,J,H,D,m5,w,z,this,y,j,I,u]
   |true=>
   rw[Y] at u;cases Z:eS o.rep.base with
   |false=>
    have:=bad (by simp only[fg,b8,Z,Gm,Gq]);rw[Z] at M;simp only[go_sem,s1,E,s3,J,H,D,m5,w,z,this,y,j,I,u,M]
   |true=>
   rw[Z] at M;cases d6:eS o.rep.text with
   |false=>
    have:=bad (by simp only[fg,b8,d6,Gm,Gq]);rw[d6] at O;simp only[go_sem,s1,E,s3,J,H,D,m5,w,z,this,y,j,I,u,M,O]
   |true=>
   rw[d6] at O;have h1:b8 s.id co o=true:=by simp only[b8,y,X,I,Y,Z,d6,GR,GE]
   have go:mP s.id o=true->jB s.id o.cell (s.owns.drop (i+1))=jB s.id 0 s.owns:=fun h2=>by
    rw[<-R];simp only[fg,h1,h2,Gy]
   have P:decide (0<(o.outs.length:Int))=!decide ((o.outs.length:Int)<=0):=by
    by_cases hz:(o.outs.length:Int)<=0
    ·rw[Gu hz,Gp (by omega)];rfl
    ·rw[Gp hz,Gu (by omega)];rfl
   cases d7:decide ((o.outs.length:Int)<=0) with
   |true=>
    rw[d7] at P;cases L:o.outs.all (fd s.id) with
    |false=>
     have:=bad (by simp only[fg,mP,L,Gq]);rw[L] at q;simp only[go_sem,s1,E,s3,J,H,D,m5,w,z,this,y,j,I,u,M,O,P,q,Gi]
    |true=>
     have Q:=go (by simp only[mP,d7,L,jm,GE]);rw[L] at q;simp only[go_sem,s1,E,s3,J,H,D,m5,w,z,y,j,I,u,M,O,P,q,N,Gi];exact⟨(i+1,o.cell,_),by simp only;omega,by simp only;omega,rfl,rfl,rfl,Q⟩
   |false=>
    rw[d7] at P;cases d9:YI o.rep with
    |false=>
     have:=bad (by simp only[fg,mP,d7,d9,G7,Gm,Gq]);rw[d9] at B;simp only[go_sem,s1,E,s3,J,H,D,m5,w,z,this,y,j,I,u,M,O,P,B,Gi]
    |true=>
    rw[d9] at B;cases L:o.outs.all (fd s.id) with
    |false=>
     have:=bad (by simp only[fg,mP,L,Gq]);rw[L] at q;simp only[go_sem,s1,E,s3,J,H,D,m5,w,z,this,y,j,I,u,M,O,P,B,q,Gi]
    |true=>
     have Q:=go (by simp only[mP,L,d9,Bool.or_true,GE]);rw[L] at q;simp only[go_sem,s1,E,s3,J,H,D,m5,w,z,y,j,I,u,M,O,P,B,q,N,Gi];exact⟨(i+1,o.cell,_),by simp only;omega,by simp only;omega,rfl,rfl,rfl,Q⟩
def Ic (h:rH Pg) (s:bP) (p:iK s) (ht:sD s):K' Pg 408 [.agg (YT s)]=some (.bool (ft s)):=
 BJ h s p fun o j=>⟨wa h.2.2.2.1 _ (ht o j).1,wa h.2.2.2.1 _ (ht o j).2⟩
def Af:=HpZ 445 F445
def Iq (h:Af Pg) (n:Int):K' Pg 445 [iz n]=some (.bool (YV n)):=by
 refine aA h rfl ?_;have e:YV n=(decide (0<=n)&&decide (n<=1099511627776)):=by
  unfold YV uu;by_cases h1:0<=n
  ·by_cases j:n<=1099511627776
   ·rw[Gu h1,Gu j,Gp (by omega),Gp (by omega)];rfl
   ·rw[Gu h1,Gp j,Gp (show ¬n<0 by omega),Gu (show (1099511627776:Int)<n by omega)];rfl
  ·rw[Gp h1,Gu (show n<0 by omega)];rfl
 rw[e];cases o:decide (0<=n)<;>simp only[F445,c445,go_sem,o]
def mO (m:bC):Bool:=!decide (m.kind<1)&&(!decide (37<m.kind)&&(!decide (m.ans.err<0)&&(!decide (16<m.ans.err)&&(!decide (8<(m.ans.items.length:Int))&&(!decide (8<(m.places.length:Int))&&!decide (8<(m.mem.length:Int)))))))
def kI (m:bC):Bool:=YV m.from_&&(YV m.to&&(YV m.shard&&(YV m.epoch&&(YV m.move&&(YV m.lease&&(YV m.n&&(YV m.of_&&(YV m.req.client&&(YV m.req.req&&(YV m.req.kind&&YV m.req.limit))))))))))
def uo (p:dL):Bool:=YV p.shard&&(YV p.cell&&YV p.epoch)
theorem PP:∀{l:List dL},(l.flatMap fun p=>[p.shard,p.cell,p.epoch]).all YV=l.all uo
 |[]=>rfl
 |p::l=>by
  have j:=PP (l:=l);simp only[GV,List.all_append,List.all_cons,List.all_nil,GE,j,uo]
def Eu (m:bC):iT m=(mO m&&(kI m&&(m.places.all uo&&(m.mem.all YV&&(Ya m.at_&&(Ya m.req.at_&&Ya m.ans.at_)))))):=by
 have o:iT m=(mO m&&(([m.kind,m.from_,m.to,m.shard,m.epoch,m.move,m.lease,m.n,m.of_,m.req.client,m.req.req,m.req.kind,m.req.limit]++(m.places.flatMap fun p=>[p.shard,p.cell,p.epoch])++m.mem).all YV&&(Ya m.at_&&(Ya m.req.at_&&Ya m.ans.at_)))):=rfl;rw[o];cases j:mO m with
 |false=>rfl
 |true=>
  have q:YV m.kind=true:=by
   simp only[mO,Ge,GM,Gs] at j;obtain⟨h1,u,-⟩:=j;simp only[YV,uu,GM,xo,Gs];omega
  simp only[List.all_append,PP,List.all_cons,List.all_nil,q,Gy,GE,kI];simp only[Bool.and_assoc]
def vt:=HpC 414 F414<|HpA nN<|Af
theorem BO (h:vt Pg) (m:bC):K' Pg 414 [.agg (di m)]=some (.bool (iT m)):=by
 have⟨h,aa,ab⟩:=h;have o:=fun n=>Iq (Pg:=Pg) ab n;have k1:=mD aa m.at_;have k2:=mD aa m.req.at_;have k3:=mD aa m.ans.at_;simp only[go_sem] at k1 k2 k3;have H:=o m.from_;have J:=o m.to;have M:=o m.shard;have N:=o m.epoch;have Q:=o m.move;have T:=o m.lease;have Z:=o m.n;have f8:=o m.of_;have f9:=o m.req.client;have L:=o m.req.req;have P:=o m.req.kind;have Y:=o m.req.limit;have ak:True=True:=rfl;rw[Eu];refine aA h rfl ?_;cases u:decide (m.kind<1) with
 |true=>simp only[F414,c414,go_sem,u,mO,Gx,Gm]
 |false=>
 cases w:decide (37<m.kind) with
 |true=>simp only[F414,c414,go_sem,u,w,mO,Gx,Gm,Gq]
 |false=>
 cases y:decide (m.ans.err<0) with
 |true=>simp only[F414,c414,go_sem,u,w,y,mO,Gx,Gm,Gq]
 |false=>
 cases z:decide (16<m.ans.err) with
 |true=>simp only[F414,c414,go_sem,u,w,y,z,mO,Gx,Gm,Gq]
 |false=>
 cases B:decide (8<(m.ans.items.length:Int)) with
 |true=>simp only[F414,c414,go_sem,u,w,y,z,Gi,B,mO,Gx,Gm,Gq]
 |false=>
 cases D:decide (8<(m.places.length:Int)) with
 |true=>simp only[F414,c414,go_sem,u,w,y,z,B,Gi,D,mO,Gx,Gm,Gq]
 |false=>
 cases E:decide (8<(m.mem.length:Int)) with
 |true=>simp only[F414,c414,go_sem,u,w,y,z,B,D,Gi,E,mO,Gx,Gm,Gq]
 |false=>
 have hz:mO m=true:=by simp only[mO,u,w,y,z,B,D,E];rfl
 have aj:m.places.length<=8:=by have:=Ga D;omega
 have ai:m.mem.length<=8:=by have:=Ga E;omega
 rw[hz,Gy];cases d1:YV m.from_ with
 |false=>rw[d1] at H;simp only[F414,c414,go_sem,u,w,y,z,B,D,E,Gi,H,kI,d1,Gm]
 |true=>
 rw[d1] at H;cases d2:YV m.to with
 |false=>rw[d2] at J;simp only[F414,c414,go_sem,u,w,y,z,B,D,E,Gi,H,J,kI,d2,Gm,Gq]
 |true=>
 rw[d2] at J;cases d3:YV m.shard with
 |false=>rw[d3] at M;simp only[F414,c414,go_sem,u,w,y,z,B,D,E,Gi,H,J,M,kI,d3,Gm,Gq]
 |true=>
 rw[d3] at M;cases d4:YV m.epoch with
 |false=>rw[d4] at N;simp only[F414,c414,go_sem,u,w,y,z,B,D,E,Gi,H,J,M,N,kI,d4,Gm,Gq]
 |true=>
 rw[d4] at N;cases d5:YV m.move with
 |false=>rw[d5] at Q;simp only[F414,c414,go_sem,u,w,y,z,B,D,E,Gi,H,J,M,N,Q,kI,d5,Gm,Gq]
 |true=>
 rw[d5] at Q;cases d6:YV m.lease with
 |false=>rw[d6] at T;simp only[F414,c414,go_sem,u,w,y,z,B,D,E,Gi,H,J,M,N,Q,T,kI,d6,Gm,Gq]
 |true=>
 rw[d6] at T;cases d7:YV m.n with
 |false=>rw[d7] at Z;simp only[F414,c414,go_sem,u,w,y,z,B,D,E,Gi,H,J,M,N,Q,T,Z,kI,d7,Gm,Gq]
 |true=>
 rw[d7] at Z;cases d8:YV m.of_ with
 |false=>rw[d8] at f8;simp only[F414,c414,go_sem,u,w,y,z,B,D,E,Gi,H,J,M,N,Q,T,Z,f8,kI,d8,Gm,Gq]
 |true=>
 rw[d8] at f8;cases d9:YV m.req.client with
 |false=>rw[d9] at f9;simp only[F414,c414,go_sem,u,w,y,z,B,D,E,Gi,H,J,M,N,Q,T,Z,f8,f9,kI,d9,Gm,Gq]
 |true=>
 rw[d9] at f9;cases U:YV m.req.req with
 |false=>rw[U] at L;simp only[F414,c414,go_sem,u,w,y,z,B,D,E,Gi,H,J,M,N,Q,T,Z,f8,f9,L,kI,U,Gm,Gq]
 |true=>
 rw[U] at L;cases W:YV m.req.kind with
 |false=>rw[W] at P;simp only[F414,c414,go_sem,u,w,y,z,B,D,E,Gi,H,J,M,N,Q,T,Z,f8,f9,L,P,kI,W,Gm,Gq]
 |true=>
 rw[W] at P;cases X:YV m.req.limit with
 |false=>rw[X] at Y;simp only[F414,c414,go_sem,u,w,y,z,B,D,E,Gi,H,J,M,N,Q,T,Z,f8,f9,L,P,Y,kI,X,Gm,Gq]
 |true=>
 rw[X] at Y;have hf:kI m=true:=by simp only[kI,d1,d2,d3,d4,d5,d6,d7,d8,d9,U,W,X];rfl
 rw[hf,Gy];simp only[F414,c414,go_sem,u,w,y,z,B,D,E,H,J,M,N,Q,T,Z,f8,f9,L,P,Y,Gi];unfold l414_0;refine bu (fun (i:Nat) S=>i<=m.places.length/\S.ρ 1=.lref 1 0/\S.μ 1=some (di m,false)/\S.ρ 3=iz i/\(m.places.take i).all uo=true) (fun i=>m.places.length-i) 0 ?_ ?_
 ·simp[go_sem]
 ·intro i S ⟨hi,s1,m1,s3,R⟩;have q:=m1;simp only[go_sem] at q;cases c1:decide ((i:Int)<(m.places.length:Int)) with
  |false=>
   have ae:i=m.places.length:=by have:=Ga c1;omega
   rw[ae,GB] at R;rw[R,Gy];simp only[go_sem,s1,q,s3,c1,Gi];unfold l414_1;refine bu (fun (j:Nat) S=>j<=m.mem.length/\S.ρ 1=.lref 1 0/\S.μ 1=some (di m,false)/\S.ρ 4=iz j/\(m.mem.take j).all YV=true) (fun j=>m.mem.length-j) 0 ?_ ?_
   ·simp[go_sem,s1,m1]
   ·intro j S ⟨hj,s1,m1,s4,I⟩;have q:=m1;simp only[go_sem] at q;cases e1:decide ((j:Int)<(m.mem.length:Int)) with
    |false=>
     have af:j=m.mem.length:=by have:=Ga e1;omega
     rw[af,GB] at I;rw[I,Gy];cases O:Ya m.at_ with
     |false=>rw[O] at k1;simp only[go_sem,s1,q,s4,e1,k1,Gi]
     |true=>
     rw[O] at k1;cases y2:Ya m.req.at_ with
     |false=>rw[y2] at k2;simp only[go_sem,s1,q,s4,e1,k1,k2,Gi]
     |true=>
     rw[y2] at k2;simp only[go_sem,s1,q,s4,e1,k1,k2,k3,Gi]
    |true=>
     have ag:=Yj e1;obtain⟨x,hx,-⟩:=aZ ag;have ad:=inc64q (i:=j) (by omega)
     have kx:=o x;cases O:YV x with
     |false=>
      rw[O] at kx;rw[ub hx O,Gm];simp only[go_sem,s1,q,s4,e1,hx,kx,Gi]
     |true=>
      rw[O] at kx;simp only[go_sem,s1,q,s4,e1,hx,kx,ad,Gi];exact⟨j+1,by omega,by omega,rfl,Ch hx O I⟩
  |true=>
   have ah:=Yj c1;obtain⟨p,hp,-⟩:=aZ ah;have ac:=inc64q (i:=i) (by omega)
   have p1:=o p.shard;have p2:=o p.cell;have p3:=o p.epoch;cases O:YV p.shard with
   |false=>
    rw[O] at p1;rw[ub hp (by simp only[uo,O,Gm]),Gm];simp only[go_sem,s1,q,s3,c1,hp,p1,Gi]
   |true=>
   rw[O] at p1;cases y2:YV p.cell with
   |false=>
    rw[y2] at p2;rw[ub hp (by simp only[uo,y2,Gm,Gq]),Gm];simp only[go_sem,s1,q,s3,c1,hp,p1,p2,Gi]
   |true=>
   rw[y2] at p2;cases y3:YV p.epoch with
   |false=>
    rw[y3] at p3;rw[ub hp (by simp only[uo,y3,Gq]),Gm];simp only[go_sem,s1,q,s3,c1,hp,p1,p2,p3,Gi]
   |true=>
    rw[y3] at p3;simp only[go_sem,s1,q,s3,c1,hp,p1,p2,p3,ac,Gi];exact⟨i+1,by omega,by omega,rfl,Ch hp (by simp only[uo,O,y2,y3,GE]) R⟩
def oP (l:List cr):Nat->Int
 |0=>0
 |j+1=>match l[j]? with|some o=>o.cell|none=>0
def PK {l:List cr} {j:Nat} {o:cr} (h:l[j]?=some o):oP l (j+1)=o.cell:=by simp[oP,h]
def vp:=HpC 405 F405<|HpA rK<|HpA zQ<|HpA nT<|vt
theorem BI (h:vp Pg) (s:bP) (hs:iK s) (hk:∀o∈s.owns,K' Pg 425 [.str o.rep.base]=some (jY (gG o.rep.base))/\K' Pg 425 [.str o.rep.text]=some (jY (gG o.rep.text))):K' Pg 405 [.agg (YT s)]=some (.bool (ft s)):=by
 have⟨h,av,al,ah,ag⟩:=h;have⟨hl,ho⟩:=hs;refine aA h rfl ?_;cases b1:decide (s.id<1) with
 |true=>
  have:ft s=false:=by simp only[ft,tq,Gp (show ¬1<=s.id by have:=Gc b1;omega),Gm,Gq]
  simp only[F405,c405,go_sem,b1,this]
 |false=>
 cases b2:decide (3<s.id) with
 |true=>
  have:ft s=false:=by simp only[ft,tq,Gp (show ¬s.id<=3 by have:=Gc b2;omega),Gq]
  simp only[F405,c405,go_sem,b1,b2,this]
 |false=>
 have an:tq s.id=true:=by
  have:=Ga b1;have:=Ga b2;simp only[tq,Ge,Gj];omega
 have ak:ft s=jB s.id 0 s.owns:=by simp only[ft,an,GE]
 simp only[F405,c405,go_sem,b1,b2];unfold l405_0;refine bu (fun (i:Nat) S=>i<=s.owns.length/\S.ρ 1=.lref 1 0/\S.μ 1=some (YT s,false)/\S.ρ 3=iz i/\S.μ 4=none/\S.μ 5=none/\S.μ 7=none/\jB s.id (oP s.owns i) (s.owns.drop i)=jB s.id 0 s.owns) (fun i=>s.owns.length-i) 0 ?_ ?_
 ·refine⟨GY _,?_⟩;simp[go_sem,oP]
 ·intro i S ⟨hi,s1,m1,s3,m4,m5,m7,hq⟩;have q:=m1;simp only[go_sem] at q;cases M:decide ((i:Int)<(s.owns.length:Int)) with
  |false=>
   have ao:i=s.owns.length:=by have:=Ga M;omega
   subst ao;simp only[GQ,jB] at hq;have hr:ft s=true:=by rw[ak,<-hq]
   simp only[go_sem,s1,q,s3,M,hr,Gi]
  |true=>
   have ar:=Yj M;have⟨o,O,hd⟩:=aZ ar;have ai:=inc64q (i:=i) (by omega)
   have⟨o1,o2,o3⟩:=ho o (List.mem_of_getElem? O);have⟨I,J⟩:=hk o (List.mem_of_getElem? O);rw[hd,jB] at hq;have y:=DO al o.rep o1.ok;have B:=mH ah o.rep o1;have bad:fg s.id (oP s.owns i) o=false->ft s=false:=fun hb=>by
    rw[hb,Gm] at hq;rw[ak,<-hq]
   obtain⟨cb,ae⟩:∃cb:Eq,jY (gG o.rep.base)=.tuple [.agg cb,.bool (eS o.rep.base)]/\cb.length=5:=by
    unfold eS jY;cases gG o.rep.base<;>exact⟨_,rfl,rfl⟩
   obtain⟨ct,af⟩:∃cb:Eq,jY (gG o.rep.text)=.tuple [.agg cb,.bool (eS o.rep.text)]/\cb.length=5:=by
    unfold eS jY;cases gG o.rep.text<;>exact⟨_,rfl,rfl⟩
   have⟨ae,u⟩:=ae;have⟨af,w⟩:=af;rw[ae] at I;rw[af] at J;have T:∀{S:St} {s:Nat} {b:Bool},na S s 0 cb (some ([.slice 17 [],.int .i64 0,.int .i64 0,.int .i64 0,.int .i64 0],false))=some ⟨S.ρ,aI S.μ s (some (cb,false)),S.A⟩:=by
    intro S s b;rw[DN];unfold JZ;simp[u]
   have z:∀{S:St} {s:Nat} {b:Bool},na S s 0 ct (some ([.slice 17 [],.int .i64 0,.int .i64 0,.int .i64 0,.int .i64 0],false))=some ⟨S.ρ,aI S.μ s (some (ct,false)),S.A⟩:=by
    intro S s b;rw[DN];unfold JZ;simp[w]
   simp only[YN,Yi] at y B;cases N:decide (o.cell<1) with
   |true=>
    have:=bad (by simp only[fg,b8,fZ,Gp (show ¬1<=o.cell by have:=Gc N;omega),Gm,Gq]);simp only[go_sem,s1,q,s3,m4,m5,m7,M,O,I,J,T (b:=true),z (b:=true),u,w,this,N,Gi]
   |false=>
   cases R:decide (3<o.cell) with
   |true=>
    have:=bad (by simp only[fg,b8,fZ,Gp (show ¬o.cell<=3 by have:=Gc R;omega),Gm,Gq]);simp only[go_sem,s1,q,s3,m4,m5,m7,M,O,I,J,T (b:=true),z (b:=true),u,w,this,N,R,Gi]
   |false=>
   have ad:fZ o.cell=true:=by
    have:=Ga N;have:=Ga R;simp only[fZ,Ge,Gj];omega
   have outs:∀(S:St),(decide ((o.outs.length:Int)<=0)||YI o.rep)=true->b8 s.id (oP s.owns i) o=true->S.ρ 1=.lref 1 0->S.μ 1=some ([iz s.id,.slice 9 (s.owns.map eJ)],false)->S.ρ 3=iz i->S.ρ 4=.lref 4 0->S.μ 4=some (eJ o,false)->S.ρ 9=iz 0->
     Wp (K' Pg) l405_1 S (gm 2 (gm 1 (jl (K' Pg) (.region false r405_17) (LQ (fun (i:Nat) S=>i<=s.owns.length/\S.ρ 1=.lref 1 0/\S.μ 1=some (YT s,false)/\S.ρ 3=iz i/\S.μ 4=none/\S.μ 5=none/\S.μ 7=none/\jB s.id (oP s.owns i) (s.owns.drop i)=jB s.id 0 s.owns) (fun i=>s.owns.length-i) i [] [] [4,5,7] [] (gm 0 (jl (K' Pg) (.seq (.region false r405_18) .ret) fun ex S=>(ex=.norm\/ex=.ret)/\jT F405 S=some (.bool (ft s)))))))):=by
    intro S Q am s1 m1 s3 s4 m4 s9
    unfold l405_1
    refine bu (fun (j:Nat) S=>j<=o.outs.length/\S.ρ 1=.lref 1 0/\S.μ 1=some (YT s,false)/\S.ρ 3=iz i/\S.ρ 4=.lref 4 0/\S.μ 4=some (eJ o,false)/\S.ρ 9=iz j/\(o.outs.take j).all (fd s.id)=true) (fun j=>o.outs.length-j) 0 ?_ ?_
    ·simp only[nj]
     exact⟨GY _,s1,m1,s3,s4,m4,s9,rfl⟩
    ·intro j S ⟨hj,s1,m1,s3,s4,m4,s9,aa⟩
     have q:=m1
     have ac:=m4
     simp only[go_sem] at q ac
     cases e1:decide ((j:Int)<(o.outs.length:Int)) with
     |false=>
      have ap:j=o.outs.length:=by have:=Ga e1;omega
      rw[ap,GB] at aa
      have au:fg s.id (oP s.owns i) o=true:=by simp only[fg,mP,am,Q,aa];rfl
      rw[au,Gy] at hq
      simp only[go_sem,s1,q,s3,s4,ac,s9,e1,ai,Gi]
      exact⟨i+1,by omega,by omega,rfl,by rw[PK O];exact hq⟩
     |true=>
      have aq:=Yj e1
      obtain⟨x,hx,-⟩:=aZ aq
      have aj:=inc64q (i:=j) (by omega)
      have P:=BO ag x
      simp only[di,YB,kF,Yi] at P
      cases f1:iT x with
      |false=>
       rw[f1] at P
       have:=bad (by simp only[fg,mP,ub hx (show fd s.id x=false by simp only[fd,f1,Gm]),Gq])
       simp only[go_sem,s4,ac,s9,e1,hx,P,this,Gi]
      |true=>
      rw[f1] at P
      cases f2:decide (x.from_=s.id) with
      |false=>
       have:=bad (by simp only[fg,mP,ub hx (show fd s.id x=false by simp only[fd,f2,Gq]),Gq])
       simp only[go_sem,s1,q,s4,ac,s9,e1,hx,P,f2,this,Gi]
      |true=>
       simp only[go_sem,s1,q,s3,s4,ac,s9,e1,hx,P,f2,aj,Gi]
       exact⟨j+1,by omega,by omega,rfl,Ch hx (by simp only[fd,f1,f2];rfl) aa⟩
   rcases nI i with e0|e0
   ·have H:decide ((0:Int)<(i:Int))=false:=Gp (by omega);have Z:(!decide (o.cell<=oP s.owns i))=true:=by
     have:=Ga N;rw[e0]
     show (!decide (o.cell<=0))=true
     simp only[GM,Gs];omega
    cases L:decide (o.rep.id=s.id) with
    |false=>
     have:=bad (by simp only[fg,b8,L,Gm,Gq]);simp only[go_sem,s1,q,s3,m4,m5,m7,M,O,I,J,T (b:=true),z (b:=true),u,w,this,N,R,H,L,Gi]
    |true=>
    cases U:aT o.rep with
    |false=>
     have:=bad (by simp only[fg,b8,U,Gm,Gq]);rw[U] at y;simp only[go_sem,s1,q,s3,m4,m5,m7,M,O,I,J,T (b:=true),z (b:=true),u,w,this,N,R,H,L,y,Gi]
    |true=>
    rw[U] at y;cases W:eS o.rep.base with
    |false=>
     have:=bad (by simp only[fg,b8,W,Gm,Gq]);rw[W] at I;simp only[go_sem,s1,q,s3,m4,m5,m7,M,O,I,J,T (b:=true),z (b:=true),u,w,this,N,R,H,L,y,Gi]
    |true=>
    rw[W] at I;cases X:eS o.rep.text with
    |false=>
     have:=bad (by simp only[fg,b8,X,Gm,Gq]);rw[X] at J;simp only[go_sem,s1,q,s3,m4,m5,m7,M,O,I,J,T (b:=true),z (b:=true),u,w,this,N,R,H,L,y,Gi]
    |true=>
    rw[X] at J;cases Y:decide (0<(o.outs.length:Int)) with
    |true=>
     cases d9:wL o.rep with
     |false=>
      have:=bad (by simp only[fg,mP,Ci,d9,Gp (show ¬(o.outs.length:Int)<=0 by have:=Gc Y;omega),Gq,Bool.or_false,Gm]);rw[d9] at B;simp only[go_sem,s1,q,s3,m4,m5,m7,M,O,I,J,T (b:=true),z (b:=true),u,w,this,N,R,H,L,y,Y,B,Gi]
     |true=>
      rw[d9] at B;have Q:(decide ((o.outs.length:Int)<=0)||YI o.rep)=true:=by simp only[Ci,U,d9,GE,Bool.or_true]
      simp only[go_sem,s1,q,s3,m4,m5,m7,M,O,I,J,T (b:=true),z (b:=true),u,w,N,R,H,L,y,Y,B,Gi];exact outs _ Q (by simp only[b8,Z,ad,L,U,W,X];rfl) (by simp only[go_sem,s1]) (by simp only[go_sem,q]) (by simp only[go_sem,s3]) (by simp only[go_sem]) (by simp only[go_sem]) (by simp only[go_sem])
    |false=>
     have Q:(decide ((o.outs.length:Int)<=0)||YI o.rep)=true:=by rw[Gu (show (o.outs.length:Int)<=0 by have:=Ga Y;omega)];rfl
     simp only[go_sem,s1,q,s3,m4,m5,m7,M,O,I,J,T (b:=true),z (b:=true),u,w,N,R,H,L,y,Y,Gi];exact outs _ Q (by simp only[b8,Z,ad,L,U,W,X];rfl) (by simp only[go_sem,s1]) (by simp only[go_sem,q]) (by simp only[go_sem,s3]) (by simp only[go_sem]) (by simp only[go_sem]) (by simp only[go_sem])
   ·obtain⟨p,hp,-⟩:=aZ (l:=s.owns) (i:=i-1) (by omega);have D:decide ((0:Int)<(i:Int))=true:=Gu (by omega);have E:IntKind.i64.wrap ((i:Int)-1)=((i-1:Nat):Int):=by rw[bv (by omega) (by omega)];omega
    have ab:oP s.owns i=p.cell:=by
     have:=PK hp;rwa [show i-1+1=i by omega] at this
    cases d3:decide (o.cell<=p.cell) with
    |true=>
     have:=bad (by simp only[fg,b8,ab,d3,Gx,Gm]);simp only[go_sem,s1,q,s3,m4,m5,m7,M,O,I,J,T (b:=true),z (b:=true),u,w,this,N,R,D,E,hp,d3,Gi]
    |false=>
     have Z:(!decide (o.cell<=oP s.owns i))=true:=by rw[ab,d3];rfl
     cases L:decide (o.rep.id=s.id) with
     |false=>
      have:=bad (by simp only[fg,b8,L,Gm,Gq]);simp only[go_sem,s1,q,s3,m4,m5,m7,M,O,I,J,T (b:=true),z (b:=true),u,w,this,N,R,D,E,hp,d3,L,Gi]
     |true=>
     cases U:aT o.rep with
     |false=>
      have:=bad (by simp only[fg,b8,U,Gm,Gq]);rw[U] at y;simp only[go_sem,s1,q,s3,m4,m5,m7,M,O,I,J,T (b:=true),z (b:=true),u,w,this,N,R,D,E,hp,d3,L,y,Gi]
     |true=>
     rw[U] at y;cases W:eS o.rep.base with
     |false=>
      have:=bad (by simp only[fg,b8,W,Gm,Gq]);rw[W] at I;simp only[go_sem,s1,q,s3,m4,m5,m7,M,O,I,J,T (b:=true),z (b:=true),u,w,this,N,R,D,E,hp,d3,L,y,Gi]
     |true=>
     rw[W] at I;cases X:eS o.rep.text with
     |false=>
      have:=bad (by simp only[fg,b8,X,Gm,Gq]);rw[X] at J;simp only[go_sem,s1,q,s3,m4,m5,m7,M,O,I,J,T (b:=true),z (b:=true),u,w,this,N,R,D,E,hp,d3,L,y,Gi]
     |true=>
     rw[X] at J;cases Y:decide (0<(o.outs.length:Int)) with
     |true=>
      cases d9:wL o.rep with
      |false=>
       have:=bad (by simp only[fg,mP,Ci,d9,Gp (show ¬(o.outs.length:Int)<=0 by have:=Gc Y;omega),Gq,Bool.or_false,Gm]);rw[d9] at B;simp only[go_sem,s1,q,s3,m4,m5,m7,M,O,I,J,T (b:=true),z (b:=true),u,w,this,N,R,D,E,hp,d3,L,y,Y,B,Gi]
      |true=>
       rw[d9] at B;have Q:(decide ((o.outs.length:Int)<=0)||YI o.rep)=true:=by simp only[Ci,U,d9,GE,Bool.or_true]
       simp only[go_sem,s1,q,s3,m4,m5,m7,M,O,I,J,T (b:=true),z (b:=true),u,w,N,R,D,E,hp,d3,L,y,Y,B,Gi];exact outs _ Q (by simp only[b8,Z,ad,L,U,W,X];rfl) (by simp only[go_sem,s1]) (by simp only[go_sem,q]) (by simp only[go_sem,s3]) (by simp only[go_sem]) (by simp only[go_sem]) (by simp only[go_sem])
     |false=>
      have Q:(decide ((o.outs.length:Int)<=0)||YI o.rep)=true:=by rw[Gu (show (o.outs.length:Int)<=0 by have:=Ga Y;omega)];rfl
      simp only[go_sem,s1,q,s3,m4,m5,m7,M,O,I,J,T (b:=true),z (b:=true),u,w,N,R,D,E,hp,d3,L,y,Y,Gi];exact outs _ Q (by simp only[b8,Z,ad,L,U,W,X];rfl) (by simp only[go_sem,s1]) (by simp only[go_sem,q]) (by simp only[go_sem,s3]) (by simp only[go_sem]) (by simp only[go_sem]) (by simp only[go_sem])
def Ib (h:vp Pg) (s:bP) (p:iK s) (ht:sD s):K' Pg 405 [.agg (YT s)]=some (.bool (ft s)):=
 BI h s p fun o j=>⟨sw h.2.1 _ (ht o j).1,sw h.2.1 _ (ht o j).2⟩
def dx:aB:=⟨0,0,0⟩
def dZ:Rq:=⟨0,0,0,[],[],false,[],dx,[],0⟩
def cI:eE:=⟨0,dx,false,[],[],[],false⟩
def cX:bC:=⟨0,0,0,0,0,0,0,0,0,dx,[],dZ,cI,[],[]⟩
def ym (c:Int) (w:bI):bC:={cX with kind:=34+w.kind,from_:=w.frm,to:=w.to,n:=c,epoch:=w.view,of_:=w.n,mem:=w.members,text:=w.text}
def Y5 (c:Int) (l:List bI):List bC:=l.map (ym c)
def wU (l:List bI):Prop:=∀w∈l,-1000<=w.kind/\w.kind<=1000
def rN:=HpZ 429 F429
def v7 (h:rN Pg) (c:Int) (l:List bI) (hw:wU l) (N:l.length<=100000000):K' Pg 429 [iz c,mL l]=some (jy (Y5 c l)):=by
 refine aA h rfl ?_;simp only[F429,c429,go_sem,Gi];unfold l429_0;refine bu (fun (i:Nat) S=>i<=l.length/\S.ρ 0=iz c/\S.ρ 5=.own 5 36 i/\S.A 5=some (36,(Y5 c (l.take i)).map di,.live)/\S.ρ 8=mL l/\S.ρ 9=iz l.length/\S.ρ 10=iz i/\S.μ 7=none) (fun i=>l.length-i) 0 ?_ ?_
 ·simp[go_sem,Y5]
 ·intro i S H;have j:((Y5 c (l.take i)).map di).length=(l.take i).length:=by simp[Y5]
  have⟨hi,L,s5,y,M,E,q,m7⟩:=H;rw[GK,pn hi] at j;cases u:decide ((i:Int)<(l.length:Int)) with
  |false=>
   have z:i=l.length:=by have:=Ga u;omega
   subst z;rw[GB] at y j;simp only[go_sem,s5,y,E,q,u,j]
  |true=>
   have B:=Yj u;obtain⟨w,D,-⟩:=aZ B;have o:=inc64q (i:=i) (by omega)
   have⟨O,P⟩:=hw w (List.mem_of_getElem? D);have I:IntKind.i64.wrap (35+w.kind)=35+w.kind:=bv (by omega) (by omega);have J:IntKind.i64.wrap (35+w.kind-1)=34+w.kind:=by rw[bv (by omega) (by omega)];omega
   have p:i+1<=aU:=by unfold aU;omega
   simp only[go_sem,L,s5,y,M,E,q,m7,u,D,I,J,j,p,o];exact⟨i+1,by omega,by omega,rfl,by rw[YW D];simp only[Y5,Gz,GA,Gk,ym,cX,dZ,cI,dx,di,YB,kF,Yi],rfl⟩
def rP:=HpZ 433 F433
def wc (h:rP Pg) (c:Int) (l:List bI) (hw:wU l) (I:l.length<=100000000):K' Pg 433 [iz c,mL l]=some (jy (Y5 c l)):=by
 refine aA h rfl ?_;simp only[F433,c433,go_sem];unfold l433_0;refine bu (fun (i:Nat) S=>i<=l.length/\S.ρ 0=iz c/\S.ρ 5=.own 5 36 i/\S.A 5=some (36,(Y5 c (l.take i)).map di,.live)/\S.ρ 1=mL l/\S.ρ 6=iz i/\S.μ 7=none) (fun i=>l.length-i) 0 ?_ ?_
 ·simp[go_sem,Y5]
 ·intro i S D;have j:((Y5 c (l.take i)).map di).length=(l.take i).length:=by simp[Y5]
  have⟨hi,H,s5,u,s1,s6,m7⟩:=D;rw[GK,pn hi] at j;cases q:decide ((i:Int)<(l.length:Int)) with
  |false=>
   have y:i=l.length:=by have:=Ga q;omega
   subst y;rw[GB] at u j;simp only[go_sem,s5,u,s1,s6,q,j,Gi]
  |true=>
   have z:=Yj q;obtain⟨w,B,-⟩:=aZ z;have o:=inc64q (i:=i) (by omega)
   have⟨J,L⟩:=hw w (List.mem_of_getElem? B);have E:IntKind.i64.wrap (34+w.kind)=34+w.kind:=bv (by omega) (by omega);have p:i+1<=aU:=by unfold aU;omega
   simp only[go_sem,H,s5,u,s1,s6,m7,q,B,E,j,p,o,Gi];exact⟨i+1,by omega,by omega,rfl,by rw[YW B];simp only[Y5,Gz,GA,Gk,ym,cX,dZ,cI,dx,di,YB,kF,Yi],rfl⟩
def xK {r:bG}:(YM r).length<=r.members.length:=by simp only[YM,Gi];exact List.length_filter_le _ _
def Kh {r:bG}:wU (YM r):=fun w hw=>by
 simp only[YM,nH] at hw;obtain⟨m,-,rfl⟩:=hw;simp only;omega
theorem On:∀{id co:Int} {l:List cr},jB id co l=true->∀o∈l,aT o.rep=true/\eS o.rep.base=true/\eS o.rep.text=true/\fZ o.cell=true/\o.rep.id=id/\(o.outs≠[]->YI o.rep=true)/\∀m∈o.outs,fd id m=true
 |id,co,[],_,o,ho=>by cases ho
 |id,co,x::l,h,o,ho=>by
  simp only[jB,Ge] at h;rcases GH.1 ho with rfl|ho
  ·have h1:=h.1;simp only[fg,b8,mP,Ge,G1,Gj,GG] at h1;have⟨⟨B,p,q,u,w,y⟩,a7,z⟩:=h1;refine⟨u,w,y,p,q,fun j=>?_,z⟩;rcases a7 with a7|a7
   ·exact absurd (List.length_eq_zero_iff.1 (by omega)) j
   ·exact a7
  ·exact On h.2 o ho
def Cf {s:bP} (h:ft s=true):∀o∈s.owns,aT o.rep=true/\eS o.rep.base=true/\eS o.rep.text=true/\fZ o.cell=true/\o.rep.id=s.id/\(o.outs≠[]->YI o.rep=true)/\∀m∈o.outs,fd s.id m=true:=by
 simp only[ft,Ge] at h;exact On h.1
def wD {s:bP} {c:Int} (h:(dB s c).isSome=true):Yp s c∈s.owns/\(Yp s c).cell=c:=by
 unfold Yp;cases e:dB s c with
 |none=>rw[e] at h;cases h
 |some o=>
  refine⟨List.mem_of_find?_eq_some e,?_⟩;have:=List.find?_some e;simpa [ia] using this
def eZ:List cr->cr->List cr
 |[],o=>[o]
 |p::l,o=>if o.cell<=p.cell then (if p.cell=o.cell then o::l else o::p::l) else p::eZ l o
def p7 (c:Int) (o:cr):Bool:=decide (c<=o.cell)
theorem jd {α:Type} {p:α->Bool}:∀{l:List α} {i:Nat},(ey p l i=-1/\∀x∈l,p x=false)\/∃j x,ey p l i=((i+j:Nat):Int)/\l[j]?=some x/\p x=true/\∀y∈l.take j,p y=false
 |[],i=>.inl ⟨rfl,fun x hx=>by cases hx⟩
 |a::l,i=>by
  cases hp:p a with
  |true=>exact .inr ⟨0,a,by simp[ey,hp],rfl,hp,fun y hy=>by cases hy⟩
  |false=>
   rcases jd (p:=p) (l:=l) (i:=i+1) with⟨h1,h3⟩|⟨j,x,h1,h2,h3,h4⟩
   ·refine .inl ⟨by simp[ey,hp,h1],fun x hx=>?_⟩;rcases GH.1 hx with rfl|hx
    ·exact hp
    ·exact h3 x hx
   ·refine .inr ⟨j+1,x,by simp only[ey,hp,Gl,Gv,h1];congr 1;omega,h2,h3,fun y hy=>?_⟩;rw[List.take_succ_cons] at hy;rcases GH.1 hy with rfl|hy
    ·exact hp
    ·exact h4 y hy
theorem OM {o:cr}:∀{l:List cr},(∀x∈l,p7 o.cell x=false)->eZ l o=l++[o]
 |[],_=>rfl
 |p::l,h=>by
  have h1:=h p (G0 ..);simp only[p7,Gs] at h1;rw[eZ,Gn h1,OM fun x j=>h x (G2 _ j)]
  rfl
theorem PU {o x:cr}:∀{l:List cr} {j:Nat},l[j]?=some x->p7 o.cell x=true->(∀y∈l.take j,p7 o.cell y=false)->eZ l o=if x.cell=o.cell then l.set j o else l.take j++(o::l.drop j)
 |[],j,h,_,_=>by simp at h
 |p::l,0,h,hx,_=>by
  simp only[List.getElem?_cons_zero,Gb] at h;subst h;simp only[p7,Gj] at hx;rw[eZ,Gt hx]
  rfl
 |p::l,j+1,h,hx,hy=>by
  have h1:=hy p (by rw[List.take_succ_cons];exact G0 ..);simp only[p7,Gs] at h1;rw[eZ,Gn h1,PU (j:=j) (by simpa using h) hx fun y hm=>hy y (by rw[List.take_succ_cons];exact G2 _ hm)];split<;>simp
def AB:=HpZ 496 F496
def IP (h:AB Pg) (p o:cr):K' Pg 496 [.agg (eJ p),.cptr (eJ o) 0]=some (.bool (p7 o.cell p)):=by
 refine aA h rfl ?_;simp only[F496,c496,go_sem,p7]
def AC (Pg:PgT):Prop:=Pg 497=some (.prim (some 0) (bJ 9))
def IQ (h:AC Pg) (rows:List Eq) (j:rows.length<=aU):K' Pg 497 [.slice 9 rows]=some (.slice 9 rows):=by
 rw[tT h];simp[bJ,j]
def rZ:=HpC 473 F473<|HpA vy<|HpA AB<|AC
theorem wh (h:rZ Pg) (s:bP) (o:cr) (P:s.owns.length<=100000):K' Pg 473 [.agg (YT s),.agg (eJ o)]=some (.agg (YT ⟨s.id,eZ s.owns o⟩)):=by
 have⟨h,z,B,D⟩:=h;have q:=B1 z s.owns 496 [.cptr (eJ o) 0] (p7 o.cell) (by omega) fun x _=>IP B x o;have E:s.owns.length<=aU:=by unfold aU;omega
 have u:s.owns.length+1<=aU:=by unfold aU;omega
 have w:=IQ D (s.owns.map eJ) (by simpa using E);simp only[go_sem] at q;refine aA h rfl ?_;rcases jd (p:=p7 o.cell) (l:=s.owns) (i:=0) with⟨h1,L⟩|⟨j,x,h1,J,L,O⟩
 ·rw[h1] at q;rw[OM L];simp only[F473,c473,go_sem,q,w,u,Gi,Gz,GA,Gk]
 ·rw[h1,j8] at q;rw[PU J L O];have N:decide ((j:Int)<0)=false:=Gp (by omega);have y:j<s.owns.length:=(List.getElem?_eq_some_iff.1 J).1;cases I:decide (x.cell=o.cell) with
  |true=>
   rw[Gt (Gc I)];simp only[F473,c473,go_sem,q,w,N,J,y,I,Gi,List.map_set,qX]
  |false=>
   rw[Gn (Ga I)];have M:j<=s.owns.length:=Nat.le_of_lt y;have H:min j s.owns.length+(s.owns.length-j+1)=s.owns.length+1:=by omega
   simp only[F473,c473,go_sem,q,w,N,J,y,M,u,I,Gi,Gz,GA,Gk,re,nJ,Gf,List.length_cons,GK,GP,List.length_nil,H]
def XS {r:bG} {w:bI} (h:RP r) (q:w.frm≠r.id) (hm:kH w.members r.id w.frm=true) (y:hU w.view 1=true) (u:hU w.n 1=true):RP (Y9 r w):=by
 have⟨z,m2,m3⟩:=VU hm;simp only[hU,Ge,Gj] at y u;have o:Yl (Y9 r w)=false:=by
  cases j:Yl (Y9 r w) with
  |false=>rfl
  |true=>
   have:=(Kb _).1 j;simp only[Y9] at this;rw[m3] at this;exact absurd (by simpa using this) q
 exact⟨h.id,⟨by simp only[Y9];omega,by simp only[Y9];omega⟩,⟨by simp only[Y9];omega,by simp only[Y9];omega⟩,z,wv,
  fun a p=>(by simp[Y9] at p),fun _=>m2,fun j=>(by rw[o] at j;cases j),fun _=>⟨rfl,rfl⟩⟩
def XR {r:bG} (h:RP r):RP (px r):=by
 have j:Yl (px r)=false:=rfl;exact⟨h.id,h.view,h.n,wv,wv,fun a p=>(by simp[px] at p),fun hm=>absurd rfl hm,fun o=>(by rw[j] at o;cases o),fun _=>⟨rfl,rfl⟩⟩
def pc {r:bG} (h:RP {r with base:=r.text}) (hl:Yl r=true):RP (gy r):=by
 have⟨e1,e2,e3,e4,e5,e6⟩:=Cg r;have yv:Yl (gy r)=true:=by rw[VO];exact hl
 refine⟨by rw[e1];exact h.id,by rw[e2];exact h.view,by rw[e4];exact h.n,by rw[e3];exact h.sm,by rw[e6];exact h.sa,by rw[e6,e3];exact h.sub,by rw[e3,e1];exact h.inn,fun _=>?_,fun hl=>by rw[yv] at hl;cases hl⟩;rw[e1,e6];refine⟨(h.lead hl).1,fun ha=>?_⟩;rw[VT] at ha;unfold gy;split
 ·rfl
 ·rename_i hn
  exfalso
  have:=Eg (r:={r with base:=r.text}) h.sm h.sa h.sub;have yu:gQ {r with base:=r.text}=true:=ha;rw[yu] at this;have h1:=Ga this;have h2:=xL h.sa.2.2 h.sub;simp only at h1 h2;omega
def ZU {r:bG} {w:bI} (h:RP r) (D:i9 r w=true):RP (gy (eR r w)):=by
 simp only[i9,Ge,Gj,GM,Gs] at D;have⟨q,J,L,z,B⟩:=D;have j:∀a∈r.acks++[w.frm],a∈r.members:=fun a ha=>by
  rcases GS.1 ha with ha|ha
  ·exact h.sub a ha
  ·have:a=w.frm:=by simpa using ha
   subst this;exact z
 have u:(r.acks++[w.frm]).Nodup:=ri.2 ⟨h.sa.2.2,by simp,fun x H y I e=>by
   have:y=w.frm:=by simpa using I
   subst this;subst e;exact B H⟩
 have o:(r.acks++[w.frm]).length<=r.members.length:=xL u j;have p:bW (r.acks++[w.frm]):=KB h.sa B (GI o h.sm.1) (h.sm.2.1 _ z);refine pc ⟨h.id,h.view,h.n,h.sm,p,j,h.inn,fun _=>⟨GS.2 (.inl (h.lead q).1),fun _=>rfl⟩,fun E=>?_⟩ q;have:Yl r=false:=E;rw[q] at this;cases this
def Zc {r:bG} {w:bI} (h:RP r):RP (Yx r w).1:=by
 unfold Yx;split
 ·split
  ·split
   ·unfold f6;split
    ·exact h
    ·rename_i j;have j:w.frm≠r.id:=fun e=>j (Gu e);split
     ·rename_i o;split
      ·rename_i c3;split
       ·rename_i p;unfold bS;split
        ·exact h
        ·split
         ·exact h
         ·split
          ·exact XS h j o c3 p
          ·exact h
       ·exact h
      ·exact h
     ·exact h
   ·split
    ·split
     ·rename_i q;exact ZU h q
     ·exact h
    ·split
     ·split
      ·exact XR h
      ·exact h
     ·exact h
  ·exact h
 ·exact h
def D4 {r:bG} {w:bI}:(Yx r w).2.length<=1/\∀x∈(Yx r w).2,(x.kind=2\/x.kind=3)/\x.members=[]:=by
 have nil:([]:List bI).length<=1/\∀x∈([]:List bI),(x.kind=2\/x.kind=3)/\x.members=[]:=⟨by simp,fun x j=>by cases j⟩;have one:∀y:bI,(y.kind=2\/y.kind=3)/\y.members=[]->[y].length<=1/\∀x∈[y],(x.kind=2\/x.kind=3)/\x.members=[]:=fun y o=>⟨by simp,fun x j=>by
  have:x=y:=by simpa using j
  subst this;exact o⟩
 unfold Yx;split
 ·split
  ·split
   ·unfold f6;split
    ·exact nil
    ·split
     ·split
      ·split
       ·unfold bS;split
        ·exact one _ ⟨.inr rfl,rfl⟩
        ·split
         ·exact nil
         ·split
          ·exact one _ ⟨.inl rfl,rfl⟩
          ·exact one _ ⟨.inl rfl,rfl⟩
       ·exact nil
      ·exact nil
     ·exact nil
   ·split
    ·split<;>exact nil
    ·split
     ·split<;>exact nil
     ·exact nil
  ·exact nil
 ·exact nil
def gb {r:bG} {w:bI}:(Yx r w).1.members.length<=max r.members.length w.members.length/\(Yx r w).1.acks.length<=r.acks.length+1/\(Yx r w).1.id=r.id/\
  ((Yx r w).1.base=r.base\/(Yx r w).1.base=r.text\/(Yx r w).1.base=w.text/\w.kind=1)/\((Yx r w).1.text=r.text\/(Yx r w).1.text=w.text/\w.kind=1):=by
 have same:r.members.length<=max r.members.length w.members.length/\r.acks.length<=r.acks.length+1/\r.id=r.id/\(r.base=r.base\/r.base=r.text\/r.base=w.text/\w.kind=1)/\(r.text=r.text\/r.text=w.text/\w.kind=1):=
  ⟨po _ _,Nat.le_succ _,rfl,.inl rfl,.inl rfl⟩
 unfold Yx
 split
 ·split
  ·split
   ·rename_i hk
    unfold f6
    split
    ·exact same
    ·split
     ·split
      ·split
       ·unfold bS
        split
        ·exact same
        ·split
         ·exact same
         ·split
          ·exact⟨pm _ _,by simp[Y9],rfl,.inr (.inr ⟨rfl,hk⟩),.inr ⟨rfl,hk⟩⟩
          ·exact same
       ·exact same
      ·exact same
     ·exact same
   ·split
    ·split
     ·have⟨e1,e2,e3,e4,e5,e6⟩:=Cg (eR r w)
      refine⟨by rw[e3];exact po _ _,by rw[e6];simp[eR],by rw[e1];rfl,?_,.inl (by rw[e5];rfl)⟩
      unfold gy
      split
      ·exact .inr (.inl rfl)
      ·exact .inl rfl
     ·exact same
    ·split
     ·split
      ·exact⟨by simp[px],by simp[px],rfl,.inr (.inl rfl),.inl rfl⟩
      ·exact same
     ·exact same
  ·exact same
 ·exact same
def jW (m:bC):bI:=⟨m.kind-34,m.from_,m.to,m.epoch,m.of_,m.mem,m.text⟩
def ef (s:bP) (m:bC):bG×List bI:=Yx (Yp s m.n).rep (jW m)
def o9 (s:bP) (m:bC):Bool:=(!(dB s m.n).isSome&&!fZ m.n)||(decide (m.kind=35)&&!eS m.text)
def oR (o:cr) (r:bG):List bC:=if YI o.rep&&(!YI r&&(aT r&&Yl r)) then o.outs else []
def jU (o:cr) (r:bG):cr:=⟨o.cell,r,if YI r then o.outs else []⟩
def nk (s:bP) (m:bC):bP×List bC:=
 if o9 s m then (s,[]) else if !(dB s m.n).isSome&&decide ((ef s m).1.view=0) then (s,[])
 else (⟨s.id,eZ s.owns (jU (Yp s m.n) (ef s m).1)⟩,Y5 m.n (ef s m).2++oR (Yp s m.n) (ef s m).1)
@[go_sem] def kS (x:bP×List bC):V:=.tuple [.agg (YT x.1),jy x.2]
def Cw {s:bP} {c:Int} (j:iK s):yl (Yp s c):=by
 cases h:(dB s c).isSome with
 |true=>exact j.2 _ (wD h).1
 |false=>
  unfold Yp;cases e:dB s c with
  |some o=>rw[e] at h;cases h
  |none=>exact⟨⟨by simp[kO],by simp[kO]⟩,by simp[kO],fun m hm=>by cases hm⟩
def I7 {s:bP} {m:bC} {o:cr} {r:bG} {wl:List bI} {S:St} (hol:(Y5 m.n wl).length<=1) (yw:o.outs.length<=9000)
  (p8:K' Pg 41 [.agg (YN r)]=some (.bool (YI r))) (ux:K' Pg 40 [.agg (YN r)]=some (.bool (aT r&&Yl r))) (kV:K' Pg 429 [iz m.n,mL wl]=some (jy (Y5 m.n wl)))
  (gg:K' Pg 473 [.agg (YT s),.agg (eJ (jU o r))]=some (.agg (YT ⟨s.id,eZ s.owns (jU o r)⟩)))
  (s2:S.ρ 2=.lref 2 0) (m2:S.μ 2=some (YT s,false)) (s3:S.ρ 3=.lref 3 0) (m3:S.μ 3=some (di m,false)) (s4:S.ρ 4=.lref 4 0) (m4:S.μ 4=some ([.int .i64 0,.slice 9 []],false)) (s6:S.ρ 6=.lref 6 0) (m6:S.μ 6=some (eJ o,false))
  (s8:S.ρ 8=.bool (YI o.rep)) (s9:S.ρ 9=.lref 9 0) (m9:S.μ 9=some (YN r,false)) (nB:S.ρ 10=mL wl) (EV:S.A 75=none) :
  Wp (K' Pg) yj S fun ex S=>(ex=.norm\/ex=.ret)/\jT F437 S=some (kS (⟨s.id,eZ s.owns (jU o r)⟩,Y5 m.n wl++oR o r)):=by
 have hlim:(Y5 m.n wl).length+o.outs.length<=aU:=by unfold aU;omega
 generalize Y5 m.n wl=sl at *
 unfold jU oR
 unfold jU at gg
 simp only[go_sem] at m2 m3 m6 m9
 cases b2:YI r with
 |true=>
  rw[b2] at p8 gg
  simp only[Gx,Gm,Gq,Gl,Gv,Gw,GD] at gg ⊢
  simp only[go_sem] at p8 ux kV gg
  simp only[yj,F437,go_sem,s2,m2,s3,m3,s4,m4,s6,m6,s9,m9,nB,EV,p8,kV,gg,Gi]
 |false=>
  rw[b2] at p8 gg
  simp only[GR,Gy,Gl,Gv] at gg ⊢
  cases b1:YI o.rep with
  |false=>
   rw[b1] at s8
   simp only[Gm,Gl,Gv,GD]
   simp only[go_sem,Gk] at p8 ux kV gg
   simp only[yj,F437,go_sem,s2,m2,s3,m3,s4,m4,s6,m6,s8,s9,m9,nB,EV,p8,kV,gg,Gi]
  |true=>
   rw[b1] at s8
   cases b3:(aT r&&Yl r) with
   |false=>
    rw[b3] at ux
    simp only[Gq,Gl,Gv,GD]
    simp only[go_sem,Gk] at p8 ux kV gg
    simp only[yj,F437,go_sem,s2,m2,s3,m3,s4,m4,s6,m6,s8,s9,m9,nB,EV,p8,ux,kV,gg,Gi]
   |true=>
    rw[b3] at ux
    simp only[GL,Gw]
    simp only[go_sem,Gk] at p8 ux kV gg
    simp only[yj,F437,go_sem,s2,m2,s3,m3,s4,m4,s6,m6,s8,s9,m9,nB,EV,p8,ux,kV,gg,hlim,Gi,Gz,Gf]
def z8:=HpC 437 F437<|HpA rM<|HpA vk<|HpA rO<|HpA vq<|HpA Mu<|HpA rN<|HpA Dj<|rZ
theorem Ik (h:z8 Pg) (s:bP) (m:bC) (Z:iK s) (ha:(Yp s m.n).rep.acks.length<=9000) (hm:m.mem.length<=10000) (ho:(Yp s m.n).outs.length<=9000) (hk:0<=m.kind/\m.kind<=1000) (R:K' Pg 430 [.str m.text]=some (.bool (eS m.text))) :
  K' Pg 437 [.agg (YT s),.agg (di m)]=some (kS (nk s m)):=by
 have⟨h,N,L,aa,M,X,O,W,P⟩:=h
 have j:=vZ N s m.n (by have:=Z.1;omega)
 have⟨T,o2,o3⟩:=Cw (c:=m.n) Z
 have q:=BC L m.n
 have p:=vY M (Yp s m.n).rep T.ok
 have y:IntKind.i64.wrap (m.kind-35)=m.kind-35:=bv (by omega) (by omega)
 have z:IntKind.i64.wrap (m.kind-35+1)=m.kind-34:=by rw[bv (by omega) (by omega)];omega
 have u:K' Pg 57 [.agg (YN (Yp s m.n).rep),.agg (nm (jW m))]=some (ur (ef s m)):=Vt X (Yp s m.n).rep (jW m) T.ok T.2 hm
 obtain⟨l1,l2,-⟩:=gb (r:=(Yp s m.n).rep) (w:=jW m)
 have⟨q1,q2⟩:=D4 (r:=(Yp s m.n).rep) (w:=jW m)
 have I:dw (ef s m).1:=⟨GI l1 (Nat.max_le.2 ⟨T.1,hm⟩),by unfold ef;omega⟩
 have D:=vY M (ef s m).1 I.ok
 have Q:=H2 W (ef s m).1 I.ok
 have E:=v7 O m.n (ef s m).2 (fun w hw=>by have:=(q2 w hw).1;omega) (by unfold ef;omega)
 have H:=wh P s (jU (Yp s m.n) (ef s m).1) (by have:=Z.1;omega)
 have Y:(Y5 m.n (ef s m).2).length<=1:=by simp only[Y5,Gi];unfold ef;exact q1
 have U:=fun {S:St}=>I7 (S:=S) (s:=s) (m:=m) (o:=Yp s m.n) (r:=(ef s m).1) (wl:=(ef s m).2) Y ho D Q E H
 have hn:nk s m=if o9 s m then (s,[]) else if !(dB s m.n).isSome&&decide ((ef s m).1.view=0) then (s,[]) else (⟨s.id,eZ s.owns (jU (Yp s m.n) (ef s m).1)⟩,Y5 m.n (ef s m).2++oR (Yp s m.n) (ef s m).1):=rfl
 rw[hn]
 unfold o9
 clear hn E H Q D I q1 q2 l1 l2
 generalize ef s m=hd at *
 have⟨r,wl⟩:=hd
 generalize Yp s m.n=o at *
 generalize (dB s m.n).isSome=ok at *
 generalize eS m.text=bt at *
 generalize fZ m.n=cq at *
 simp only[jW,ur] at u
 simp only[go_sem] at j p u
 have hF:F437.body=c437:=rfl
 refine aA h rfl ?_
 rw[hF,c437]
 cases ok with
 |true=>
  cases B:decide (m.kind=35) with
  |true=>
   cases bt with
   |false=>simp only[go_sem,j,B,R,Gx,GR,Gm,GL,G7,Gw,Gk]
   |true=>
    simp only[Gx,Gm,Gq,Bool.or_false,Gl,Gv]
    simp only[go_sem,j,B,R,p,y,z,u]
    exact U (by simp only[go_sem]) (by simp only[go_sem]) (by simp only[go_sem]) (by simp only[go_sem]) (by simp only[go_sem]) (by simp only[go_sem]) (by simp only[go_sem]) (by simp only[go_sem]) (by simp only[go_sem]) (by simp only[go_sem]) (by simp only[go_sem]) (by simp only[go_sem]) rfl
  |false=>
   simp only[Gx,Gm,Bool.or_false,Gl,Gv]
   simp only[go_sem,j,B,p,y,z,u]
   exact U (by simp only[go_sem]) (by simp only[go_sem]) (by simp only[go_sem]) (by simp only[go_sem]) (by simp only[go_sem]) (by simp only[go_sem]) (by simp only[go_sem]) (by simp only[go_sem]) (by simp only[go_sem]) (by simp only[go_sem]) (by simp only[go_sem]) (by simp only[go_sem]) rfl
 |false=>
  cases cq with
  |false=>simp only[go_sem,j,q,GR,GL,jm,Gw,Gk]
  |true=>
  cases B:decide (m.kind=35) with
  |true=>
   cases bt with
   |false=>simp only[go_sem,j,q,B,R,Gx,GR,Gq,GL,G7,Gw,Gk]
   |true=>
    cases J:decide (r.view=0) with
    |true=>simp only[go_sem,j,q,B,R,p,y,z,u,J,Gx,GR,Gq,GL,G7,Gl,Gv,Gw,Gk]
    |false=>
     simp only[Gx,Gq,Bool.or_false,Gl,Gv]
     simp only[go_sem,j,q,B,R,p,y,z,u,J]
     exact U (by simp only[go_sem]) (by simp only[go_sem]) (by simp only[go_sem]) (by simp only[go_sem]) (by simp only[go_sem]) (by simp only[go_sem]) (by simp only[go_sem]) (by simp only[go_sem]) (by simp only[go_sem]) (by simp only[go_sem]) (by simp only[go_sem]) (by simp only[go_sem]) rfl
  |false=>
   cases J:decide (r.view=0) with
   |true=>simp only[go_sem,j,q,B,p,y,z,u,J,Gx,GR,Gm,Gq,GL,Bool.or_false,Gl,Gv,Gw,Gk]
   |false=>
    simp only[Gx,Gm,Gq,Bool.or_false,Gl,Gv]
    simp only[go_sem,j,q,B,p,y,z,u,J]
    exact U (by simp only[go_sem]) (by simp only[go_sem]) (by simp only[go_sem]) (by simp only[go_sem]) (by simp only[go_sem]) (by simp only[go_sem]) (by simp only[go_sem]) (by simp only[go_sem]) (by simp only[go_sem]) (by simp only[go_sem]) (by simp only[go_sem]) (by simp only[go_sem]) rfl
def QA:List (Nat×Fn):=[(400,.code F400),(395,.code F395),(345,.code F345),(397,.code F397),(401,.code F401),(406,.code F406),(407,.code F407),(408,.code F408),(413,.code F413),(43,.code F43),(368,.code F368),(420,.code F420),(249,.code F249),(421,.codeR F421 0),(422,.codeR F422 0),(423,.codeR F423 0),(427,.code F427),(40,.code F40),(428,.code F428),(51,.code F51),(429,.code F429),(39,.code F39),(430,.code F430),(41,.code F41),(431,.code F431),(432,.code F432),(341,.code F341),(439,.code F439),(440,.code F440),(15,.code F15),(442,.code F442),(68,.code F68),(244,.code F244),(301,.code F301),(28,.code F28),(284,.code F284),(455,.code F455),(456,.code F456),(457,.codeR F457 0),(458,.codeR F458 0),(462,.code F462),(463,.code F463),(464,.codeR F464 0),(465,.codeR F465 0),(466,.codeR F466 0),(467,.codeR F467 0),(72,.code F72),(63,.code F63),(64,.code F64),(65,.code F65),(66,.code F66),(67,.code F67),(468,.code F468),(366,.code F366),(367,.code F367),(473,.code F473),(474,.code F474),(240,.code F240),(26,.code F26),(27,.code F27),(47,.code F47),(186,.code F186),(203,.code F203),(81,.code F81),(298,.code F298),(299,.code F299),(316,.code F316),(32,.code F32),(313,.code F313),(483,.code F483),(484,.code F484),(485,.code F485),(490,.code F490),(491,.code F491),(492,.codeR F492 0),(493,.codeR F493 0),(75,.code F75),(76,.code F76),(71,.code F71),(496,.code F496),(499,.code F499),(285,.code F285),(287,.code F287),(171,.code F171),(288,.code F288),(289,.code F289),(290,.code F290),(31,.code F31),(304,.code F304),(192,.code F192),(7,.code F7),(97,.code F97),(98,.code F98),(315,.code F315),(506,.code F506),(507,.code F507),(314,.code F314),(82,.code F82),(84,.code F84),(200,.code F200),(88,.code F88),(312,.code F312),(220,.code F220),(221,.code F221),(22,.code F22),(319,.code F319),(320,.code F320),(100,.code F100),(3,.code F3),(225,.code F225),(106,.code F106),(69,.prim (some 0) (bJ 1)),(497,.prim (some 0) (bJ 9)),(307,.prim (some 0) (bJ 17)),(170,.prim none mX),(102,.prim (some 0) (bJ 11)),(23,.prim (some 0) (bJ 5)),(227,.prim (some 0) (bJ 2))]
def bw {a:Nat} {b:Fn} {l:List (Nat×Fn)} (h1:Pg a=some b) (h2:∀x∈l,Pg x.1=some x.2):∀x∈(a,b)::l,Pg x.1=some x.2:=List.forall_mem_cons.2 ⟨h1,h2⟩
def ZX:yy (Jm (Ck QA) 60 400 [])=true:=by decide +kernel
def vm (Pg:PgT):Prop:=∀x∈QA,Pg x.1=some x.2
def H9 (h:vm Pg):K' Pg 400 []=some (.bool true):=by
 exact AR (Ka (Oc h) 60 _ _ _ (Wh ZX))
def zF:=HpC 294 F294<|HpA nN<|HpA lA<|il
def HP (h:zF Pg) (r:Rq):K' Pg 294 [.agg (lu r)]=some (.bool (df r)):=by
 have⟨h,u,o,p⟩:=h;have X:=cp p r.client;have Y:=cp p r.req;have H:=mD u r.at_;have kh:=kq o r.hi;have kk:=kq o r.key;simp only[Ye] at H;have T:decide (0<r.limit)=decide (1<=r.limit):=LA;have S:decide (0<r.kind)=decide (1<=r.kind):=LA;clear u o p;refine aA h rfl ?_;clear h;cases Z:Ym r.client with
 |false=>simp only[go_sem,df, *]
 |true=>
 cases c2:Ym r.req with
 |false=>simp only[go_sem,df, *]
 |true=>
 cases c5:decide (r.value.length<=16) with
 |false=>simp only[go_sem,df,eU, *]
 |true=>
 cases c6:decide (r.old.length<=16) with
 |false=>simp only[go_sem,df,eU, *]
 |true=>
 cases c9:Ya r.at_ with
 |false=>simp only[go_sem,df,eU, *]
 |true=>
 have E:∀b,(decide (r.hi=[])||aS r.hi)=b->(decide (r.hi=[])=true/\b=true)\/(decide (r.hi=[])=false/\aS r.hi=b):=fun b z=>by
  cases q:decide (r.hi=[]) with
  |true=>rw[q] at z;left;exact⟨rfl,by rw[<-z];rfl⟩
  |false=>rw[q] at z;right;exact⟨rfl,by rw[<-z];rfl⟩
 have w:(decide (r.hi=[])=true\/(decide (r.hi=[])=false/\aS r.hi=true))\/(decide (r.hi=[])=false/\aS r.hi=false):=by
  cases q:decide (r.hi=[])<;>cases q':aS r.hi<;>simp
 clear E;rcases w with (I|⟨I,B⟩)|⟨I,B⟩
 ·cases y:decide (r.kind=6) with
  |true=>
   have j:=Gc y;have O:decide (1<=r.kind)=true:=by rw[j];rfl
   have P:decide (r.kind<=6)=true:=by rw[j];rfl
   cases D:decide (1<=r.limit) with
   |false=>simp only[go_sem,df,eU,YS, *]
   |true=>
    have Q:decide (0<=r.limit)=true:=Gu (by have:=Gc D;omega);cases R:decide (r.limit<=8) with
    |false=>simp only[go_sem,df,eU,pU,YS, *]
    |true=>
     cases U:decide (r.key=[]) with
     |true=>simp only[go_sem,df,eU,pU,lY,YS, *]
     |false=>cases W:aS r.key<;>simp only[go_sem,df,eU,pU,lY,YS, *]
  |false=>
   have j:=Ga y;have N:decide (r.kind<6)=decide (r.kind<=6):=GO.2 (by omega);cases c3:decide (1<=r.kind) with
   |false=>simp only[go_sem,df,eU,YS, *]
   |true=>
   cases J:decide (r.kind<=6) with
   |false=>simp only[go_sem,df,eU,YS, *]
   |true=>
   cases L:decide (0<=r.limit) with
   |false=>simp only[go_sem,df,eU,YS, *]
   |true=>
   cases M:decide (r.limit<=8) with
   |false=>simp only[go_sem,df,eU,pU,YS, *]
   |true=>
   simp only[go_sem,df,eU,pU,YS, *]
 ·cases y:decide (r.kind=6) with
  |true=>
   have j:=Gc y;have O:decide (1<=r.kind)=true:=by rw[j];rfl
   have P:decide (r.kind<=6)=true:=by rw[j];rfl
   cases D:decide (1<=r.limit) with
   |false=>simp only[go_sem,df,eU,YS, *]
   |true=>
    have Q:decide (0<=r.limit)=true:=Gu (by have:=Gc D;omega);cases R:decide (r.limit<=8) with
    |false=>simp only[go_sem,df,eU,pU,YS, *]
    |true=>
     cases U:decide (r.key=[]) with
     |true=>simp only[go_sem,df,eU,pU,lY,YS, *]
     |false=>cases W:aS r.key<;>simp only[go_sem,df,eU,pU,lY,YS, *]
  |false=>
   have j:=Ga y;have N:decide (r.kind<6)=decide (r.kind<=6):=GO.2 (by omega);cases c3:decide (1<=r.kind) with
   |false=>simp only[go_sem,df,eU,YS, *]
   |true=>
   cases J:decide (r.kind<=6) with
   |false=>simp only[go_sem,df,eU,YS, *]
   |true=>
   cases L:decide (0<=r.limit) with
   |false=>simp only[go_sem,df,eU,YS, *]
   |true=>
   cases M:decide (r.limit<=8) with
   |false=>simp only[go_sem,df,eU,pU,YS, *]
   |true=>
   simp only[go_sem,df,eU,pU,YS, *]
 ·simp only[go_sem,df,eU,YS, *]
def zM:=HpZ 320 F320
def By (h:zM Pg) (s:aM) (n:Int):K' Pg 320 [.agg (Yg s),iz n]=some (iz (IntKind.i64.wrap (s.id-n))):=by
 refine aA h rfl ?_;simp only[go_sem]
def vh:=HpZ 319 F319
def HY (h:vh Pg) (l:List aM) (m:Int) (g:Nat) (f:Nat->Int) (n:Nat) (U:l.length<2^60)
  (H:∀i v,l[i]?=some v->K' Pg g [.agg (Yg v),iz m]=some (iz (f i))) (T:n<=l.length) (h1:∀j,j<n->f j<0) (Q:∀j,n<=j->j<l.length->0<=f j) :
  K' Pg 319 [Yw l,iz m,.func g []]=some (.tuple [iz n,.bool (decide (n<l.length)&&decide (f n=0))]):=by
 refine aA h rfl ?_
 simp only[Yg,Yf,Yb] at H
 simp only[go_sem]
 unfold l319_0
 refine bu (fun (p:Nat×Nat) S=>p.1<=n/\n<=p.2/\p.2<=l.length/\S.ρ 0=Yw l/\S.ρ 1=iz m/\S.ρ 2=.func g []/\S.ρ 8=iz l.length/\S.ρ 9=iz p.1/\S.ρ 10=iz p.2) (fun p=>p.2-p.1) (0,l.length) ?_ ?_
 ·simp[go_sem,T]
 ·intro⟨i,j⟩ S ⟨hi,J,z,h0,D,u,E,y,q⟩
  simp only at hi J z y q
  simp only[go_sem,y,q]
  refine aY (fun h=>?_) (fun h=>?_)
  ·simp only[Gj,GW] at h
   have L:IntKind.i64.wrap ((i:Int)+j)=(i:Int)+j:=bv (by omega) (by omega)
   have M:IntKind.u64.wrap ((i:Int)+j)=(i:Int)+j:=_root_.Go.IntWalk.u64_in _ ⟨by omega,by omega⟩
   have N:Int.fdiv ((i:Int)+j) 2=(((i+j) / 2:Nat):Int):=by
    rw[Dg _ (by omega)];omega
   have O:IntKind.i64.wrap ((((i+j) / 2:Nat):Int))=(((i+j) / 2:Nat):Int):=bv (by omega) (by omega)
   have P:IntKind.i64.wrap ((((i+j) / 2:Nat):Int)+1)=(((i+j) / 2+1:Nat):Int):=bv (by omega) (by omega)
   have⟨x,B,R⟩:=aZ (l:=l) (i:=(i+j) / 2) (by omega)
   have w:=H _ _ B
   simp only[go_sem,h0,D,u,y,q,L,M,N,O,B,w]
   refine aY (fun o=>?_) (fun o=>?_)
   ·simp only[go_sem,h0,D,u,E,q,P]
    have I:f ((i+j) / 2)<0:=by simpa using o
    refine⟨((i+j) / 2+1,j),by simp only;omega,?_,J,z,rfl,rfl⟩
    simp only
    rcases GF ((i+j) / 2) n with h'|h'
    ·exact h'
    ·have:=Q _ h' (by omega);omega
   ·simp only[go_sem,h0,D,u,E,y]
    have I:¬f ((i+j) / 2)<0:=by simpa using o
    refine⟨(i,(i+j) / 2),by simp only;omega,hi,?_,by simp only;omega,rfl,rfl⟩
    simp only
    rcases GF ((i+j) / 2) n with h'|h'
    ·exact absurd (h1 _ h') I
    ·exact h'
  ·simp only[Gs,GW] at h
   have:i=n:=by omega
   subst this
   simp only[go_sem,E,y]
   refine io (fun o=>?_) (fun o=>?_)
   ·simp only[Gj,GW] at o
    have⟨x,B,R⟩:=aZ o
    have w:=H _ _ B
    simp only[go_sem,h0,D,u,y,B,w,o,jS,GW]
   ·simp only[Gs,GW] at o
    simp only[go_sem,o,mu,GW]
def fY (l:List aM):Prop:=kN l/\l.length<=10000/\∀s∈l,1<=s.id/\s.id<=1099511627776
def lX {c:aP} (h:Yy c=true):fY c.shards:=by
 obtain⟨h1,-,-,j,o⟩:=Yv.1 h;exact⟨j,by omega,fun s p=>xX (o s p).2.1⟩
def rF:=HpC 314 F314<|HpA vh<|zM
def vU (h:rF Pg) (c:aP) (n:Int) (z:fY c.shards) (H:1<=n/\n<=1099511627776):K' Pg 314 [.agg (Yq c),iz n]=some (.tuple [iz (cY n c.shards),.bool (eB n c.shards)]):=by
 have⟨h,p,q⟩:=h;have⟨hi,E,B⟩:=z;have hw:∀s∈c.shards,IntKind.i64.wrap (s.id-n)=s.id-n:=fun s D=>by have:=B s D;exact bv (by omega) (by omega)
 have k:=HY p c.shards n 320 (fun i=>match c.shards[i]? with|none=>0|some s=>s.id-n) (cY n c.shards) (by omega) (fun i v y=>by
  simp only[y];rw[By q,hw v (List.mem_of_getElem? y)]) (CD _) (fun j u=>by
  obtain⟨x,o,-⟩:=aZ (G6 u (CD _));simp only[o];have:=PR u o;omega) (fun j u w=>by
  obtain⟨x,o,-⟩:=aZ w;simp only[o];have:=PQ hi u o;omega)
 have e:(decide (cY n c.shards<c.shards.length)&&decide ((match c.shards[cY n c.shards]? with|none=>0|some s=>s.id-n)=0))=eB n c.shards:=by
  unfold eB;cases o:c.shards[cY n c.shards]? with
  |none=>
   have:¬cY n c.shards<c.shards.length:=by have:=List.getElem?_eq_none_iff.1 o;omega
   simp[this]
  |some x=>
   have h1:=(List.getElem?_eq_some_iff.1 o).1;simp only[h1,jS,Gy];exact GO.2 (by omega)
 rw[e] at k;simp only[Yw] at k;refine aA h rfl ?_;simp only[go_sem,k]
def jp:=HpC 287 F287 rF
def ju (h:jp Pg) (c:aP) (n:Int) (p:fY c.shards) (u:1<=n/\n<=1099511627776):K' Pg 287 [.agg (Yq c),iz n]=some (.agg (Yg ((Y3 c.shards n).getD Yk))):=by
 have⟨h,j⟩:=h;have k:=vU j c n p u;simp only[Yq,Yw] at k;rw[Lf p.1];refine aA h rfl ?_;cases q:eB n c.shards with
 |false=>simp only[go_sem,k,q,Yk,Option.getD_none]
 |true=>
  have o:∃x,c.shards[cY n c.shards]?=some x:=by
   unfold eB at q;split at q
   ·simp at q
   ·rename_i x o;exact⟨x,o⟩
  have⟨x,o⟩:=o;simp only[go_sem,k,q,o,Yk,Option.getD_some]
def iN:=HpZ 248 F248
def eY (h:iN Pg) (c:aP) (n:Int) (z:c.shards.length<=10000):K' Pg 248 [.agg (Yq c),iz n]=some (.agg (Yg ((Y3 c.shards n).getD Yk))):=by
 refine aA h rfl ?_;simp only[go_sem];unfold l248_0;refine bu (fun (i:Nat) S=>i<=c.shards.length/\S.ρ 1=iz n/\S.ρ 2=.lref 2 0/\S.μ 2=some (Yq c,false)/\S.ρ 4=.lref 4 0/\S.μ 4=some (Yg Yk,false)/\S.ρ 5=iz i/\Y3 (c.shards.drop i) n=Y3 c.shards n) (fun i=>c.shards.length-i) 0 ?_ ?_
 ·simp[go_sem,Yk]
 ·intro i S ⟨hi,h1,o,m2,u,m4,p,j⟩;simp only[go_sem,o,m2,p];refine aY (fun h=>?_) (fun h=>?_)
  ·have h:=Yj h;have⟨x,w,y⟩:=aZ h;rw[y] at j;simp only[Y3,List.find?_cons] at j;simp only[go_sem,h1,o,m2,p,w];cases q:decide (x.id=n) with
   |true=>
    rw[q] at j;simp only at j;simp only[go_sem,o,m2,u,m4,p,w,Y3,<-j,Option.getD_some]
   |false=>
    rw[q] at j;simp only at j;simp only[go_sem,h1,o,m2,u,m4,p];exact⟨i+1,by omega,by omega,by rw[Yn h (by omega)],j⟩
  ·have h:=YC hi h;subst h;rw[GQ] at j;have j:none=Y3 c.shards n:=j;simp only[go_sem,u,m4,<-j,Option.getD_none,Yk]
def jq:=HpZ 297 F297
def fX (h:jq Pg) (c:aP) (s:aM) (b:Bool) (N:c.shards.length<=10000):K' Pg 297 [.agg (Yq c),.agg (Yg s),.bool b]=some (.agg (Yq ⟨qU s c.shards b,c.top,c.dropped⟩)):=by
 refine aA h rfl ?_;simp only[go_sem];unfold l297_0;refine bu (fun (x:Nat×Bool×List aM) S=>(x.1<=c.shards.length/\x.2.2.length<=2*x.1)/\S.ρ 3=.lref 3 0/\S.μ 3=some (Yq c,false)/\S.ρ 4=.lref 4 0/\S.μ 4=some (Yg s,false)/\S.ρ 6=.lref 6 0/\S.μ 6=some ([.slice 17 [],iz 0,iz 0,iz 0,iz 0],false)/\S.A 7=some (17,x.2.2.map Yg,.live)/\S.ρ 7=.own 7 17 x.2.2.length/\S.ρ 8=.bool x.2.1/\S.ρ 9=iz x.1/\x.2.2++qU s (c.shards.drop x.1) x.2.1=qU s c.shards b) (fun x=>c.shards.length-x.1) (0,b,[]) ?_ ?_
 ·simp[go_sem]
 ·rintro⟨i,put,out⟩ S ⟨⟨hi,L⟩,w,m3,E,m4,B,m6,u,y,z,D,j⟩;simp only at hi L u y z D j;simp only[go_sem,w,m3,D];refine aY (fun h=>?_) (fun h=>?_)
  ·have h:=Yj h;have⟨x,J,M⟩:=aZ h;have o:IntKind.i64.wrap ((i:Int)+1)=((i+1:Nat):Int):=Yn h (by omega);have p:out.length+1<=aU:=by simp only[aU];omega
   have H:out.length+1+1<=aU:=by simp only[aU];omega
   rw[M] at j;simp only[qU] at j;cases q:put with
   |true=>
    rw[q] at j;simp only[Gx,Gm,Gl,Gv,jm,List.nil_append] at j;cases c3:decide (x.id=s.id) with
    |true=>
     rw[c3] at j;simp only[Gw,List.nil_append] at j;simp only[go_sem,w,m3,E,m4,B,m6,u,y,z,D,J,q,c3];exact⟨(i+1,true,out),by simp only;omega,⟨by simp only;omega,by simp only;omega⟩,rfl,rfl,rfl,by simp only[o],j⟩
    |false=>
     rw[c3] at j;simp only[Gl,Gv] at j;simp only[go_sem,w,m3,E,m4,B,m6,u,y,z,D,J,q,c3,p];exact⟨(i+1,true,out++[x]),by simp only;omega,⟨by simp only;omega,by simp;omega⟩,by simp[Yg,Yf,Yb],by simp,rfl,by simp only[o],by simpa using j⟩
   |false=>
    rw[q] at j;simp only[GR,Gy,G7] at j;cases I:decide (s.id<=x.id) with
    |false=>
     rw[I] at j;simp only[Gl,Gv,List.nil_append] at j;cases c3:decide (x.id=s.id) with
     |true=>
      rw[c3] at j;simp only[Gw,List.nil_append] at j;simp only[go_sem,w,m3,E,m4,B,m6,u,y,z,D,J,q,I,c3];exact⟨(i+1,false,out),by simp only;omega,⟨by simp only;omega,by simp only;omega⟩,rfl,rfl,rfl,by simp only[o],j⟩
     |false=>
      rw[c3] at j;simp only[Gl,Gv] at j;simp only[go_sem,w,m3,E,m4,B,m6,u,y,z,D,J,q,I,c3,p];exact⟨(i+1,false,out++[x]),by simp only;omega,⟨by simp only;omega,by simp;omega⟩,by simp[Yg,Yf,Yb],by simp,rfl,by simp only[o],by simpa using j⟩
    |true=>
     rw[I] at j;simp only[Gw] at j;cases c3:decide (x.id=s.id) with
     |true=>
      rw[c3] at j;simp only[Gw,List.nil_append] at j;simp only[go_sem,w,m3,E,m4,B,m6,u,y,z,D,J,q,I,c3,p];exact⟨(i+1,true,out++[s]),by simp only;omega,⟨by simp only;omega,by simp;omega⟩,by simp[Yg,Yf,Yb],by simp,rfl,by simp only[o],by simpa using j⟩
     |false=>
      rw[c3] at j;simp only[Gl,Gv] at j;simp only[go_sem,w,m3,E,m4,B,m6,u,y,z,D,J,q,I,c3,p,H];exact⟨(i+1,true,out++[s]++[x]),by simp only;omega,⟨by simp only;omega,by simp;omega⟩,by simp[Yg,Yf,Yb],by simp,rfl,by simp only[o],by simpa using j⟩
  ·have h:=YC hi h;subst h;rw[GQ] at j;simp only[qU] at j;have p:out.length+1<=aU:=by simp only[aU];omega
   cases q:put with
   |true=>
    rw[q] at j;simp only[Gw,GD] at j;simp only[go_sem,w,m3,B,m6,u,y,z,q,<-j]
   |false=>
    rw[q] at j;simp only[Gl,Gv] at j;simp only[go_sem,w,m3,E,m4,B,m6,u,y,z,q,p,<-j,Gz]
def Wu {t:List aH} {d:aH} (h:(dQ t d).2=0):YA t=true/\cm d=true/\(dQ t d).1=fF t d/\YA (fF t d)=true/\eV t d.client<d.req:=by
 by_cases p:YA t=true/\cm d=true
 ·have⟨o,j⟩:=p;rw[Om o j] at h ⊢;have h0:0<d.client:=by simp only[cm,Ym,Ge,Gj] at j;omega
  split at h
  ·simp at h
  ·split at h
   ·simp at h
   ·rename_i h1 q;refine⟨o,j,by rw[Gn h1,Gn q],?_,by omega⟩;simp only[YA,Lv j (sE o).1 h0,Gy,Gj];omega
 ·have:dQ t d=([],1):=by
   simp only[dQ];rw[Gn (by simpa [Ge] using p)]
  rw[this] at h;simp at h
def VS {a b:List aH} (h:(YX a b).2=0):YA a=true/\YA b=true/\(YX a b).1=YE a b/\YA (YE a b)=true:=by
 simp only[YX] at h ⊢;split at h
 ·rename_i j;simp only[Ge] at j;split at h
  ·simp at h
  ·rename_i o;refine⟨j.1,j.2,by rw[Gt (by simp[j.1,j.2]),Gn o],?_⟩;simp only[YA,ww a b 0 (sE j.1).1 (sE j.2).1,Gy,Gj];omega
 ·simp at h
end Sg
