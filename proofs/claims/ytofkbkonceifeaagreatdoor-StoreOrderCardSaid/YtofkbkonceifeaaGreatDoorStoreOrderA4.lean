/- StoreOrder, at every input: proved over a checked abstract run of the translated code; no condition. A part. -/
import Derived.Test.YtofkbkonceifeaaGreatDoorStoreOrderA3
set_option linter.unusedSimpArgs false
set_option linter.unusedVariables false
set_option linter.constructorNameAsVariable false
set_option linter.defProp false
set_option maxRecDepth 100000
set_option maxHeartbeats 2000000
namespace Sg
open _root_.Go (IntKind BinOp UnOp)
variable {Pg:PgT}
def eTk (e:Int):Option (Nat×List UInt8)→V
 |some (n,r)=>.tuple [iz n,.str r,iz 0]
 |none=>.tuple [iz 0,.str [],iz e]
def Yfm (e:Int):Option (List UInt8×List UInt8)→V
 |some (n,r)=>.tuple [.str n,.str r,iz 0]
 |none=>.tuple [.str [],.str [],iz e]
def Yfl (e:Int):Option (Bool×List UInt8)→V
 |some (n,r)=>.tuple [.bool n,.str r,iz 0]
 |none=>.tuple [.bool false,.str [],iz e]
theorem and127 (b:UInt8):IntKind.u8.wrap ((BitVec.ofInt 8 (b.toNat:Int) &&& BitVec.ofInt 8 127).toNat:Int)=((b.toNat % 128:Nat):Int):=by
 have key:∀x:Fin 256,IntKind.u8.wrap ((BitVec.ofInt 8 ((x.1:Nat):Int) &&& BitVec.ofInt 8 127).toNat:Int)=((x.1 % 128:Nat):Int):=by decide
 exact key ⟨b.toNat,b.toNat_lt⟩
theorem Yky (b:UInt8):Ja0 .and .u8 (b.toNat:Int) 127=some (.int .u8 ((b.toNat % 128:Nat):Int)):=Gaz (fun x=>some (V.int .u8 x)) (and127 b)
theorem or_sh {acc d i:Nat} (ha:acc<128 ^ i) (hd:d<128) (hi:i≤8) :
  IntKind.i64.wrap ((BitVec.ofInt 64 (acc:Int) ||| BitVec.ofInt 64 (IntKind.i64.wrap ((d:Int)*2 ^ min (7*i) 64))).toNat:Int)=((acc+128 ^ i*d:Nat):Int):=by
 have hp:(128:Nat) ^ i=2 ^ (7*i):=by rw[Nat.pow_mul]
 have hle:(2:Nat) ^ (7*i)≤2 ^ 56:=Nat.pow_le_pow_right (by omega) (by omega)
 have hmul:2 ^ (7*i)*d<2 ^ 63:=by
  have:2 ^ (7*i)*d≤2 ^ 56*127:=Nat.mul_le_mul hle (by omega);omega
 rw[hp] at ha ⊢
 have e1:((d:Int)*2 ^ min (7*i) 64)=((2 ^ (7*i)*d:Nat):Int):=by
  rw[GaB (by omega)];simp[Int.mul_comm]
 have e3:IntKind.i64.wrap ((2 ^ (7*i)*d:Nat):Int)=((2 ^ (7*i)*d:Nat):Int):=JiG (by omega) (by omega)
 rw[e1,e3]
 have e2:∀m:Nat,m<2 ^ 63→BitVec.ofInt 64 (m:Int)=BitVec.ofNat 64 m:=fun m hm=>by simp
 rw[e2 _ (by omega),e2 _ hmul,BitVec.toNat_or,BitVec.toNat_ofNat,BitVec.toNat_ofNat,Nat.mod_eq_of_lt (by omega),Nat.mod_eq_of_lt (by omega),Nat.or_comm,←Nat.two_pow_add_eq_or_of_lt ha,Nat.add_comm]
 have hsum:acc+2 ^ (7*i)*d<2 ^ 63:=by
  have h1:2 ^ (7*i)*d+2 ^ (7*i)≤2 ^ (7*i)*128:=by
   have:=Nat.mul_le_mul (Gt (2 ^ (7*i))) (show d+1≤128 by omega);rw[Nat.mul_add] at this;omega
  omega
 rw[JiG (by omega) (by omega)]
theorem YlO {acc d i:Nat} (ha:acc<128 ^ i) (hd:d<128) (hi:i≤8):Ja0 .or .i64 (acc:Int) (IntKind.i64.wrap ((d:Int)*2 ^ min (7*i) 64))=some (iz ((acc+128 ^ i*d:Nat):Int)):=
 Gaz (fun x=>some (V.int .i64 x)) (or_sh ha hd hi)
def H505 (Pg:PgT):Prop:=Pg 505=some (.code F505)
theorem K505 (h:H505 Pg) (s:List UInt8) (hs:s.length<2 ^ 62):∃e:Int,e≠0∧K' Pg 505 [.str s]=some (iz e):=by
 have key:K' Pg 505 [.str s]=some (iz (if s.any (fun b=>decide (b.toNat<128)) then 3 else 2)):=by
  refine Qb h rfl ?_;simp only[F505,c505,go_sem];unfold l505_0;refine JiJ (fun (i:Nat) S=>i≤s.length∧S.ρ 0=.str s∧S.ρ 5=iz s.length∧S.ρ 6=iz i∧∀b∈s.take i,¬b.toNat<128) (fun i=>s.length-i) 0 ?_ ?_
  ·exact⟨GE _,rfl,rfl,rfl,fun b hb=>by simp at hb⟩
  ·intro i S ⟨hi,s0,s5,s6,hpre⟩;cases c1:decide ((i:Int)<(s.length:Int)) with
   |false=>
    have:i=s.length:=by have:=Gb c1;omega
    subst this;rw[GM] at hpre;have:s.any (fun b=>decide (b.toNat<128))=false:=by
     rw[List.any_eq_false];intro b hb;simpa using hpre b hb
    simp only[go_sem,s5,s6,c1,this]
   |true=>
    have hlt:=Yj c1;obtain⟨b,hb,-⟩:=Jiq hlt;have hinc:=inc64q (i:=i) (by omega)
    cases c2:decide ((b.toNat:Int)<128) with
    |true=>
     have:s.any (fun b=>decide (b.toNat<128))=true:=List.any_eq_true.2 ⟨b,List.mem_of_getElem? hb,GD (by have:=Gg c2;omega)⟩;simp only[go_sem,s0,s5,s6,c1,hb,c2,this]
    |false=>
     simp only[go_sem,s0,s5,s6,c1,hb,c2,hinc];refine⟨i+1,by omega,by omega,rfl,fun x hx=>?_⟩;rw[G8,hb] at hx;rcases GT.1 hx with hx|hx
     ·exact hpre x hx
     ·have:x=b:=by simpa using hx
      subst this;have:=Gb c2;omega
 refine⟨_,?_,key⟩;split<;>decide
def cnt (i acc:Nat) (o:Option (Nat×List UInt8)):Option (Nat×List UInt8):=o.bind fun q=>if 0<i∧q.1=0 then none else some (acc+128 ^ i*q.1,q.2)
theorem Ymi (o:Option (Nat×List UInt8)):cnt 0 0 o=o:=by cases o<;>simp[cnt]
theorem YjM {i acc k:Nat} {b:UInt8} {s:List UInt8} (hb:128≤b.toNat):cnt i acc (tk (k+1) (b::s))=cnt (i+1) (acc+128 ^ i*(b.toNat % 128)) (tk k s):=by
 have hb2:=b.toNat_lt;have hm:b.toNat % 128=b.toNat-128:=by omega
 simp only[tk,Gn (show ¬b.toNat<128 by omega),hm];cases tk k s with
 |none=>rfl
 |some q=>
  obtain⟨n,r⟩:=q;simp only[Option.bind_some,cnt];by_cases h0:n=0
  ·simp[h0]
  ·rw[Gn h0];simp only[Option.bind_some];rw[Gn (by omega),Gn (by omega)]
   congr 2
   rw[Nat.pow_succ,Nat.mul_add,Nat.mul_assoc];omega
def tkE (el:Int):Nat→List UInt8→Int
 |_,[]=>2
 |i,b::s=>if 8<i then (if 128≤b.toNat∨0<b.toNat % 128 then el else 3) else if 128≤b.toNat then tkE el (i+1) s else 3
theorem Yks {el:Int} (hel:el≠0):∀{i:Nat} {s:List UInt8},tkE el i s≠0
 |_,[]=>by simp[tkE]
 |i,b::s=>by
  simp only[tkE];split
  ·split
   ·exact hel
   ·decide
  ·split
   ·exact Yks hel
   ·decide
def H491 (Pg:PgT):Prop:=Pg 491=some (.code F491)∧H505 Pg
theorem K491 (h:H491 Pg) (s:List UInt8) (hs:s.length<2 ^ 62):∃e:Int,e≠0∧K' Pg 491 [.str s]=some (eTk e (tk 9 s)):=by
 obtain⟨h,h505⟩:=h;obtain⟨el,hel,k505⟩:=K505 h505 s hs;refine⟨tkE el 0 s,Yks hel,?_⟩;refine Qb h rfl ?_;simp only[F491,c491,go_sem];have and127:=Yky;simp only[go_sem,Ga,V.int.injEq,true_and] at and127;unfold l491_0;refine JiJ (fun (i:Nat) S=>i≤s.length∧i≤9∧S.ρ 0=.str s∧S.ρ 9=iz s.length∧S.ρ 10=iz i∧∃acc:Nat,acc<128 ^ i∧S.ρ 5=iz acc∧tk 9 s=cnt i acc (tk (9-i) (s.drop i))∧tkE el 0 s=tkE el i (s.drop i)) (fun i=>s.length-i) 0 ?_ ?_
 ·exact⟨GE _,GE _,rfl,rfl,rfl,0,by decide,rfl,(Ymi _).symm,rfl⟩
 ·intro i S ⟨hi,hi9,s0,s9,s10,acc,hacc,s5,htk,hte⟩;cases c1:decide ((i:Int)<(s.length:Int)) with
  |false=>
   have:i=s.length:=by have:=Gb c1;omega
   subst this;rw[GW] at htk hte;have hval:eTk (tkE el 0 s) (tk 9 s)=.tuple [iz 0,.str [],iz 2]:=by rw[htk,hte];cases 9-s.length<;>rfl
   simp only[go_sem,s9,s10,c1,hval]
  |true=>
   have hlt:=Yj c1;obtain⟨b,hb,hdr⟩:=Jiq hlt;rw[hdr] at htk hte;have hinc:=inc64q (i:=i) (by omega)
   have hmul:IntKind.i64.wrap (7*(i:Int))=((7*i:Nat):Int):=by rw[JiG (by omega) (by omega)];omega
   have hw7:IntKind.i64.wrap ((b.toNat % 128:Nat):Int)=((b.toNat % 128:Nat):Int):=JiG (by omega) (by omega);have hb2:=b.toNat_lt;cases c2:decide ((8:Int)<i) with
   |true=>
    have h9:i=9:=by have:=Gg c2;omega
    have e1:tk 9 s=none:=by rw[htk,show 9-i=0 by omega];rfl
    have e2:tkE el 0 s=if 128≤b.toNat∨0<b.toNat % 128 then el else 3:=by rw[hte];simp only[tkE];rw[Gr (by omega)]
    cases c3:decide ((128:Int)≤(b.toNat:Int)) with
    |true=>
     have hval:eTk (tkE el 0 s) (tk 9 s)=.tuple [iz 0,.str [],iz el]:=by rw[e1,e2,Gr (.inl (by have:=Gg c3;omega))];rfl
     simp only[go_sem,s0,s9,s10,c1,c2,c3,hb,and127,hw7,k505,hval]
    |false=>
    cases c4:decide ((0:Int)<((b.toNat % 128:Nat):Int)) with
    |true=>
     have hval:eTk (tkE el 0 s) (tk 9 s)=.tuple [iz 0,.str [],iz el]:=by rw[e1,e2,Gr (.inr (by have:=Gg c4;omega))];rfl
     simp only[go_sem,s0,s9,s10,c1,c2,c3,c4,hb,and127,hw7,k505,hval]
    |false=>
     have c5:decide (((b.toNat % 128:Nat):Int)=0)=true:=GD (by have:=Gb c4;omega);have c6:decide ((0:Int)<(i:Int))=true:=GD (by omega);have hval:eTk (tkE el 0 s) (tk 9 s)=.tuple [iz 0,.str [],iz 3]:=by rw[e1,e2,Gn (by have:=Gb c4;have:=Gb c3;omega)];rfl
     simp only[go_sem,s0,s9,s10,c1,c2,c3,c4,c5,c6,hb,and127,hw7,hval]
   |false=>
    have h8:i≤8:=by have:=Gb c2;omega
    have hor:=YlO (acc:=acc) (d:=b.toNat % 128) (i:=i) hacc (by omega) h8;simp only[go_sem,Ga,V.int.injEq,true_and] at hor;have hsh:shV .shl (iz ((b.toNat % 128:Nat):Int)) (iz ((7*i:Nat):Int))=some (iz (IntKind.i64.wrap (((b.toNat % 128:Nat):Int)*2 ^ min (7*i) 64))):=by
     simp only[shV];rw[Gn (by omega)];rfl
    have hnext:acc+128 ^ i*(b.toNat % 128)<128 ^ (i+1):=by
     have:=Nat.mul_le_mul (Gt (128 ^ i)) (show b.toNat % 128+1≤128 by omega);rw[Nat.mul_add] at this;rw[Nat.pow_succ];omega
    cases c3:decide ((128:Int)≤(b.toNat:Int)) with
    |true=>
     have h128:128≤b.toNat:=by have:=Gg c3;omega
     rw[show 9-i=(8-i)+1 by omega,YjM h128,show 8-i=9-(i+1) by omega] at htk;simp only[tkE] at hte;rw[Gn (by omega),Gr h128] at hte;simp only[go_sem,s0,s5,s9,s10,c1,c2,c3,hb,and127,hw7,hmul,hsh,hor,hinc];exact⟨i+1,by omega,by omega,by omega,rfl,_,hnext,rfl,htk,hte⟩
    |false=>
     have h128:b.toNat<128:=by have:=Gb c3;omega
     have hmd:b.toNat % 128=b.toNat:=by omega
     have hle1:i+1≤s.length:=hlt;have e0:tk (9-i) (b::s.drop (i+1))=some (b.toNat,s.drop (i+1)):=by
      rw[show 9-i=(8-i)+1 by omega];simp only[tk];rw[Gr h128]
     rw[e0] at htk;simp only[tkE] at hte;rw[Gn (by omega),Gn (by omega)] at hte;cases c4:decide (((b.toNat % 128:Nat):Int)=0) with
     |true=>
      have h0:b.toNat=0:=by have:=Gg c4;omega
      cases c5:decide ((0:Int)<(i:Int)) with
      |true=>
       have hval:eTk (tkE el 0 s) (tk 9 s)=.tuple [iz 0,.str [],iz 3]:=by
        rw[htk,hte];simp only[cnt,Option.bind_some];rw[Gr ⟨by have:=Gg c5;omega,h0⟩];rfl
       simp only[go_sem,s0,s9,s10,c1,c2,c3,c4,c5,hb,and127,hw7,hval]
      |false=>
       have hval:eTk (tkE el 0 s) (tk 9 s)=.tuple [iz ((acc+128 ^ i*(b.toNat % 128):Nat):Int),.str (s.drop (i+1)),iz 0]:=by
        rw[htk];simp only[cnt,Option.bind_some];rw[Gn (by have:=Gb c5;omega),hmd];rfl
       simp only[go_sem,s0,s5,s9,s10,c1,c2,c3,c4,c5,hb,and127,hw7,hmul,hsh,hor,hinc,hle1,GM,hval]
     |false=>
      have hval:eTk (tkE el 0 s) (tk 9 s)=.tuple [iz ((acc+128 ^ i*(b.toNat % 128):Nat):Int),.str (s.drop (i+1)),iz 0]:=by
       rw[htk];simp only[cnt,Option.bind_some];rw[Gn (by have:=Gb c4;omega),hmd];rfl
      simp only[go_sem,s0,s5,s9,s10,c1,c2,c3,c4,hb,and127,hw7,hmul,hsh,hor,hinc,hle1,GM,hval]
def H506 (Pg:PgT):Prop:=Pg 506=some (.code F506)∧H491 Pg
theorem K506 (h:H506 Pg) (s:List UInt8) (hs:s.length<2 ^ 62):∃e:Int,e≠0∧K' Pg 506 [.str s]=some (Yfm e (tkT s)):=by
 obtain⟨h,h491⟩:=h;obtain⟨e,he,k⟩:=K491 h491 s hs;unfold tkT;cases hq:tk 9 s with
 |none=>
  rw[hq] at k;have hd:decide (e=0)=false:=Gp he;refine⟨e,he,Qb h rfl ?_⟩;simp only[eTk] at k;simp only[F506,c506,go_sem,k,hd,Option.bind_none,Yfm]
 |some q=>
  obtain⟨n,r⟩:=q;rw[hq] at k;simp only[eTk] at k;simp only[Option.bind_some];have hn:=Yls hq;cases c1:decide ((r.length:Int)<n) with
  |true=>
   refine⟨2,by decide,Qb h rfl ?_⟩;have h1:¬n≤r.length:=by have:=Gg c1;omega
   simp only[F506,c506,go_sem,k,c1,Gn h1,Yfm]
  |false=>
   refine⟨2,by decide,Qb h rfl ?_⟩;have h1:n≤r.length:=by have:=Gb c1;omega
   simp only[F506,c506,go_sem,k,c1,h1,Yfm,GM]
def H507 (Pg:PgT):Prop:=Pg 507=some (.code F507)
theorem K507 (h:H507 Pg) (s:List UInt8):∃e:Int,e≠0∧K' Pg 507 [.str s]=some (Yfl e (tkF s)):=by
 cases s with
 |nil=>
  refine⟨2,by decide,Qb h rfl ?_⟩;simp only[F507,c507,go_sem,tkF,Yfl]
 |cons b s=>
  have h0:Jc5 (.str (b::s)) (.int .i64 0)=some (.int .u8 b.toNat):=rfl;have hne:decide (b::s=[])=false:=rfl;have e1:decide ((b.toNat:Int)=1)=decide (b.toNat=1):=GZ.2 (by omega);have hl1:1≤s.length+1:=by omega
  have htl:List.take (s.length+1) (b::s)=b::s:=by simp
  refine⟨3,by decide,Qb h rfl ?_⟩;cases c1:decide ((1:Int)<b.toNat) with
  |true=>
   have h1:¬b.toNat≤1:=by have:=Gg c1;omega
   simp only[F507,c507,go_sem,c1,h0,tkF,Yfl,Gn h1]
  |false=>
   have h1:b.toNat≤1:=by have:=Gb c1;omega
   simp only[F507,c507,go_sem,c1,h0,e1,hl1,htl,tkF,Yfl,Gr h1,List.length_cons,List.drop_succ_cons,GaH]
def H470 (Pg:PgT):Prop:=Pg 470=some (.code F470)∧H487 Pg
theorem K470 (h:H470 Pg) (s:List UInt8) (hs:s.length<2 ^ 62):∃e:Int,e≠0∧K' Pg 470 [.str s]=some (eTk e (tk 9 s)):=by
 obtain⟨h,h487⟩:=h;by_cases hall:s.all fun b=>decide (128≤b.toNat)
 ·refine⟨2,by decide,Qb h rfl ?_⟩;have hval:eTk 2 (tk 9 s)=.tuple [iz 0,.str [],iz 2]:=by
   rw[tk_no fun b hb=>by
    rw[Gx] at hall;simpa using hall b (Gah hb)]
   rfl
  simp only[F470,c470,go_sem,hval];unfold l470_0;refine JiJ (fun (i:Nat) S=>i≤s.length∧S.ρ 0=.str s∧S.ρ 5=iz i) (fun i=>s.length-i) 0 ?_ ?_
  ·exact⟨GE _,rfl,rfl⟩
  ·intro i S ⟨hi,s0,s5⟩;cases c1:decide ((i:Int)<(s.length:Int)) with
   |false=>
    have c2:decide ((i:Int)=(s.length:Int))=true:=GD (by have:=Gb c1;omega);simp only[go_sem,s0,s5,c1,c2]
   |true=>
    have hlt:=Yj c1;obtain⟨b,hb,-⟩:=Jiq hlt;have hinc:=inc64q (i:=i) (by omega)
    have c2:decide ((128:Int)≤b.toNat)=true:=GD (by
     rw[Gx] at hall;have:=hall b (List.mem_of_getElem? hb);simp at this;omega)
    simp only[go_sem,s0,s5,c1,c2,hb,hinc];exact⟨i+1,by omega,by omega,rfl⟩
 ·obtain⟨l,c,r,hl,hc,rfl⟩:∃l c r,(∀b∈l,128≤b.toNat)∧c.toNat<128∧s=l++c::r:=by
   clear hs
   induction s with
   |nil=>simp at hall
   |cons b s ih=>
    by_cases hb:b.toNat<128
    ·exact⟨[],b,s,fun x hx=>by simp at hx,hb,rfl⟩
    ·obtain⟨l,c,r,h1,h2,h3⟩:=ih (fun h'=>hall (by simp only[List.all_cons,h',GU,Gi];omega));exact⟨b::l,c,r,fun x hx=>by
      rcases GI.1 hx with rfl|hx
      ·omega
      ·exact h1 x hx,h2,by rw[h3];rfl⟩
  have hat:(l++c::r)[l.length]?=some c:=by simp
  have hpos:∀i,i<l.length→∃b,(l++c::r)[i]?=some b∧b∈l:=fun i hi=>⟨l[i],by rw[List.getElem?_append_left hi];simp[hi],GaM hi⟩;have htk:(l++c::r).take (l.length+1)=l++[c]:=by
   rw[show l++c::r=(l++[c])++r by simp,List.take_append_of_le_length (by simp),Gaa (by simp)]
  have hdp:(l++c::r).drop (l.length+1)=r:=by
   rw[show l++c::r=(l++[c])++r by simp,List.drop_append_of_le_length (by simp),List.drop_of_length_le (by simp)];rfl
  have hlen:l.length<(l++c::r).length:=by simp
  rw[tk_end hl hc];refine⟨3,by decide,Qb h rfl ?_⟩;generalize hR:(if l.length+1≤9∧putB (val (l++[c]))=l++[c] then some (val (l++[c]),r) else none)=R;generalize hsv:l++c::r=s at *
  simp only[F470,c470,go_sem];unfold l470_0;refine JiJ (fun (i:Nat) S=>i≤l.length∧S.ρ 0=.str s∧S.ρ 5=iz i) (fun i=>l.length-i) 0 ?_ ?_
  ·exact⟨GE _,rfl,rfl⟩
  ·intro i S ⟨hi,s0,s5⟩;have c1:decide ((i:Int)<(s.length:Int))=true:=GD (by omega);have hlt:i<s.length:=by omega
   have hinc:=inc64q (i:=i) (by omega)
   by_cases hil:i<l.length
   ·obtain⟨b,hb,hbl⟩:=hpos i hil;have c2:decide ((128:Int)≤b.toNat)=true:=GD (by have:=hl b hbl;omega);simp only[go_sem,s0,s5,c1,c2,hb,hinc];exact⟨i+1,by omega,by omega,rfl⟩
   ·have hie:i=l.length:=by omega
    rw[←hie] at hat htk hdp;have c2:decide ((128:Int)≤c.toNat)=false:=Gp (by omega);have c3:decide ((i:Int)=(s.length:Int))=false:=Gp (by omega);cases c4:decide ((8:Int)<i) with
    |true=>
     rw[Gn (by have:=Gg c4;omega)] at hR;subst hR;simp only[go_sem,s0,s5,c1,c2,c3,c4,hat,eTk]
    |false=>
     have h8:i≤8:=by have:=Gb c4;omega
     simp only[go_sem,s0,s5,c1,c2,c3,c4,hat];have hv63:val (l++[c])<2 ^ 63:=by
      have h1:=Yiz (l++[c]);have h2:(128:Nat) ^ (l++[c]).length≤128 ^ 9:=Nat.pow_le_pow_right (by omega) (by simp;omega);have h3:(128:Nat) ^ 9=2 ^ 63:=by decide
      omega
     have k487:=K487 h487 (val (l++[c])) hv63;unfold l470_1;refine JiJ (fun (m:Nat) S=>m≤i+1∧S.ρ 0=.str s∧S.ρ 5=iz i∧S.ρ 7=iz ((m:Int)-1)∧S.ρ 6=iz (val ((l++[c]).drop m))) (fun m=>m) (i+1) ?_ ?_
     ·refine⟨Gt _,by simp only[go_sem,s0],by simp only[go_sem,s5],by simp only[go_sem];congr 1;omega,?_⟩;rw[List.drop_of_length_le (by simp;omega)];simp only[go_sem];rfl
     ·intro m S ⟨hm,s0,s5,s7,s6⟩;by_cases hm0:m=0
      ·have c6:decide ((0:Int)≤(m:Int)-1)=false:=Gp (by omega);rw[show (l++[c]).drop m=l++[c] by rw[hm0];rfl] at s6;have hle1:i+1≤s.length:=hlt;by_cases hp:putB (val (l++[c]))=l++[c]
       ·rw[Gr ⟨by omega,hp⟩] at hR;subst hR;have c7:decide (putB (val (l++[c]))=l++[c])=true:=GD hp;simp only[go_sem,s0,s5,s6,s7,c6,k487,hinc,hle1,htk,hdp,c7,eTk,GM]
       ·rw[Gn (fun h'=>hp h'.2)] at hR;subst hR;have c7:decide (putB (val (l++[c]))=l++[c])=false:=Gp hp;simp only[go_sem,s0,s5,s6,s7,c6,k487,hinc,hle1,htk,c7,eTk]
      ·obtain⟨j,rfl⟩:∃j,m=j+1:=⟨m-1,by omega⟩;have c6:decide ((0:Int)≤((j+1:Nat):Int)-1)=true:=GD (by omega);have hj:(((j+1:Nat):Int)-1)=(j:Int):=by omega
       rw[hj] at s7 c6;have hjs:j<s.length:=by omega
       obtain⟨b,hb',hdrop⟩:=Jiq (show j<(l++[c]).length by simp;omega);have hb:s[j]?=some b:=by rw[←hb',←htk,List.getElem?_take_of_lt (by omega)]
       have hvj:val ((l++[c]).drop j)<2 ^ 63:=by
        have h1:=Yiz ((l++[c]).drop j);have h2:(128:Nat) ^ ((l++[c]).drop j).length≤128 ^ 9:=Nat.pow_le_pow_right (by omega) (by simp;omega);have h3:(128:Nat) ^ 9=2 ^ 63:=by decide
        omega
       rw[hdrop] at hvj;simp only[val] at hvj;have hw1:IntKind.i64.wrap (128*((val ((l++[c]).drop (j+1)):Nat):Int))=((128*val ((l++[c]).drop (j+1)):Nat):Int):=by rw[JiG (by omega) (by omega)];omega
       have hbl:=b.toNat_lt;have hw2:IntKind.i64.wrap (b.toNat:Int)=(b.toNat:Int):=JiG (by omega) (by omega);have hmd:(b.toNat:Int).tmod 128=((b.toNat % 128:Nat):Int):=rfl;have hw3:IntKind.i64.wrap (((128*val ((l++[c]).drop (j+1)):Nat):Int)+((b.toNat % 128:Nat):Int))=((val ((l++[c]).drop j):Nat):Int):=by
        rw[JiG (by omega) (by omega),hdrop];simp only[val];omega
       have hdec:IntKind.i64.wrap ((j:Int)-1)=(j:Int)-1:=JiG (by omega) (by omega);simp only[go_sem,s0,s5,s6,s7,c6,hb,hw1,hw2,hw3,hmd,hdec];exact⟨j,by omega,by omega,rfl,rfl⟩
structure Stamp where
 wall:Int
 tick:Int
 node:Int
 deriving DecidableEq
structure Ver where
 at_:Stamp
 gone:Bool
 val:List UInt8
 deriving DecidableEq
@[go_sem] def Yd (s:Stamp):List V:=[iz s.wall,iz s.tick,iz s.node]
@[go_sem] def Yam (v:Ver):List V:=[iz v.at_.wall,iz v.at_.tick,iz v.at_.node,.bool v.gone,.str v.val]
def Ye (c:List Ver):V:=.slice 5 (c.map Yam)
def Ydi (a b:Int):Bool:=decide (0≤a)&&decide (a≤b)
def YfF (a b:Int):Int:=if a<b then -1 else if b<a then 1 else 0
def orI:List Int→Int
 |[]=>0
 |a::l=>if a=0 then orI l else a
def Ya (s:Stamp):Bool:=Ydi s.wall 1099511627776&&Ydi s.tick 1048576&&Ydi s.node 255
def Yb (a b:Stamp):Int:=orI [YfF a.wall b.wall,YfF a.tick b.tick,YfF a.node b.node]
def YS (v:Ver):Bool:=Ya v.at_&&decide (v.val.length≤16)&&(!v.gone||decide (v.val=[]))
def H32 (Pg:PgT):Prop:=Pg 32=some (.code F32)
theorem K32 (h:H32 Pg) (a b:Int):K' Pg 32 [iz a,iz b]=some (.bool (Ydi a b)):=by
 refine Qb h rfl ?_;simp only[go_sem];refine JiI (fun h=>?_) (fun h=>?_)<;>simp only[go_sem,h,Ydi]
def H31 (Pg:PgT):Prop:=Pg 31=some (.code F31)
theorem K31 (h:H31 Pg) (a:Int):K' Pg 31 [iz a]=some (.bool false):=by
 refine Qb h rfl ?_;simp only[go_sem]
def H26 (Pg:PgT):Prop:=Pg 26=some (.code F26)∧H31 Pg
theorem K26 (h:H26 Pg) (a b:Int):K' Pg 26 [iz a,iz b]=some (iz (YfF a b)):=by
 obtain⟨h,h31⟩:=h;refine Qb h rfl ?_;have k31:=fun x=>K31 h31 x;simp only[go_sem,k31]
 repeat' (refine JiK (fun h=>?_) (fun h=>?_)<;>simp only[go_sem])
 all_goals simp_all [YfF]
 omega
def H27 (Pg:PgT):Prop:=Pg 27=some (.code F27)
theorem K27 (h:H27 Pg) (l:List Int) (hl:l.length<2 ^ 60):K' Pg 27 [.slice 1 (l.map fun a=>[iz a])]=some (iz (orI l)):=by
 refine Qb h rfl ?_;simp only[go_sem];unfold l27_0;refine JiJ (fun (i:Nat) S=>i≤l.length∧S.ρ 3=iz 0∧S.ρ 6=.slice 1 (l.map fun a=>[iz a])∧S.ρ 7=iz l.length∧S.ρ 8=iz i∧orI (l.drop i)=orI l) (fun i=>l.length-i) 0 ?_ ?_
 ·simp[go_sem]
 ·intro i S ⟨hi,h3,h6,h7,h8,ho⟩;simp only[go_sem,h7,h8];refine JiK (fun h=>?_) (fun h=>?_)
  ·simp only[Gi,G0] at h;obtain⟨x,hx,hd⟩:=Jiq h;simp only[go_sem,h3,h6,h8,hx];refine JiK (fun h=>?_) (fun h=>?_)
   ·simp only[go_sem];simp only[GN,Gq] at h;rw[←ho,hd];simp[orI,h]
   ·simp only[go_sem,h3,h6,h7,h8];simp only[GaG,Gi] at h;refine⟨i+1,by omega,by omega,?_,by rw[←ho,hd];simp[orI,h]⟩;rw[JiG (by omega) (by omega)];rfl
  ·simp only[Gq,G0] at h;simp only[go_sem,h3];have:i=l.length:=by omega
   rw[←ho,this];simp[orI]
def H15 (Pg:PgT):Prop:=Pg 15=some (.code F15)∧H26 Pg∧H27 Pg
theorem K15 (h:H15 Pg) (a b:Stamp):K' Pg 15 [.agg (Yd a),.agg (Yd b)]=some (iz (Yb a b)):=by
 obtain⟨h,h26,h27⟩:=h;refine Qb h rfl ?_;have k26:=fun x y=>K26 h26 x y;have k27:=K27 h27 [YfF a.wall b.wall,YfF a.tick b.tick,YfF a.node b.node] (by simp);simp only[GC,Gk] at k27;simp only[go_sem,k26,k27,Yb]
def H28 (Pg:PgT):Prop:=Pg 28=some (.code F28)∧H32 Pg
theorem K28 (h:H28 Pg) (a:Stamp):K' Pg 28 [.agg (Yd a)]=some (.bool (Ya a)):=by
 obtain⟨h,h32⟩:=h;refine Qb h rfl ?_;have k:=fun x y=>K32 h32 x y;simp only[go_sem,k]
 repeat' (refine JiI (fun h=>?_) (fun h=>?_)<;>simp only[go_sem,h,k,Ya])
def H22 (Pg:PgT):Prop:=Pg 22=some (.code F22)∧H28 Pg
theorem K22 (h:H22 Pg) (a:Ver):K' Pg 22 [.agg (Yam a)]=some (.bool (YS a)):=by
 obtain⟨h,h28⟩:=h;refine Qb h rfl ?_;have k:=K28 h28 a.at_;simp only[Yd] at k;simp only[go_sem,k]
 repeat' (first|refine JiI (fun h=>?_) (fun h=>?_)<;>simp only[go_sem,h]|refine JiH (fun h=>?_) (fun h=>?_)<;>simp only[go_sem,h])
 all_goals simp_all [YS]
 all_goals omega
def chR:Option Ver→List Ver→Bool
 |_,[]=>true
 |p,v::l=>YS v&&(match p with|none=>true|some q=>decide (Yb q.at_ v.at_<0))&&chR (some v) l
def Yg (c:List Ver):Bool:=chR none c&&decide (c.length≤64)
def YbQ (c:List Ver) (i:Nat):Option Ver:=if i=0 then none else c[i-1]?
def H7 (Pg:PgT):Prop:=Pg 7=some (.code F7)∧H22 Pg∧H15 Pg
theorem K7 (h:H7 Pg) (l:List Ver) (hl:l.length<2 ^ 60):K' Pg 7 [Ye l]=some (.bool (Yg l)):=by
 obtain⟨h,h22,h15⟩:=h;refine Qb h rfl ?_;have k22:=fun x=>K22 h22 x;have k15:=fun x y=>K15 h15 x y;simp only[go_sem,Ye];unfold l7_0;refine JiJ (fun (i:Nat) S=>i≤l.length∧S.ρ 0=Ye l∧S.ρ 5=Ye l∧S.ρ 6=iz l.length∧S.ρ 7=iz i∧S.μ 4=none∧chR (YbQ l i) (l.drop i)=chR none l) (fun i=>l.length-i) 0 ?_ ?_
 ·simp[go_sem,Ye,YbQ]
 ·intro i S ⟨hi,h0,h5,h6,h7,hm,ho⟩;simp only[go_sem,h6,h7];refine JiK (fun h=>?_) (fun h=>?_)
  ·simp only[Gi,G0] at h;obtain⟨x,hx,hd⟩:=Jiq h;simp only[Yd,Yam] at k22 k15;have hstep:(YS x=true→chR (YbQ l i) (x::l.drop (i+1))=((match YbQ l i with|none=>true|some q=>decide (Yb q.at_ x.at_<0))&&chR (some x) (l.drop (i+1)))):=fun h=>by simp[chR,h]
   have hnext:YbQ l (i+1)=some x:=by simp[YbQ,hx]
   have hinc:IntKind.i64.wrap ((i:Int)+1)=((i+1:Nat):Int):=JiG (by omega) (by omega);have hbad:YS x=false→chR none l=false:=fun h=>by rw[←ho,hd];simp[chR,h]
   cases hv:YS x with
   |false=>simp only[go_sem,h5,h7,hx,Ye,hm,k22,hv,GY,Yg,hbad hv]
   |true=>
    rcases Gae i with hz|hz
    ·have hgt:decide ((0:Int)<(i:Int))=false:=by simp[hz]
     simp only[go_sem,h0,h5,h6,h7,hx,Ye,hm,k22,hv,GQ,hgt];refine⟨i+1,by omega,by omega,by rw[hinc],?_⟩;rw[hnext,←ho,hd,hstep hv];simp[YbQ,hz]
    ·have hgt:decide ((0:Int)<(i:Int))=true:=by simp[hz]
     have hdec:IntKind.i64.wrap ((i:Int)-1)=((i-1:Nat):Int):=by rw[JiG (by omega) (by omega)];omega
     have hy:l[i-1]?=some l[i-1]:=by simp
     have hp:YbQ l i=some l[i-1]:=by simp[YbQ,Nat.ne_of_gt hz]
     simp only[go_sem,h0,h5,h7,hx,Ye,hm,k22,hv,GQ,hgt,hdec,hy,k15];refine JiK (fun hc=>?_) (fun hc=>?_)
     ·simp only[go_sem];have:¬Yb l[i-1].at_ x.at_<0:=by simpa using hc
      have:chR none l=false:=by rw[←ho,hd,hstep hv,hp];simp[this]
      simp[Yg,this]
     ·simp only[go_sem,h0,h5,h6,h7,Ye];have:Yb l[i-1].at_ x.at_<0:=by simpa using hc
      refine⟨i+1,by omega,by omega,by rw[hinc],?_⟩;rw[hnext,←ho,hd,hstep hv,hp];simp[this]
  ·simp only[Gq,G0] at h;simp only[go_sem,h0,Ye];have:i=l.length:=by omega
   subst this;simp[chR] at ho;have:(decide ((l.length:Int)≤64))=decide (l.length≤64):=GZ.2 (by omega);simp[Yg,←ho,this]
def H30 (Pg:PgT):Prop:=Pg 30=some (.code F30)∧H15 Pg
theorem K30 (h:H30 Pg) (v:Ver) (s:Stamp):K' Pg 30 [.agg (Yam v),.agg (Yd s)]=some (iz (Yb v.at_ s)):=by
 obtain⟨h,h15⟩:=h;refine Qb h rfl ?_;have k15:=fun x y=>K15 h15 x y;simp only[Yd] at k15;simp only[go_sem,k15]
def H29 (Pg:PgT):Prop:=Pg 29=some (.code F29)
theorem K29 (h:H29 Pg) (l:List Ver) (s:Stamp) (g:Nat) (f:Nat→Int) (n:Nat) (hl:l.length<2 ^ 60)
  (hg:∀i v,l[i]?=some v→K' Pg g [.agg (Yam v),.agg (Yd s)]=some (iz (f i))) (hn:n≤l.length) (h1:∀j,j<n→f j<0) (h2:∀j,n≤j→j<l.length→0≤f j) :
  K' Pg 29 [Ye l,.agg (Yd s),.func g []]=some (.tuple [iz n,.bool (decide (n<l.length)&&decide (f n=0))]):=by
 refine Qb h rfl ?_
 simp only[Yd,Yam] at hg
 simp only[go_sem,Ye]
 unfold l29_0
 refine JiJ (fun (p:Nat×Nat) S=>p.1≤n∧n≤p.2∧p.2≤l.length∧S.ρ 0=Ye l∧S.ρ 2=.func g []∧S.ρ 4=.lref 4 0∧S.μ 4=some (Yd s,false)∧S.ρ 8=iz l.length∧S.ρ 9=iz p.1∧S.ρ 10=iz p.2) (fun p=>p.2-p.1) (0,l.length) ?_ ?_
 ·simp[go_sem,Ye,hn]
 ·intro⟨i,j⟩ S ⟨hi,hj,hjl,h0,h2',h4,hm,h8,h9,h10⟩
  simp only at hi hj hjl h9 h10
  simp only[go_sem,h9,h10]
  refine JiK (fun h=>?_) (fun h=>?_)
  ·simp only[Gi,G0] at h
   have e1:IntKind.i64.wrap ((i:Int)+j)=(i:Int)+j:=JiG (by omega) (by omega)
   have e2:IntKind.u64.wrap ((i:Int)+j)=(i:Int)+j:=_root_.Go.IntWalk.u64_in _ ⟨by omega,by omega⟩
   have e3:Int.fdiv ((i:Int)+j) 2=(((i+j) / 2:Nat):Int):=by
    rw[GaD _ (by omega)];omega
   have e4:IntKind.i64.wrap ((((i+j) / 2:Nat):Int))=(((i+j) / 2:Nat):Int):=JiG (by omega) (by omega)
   have e5:IntKind.i64.wrap ((((i+j) / 2:Nat):Int)+1)=(((i+j) / 2+1:Nat):Int):=JiG (by omega) (by omega)
   obtain⟨x,hx,hd⟩:=Jiq (l:=l) (i:=(i+j) / 2) (by omega)
   have hgx:=hg _ _ hx
   simp only[go_sem,h0,h2',h4,hm,h9,h10,e1,e2,e3,e4,hx,hgx,Ye]
   refine JiK (fun hc=>?_) (fun hc=>?_)
   ·simp only[go_sem,h0,h2',h4,hm,h8,h10,e5,Ye]
    have hf:f ((i+j) / 2)<0:=by simpa using hc
    refine⟨((i+j) / 2+1,j),by simp only;omega,?_,hj,hjl,rfl,rfl⟩
    simp only
    rcases GA ((i+j) / 2) n with h'|h'
    ·exact h'
    ·have:=h2 _ h' (by omega);omega
   ·simp only[go_sem,h0,h2',h4,hm,h8,h9,Ye]
    have hf:¬f ((i+j) / 2)<0:=by simpa using hc
    refine⟨(i,(i+j) / 2),by simp only;omega,hi,?_,by simp only;omega,rfl,rfl⟩
    simp only
    rcases GA ((i+j) / 2) n with h'|h'
    ·exact absurd (h1 _ h') hf
    ·exact h'
  ·simp only[Gq,G0] at h
   have:i=n:=by omega
   subst this
   simp only[go_sem,h8,h9,Ye]
   refine JiI (fun hc=>?_) (fun hc=>?_)
   ·simp only[Gi,G0] at hc
    obtain⟨x,hx,hd⟩:=Jiq hc
    have hgx:=hg _ _ hx
    simp only[go_sem,h0,h2',h4,hm,h9,hx,hgx,Ye,hc,GaN,G0]
   ·simp only[Gq,G0] at hc
    simp only[go_sem,hc,GaE,G0]
theorem Ybh {a b:Stamp}:Yb a b<0↔a.wall<b.wall∨(a.wall=b.wall∧(a.tick<b.tick∨(a.tick=b.tick∧a.node<b.node))):=by
 simp only[Yb,orI,YfF]
 repeat' split
 all_goals omega
theorem YcD {a b:Stamp}:Yb a b=0↔a.wall=b.wall∧a.tick=b.tick∧a.node=b.node:=by
 simp only[Yb,orI,YfF]
 repeat' split
 all_goals omega
theorem Ydy {a b:Stamp}:0<Yb a b↔b.wall<a.wall∨(b.wall=a.wall∧(b.tick<a.tick∨(b.tick=a.tick∧b.node<a.node))):=by
 simp only[Yb,orI,YfF]
 repeat' split
 all_goals omega
def upC (s:Stamp):List Ver→Nat
 |[]=>0
 |v::l=>if Yb v.at_ s≤0 then upC s l+1 else 0
theorem Ydj {p:Option Ver} {v:Ver} {l:List Ver} (h:chR p (v::l)=true):chR (some v) l=true:=by
 simp only[chR,Gc] at h;exact h.2
theorem Yg2 {p v:Ver} {l:List Ver} (h:chR (some p) l=true) (hv:v∈l):Yb p.at_ v.at_<0:=by
 induction l generalizing p with
 |nil=>simp at hv
 |cons w l ih=>
  simp only[chR,Gc,Gi] at h;rcases GI.1 hv with rfl|hv
  ·exact h.1.2
  ·have h2:=ih h.2 hv;have h1:=h.1.2;rw[Ybh] at h1 h2 ⊢;omega
theorem Yc7 (s:Stamp) (c:List Ver):upC s c≤c.length:=by
 induction c with
 |nil=>simp[upC]
 |cons v l ih=>simp only[upC];split<;>simp<;>omega
theorem Yhv {s:Stamp}:∀{c:List Ver} {j:Nat} {v:Ver},j<upC s c→c[j]?=some v→Yb v.at_ s≤0
 |[],j,v,h,_=>by simp[upC] at h
 |w::l,j,v,h,hv=>by
  simp only[upC] at h;split at h
  ·cases j with
   |zero=>simp at hv;subst hv;assumption
   |succ j=>exact Yhv (c:=l) (j:=j) (by omega) (by simpa using hv)
  ·omega
theorem Yhu {s:Stamp}:∀{c:List Ver} {p:Option Ver} {j:Nat} {v:Ver},chR p c=true→upC s c≤j→c[j]?=some v→0<Yb v.at_ s
 |[],p,j,v,_,_,hv=>by simp at hv
 |w::l,p,j,v,hc,h,hv=>by
  have ht:=Ydj hc;simp only[upC] at h;split at h
  ·cases j with
   |zero=>omega
   |succ j=>exact Yhu (c:=l) (j:=j) ht (by omega) (by simpa using hv)
  ·rename_i hw;cases j with
   |zero=>simp at hv;subst hv;omega
   |succ j=>
    have:v∈l:=List.mem_of_getElem? (by simpa using hv);have h1:=Yg2 ht this;have h2:0<Yb w.at_ s:=by omega
    rw[Ydy] at h2 ⊢;rw[Ybh] at h1;omega
theorem Yeb:∀{c:List Ver} {p:Option Ver} {i j:Nat} {v w:Ver},chR p c=true→i<j→c[i]?=some v→c[j]?=some w→Yb v.at_ w.at_<0
 |[],_,i,j,v,w,_,_,hv,_=>by simp at hv
 |x::l,p,i,j,v,w,hc,hij,hv,hw=>by
  cases j with
  |zero=>omega
  |succ j=>
   cases i with
   |zero=>
    simp at hv hw;subst hv;exact Yg2 (Ydj hc) (List.mem_of_getElem? hw)
   |succ i=>exact Yeb (c:=l) (i:=i) (j:=j) (Ydj hc) (by omega) (by simpa using hv) (by simpa using hw)
def H25 (Pg:PgT):Prop:=Pg 25=some (.code F25)∧H29 Pg∧H30 Pg
theorem K25 (h:H25 Pg) (l:List Ver) (s:Stamp) (hl:l.length<2 ^ 60) (hr:chR none l=true):K' Pg 25 [Ye l,.agg (Yd s)]=some (iz (upC s l)):=by
 obtain⟨h,h29,h30⟩:=h;refine Qb h rfl ?_
 let f:Nat→Int:=fun j=>match l[j]? with|some v=>Yb v.at_ s|none=>0
 have hf:∀j v,l[j]?=some v→f j=Yb v.at_ s:=fun j v hv=>by simp[f,hv]
 let n:=if upC s l≠0∧f (upC s l-1)=0 then upC s l-1 else upC s l
 have hle:=Yc7 s l;have hn:n≤l.length:=by simp only[n];split<;>omega
 have get:∀j,j<l.length→∃v,l[j]?=some v:=fun j hj=>⟨l[j],by simp[hj]⟩;have h1:∀j,j<n→f j<0:=fun j hj=>by
  obtain⟨v,hv⟩:=get j (by omega);rw[hf j v hv];by_cases hc:upC s l≠0∧f (upC s l-1)=0
  ·have:n=upC s l-1:=Gr hc;obtain⟨w,hw⟩:=get (upC s l-1) (by omega);have h3:=hc.2;rw[hf _ _ hw,YcD] at h3;have h4:=Yeb (p:=none) hr (by omega:j<upC s l-1) hv hw;rw[Ybh] at h4 ⊢;omega
  ·have hn':n=upC s l:=Gn hc;have h3:=Yhv (s:=s) (by omega:j<upC s l) hv;rcases GA j (upC s l-1) with h5|h5
   ·obtain⟨w,hw⟩:=get (upC s l-1) (by omega);have h4:=Yeb (p:=none) hr h5 hv hw;have h6:=Yhv (s:=s) (by omega:upC s l-1<upC s l) hw;have h7:Yb w.at_ s<0∨Yb w.at_ s=0:=by omega
    rw[Ybh,YcD] at h7;rw[Ybh] at h4 ⊢;omega
   ·have:j=upC s l-1:=by omega
    subst this;have:Yb v.at_ s≠0:=fun e=>hc ⟨by omega,by rw[hf _ _ hv];exact e⟩;omega
 have h2:∀j,n≤j→j<l.length→0≤f j:=fun j hj hjl=>by
  obtain⟨v,hv⟩:=get j hjl;rw[hf j v hv];rcases GA j (upC s l) with h3|h3
  ·have hc:upC s l≠0∧f (upC s l-1)=0:=by
    by_cases hc:upC s l≠0∧f (upC s l-1)=0
    ·exact hc
    ·have:n=upC s l:=Gn hc;omega
   have:n=upC s l-1:=Gr hc;have:j=upC s l-1:=by omega
   subst this;have:=hc.2;rw[hf _ _ hv] at this;omega
  ·have:=Yhu hr h3 hv;omega
 have k29:=K29 h29 l s 30 f n hl (fun i v hv=>by rw[hf i v hv];exact K30 h30 v s) hn h1 h2;simp only[Yd,Ye] at k29;simp only[go_sem,Ye,k29];have hfin:(decide (n<l.length)&&decide (f n=0))=decide (upC s l≠0∧f (upC s l-1)=0):=by
  by_cases hc:upC s l≠0∧f (upC s l-1)=0
  ·have:n=upC s l-1:=Gr hc;have h5:upC s l-1<l.length:=by have:=hc.1;omega
   rw[GD hc,this,GD h5,GD hc.2];rfl
  ·have hn':n=upC s l:=Gn hc;simp only[hc,GaE,Bool.and_eq_false_iff,Gq];rcases GA (upC s l) l.length with h5|h5
   ·obtain⟨w,hw⟩:=get _ h5;have:=Yhu hr (Gt _) hw;rw[hn',hf _ _ hw];exact .inr (by omega)
   ·exact .inl (by omega)
 rw[hfin];refine JiK (fun hc=>?_) (fun hc=>?_)
 ·have hc:=Gg hc;have hn':n=upC s l-1:=Gr hc;simp only[go_sem];rw[JiG (by omega) (by omega),hn'];have:((upC s l-1:Nat):Int)+1=(upC s l:Int):=by omega
  rw[this]
 ·have hc:=Gb hc;have hn':n=upC s l:=Gn hc;simp only[go_sem,hn']
def Yan:Ver:=⟨⟨0,0,0⟩,false,[]⟩
def atC (s:Stamp) (c:List Ver):Option Ver:=if Yg c then (if upC s c=0 then none else c[upC s c-1]?) else none
def eOV (o:Option Ver):V:=.tuple [.agg (Yam (o.getD Yan)),.bool o.isSome]
theorem YaS {c:List Ver} (h:Yg c=true):chR none c=true∧c.length≤64:=by
 simpa [Yg] using h
def H10 (Pg:PgT):Prop:=Pg 10=some (.code F10)∧H7 Pg∧H25 Pg
theorem K10 (h:H10 Pg) (l:List Ver) (s:Stamp) (hl:l.length<2 ^ 60):K' Pg 10 [Ye l,.agg (Yd s)]=some (eOV (atC s l)):=by
 obtain⟨h,h7,h25⟩:=h;refine Qb h rfl ?_;have k7:=K7 h7 l hl;simp only[Ye] at k7;cases hr:Yg l with
 |false=>simp only[go_sem,Ye,k7,hr,GY,eOV,atC,Yan,Option.isSome_none,Gm]
 |true=>
  have k25:=K25 h25 l s hl (YaS hr).1;simp only[Ye,Yd] at k25;simp only[go_sem,Ye,k7,hr,GQ,k25];refine JiK (fun hc=>?_) (fun hc=>?_)
  ·have hc:upC s l=0:=by simpa using hc
   simp only[go_sem,eOV,atC,hr,hc,Yan,Option.isSome_none]
  ·have hc:upC s l≠0:=by simpa using hc
   have hle:=Yc7 s l;obtain⟨x,hx,-⟩:=Jiq (l:=l) (i:=upC s l-1) (by omega);have hdec:IntKind.i64.wrap ((upC s l:Int)-1)=((upC s l-1:Nat):Int):=by rw[JiG (by omega) (by omega)];omega
   simp only[go_sem,eOV,atC,hr,hc,Yan,Option.isSome_some,hdec,hx]
def YaW (s:Stamp) (c:List Ver):Option (List UInt8):=match atC s c with|some v=>if v.gone then none else some v.val|none=>none
def H12 (Pg:PgT):Prop:=Pg 12=some (.code F12)∧H10 Pg
theorem K12 (h:H12 Pg) (l:List Ver) (s:Stamp) (hl:l.length<2 ^ 60):K' Pg 12 [Ye l,.agg (Yd s)]=some (.tuple [.str (match atC s l with|some v=>v.val|none=>[]),.bool (match atC s l with|some v=>!v.gone|none=>false)]):=by
 obtain⟨h,h10⟩:=h;refine Qb h rfl ?_;have k10:=K10 h10 l s hl;simp only[Ye,Yd,eOV,Yam] at k10;cases hr:atC s l with
 |none=>simp only[hr,Yan,Option.getD_none,Option.isSome_none] at k10;simp only[go_sem,Ye,k10]
 |some v=>simp only[hr,Yan,Option.getD_some,Option.isSome_some] at k10;simp only[go_sem,Ye,k10]
def H23 (Pg:PgT):Prop:=Pg 23=some (.prim (some 0) (cloneQ 5))
theorem K23 (h:H23 Pg) (rows:List (List V)) (hl:rows.length≤lim):K' Pg 23 [.slice 5 rows]=some (.slice 5 rows):=by
 rw[Jip h];simp[cloneQ,hl]
def addC (c:List Ver) (v:Ver):List Ver×Int:=
 if !Yg c||!YS v then ([],1)
 else if (match c.getLast? with|some w=>decide (0≤Yb w.at_ v.at_)|none=>false) then ([],9)
 else if c.length=64 then ([],6) else (c++[v],0)
def H3 (Pg:PgT):Prop:=Pg 3=some (.code F3)∧H7 Pg∧H22 Pg∧H15 Pg∧H23 Pg
theorem K3 (h:H3 Pg) (l:List Ver) (v:Ver) (hl:l.length<2 ^ 60):K' Pg 3 [Ye l,.agg (Yam v)]=some (.tuple [Ye (addC l v).1,iz (addC l v).2]):=by
 obtain⟨h,h7,h22,h15,h23⟩:=h;refine Qb h rfl ?_;have k7:=K7 h7 l hl;have k22:=K22 h22 v;have k15:=fun x y=>K15 h15 x y;simp only[Ye,Yd,Yam] at k7 k22 k15;cases hr:Yg l with
 |false=>simp only[go_sem,Ye,k7,hr,GY,addC]
 |true=>
  cases hv:YS v with
  |false=>simp only[go_sem,Ye,k7,hr,GY,GQ,addC,k22,hv]
  |true=>
   have hlen:=(YaS hr).2;have k23:=K23 h23 (l.map Yam) (by simp[lim];omega);have fin:Wp (K' Pg) c3 (JD [Ye l,.agg (Yam v)]) (fun ex S=>(ex=.norm∨ex=.ret)∧JaF F3 S=some (.tuple [Ye (addC l v).1,iz (addC l v).2])):=by
    have hap:(l.map Yam).length+1≤lim:=by simp[lim];omega
    rcases Gae l.length with hz|hz
    ·have hgt:decide ((0:Int)<(l.length:Int))=false:=by simp[hz]
     have h64:decide ((l.length:Int)=64)=false:=by simp[hz]
     have hl0:l=[]:=GH hz;have hadd:addC l v=(l++[v],0):=by simp only[addC,hr,hv];simp[hl0]
     simp only[Gj] at hap;simp only[go_sem,Ye,k7,hr,GQ,k22,hv,hgt,h64,k23,hadd,GF,hap]
    ·have hgt:decide ((0:Int)<(l.length:Int))=true:=by simp[hz]
     obtain⟨x,hx,-⟩:=Jiq (l:=l) (i:=l.length-1) (by omega);have hdec:IntKind.i64.wrap ((l.length:Int)-1)=((l.length-1:Nat):Int):=by rw[JiG (by omega) (by omega)];omega
     have hlast:l.getLast?=some x:=by rw[List.getLast?_eq_getElem?];exact hx
     simp only[Gj] at hap;simp only[go_sem,Ye,k7,hr,GQ,k22,hv,hgt,hdec,hx,k15];refine JiK (fun hc=>?_) (fun hc=>?_)
     ·simp only[go_sem,addC,hr,hv,hlast,GQ,hc]
     ·simp only[go_sem];refine JiK (fun h64=>?_) (fun h64=>?_)
      ·have h64':l.length=64:=by have:=Gg h64;omega
       simp only[go_sem,addC,hr,hv,hlast,GQ,hc,h64']
      ·have h64':¬l.length=64:=by have:=Gb h64;omega
       have hadd:addC l v=(l++[v],0):=by simp[addC,hr,hv,hlast,h64',hc]
       simp only[go_sem,k23,hadd,GF,hap]
   exact fin
def before (a b:Stamp):Bool:=decide (Yb a b<0)
def H6 (Pg:PgT):Prop:=Pg 6=some (.code F6)
theorem K6 (h:H6 Pg) (a b:Stamp):K' Pg 6 [.agg (Yd a),.agg (Yd b)]=some (.bool (before a b)):=by
 refine Qb h rfl ?_;simp only[go_sem]
 repeat' (refine JiK (fun h=>?_) (fun h=>?_)<;>simp only[go_sem])
 all_goals
  simp only[before,Ga,V.bool.injEq,GZ,Ybh,GN,GaG,Gq,Gi] at *
  omega
def H24 (Pg:PgT):Prop:=Pg 24=some (.code F24)
theorem K24 (h:H24 Pg) (a:Stamp):K' Pg 24 [.agg (Yd a)]=some (.bool (Ya a)):=by
 refine Qb h rfl ?_;simp only[go_sem]
 repeat' (refine JiI (fun h=>?_) (fun h=>?_)<;>simp only[go_sem,h])
 all_goals simp_all [Ya,Ydi]
 all_goals (intros;omega)
def H5 (Pg:PgT):Prop:=Pg 5=some (.code F5)∧H24 Pg
theorem K5 (h:H5 Pg) (v:Ver):K' Pg 5 [.agg (Yam v)]=some (.bool (YS v)):=by
 obtain⟨h,h24⟩:=h;refine Qb h rfl ?_;have k24:=K24 h24 v.at_;simp only[Yd] at k24;simp only[go_sem]
 repeat' (first|refine JiI (fun h=>?_) (fun h=>?_)<;>simp only[go_sem,h,k24]|refine JiK (fun h=>?_) (fun h=>?_)<;>simp only[go_sem,h,k24])
 all_goals
  simp only[YS,Ga,V.bool.injEq] at *
  cases hv:v.val<;>simp_all
 all_goals omega
def Yd2:Option Ver→Ver→Bool
 |none,_=>true
 |some q,x=>decide (Yb q.at_ x.at_<0)
theorem Ycu {p:Option Ver} {x:Ver} {l:List Ver} (h:YS x=true):chR p (x::l)=(Yd2 p x&&chR (some x) l):=by
 cases p<;>simp[chR,Yd2,h]
def H4 (Pg:PgT):Prop:=Pg 4=some (.code F4)∧H5 Pg∧H6 Pg
theorem K4 (h:H4 Pg) (l:List Ver) (hl:l.length<2 ^ 60):K' Pg 4 [Ye l]=some (.bool (Yg l)):=by
 obtain⟨h,h5',h6'⟩:=h;refine Qb h rfl ?_;have k5:=fun x=>K5 h5' x;have k6:=fun x y=>K6 h6' x y;simp only[Yam,Yd] at k5 k6;simp only[go_sem,Ye];refine JiK (fun hc=>?_) (fun hc=>?_)
 ·have hc:¬l.length≤64:=by have:=Gg hc;omega
  simp only[go_sem,Yg,hc,GaE]
 ·have hc:l.length≤64:=by have:=Gb hc;omega
  have hcr:Yg l=chR none l:=by simp[Yg,hc]
  simp only[go_sem];unfold l4_0;refine JiJ (fun (i:Nat) S=>i≤l.length∧S.ρ 0=Ye l∧S.ρ 3=iz i∧chR (YbQ l i) (l.drop i)=chR none l) (fun i=>l.length-i) 0 ?_ ?_
  ·simp[go_sem,Ye,YbQ]
  ·intro i S ⟨hi,h0,h3,ho⟩;simp only[go_sem,h0,h3,Ye];refine JiK (fun h=>?_) (fun h=>?_)
   ·simp only[Gi,G0] at h;obtain⟨x,hx,hd⟩:=Jiq h;have hnext:YbQ l (i+1)=some x:=by simp[YbQ,hx]
    have hinc:IntKind.i64.wrap ((i:Int)+1)=((i+1:Nat):Int):=JiG (by omega) (by omega);have hbad:YS x=false→chR none l=false:=fun h=>by rw[←ho,hd];simp[chR,h]
    simp only[go_sem,h0,h3,hx,Ye,k5];refine JiK (fun hv=>?_) (fun hv=>?_)
    ·have hv:YS x=false:=by simpa using hv
     simp only[go_sem,hcr,hbad hv]
    ·have hv:YS x=true:=by simpa using hv
     simp only[go_sem,h3];refine JiI (fun hz=>?_) (fun hz=>?_)
     ·have hz':0<i:=by have:=Gg hz;omega
      have hdec:IntKind.i64.wrap ((i:Int)-1)=((i-1:Nat):Int):=by rw[JiG (by omega) (by omega)];omega
      have hy:l[i-1]?=some l[i-1]:=by simp
      have hp:YbQ l i=some l[i-1]:=by simp[YbQ,Nat.ne_of_gt hz']
      simp only[go_sem,h0,h3,hx,Ye,hz,hdec,hy,k6];refine JiK (fun hc=>?_) (fun hc=>?_)
      ·have hb:¬Yb l[i-1].at_ x.at_<0:=by simpa [before] using hc
       have:chR none l=false:=by rw[←ho,hd,Ycu hv,hp];simp[Yd2,hb]
       simp only[go_sem,hcr,this]
      ·have hb:Yb l[i-1].at_ x.at_<0:=by simpa [before] using hc
       simp only[go_sem,h0,h3,Ye];refine⟨i+1,by omega,by omega,by rw[hinc],?_⟩;rw[hnext,←ho,hd,Ycu hv,hp];simp[Yd2,hb]
     ·have hz':i=0:=by have:=Gb hz;omega
      simp only[go_sem,h0,h3,Ye,hz];refine⟨i+1,by omega,by omega,by rw[hinc],?_⟩;rw[hnext,←ho,hd,Ycu hv];simp[Yd2,YbQ,hz']
   ·simp only[Gq,G0] at h;have:i=l.length:=by omega
    subst this;simp[chR] at ho;simp only[go_sem,hcr,ho]
def H494 (Pg:PgT):Prop:=Pg 494=some (.code F494)∧H470 Pg
theorem K494 (h:H494 Pg) (s:List UInt8) (hs:s.length<2 ^ 62):∃e:Int,e≠0∧K' Pg 494 [.str s]=some (Yfm e (tkT s)):=by
 obtain⟨h,h470⟩:=h;obtain⟨e,he,k⟩:=K470 h470 s hs;unfold tkT;cases hq:tk 9 s with
 |none=>
  rw[hq] at k;have hd:decide (e=0)=false:=Gp he;refine⟨e,he,Qb h rfl ?_⟩;simp only[eTk] at k;simp only[F494,c494,go_sem,k,hd,Option.bind_none,Yfm]
 |some q=>
  obtain⟨n,r⟩:=q;rw[hq] at k;simp only[eTk] at k;simp only[Option.bind_some];cases c1:decide ((r.length:Int)<n) with
  |true=>
   refine⟨2,by decide,Qb h rfl ?_⟩;have h1:¬n≤r.length:=by have:=Gg c1;omega
   simp only[F494,c494,go_sem,k,c1,Gn h1,Yfm]
  |false=>
   refine⟨2,by decide,Qb h rfl ?_⟩;have h1:n≤r.length:=by have:=Gb c1;omega
   simp only[F494,c494,go_sem,k,c1,h1,Yfm,GM]
def H495 (Pg:PgT):Prop:=Pg 495=some (.code F495)
theorem K495 (h:H495 Pg) (s:List UInt8):∃e:Int,e≠0∧K' Pg 495 [.str s]=some (Yfl e (tkF s)):=by
 cases s with
 |nil=>
  refine⟨2,by decide,Qb h rfl ?_⟩;simp only[F495,c495,go_sem,tkF,Yfl]
 |cons b s=>
  have h0:Jc5 (.str (b::s)) (.int .i64 0)=some (.int .u8 b.toNat):=rfl;have hne:decide (((s.length+1:Nat):Int)=0)=false:=Gp (by omega);have e1:decide ((b.toNat:Int)=1)=decide (b.toNat=1):=GZ.2 (by omega);have hl1:1≤s.length+1:=by omega
  have htl:List.take (s.length+1) (b::s)=b::s:=by simp
  refine⟨3,by decide,Qb h rfl ?_⟩;cases c1:decide ((1:Int)<b.toNat) with
  |true=>
   have h1:¬b.toNat≤1:=by have:=Gg c1;omega
   simp only[F495,c495,go_sem,c1,h0,hne,tkF,Yfl,Gn h1,List.length_cons]
  |false=>
   have h1:b.toNat≤1:=by have:=Gb c1;omega
   simp only[F495,c495,go_sem,c1,h0,hne,e1,hl1,htl,tkF,Yfl,Gr h1,List.length_cons,List.drop_succ_cons,GaH]
def stB (s:Stamp):List UInt8:=putB s.wall.toNat++(putB s.tick.toNat++putB s.node.toNat)
def tkS (s:List UInt8):Option (Stamp×List UInt8):=(tk 9 s).bind fun a=>(tk 9 a.2).bind fun b=>(tk 9 b.2).bind fun c=>if Ya ⟨a.1,b.1,c.1⟩ then some (⟨a.1,b.1,c.1⟩,c.2) else none
def Yet (e:Int):Option (Stamp×List UInt8)→V
 |some (n,r)=>.tuple [.agg (Yd n),.str r,iz 0]
 |none=>.tuple [.agg [iz 0,iz 0,iz 0],.str [],iz e]
theorem stR {s:Stamp}:Ya s=true↔(0≤s.wall∧s.wall≤1099511627776)∧(0≤s.tick∧s.tick≤1048576)∧(0≤s.node∧s.node≤255):=by
 simp only[Ya,Ydi,Gc,Gi];constructor
 ·rintro⟨⟨h1,h2⟩,h3⟩;exact⟨h1,h2,h3⟩
 ·rintro⟨h1,h2,h3⟩;exact⟨⟨h1,h2⟩,h3⟩
theorem Yjc {s r:List UInt8} {t:Stamp}:tkS s=some (t,r)↔s=stB t++r∧Ya t=true:=by
 unfold tkS stB;constructor
 ·intro h;cases h1:tk 9 s with
  |none=>rw[h1] at h;cases h
  |some a=>
   rw[h1] at h;simp only[Option.bind_some] at h;cases h2:tk 9 a.2 with
   |none=>rw[h2] at h;cases h
   |some b=>
    rw[h2] at h;simp only[Option.bind_some] at h;cases h3:tk 9 b.2 with
    |none=>rw[h3] at h;cases h
    |some c=>
     rw[h3] at h;simp only[Option.bind_some] at h;split at h
     ·rename_i hr;simp only[Ga,Gl] at h;obtain⟨rfl,rfl⟩:=h;refine⟨?_,hr⟩;obtain⟨a1,a2⟩:=a;obtain⟨b1,b2⟩:=b;obtain⟨c1,c2⟩:=c;simp only at h2 h3 ⊢;rw[(YdN h1).1,(YdN h2).1,(YdN h3).1];simp
     ·cases h
 ·rintro⟨rfl,h⟩;obtain⟨h1,h2,h3⟩:=stR.1 h;have e1:((t.wall.toNat:Nat):Int)=t.wall:=by omega
  have e2:((t.tick.toNat:Nat):Int)=t.tick:=by omega
  have e3:((t.node.toNat:Nat):Int)=t.node:=by omega
  have ht:(⟨t.wall.toNat,t.tick.toNat,t.node.toNat⟩:Stamp)=t:=by rw[e1,e2,e3]
  rw[GS,GS,Yfg 9 _ _ (Ybc.2 (by omega))];simp only[Option.bind_some];rw[Yfg 9 _ _ (Ybc.2 (by omega))];simp only[Option.bind_some];rw[Yfg 9 _ _ (Ybc.2 (by omega))];simp only[Option.bind_some];rw[ht,Gr h]
def Yao (l:List Int):List UInt8:=l.flatMap fun n=>putB n.toNat
theorem Yhg {l:List Int} {n:Int}:Yao (l++[n])=Yao l++putB n.toNat:=by simp[Yao]
theorem Yeg:∀{l:List Int},(∀n∈l,n.toNat<2 ^ 63)→(Yao l).length≤9*l.length
 |[],_=>by simp[Yao]
 |a::l,h=>by
  have h1:=Ybc.2 (h a (by simp));have h2:=Yeg (l:=l) fun n hn=>h n (by simp[hn]);simp only[Yao,GK,Ge,List.length_cons] at h2 ⊢;omega
def H483 (Pg:PgT):Prop:=Pg 483=some (.code F483)∧H456 Pg
theorem K483 (h:H483 Pg) (l:List Int) (hl:∀n∈l,0≤n∧n<2 ^ 63) (hl2:l.length≤10000):K' Pg 483 [Yi l]=some (.tuple [.str (Yao l),iz 0]):=by
 obtain⟨h,h456⟩:=h;refine Qb h rfl ?_;simp only[F483,c483,go_sem];unfold l483_0;refine JiJ (fun (i:Nat) S=>i≤l.length∧S.ρ 9=Yi l∧S.ρ 10=iz l.length∧S.ρ 11=iz i∧S.ρ 4=.own 4 1 (Yao (l.take i)).length∧S.A 4=some (1,(Yao (l.take i)).map rowB,.live)) (fun i=>l.length-i) 0 ?_ ?_
 ·exact⟨GE _,rfl,by simp only[go_sem],rfl,rfl,rfl⟩
 ·intro i S ⟨hi,s9,s10,s11,s4,a4⟩;cases c1:decide ((i:Int)<(l.length:Int)) with
  |false=>
   have:i=l.length:=by have:=Gb c1;omega
   subst this;rw[GM] at s4 a4;simp only[go_sem,s10,s11,s4,a4,c1,Yh3,Gj]
  |true=>
   have hlt:=Yj c1;obtain⟨n,hn,-⟩:=Jiq hlt;have hinc:=inc64q (i:=i) (by omega)
   obtain⟨n0,n1⟩:=hl n (List.mem_of_getElem? hn);have k:K' Pg 456 [iz n]=some (.tuple [.str (putB n.toNat),iz 0]):=by
    have:=K456 h456 n.toNat (by omega);rw[show ((n.toNat:Nat):Int)=n by omega] at this;exact this
   have htk:l.take (i+1)=l.take i++[n]:=by rw[G8,hn];rfl
   have hb:=Yeg (l:=l.take i) fun m hm=>by have:=hl m (Gah hm);omega
   rw[GG] at hb;have hp:=Ybc.2 (show n.toNat<2 ^ 63 by omega);have hlim:(Yao (l.take i)).length+(putB n.toNat).length≤lim:=by unfold lim;omega
   simp only[go_sem,s9,s10,s11,s4,a4,c1,hn,k,hinc,Gj,hlim];refine⟨i+1,by omega,by omega,rfl,by rw[htk,Yhg,Ge],by rw[htk,Yhg,GF];rfl⟩
def H455 (Pg:PgT):Prop:=Pg 455=some (.code F455)∧H483 Pg∧H28 Pg
theorem K455 (h:H455 Pg) (s:Stamp) (hs:Ya s=true):K' Pg 455 [.agg (Yd s)]=some (.tuple [.str (stB s),iz 0]):=by
 obtain⟨h,h483,h28⟩:=h;have k28:=K28 h28 s;rw[hs] at k28;obtain⟨h1,h2,h3⟩:=stR.1 hs;have k:=K483 h483 [s.wall,s.tick,s.node] (fun n hn=>by simp at hn;rcases hn with rfl|rfl|rfl<;>omega) (by simp);have e:Yao [s.wall,s.tick,s.node]=stB s:=by simp[Yao,stB]
 rw[e] at k;simp only[go_sem,GC,Gk] at k k28;refine Qb h rfl ?_;simp only[F455,c455,go_sem,k28,k]
def H486 (Pg:PgT):Prop:=Pg 486=some (.code F486)∧H487 Pg
theorem K486 (h:H486 Pg) (s:Stamp) (hs:Ya s=true):K' Pg 486 [.agg (Yd s)]=some (.str (stB s)):=by
 obtain⟨h,h487⟩:=h;obtain⟨h1,h2,h3⟩:=stR.1 hs;have kk:∀n:Int,0≤n→n<2 ^ 63→K' Pg 487 [iz n]=some (.tuple [.str (putB n.toNat),iz 0]):=fun n a b=>by
  have:=K487 h487 n.toNat (by omega);rw[show ((n.toNat:Nat):Int)=n by omega] at this;exact this
 have k1:=kk s.wall (by omega) (by omega);have k2:=kk s.tick (by omega) (by omega);have k3:=kk s.node (by omega) (by omega);have l1:=Ybc.2 (show s.wall.toNat<2 ^ 63 by omega);have l2:=Ybc.2 (show s.tick.toNat<2 ^ 63 by omega);have l3:=Ybc.2 (show s.node.toNat<2 ^ 63 by omega);have b1:(putB s.wall.toNat).length+(putB s.tick.toNat).length≤4611686018427387904:=by omega
 have b2:(putB s.wall.toNat).length+(putB s.tick.toNat).length+(putB s.node.toNat).length≤4611686018427387904:=by omega
 refine Qb h rfl ?_;simp only[F486,c486,go_sem,k1,k2,k3,b1,b2,Ge,stB,GS]
def H469 (Pg:PgT):Prop:=Pg 469=some (.code F469)∧H470 Pg∧H24 Pg
theorem K469 (h:H469 Pg) (s:List UInt8) (hs:s.length<2 ^ 62):∃e:Int,e≠0∧K' Pg 469 [.str s]=some (Yet e (tkS s)):=by
 obtain⟨h,h470,h24⟩:=h;obtain⟨e,he,k⟩:=K470 h470 s hs;have hd:decide (e=0)=false:=Gp he;unfold tkS;cases hq:tk 9 s with
 |none=>
  rw[hq] at k;refine⟨e,he,Qb h rfl ?_⟩;simp only[eTk] at k;simp only[F469,c469,go_sem,k,hd,Option.bind_none,Yet]
 |some q=>
  obtain⟨n,r⟩:=q;rw[hq] at k;simp only[eTk] at k;simp only[Option.bind_some];have hr:r.length<2 ^ 62:=by have:=Gaz List.length (YdN hq).1;simp at this;omega
  obtain⟨e',he',k'⟩:=K470 h470 r hr;have hd':decide (e'=0)=false:=Gp he';cases hq':tk 9 r with
  |none=>
   rw[hq'] at k';refine⟨e',he',Qb h rfl ?_⟩;simp only[eTk] at k';simp only[F469,c469,go_sem,k,k',hd',Option.bind_none,Yet]
  |some q'=>
   obtain⟨n',r'⟩:=q';rw[hq'] at k';simp only[eTk] at k';simp only[Option.bind_some];have hr':r'.length<2 ^ 62:=by have:=Gaz List.length (YdN hq').1;simp at this;omega
   obtain⟨e'',he'',k''⟩:=K470 h470 r' hr';have hd'':decide (e''=0)=false:=Gp he'';cases hq'':tk 9 r' with
   |none=>
    rw[hq''] at k'';refine⟨e'',he'',Qb h rfl ?_⟩;simp only[eTk] at k'';simp only[F469,c469,go_sem,k,k',k'',hd'',Option.bind_none,Yet]
   |some q''=>
    obtain⟨n'',r''⟩:=q'';rw[hq''] at k'';simp only[eTk] at k'';have k24:=K24 h24 ⟨n,n',n''⟩;refine⟨3,by decide,Qb h rfl ?_⟩;simp only[Option.bind_some];cases hst:Ya ⟨n,n',n''⟩ with
    |true=>
     rw[hst] at k24;simp only[go_sem] at k24;simp only[F469,c469,go_sem,k,k',k'',k24,Gz,Yet]
    |false=>
     rw[hst] at k24;simp only[go_sem] at k24;simp only[F469,c469,go_sem,k,k',k'',k24,Gm,Gu,Yet]
def Yli (nu:Nat→Nat) (i:Nat):List V:=[iz ((if 0<i then nu 0 else 0:Nat):Int),iz ((if 1<i then nu 1 else 0:Nat):Int),iz ((if 2<i then nu 2 else 0:Nat):Int)]
theorem Ykv {S:St} {nu:Nat→Nat} {i:Nat} (hi:i<3):stV S 5 i [iz (nu i)] (some (Yli nu i,false))=some ⟨S.ρ,upd S.μ 5 (some (Yli nu (i+1),false)),S.A⟩:=by
 rcases (show i=0∨i=1∨i=2 by omega) with rfl|rfl|rfl<;>rfl
def H490 (Pg:PgT):Prop:=Pg 490=some (.code F490)∧H491 Pg∧H28 Pg
theorem K490g (h:Pg 490=some (.code F490)) (h28:H28 Pg) {rest:Nat→List UInt8} {nu:Nat→Nat} {m:Nat} {e:Int} (hm:m≤3)
  (hk:∀i,i<m→K' Pg 491 [.str (rest i)]=some (.tuple [iz (nu i),.str (rest (i+1)),iz 0])) (he:m<3→e≠0∧K' Pg 491 [.str (rest m)]=some (.tuple [iz 0,.str [],iz e])) :
  K' Pg 490 [.str (rest 0)]=some (Yet (if m<3 then e else 3) (if m<3 then none else if Ya ⟨nu 0,nu 1,nu 2⟩ then some (⟨nu 0,nu 1,nu 2⟩,rest 3) else none)):=by
 refine Qb h rfl ?_
 have i0:JaZ 1 3 (.lref 5 0) (.int .i64 0)=some (.lref 5 0):=rfl
 have i1:JaZ 1 3 (.lref 5 0) (.int .i64 1)=some (.lref 5 1):=rfl
 have i2:JaZ 1 3 (.lref 5 0) (.int .i64 2)=some (.lref 5 2):=rfl
 simp only[F490,c490,go_sem]
 unfold l490_0
 refine JiJ (fun (i:Nat) S=>i≤m∧S.ρ 0=.str (rest i)∧S.ρ 2=.lref 2 0∧S.ρ 5=.lref 5 0∧S.ρ 11=iz i∧S.μ 2=some ([iz 0,iz 0,iz 0],false)∧S.μ 5=some (Yli nu i,false)∧S.μ 10=none) (fun i=>3-i) 0 ?_ ?_
 ·exact⟨GE _,rfl,rfl,rfl,rfl,rfl,rfl,rfl⟩
 ·intro i S ⟨hi,s0,s2,s5,s11,m2,m5,m10⟩
  cases c1:decide ((i:Int)<3) with
  |false=>
   have h3:i=3:=by have:=Gb c1;omega
   have hm3:m=3:=by omega
   rw[Gn (by omega),Gn (by omega)]
   rw[h3] at m5 s0
   have k28:=K28 h28 ⟨nu 0,nu 1,nu 2⟩
   have hv:Yli nu 3=[iz (nu 0),iz (nu 1),iz (nu 2)]:=rfl
   rw[hv] at m5
   cases hst:Ya ⟨nu 0,nu 1,nu 2⟩ with
   |true=>
    rw[hst] at k28
    simp only[go_sem] at k28
    simp only[go_sem,s0,s2,s5,s11,m2,m5,m10,c1,i0,i1,i2,k28,Gz,Yet]
   |false=>
    rw[hst] at k28
    simp only[go_sem] at k28
    simp only[go_sem,s2,s5,s11,m2,m5,m10,c1,i0,i1,i2,k28,Gm,Gu,Yet]
  |true=>
   have hi3:i<3:=by have:=Gg c1;omega
   have hinc:=inc64q (i:=i) (by omega)
   by_cases him:i<m
   ·have k:=hk i him
    have hst:=fun S=>Ykv (S:=S) (nu:=nu) hi3
    have hia:JaZ 1 3 (.lref 5 0) (iz (i:Int))=some (.lref 5 i):=by
     rcases (show i=0∨i=1∨i=2 by omega) with rfl|rfl|rfl<;>rfl
    simp only[go_sem,s0,s2,s5,s11,m2,m5,m10,c1,k,hst,hia,hinc]
    exact⟨i+1,by omega,by omega,rfl,rfl,rfl⟩
   ·have hime:i=m:=by omega
    obtain⟨e0,k⟩:=he (by omega)
    rw[←hime] at k
    have hd:decide (e=0)=false:=Gp e0
    rw[Gr (by omega),Gr (by omega)]
    simp only[go_sem,s0,s2,s11,m2,c1,k,hd,Yet]
theorem K490 (h:H490 Pg) (s:List UInt8) (hs:s.length<2 ^ 62):∃e:Int,e≠0∧K' Pg 490 [.str s]=some (Yet e (tkS s)):=by
 obtain⟨h,h491,h28⟩:=h;obtain⟨e,he,k⟩:=K491 h491 s hs;unfold tkS;cases hq:tk 9 s with
 |none=>
  rw[hq] at k;exact⟨e,he,by
   have:=K490g h h28 (rest:=fun _=>s) (nu:=fun _=>0) (m:=0) (e:=e) (by omega) (fun i hi=>by omega) (fun _=>⟨he,k⟩);exact this⟩
 |some q=>
  obtain⟨n,r⟩:=q;rw[hq] at k;have hr:r.length<2 ^ 62:=by have:=Gaz List.length (YdN hq).1;simp at this;omega
  obtain⟨e',he',k'⟩:=K491 h491 r hr;simp only[Option.bind_some];cases hq':tk 9 r with
  |none=>
   rw[hq'] at k';exact⟨e',he',by
    have:=K490g h h28 (rest:=fun i=>if i=0 then s else r) (nu:=fun _=>n) (m:=1) (e:=e') (by omega) (fun i hi=>by
     have h0:i=0:=by omega
     subst h0;exact k) (fun _=>⟨he',k'⟩)
    exact this⟩
  |some q'=>
   obtain⟨n',r'⟩:=q';rw[hq'] at k';simp only[Option.bind_some];have hr':r'.length<2 ^ 62:=by have:=Gaz List.length (YdN hq').1;simp at this;omega
   obtain⟨e'',he'',k''⟩:=K491 h491 r' hr';cases hq'':tk 9 r' with
   |none=>
    rw[hq''] at k'';exact⟨e'',he'',by
     have:=K490g h h28 (rest:=fun i=>if i=0 then s else if i=1 then r else r') (nu:=fun i=>if i=0 then n else n') (m:=2) (e:=e'') (by omega) (fun i hi=>by
      rcases (show i=0∨i=1 by omega) with rfl|rfl
      ·exact k
      ·exact k') (fun _=>⟨he'',k''⟩)
     exact this⟩
   |some q''=>
    obtain⟨n'',r''⟩:=q'';rw[hq''] at k'';exact⟨3,by decide,by
     have:=K490g h h28 (rest:=fun i=>if i=0 then s else if i=1 then r else if i=2 then r' else r'') (nu:=fun i=>if i=0 then n else if i=1 then n' else n'') (m:=3) (e:=3) (by omega) (fun i hi=>by
      rcases (show i=0∨i=1∨i=2 by omega) with rfl|rfl|rfl
      ·exact k
      ·exact k'
      ·exact k'') (fun h=>by omega)
     exact this⟩
def H61 (Pg:PgT):Prop:=Pg 61=some (.code F61)
theorem K61 (h:H61 Pg) (l:List Int):K' Pg 61 [Yi l]=some (.bool (decide (SetP l))):=by
 refine Qb h rfl ?_;simp only[go_sem];refine JiK (fun hc=>?_) (fun hc=>?_)
 ·have hc:¬SetP l:=fun⟨e,_⟩=>by have:=Gg hc;omega
  simp only[go_sem,hc]
 ·have hl:l.length≤8:=by have:=Gb hc;omega
  simp only[go_sem];unfold l61_0;refine JiJ (fun (i:Nat) S=>i≤l.length∧S.ρ 0=Yi l∧S.ρ 3=iz i∧(∀m∈l.take i,1≤m∧m≤255)∧(l.take i).Nodup) (fun i=>l.length-i) 0 ?_ ?_
  ·simp[go_sem]
  ·intro i S ⟨hi,h0,h3,ho1,ho2⟩;simp only[go_sem,h0,h3];refine JiK (fun h=>?_) (fun h=>?_)
   ·have h:=Yj h;obtain⟨x,hx,hd⟩:=Jiq h;have bad:¬(1≤x∧x≤255)→¬SetP l:=fun e=>YfA hx (.inl e);simp only[go_sem,h0,h3,hx];refine JiH (fun hc=>?_) (fun hc=>?_)
    ·have h1:¬x<1:=Gb hc;simp only[go_sem,h0,h3,hx,h1];refine JiK (fun hc=>?_) (fun hc=>?_)
     ·have hs:¬SetP l:=bad (by have:=Gg hc;omega);simp only[go_sem,hs]
     ·have h2:¬255<x:=Gb hc;simp only[go_sem];unfold l61_1;refine JiJ (fun (k:Nat) S=>k≤i∧S.ρ 0=Yi l∧S.ρ 3=iz i∧S.ρ 4=iz k∧x∉l.take k) (fun k=>i-k) 0 ?_ ?_
      ·simp[go_sem,h0,h3]
      ·intro k S ⟨hk,h0,h3,h4,ho3⟩;simp only[go_sem,h3,h4];refine JiK (fun h'=>?_) (fun h'=>?_)
       ·have h':=Yj h';obtain⟨y,hy,hd'⟩:=Jiq (l:=l) (i:=k) (by omega);simp only[go_sem,h0,h3,h4,hx,hy];refine JiK (fun hc=>?_) (fun hc=>?_)
        ·have hc:y=x:=Gg hc;have hm:x∈l.take i:=by
          rw[←hc];have:(l.take i)[k]?=some y:=by rw[List.getElem?_take,Gr h'];exact hy
          exact List.mem_of_getElem? this
         have hs:¬SetP l:=YfA hx (.inr hm);simp only[go_sem,hs]
        ·have hc:¬y=x:=Gb hc;simp only[go_sem,h0,h3,h4];refine⟨k+1,by omega,by omega,by rw[Yn h' (by omega)],?_⟩;rw[Y4 hy];simp;exact⟨ho3,fun e=>hc e.symm⟩
       ·have h':=YE hk h';subst h';have hn:=YhU hx ⟨ho1,ho2⟩ (by omega) ho3;simp only[go_sem,h0,h3];exact⟨k+1,by omega,by omega,by rw[Yn h (by omega)],hn.1,hn.2⟩
    ·have h1:x<1:=Gg hc;have hs:¬SetP l:=bad (by omega);simp only[go_sem,h1,hs]
   ·have h:=YE hi h;rw[YbU h] at ho1 ho2;have hs:SetP l:=⟨hl,ho1,ho2⟩;simp only[go_sem,hs]
def H64 (Pg:PgT):Prop:=Pg 64=some (.code F64)∧H65 Pg
theorem K64 (h:H64 Pg) (l:List Int) (hl:l.length<2 ^ 60):K' Pg 64 [Yi l]=some (.bool (decide (SetP l))):=by
 obtain⟨h,h65⟩:=h;refine Qb h rfl ?_;simp only[go_sem];unfold l64_0;refine JiJ (fun (i:Nat) S=>i≤l.length∧S.ρ 0=Yi l∧S.ρ 5=Yi l∧S.ρ 6=iz l.length∧S.ρ 7=iz i∧(∀m∈l.take i,1≤m∧m≤255)∧(l.take i).Nodup) (fun i=>l.length-i) 0 ?_ ?_
 ·simp[go_sem]
 ·intro i S ⟨hi,h0,h5,h6,h7,ho1,ho2⟩;simp only[go_sem,h6,h7];refine JiK (fun h=>?_) (fun h=>?_)
  ·have h:=Yj h;obtain⟨x,hx,hd⟩:=Jiq h;have bad:¬(1≤x∧x≤255)→¬SetP l:=fun e=>YfA hx (.inl e);have k65:=K65 h65 (l.take i) x (by simp;omega);simp only[Yi,GaF] at k65;simp only[go_sem,h5,h7,hx];refine JiH (fun hc=>?_) (fun hc=>?_)
   ·have h1:¬x<1:=Gb hc;simp only[go_sem,h1];refine JiH (fun hc=>?_) (fun hc=>?_)
    ·have h2:¬255<x:=Gb hc;simp only[go_sem,h0,hi,h2,k65];refine JiK (fun hc=>?_) (fun hc=>?_)
     ·have hs:¬SetP l:=YfA hx (.inr (Gg hc));simp only[go_sem,hs]
     ·have hn:=YhU hx ⟨ho1,ho2⟩ (by omega) (Gb hc);simp only[go_sem,h0,h5,h6,h7];exact⟨i+1,by omega,by omega,by rw[Yn h hl],hn.1,hn.2⟩
    ·have h2:255<x:=Gg hc;have hs:¬SetP l:=bad (by omega);simp only[go_sem,h2,hs]
   ·have h1:x<1:=Gg hc;have hs:¬SetP l:=bad (by omega);simp only[go_sem,h1,hs]
  ·have h:=YE hi h;rw[YbU h] at ho1 ho2;simp only[go_sem,h0];have:decide ((l.length:Int)≤8)=decide (SetP l):=GZ.2 ⟨fun e=>⟨by omega,ho1,ho2⟩,fun e=>by have:=e.1;omega⟩;rw[this]
structure Rep where
 id:Int
 view:Int
 members:List Int
 n:Int
 base:List UInt8
 text:List UInt8
 acks:List Int
 deriving DecidableEq
structure Word where
 kind:Int
 frm:Int
 to:Int
 view:Int
 n:Int
 members:List Int
 text:List UInt8
 deriving DecidableEq
@[go_sem] def YX (r:Rep):List V:=[iz r.id,iz r.view,Yi r.members,iz r.n,.str r.base,.str r.text,Yi r.acks]
@[go_sem] def YaL (r:Word):List V:=[iz r.kind,iz r.frm,iz r.to,iz r.view,iz r.n,Yi r.members,.str r.text]
@[go_sem] def Yax (l:List Word):V:=.slice 7 (l.map YaL)
structure Rep.Ok (r:Rep):Prop where
 m:r.members.length<2 ^ 60
 a:r.acks.length<2 ^ 60
def Ybz (n least:Int):Bool:=decide (least≤n)&&decide (n≤1099511627776)
def H63 (Pg:PgT):Prop:=Pg 63=some (.code F63)
theorem K63 (h:H63 Pg) (n least:Int):K' Pg 63 [iz n,iz least]=some (.bool (Ybz n least)):=by
 refine Qb h rfl ?_;simp only[go_sem];refine JiI (fun h=>?_) (fun h=>?_)<;>simp only[go_sem,h,Ybz]
def Yp (r:Rep):Bool:=match r.members with|[]=>false|m::_=>decide (m=r.id)
def H68 (Pg:PgT):Prop:=Pg 68=some (.code F68)
theorem K68 (h:H68 Pg) (r:Rep):K' Pg 68 [.agg (YX r)]=some (.bool (Yp r)):=by
 refine Qb h rfl ?_;obtain⟨id,view,members,n,base,text,acks⟩:=r;cases members with
 |nil=>simp only[go_sem,Yp]
 |cons m l=>
  have h0:JaG 1 (V.slice 1 ([iz m]::List.map (fun a=>[iz a]) l)) (iz 0)=some (.cptr [iz m] 0):=rfl;simp only[go_sem,Yp,Yce,h0]
def Yby (r:Rep):Bool:=r.members.all fun m=>decide (m∈r.acks)
def rightB (r:Rep):Bool:=
 !(decide (r.id<1)||(decide (255<r.id)||((!decide (r.view=0)&&!Ybz r.view 1)||((!decide (r.n=0)&&!Ybz r.n 1)||(!decide (SetP r.members)||!decide (SetP r.acks)))))) &&
  (r.acks.all (fun m=>decide (m∈r.members))&&(!(decide ((0:Int)<(r.members.length:Int))&&!decide (r.id∈r.members)) &&
  (bif Yp r then decide (r.id∈r.acks)&&(!Yby r||decide (r.base=r.text)) else decide ((r.acks.length:Int)=0)&&decide (r.base=r.text))))
theorem Ybx:∀{l m:List Int},l.Nodup→(∀x∈l,x∈m)→l.length≤m.length
 |[],m,_,_=>by simp
 |a::l,m,h,hs=>by
  rw[GaC] at h;have ha:=hs a (GR ..);have h1:=Ybx (l:=l) (m:=m.erase a) h.2 (fun x hx=>by
   have hne:x≠a:=fun e=>h.1 (e▸hx);exact (List.mem_erase_of_ne hne).2 (hs x (G5 _ hx)))
  have h2:=List.length_erase_of_mem ha;have h3:0<m.length:=List.length_pos_of_mem ha;simp only[List.length_cons];omega
theorem Yfo {r:Rep} (hm:SetP r.members) (ha:SetP r.acks) (hs:∀x∈r.acks,x∈r.members):decide ((r.acks.length:Int)<(r.members.length:Int))=!Yby r:=by
 cases h:Yby r with
 |true=>
  have:∀x∈r.members,x∈r.acks:=by simpa [Yby] using h
  have:=Ybx hm.2.2 this;simp;omega
 |false=>
  obtain⟨x,hx,hn⟩:∃x,x∈r.members∧x∉r.acks:=by simpa [Yby] using h
  have:=Ybx (l:=x::r.acks) (m:=r.members) (GaC.2 ⟨hn,ha.2.2⟩) (fun y hy=>by
   rcases GI.1 hy with rfl|hy
   ·exact hx
   ·exact hs y hy)
  simp only[List.length_cons] at this;simp;omega
def rightG (r:Rep):Bool:=
 !(decide (r.id<1)||(decide (255<r.id)||(!Ybz r.view 0||(!Ybz r.n 0||(!decide (SetP r.members)||!decide (SetP r.acks)))))) &&
  (!(decide ((0:Int)<(r.members.length:Int))&&!decide (r.id∈r.members))&&(!(r.acks.any (fun m=>!decide (m∈r.members))) &&
  (bif Yp r then decide (r.id∈r.acks)&&(decide ((r.acks.length:Int)<(r.members.length:Int))||decide (r.base=r.text)) else decide ((r.acks.length:Int)=0)&&decide (r.base=r.text))))
theorem Ymv {n:Int}:(!decide (n=0)&&!Ybz n 1)=!Ybz n 0:=by
 simp only[Ybz];by_cases h1:n=0
 ·subst h1;decide
 ·have:decide (1≤n)=decide (0≤n):=GZ.2 (by omega);simp[h1,this]
theorem Ye9 (r:Rep):rightG r=rightB r:=by
 unfold rightG rightB;rw[Ymv,Ymv];have hall:(!(r.acks.any (fun m=>!decide (m∈r.members))))=r.acks.all (fun m=>decide (m∈r.members)):=by
  rw[List.all_eq_not_any_not]
 rw[hall];by_cases hm:SetP r.members
 ·by_cases ha:SetP r.acks
  ·cases hs:r.acks.all (fun m=>decide (m∈r.members)) with
   |true=>rw[Yfo hm ha (by simpa using hs)];simp only[GP]
   |false=>simp
  ·simp[ha]
 ·simp[hm]
def H66 (Pg:PgT):Prop:=Pg 66=some (.code F66)∧H65 Pg
theorem K66 (h:H66 Pg) (r:Rep) (m:Int) (ok:r.Ok):K' Pg 66 [iz m,.cptr (YX r) 0]=some (.bool (!decide (m∈r.members))):=by
 obtain⟨h,h65⟩:=h;have k65:=K65 h65 r.members m ok.m;simp only[Yi] at k65;refine Qb h rfl ?_;simp only[go_sem,k65]
def H39 (Pg:PgT):Prop:=Pg 39=some (.code F39)∧H63 Pg∧H64 Pg∧H65 Pg∧H66 Pg∧H67 Pg∧H68 Pg
theorem K39 (h:H39 Pg) (r:Rep) (ok:r.Ok):K' Pg 39 [.agg (YX r)]=some (.bool (rightB r)):=by
 rw[←Ye9];obtain⟨h,h63,h64,h65,h66,h67,h68⟩:=h;have k63:=fun x y=>K63 h63 x y;have k64m:=K64 h64 r.members ok.m;have k64a:=K64 h64 r.acks ok.a;have k65m:=fun x=>K65 h65 r.members x ok.m;have k65a:=fun x=>K65 h65 r.acks x ok.a;have k68:=K68 h68 r;have k67:=K67 h67 r.acks 66 [.cptr (YX r) 0] (fun m=>!decide (m∈r.members)) ok.a rfl (fun x _=>K66 h66 r x ok);simp only[Yi,YX] at k63 k64m k64a k65m k65a k68 k67;refine Qb h rfl ?_;simp only[go_sem]
 repeat' (first|refine JiH (fun h=>?_) (fun h=>?_)<;>simp only[go_sem,h,k63,k64m,k64a,List.all_cons,List.all_nil]|refine JiI (fun h=>?_) (fun h=>?_)<;>simp only[go_sem,h,k65m,k67]|refine JiK (fun h=>?_) (fun h=>?_)<;>simp only[go_sem,h,k65a,k68,k67])
 all_goals (simp_all only [rightG,GN,GaG,GQ,GY,Bool.or_true,GaK,Bool.or_false,Gau,GU,GP,GB,Gs,cond_true,cond_false];done)
def H40 (Pg:PgT):Prop:=Pg 40=some (.code F40)∧H39 Pg∧H68 Pg
theorem K40 (h:H40 Pg) (r:Rep) (ok:r.Ok):K' Pg 40 [.agg (YX r)]=some (.bool (rightB r&&Yp r)):=by
 obtain⟨h,h39,h68⟩:=h;have k39:=K39 h39 r ok;have k68:=K68 h68 r;simp only[Yi,YX] at k39 k68;refine Qb h rfl ?_;simp only[go_sem,k39];refine JiI (fun h=>?_) (fun h=>?_)<;>simp only[go_sem,h,k68]
def YI (r:Rep):Bool:=rightB r&&(Yp r&&!Yby r)
theorem Yb5 {r:Rep} (h:rightB r=true):SetP r.members∧SetP r.acks∧(∀x∈r.acks,x∈r.members)∧1≤r.id∧r.id≤255∧0≤r.view∧r.view≤1099511627776∧0≤r.n∧r.n≤1099511627776:=by
 rw[←Ye9] at h;simp only[rightG,Ybz,Gc,GN,Gap,Bool.and_eq_false_iff,GaG,GN,Gi,Gq] at h;obtain⟨⟨h1,h2,h3,h4,h5,h6⟩,h7,h8,-⟩:=h;refine⟨h5,h6,by simpa using h8,?_⟩;omega
theorem Yjw {r:Rep} (h:rightB r=true):decide ((r.acks.length:Int)<(r.members.length:Int))=!Yby r:=by
 obtain⟨h1,h2,h3,-⟩:=Yb5 h;exact Yfo h1 h2 h3
def H41 (Pg:PgT):Prop:=Pg 41=some (.code F41)∧H40 Pg
theorem K41 (h:H41 Pg) (r:Rep) (ok:r.Ok):K' Pg 41 [.agg (YX r)]=some (.bool (YI r)):=by
 obtain⟨h,h40⟩:=h;have k40:=K40 h40 r ok;simp only[Yi,YX] at k40;refine Qb h rfl ?_;simp only[go_sem,k40];refine JiI (fun h=>?_) (fun h=>?_)<;>simp only[go_sem,h]
 ·simp only[Gc] at h;rw[Yjw h.1];simp only[YI,h.1,h.2,GP]
 ·rw[YI,←Bool.and_assoc,h];rfl
def YaU (r:Rep):Rep:=if r.acks.length=r.members.length then {r with base:=r.text} else r
def H71 (Pg:PgT):Prop:=Pg 71=some (.code F71)
theorem K71 (h:H71 Pg) (r:Rep):K' Pg 71 [.agg (YX r)]=some (.agg (YX (YaU r))):=by
 refine Qb h rfl ?_;simp only[go_sem];refine JiK (fun h=>?_) (fun h=>?_)
 ·have h:r.acks.length=r.members.length:=by have:=Gg h;omega
  simp only[go_sem,YaU,h]
 ·have h:¬r.acks.length=r.members.length:=by have:=Gb h;omega
  simp only[go_sem,YaU,h]
def H69 (Pg:PgT):Prop:=Pg 69=some (.prim (some 0) (cloneQ 1))
theorem K69 (h:H69 Pg) (l:List Int) (hl:l.length≤1000000000):K' Pg 69 [Yi l]=some (Yi l):=by
 rw[Jip h];simp[cloneQ,Yi,lim];omega
def YM (r:Rep):List Word:=(r.members.filter fun m=>!decide (m∈r.acks)).map fun m=>⟨1,r.id,m,r.view,r.n,r.members,r.text⟩
def YbR (r:Rep) (l:List Int):List Word:=(l.filter fun m=>!decide (m∈r.acks)).map fun m=>⟨1,r.id,m,r.view,r.n,r.members,r.text⟩
theorem Yjb {r:Rep} {l:List Int} {m:Int}:YbR r (l++[m])=if m∈r.acks then YbR r l else YbR r l++[⟨1,r.id,m,r.view,r.n,r.members,r.text⟩]:=by
 simp only[YbR,List.filter_append,List.filter_cons,List.filter_nil];split<;>simp_all
theorem YgQ {r:Rep} {l:List Int}:(YbR r l).length≤l.length:=by
 simp only[YbR,Gj];exact List.length_filter_le _ _
def H52 (Pg:PgT):Prop:=Pg 52=some (.code F52)∧H62 Pg
theorem K52 (h:H52 Pg) (r:Rep) (ok:r.Ok) (hm:r.members.length≤10000):K' Pg 52 [.agg (YX r)]=some (Yax (YM r)):=by
 obtain⟨h,h62⟩:=h;have k62:=fun x=>K62 h62 r.acks x ok.a;simp only[Yi] at k62;refine Qb h rfl ?_;simp only[go_sem];unfold l52_0;refine JiJ (fun (i:Nat) S=>i≤r.members.length∧S.ρ 1=.lref 1 0∧S.μ 1=some (YX r,false)∧S.A 3=some (7,(YbR r (r.members.take i)).map YaL,.live)∧S.ρ 3=.own 3 7 (YbR r (r.members.take i)).length∧S.ρ 4=iz i) (fun i=>r.members.length-i) 0 ?_ ?_
 ·simp[go_sem,YbR]
 ·intro i S ⟨hi,h1,m1,a3,h3,h4⟩;simp only[go_sem,m1,h1,h4];refine JiK (fun h=>?_) (fun h=>?_)
  ·have h:=Yj h;obtain⟨x,hx,hd⟩:=Jiq h;have hlen:=YgQ (r:=r) (l:=r.members.take i);have hlim:(YbR r (r.members.take i)).length+1≤lim:=by
    simp only[GG] at hlen;simp only[lim];omega
   have hs:=Yjb (r:=r) (l:=r.members.take i) (m:=x);rw[←Y4 hx] at hs;simp only[go_sem,m1,h1,h4,hx,k62];refine JiK (fun hc=>?_) (fun hc=>?_)
   ·have hc:x∉r.acks:=by simpa using hc
    rw[Gn hc] at hs;simp only[go_sem,m1,a3,h3,h1,h4,hx,hlim];exact⟨i+1,by omega,by omega,by rw[hs];simp[YaL,Yi],by rw[hs];simp,by rw[Yn h (by omega)]⟩
   ·have hc:x∈r.acks:=by simpa using hc
    rw[Gr hc] at hs;simp only[go_sem,m1,a3,h3,h1,h4];exact⟨i+1,by omega,by omega,by rw[hs],by rw[hs],by rw[Yn h (by omega)]⟩
  ·have h:=YE hi h;subst h;have e:YbR r r.members=YM r:=rfl;simp only[go_sem,a3,h3,GM,e]
def H72 (Pg:PgT):Prop:=Pg 72=some (.code F72)∧H65 Pg∧H69 Pg
theorem K72 (h:H72 Pg) (r:Rep) (ok:r.Ok) (hm:r.members.length≤10000):K' Pg 72 [.agg (YX r)]=some (Yax (YM r)):=by
 obtain⟨h,h65,h69⟩:=h;have k65:=fun x=>K65 h65 r.acks x ok.a;have k69:=K69 h69 r.members (by omega);simp only[Yi] at k65 k69;refine Qb h rfl ?_;simp only[go_sem];unfold l72_0;refine JiJ (fun (i:Nat) S=>i≤r.members.length∧S.ρ 1=.lref 1 0∧S.μ 1=some (YX r,false)∧S.A 3=some (7,(YbR r (r.members.take i)).map YaL,.live)∧S.ρ 3=.own 3 7 (YbR r (r.members.take i)).length∧S.ρ 7=Yi r.members∧S.ρ 8=iz r.members.length∧S.ρ 9=iz i) (fun i=>r.members.length-i) 0 ?_ ?_
 ·simp[go_sem,YbR]
 ·intro i S ⟨hi,h1,m1,a3,h3,h7,h8,h9⟩;simp only[go_sem,h8,h9];refine JiK (fun h=>?_) (fun h=>?_)
  ·have h:=Yj h;obtain⟨x,hx,hd⟩:=Jiq h;have hlen:=YgQ (r:=r) (l:=r.members.take i);have hlim:(YbR r (r.members.take i)).length+1≤lim:=by
    simp only[GG] at hlen;simp only[lim];omega
   have hs:=Yjb (r:=r) (l:=r.members.take i) (m:=x);rw[←Y4 hx] at hs;simp only[go_sem,m1,h1,h7,h9,hx,k65];refine JiK (fun hc=>?_) (fun hc=>?_)
   ·have hc:x∉r.acks:=by simpa using hc
    rw[Gn hc] at hs;simp only[go_sem,m1,a3,h3,h1,h7,h8,h9,hlim,k69];exact⟨i+1,by omega,by omega,by rw[hs];simp[YaL,Yi],by rw[hs];simp,by rw[Yn h (by omega)]⟩
   ·have hc:x∈r.acks:=by simpa using hc
    rw[Gr hc] at hs;simp only[go_sem,m1,a3,h3,h1,h7,h8,h9];exact⟨i+1,by omega,by omega,by rw[hs],by rw[hs],by rw[Yn h (by omega)]⟩
  ·have h:=YE hi h;subst h;have e:YbR r r.members=YM r:=rfl;simp only[go_sem,a3,h3,GM,e]
def Yu:Rep:=⟨0,0,[],0,[],[],[]⟩
@[go_sem] def Yg7 (x:Rep×List Word×Int):V:=.tuple [.agg (YX x.1),Yax x.2.1,iz x.2.2]
@[go_sem] def eRW (x:Rep×List Word):V:=.tuple [.agg (YX x.1),Yax x.2]
def Yv (r:Rep) (t:List UInt8):Rep×List Word×Int:=
 if rightB r then (if Yp r then (if Yby r then (if r.n=1099511627776 then (Yu,[],6) else
  (YaU ⟨r.id,r.view,r.members,r.n+1,r.base,t,[r.id]⟩,YM ⟨r.id,r.view,r.members,r.n+1,r.base,t,[r.id]⟩,0)) else (Yu,[],11)) else (Yu,[],10)) else (Yu,[],1)
def H47 (Pg:PgT):Prop:=Pg 47=some (.code F47)∧H39 Pg∧H68 Pg∧H41 Pg∧H71 Pg∧H72 Pg
theorem K47 (h:H47 Pg) (r:Rep) (t:List UInt8) (ok:r.Ok) (hm:r.members.length≤10000):K' Pg 47 [.agg (YX r),.str t]=some (Yg7 (Yv r t)):=by
 obtain⟨h,h39,h68,h41,h71,h72⟩:=h;have k39:=K39 h39 r ok;have k68:=K68 h68 r;have k41:=K41 h41 r ok;have k71:=K71 h71 ⟨r.id,r.view,r.members,r.n+1,r.base,t,[r.id]⟩;have k72:=K72 h72 ⟨r.id,r.view,r.members,r.n+1,r.base,t,[r.id]⟩ ⟨ok.m,by simp⟩ hm;simp only[Yi,YX,GC,Gk] at k39 k68 k41 k71 k72;refine Qb h rfl ?_;cases hr:rightB r with
 |false=>simp only[go_sem,k39,Yv,hr,Yu]
 |true=>
  cases hl:Yp r with
  |false=>simp only[go_sem,k39,k68,Yv,hr,hl,Yu]
  |true=>
   cases ha:Yby r with
   |false=>
    have hb:YI r=true:=by simp[YI,hr,hl,ha]
    simp only[go_sem,k39,k68,k41,hb,Yv,hr,hl,ha,Yu]
   |true=>
    have hb:YI r=false:=by simp[YI,ha]
    by_cases hn:r.n=1099511627776
    ·have e:Yv r t=(Yu,[],6):=by simp[Yv,hr,hl,ha,hn]
     have hd:=GD hn;simp only[go_sem,k39,k68,k41,hb,e,hr,hl,hd,Yu]
    ·obtain⟨-,-,-,-,-,-,-,h1,h2⟩:=Yb5 hr;have hinc:IntKind.i64.wrap (r.n+1)=r.n+1:=JiG (by omega) (by omega);simp only[go_sem,k39,k68,k41,hb,Yv,hr,hl,ha,hn,hinc,k71,k72]
def H51 (Pg:PgT):Prop:=Pg 51=some (.code F51)∧H41 Pg∧H72 Pg
theorem K51 (h:H51 Pg) (r:Rep) (ok:r.Ok) (hm:r.members.length≤10000):K' Pg 51 [.agg (YX r)]=some (Yax (if YI r then YM r else [])):=by
 obtain⟨h,h41,h72⟩:=h;have k41:=K41 h41 r ok;have k72:=K72 h72 r ok hm;simp only[Yi,YX] at k41 k72;refine Qb h rfl ?_;cases hb:YI r<;>simp only[go_sem,k41,k72,hb]
def leadGood (r:Rep) (view:Int) (l:List Int):Prop:=rightB r=true∧SetP l∧l.head?=some r.id∧1≤view∧view≤1099511627776
instance (r:Rep) (view:Int) (l:List Int):Decidable (leadGood r view l):=inferInstanceAs (Decidable (_∧_∧_∧_∧_))
def Y5 (r:Rep) (view:Int) (l:List Int):Rep:=⟨r.id,view,l,r.n+1,r.text,r.text,[r.id]⟩
def Yae (r:Rep) (view:Int) (l:List Int):Rep×List Word×Int:=
 if leadGood r view l then (if view=r.view∧Yp r=true then (r,YM r,0) else if view≠r.view+1∨r.members=[] then (Yu,[],10) else if r.n=1099511627776 then (Yu,[],6)
  else (Y5 r view l,YM (Y5 r view l),0)) else (Yu,[],1)
def YbH (l:List Int) (id leader:Int):Bool:=decide (SetP l)&&(decide (id∈l)&&decide (l.head?=some leader))
def H73 (Pg:PgT):Prop:=Pg 73=some (.code F73)∧H64 Pg∧H65 Pg
theorem K73 (h:H73 Pg) (l:List Int) (id leader:Int) (hl:l.length≤10000):K' Pg 73 [Yi l,iz id,iz leader]=some (.bool (YbH l id leader)):=by
 obtain⟨h,h64,h65⟩:=h;have k64:=K64 h64 l (by omega);have k65:=fun x=>K65 h65 l x (by omega);refine Qb h rfl ?_;cases l with
 |nil=>simp only[go_sem,YbH,List.not_mem_nil,GaE]
 |cons m l=>
  have h0:JaG 1 (V.slice 1 ([iz m]::List.map (fun a=>[iz a]) l)) (iz 0)=some (.cptr [iz m] 0):=rfl;simp only[Yi,GC] at k64 k65;cases h1:decide (SetP (m::l)) with
  |false=>simp only[go_sem,Yce,k64,h1,YbH]
  |true=>
   cases h2:decide (id∈m::l)<;>simp only[go_sem,Yce,k64,k65,h0,h1,h2,YbH,List.head?_cons,Ga]
theorem Ykf {l:List Int} (h:l≠[]):decide ((l.length:Int)=0)=false:=by
 cases l with
 |nil=>exact absurd rfl h
 |cons a l=>simp;omega
theorem YiV {n:Int}:Ybz n 1=decide (1≤n∧n≤1099511627776):=by
 simp only[Ybz,Bool.decide_and]
def H54 (Pg:PgT):Prop:=Pg 54=some (.code F54)∧H39 Pg∧H73 Pg∧H63 Pg∧H68 Pg∧H72 Pg∧H69 Pg
theorem K54 (h:H54 Pg) (r:Rep) (view:Int) (l:List Int) (ok:r.Ok) (hm:r.members.length≤10000) (hl:l.length≤10000):K' Pg 54 [.agg (YX r),iz view,Yi l]=some (Yg7 (Yae r view l)):=by
 obtain⟨h,h39,h73,h63,h68,h72,h69⟩:=h;have k39:=K39 h39 r ok;have k73:=K73 h73 l r.id r.id hl;have k63:=K63 h63 view 1;have k68:=K68 h68 r;have k72:=K72 h72 r ok hm;have k72':=K72 h72 (Y5 r view l) ⟨by simp only[Y5];omega,by simp[Y5]⟩ hl;have k69:=K69 h69 l (by omega);simp only[Yi,YX] at k39 k73 k63 k68 k72 k69;simp only[Yi,YX,Y5,GC,Gk] at k72';refine Qb h rfl ?_;have memb:YbH l r.id r.id=decide (SetP l∧l.head?=some r.id):=by
  simp only[YbH,Bool.decide_and];cases l with
  |nil=>simp
  |cons a l=>
   by_cases ha:a=r.id
   ·subst ha;simp
   ·simp[ha]
 rw[memb] at k73;rw[YiV] at k63;by_cases hg:leadGood r view l
 ·obtain⟨g1,g2,g3,g4,g5⟩:=hg;obtain⟨-,-,-,-,-,h1,h2,h3,h4⟩:=Yb5 g1;have hinc:IntKind.i64.wrap (r.n+1)=r.n+1:=JiG (by omega) (by omega);have hinv:IntKind.i64.wrap (r.view+1)=r.view+1:=JiG (by omega) (by omega);simp only[g2,g3,and_self,GaN] at k73;simp only[g4,g5,and_self,GaN] at k63;by_cases c1:view=r.view∧Yp r=true
  ·have e:Yae r view l=(r,YM r,0):=by simp only[Yae];rw[Gr ⟨g1,g2,g3,g4,g5⟩,Gr c1]
   have d1:=GD c1.1;rw[e];simp only[go_sem,k39,g1,k73,k63,d1,k68,c1.2,k72]
  ·have fin:(decide (view=r.view)=false∨Yp r=false):=by
    by_cases hv:view=r.view
    ·exact .inr (by simpa [hv] using c1)
    ·exact .inl (by simpa using hv)
   by_cases c2:view≠r.view+1∨r.members=[]
   ·have e:Yae r view l=(Yu,[],10):=by simp only[Yae];rw[Gr ⟨g1,g2,g3,g4,g5⟩,Gn c1,Gr c2]
    rw[e];have d2:decide (view=r.view+1)=false∨decide (view=r.view+1)=true∧decide ((r.members.length:Int)=0)=true:=by
     by_cases hv:view=r.view+1
     ·refine .inr ⟨by simp[hv],?_⟩;rcases c2 with c2|c2
      ·exact absurd hv c2
      ·simp[c2]
     ·exact .inl (by simp[hv])
    cases d1:decide (view=r.view) with
    |false=>rcases d2 with d2|⟨d2,d3⟩<;>simp only[go_sem,k39,g1,k73,k63,d1,hinv,d2,Yu]<;>simp only[go_sem,d3]
    |true=>
     have d4:Yp r=false:=by
      rcases fin with f|f
      ·rw[d1] at f;simp at f
      ·exact f
     rcases d2 with d2|⟨d2,d3⟩<;>simp only[go_sem,k39,g1,k73,k63,d1,d4,k68,hinv,d2,Yu]<;>simp only[go_sem,d3]
   ·have hv:view=r.view+1:=by
     by_cases hv:view=r.view+1
     ·exact hv
     ·exact absurd (.inl hv) c2
    have hne:r.members≠[]:=fun e=>c2 (.inr e);have d1:decide (view=r.view)=false:=by simp;omega
    have d2:decide (view=r.view+1)=true:=by simp[hv]
    have d3:=Ykf hne;by_cases c3:r.n=1099511627776
    ·have e:Yae r view l=(Yu,[],6):=by simp only[Yae];rw[Gr ⟨g1,g2,g3,g4,g5⟩,Gn c1,Gn c2,Gr c3]
     have d4:=GD c3;rw[e];simp only[go_sem,k39,g1,k73,k63,d1,d2,d3,d4,hinv,Yu]
    ·have e:Yae r view l=(Y5 r view l,YM (Y5 r view l),0):=by simp only[Yae];rw[Gr ⟨g1,g2,g3,g4,g5⟩,Gn c1,Gn c2,Gn c3]
     have d4:=Gp c3;rw[e];simp only[go_sem,k39,g1,k73,k63,d1,d2,d3,d4,hinv,hinc,k69,k72',Y5]
 ·have e:Yae r view l=(Yu,[],1):=by simp only[Yae,hg,Gu]
  rw[e];cases g1:rightB r with
  |false=>simp only[go_sem,k39,g1,Yu]
  |true=>
   cases g2:decide (SetP l∧l.head?=some r.id) with
   |false=>simp only[go_sem,k39,g1,k73,g2,Yu]
   |true=>
    have g2':=Gg g2;have g3:decide (1≤view∧view≤1099511627776)=false:=by
     simp only[Gq];exact fun c=>hg ⟨g1,g2'.1,g2'.2,c.1,c.2⟩
    simp only[go_sem,k39,g1,k73,g2,k63,g3,Yu]
def Y8 (r:Rep) (w:Word):Rep:=⟨r.id,w.view,w.members,w.n,w.text,w.text,[]⟩
def shipT (r:Rep) (w:Word):Rep×List Word:=
 if w.view<r.view then (r,[⟨3,r.id,w.frm,r.view,0,[],[]⟩])
 else if w.view=r.view∧(Yp r=true∨w.n<r.n) then (r,[])
 else if w.view≠r.view∨r.n<w.n then (Y8 r w,[⟨2,r.id,w.frm,w.view,w.n,[],[]⟩])
 else (r,[⟨2,r.id,w.frm,r.view,r.n,[],[]⟩])
def Yaj (r:Rep) (w:Word):Rep×List Word:=
 if decide (w.frm=r.id) then (r,[]) else if YbH w.members r.id w.frm then (if Ybz w.view 1 then (if Ybz w.n 1 then shipT r w else (r,[])) else (r,[])) else (r,[])
def H74 (Pg:PgT):Prop:=Pg 74=some (.code F74)∧H73 Pg∧H63 Pg∧H68 Pg∧H69 Pg
theorem K74 (h:H74 Pg) (r:Rep) (w:Word) (hw:w.members.length≤10000):K' Pg 74 [.agg (YX r),.agg (YaL w)]=some (eRW (Yaj r w)):=by
 obtain⟨h,h73,h63,h68,h69⟩:=h;have k73:=K73 h73 w.members r.id w.frm hw;have k63v:=K63 h63 w.view 1;have k63n:=K63 h63 w.n 1;have k68:=K68 h68 r;have k69:=K69 h69 w.members (by omega);simp only[Yi,YX] at k73 k63v k63n k68 k69;refine Qb h rfl ?_;cases c1:decide (w.frm=r.id) with
 |true=>simp only[go_sem,c1,Yaj]
 |false=>
 cases c2:YbH w.members r.id w.frm with
 |false=>simp only[go_sem,c1,k73,c2,Yaj]
 |true=>
 cases c3:Ybz w.view 1 with
 |false=>simp only[go_sem,c1,k73,c2,k63v,c3,Yaj]
 |true=>
 cases c4:Ybz w.n 1 with
 |false=>simp only[go_sem,c1,k73,c2,k63v,c3,k63n,c4,Yaj]
 |true=>
 have e:Yaj r w=shipT r w:=by simp only[Yaj,c1,c2,c3,c4];rfl
 rw[e];by_cases d1:w.view<r.view
 ·have e:shipT r w=(r,[⟨3,r.id,w.frm,r.view,0,[],[]⟩]):=by simp only[shipT,d1,Gz]
  rw[e];simp only[go_sem,c1,k73,c2,k63v,c3,k63n,c4,d1]
 ·by_cases d2:w.view=r.view
  ·have d2':=GD d2;cases hl:Yp r with
   |true=>
    have e:shipT r w=(r,[]):=by simp only[shipT];rw[Gn d1,Gr ⟨d2,.inl hl⟩]
    rw[e];simp only[go_sem,c1,k73,c2,k63v,c3,k63n,c4,d1,d2',k68,hl]
   |false=>
    by_cases d3:w.n<r.n
    ·have e:shipT r w=(r,[]):=by simp only[shipT];rw[Gn d1,Gr ⟨d2,.inr d3⟩]
     rw[e];simp only[go_sem,c1,k73,c2,k63v,c3,k63n,c4,d1,d2',k68,hl,d3]
    ·by_cases d4:r.n<w.n
     ·have e:shipT r w=(Y8 r w,[⟨2,r.id,w.frm,w.view,w.n,[],[]⟩]):=by simp only[shipT];rw[Gn d1,Gn (by rw[hl];simp;omega),Gr (.inr d4)]
      rw[e];simp only[go_sem,c1,k73,c2,k63v,c3,k63n,c4,d1,d2',k68,hl,d3,d4,k69,Y8]
     ·have e:shipT r w=(r,[⟨2,r.id,w.frm,r.view,r.n,[],[]⟩]):=by simp only[shipT];rw[Gn d1,Gn (by rw[hl];simp;omega),Gn (by omega)]
      rw[e];simp only[go_sem,c1,k73,c2,k63v,c3,k63n,c4,d1,d2',k68,hl,d3,d4]
  ·have d2':=Gp d2;have e:shipT r w=(Y8 r w,[⟨2,r.id,w.frm,w.view,w.n,[],[]⟩]):=by simp only[shipT];rw[Gn d1,Gn (fun x=>d2 x.1),Gr (.inl d2)]
   rw[e];simp only[go_sem,c1,k73,c2,k63v,c3,k63n,c4,d1,d2',k69,Y8]
def YaO (r:Rep) (w:Word):Rep:=⟨r.id,r.view,r.members,r.n,r.base,r.text,r.acks++[w.frm]⟩
def Yb3 (r:Rep):Rep:=⟨r.id,r.view,[],r.n,r.text,r.text,[]⟩
def Yca (r:Rep) (w:Word):Bool:=Yp r&&(decide (w.view=r.view)&&(decide (w.n=r.n)&&(decide (w.frm∈r.members)&&!decide (w.frm∈r.acks))))
def Yx (r:Rep) (w:Word):Rep×List Word:=
 if rightB r then (if w.to=r.id then (if w.kind=1 then Yaj r w else if w.kind=2 then (if Yca r w then (YaU (YaO r w),[]) else (r,[]))
  else if w.kind=3 then (if r.view<w.view then (Yb3 r,[]) else (r,[])) else (r,[])) else (r,[])) else (r,[])
def H57 (Pg:PgT):Prop:=Pg 57=some (.code F57)∧H39 Pg∧H74 Pg∧H68 Pg∧H65 Pg∧H69 Pg∧H71 Pg
theorem K57 (h:H57 Pg) (r:Rep) (w:Word) (ok:r.Ok) (ha:r.acks.length≤10000) (hw:w.members.length≤10000):K' Pg 57 [.agg (YX r),.agg (YaL w)]=some (eRW (Yx r w)):=by
 obtain⟨h,h39,h74,h68,h65,h69,h71⟩:=h;have k39:=K39 h39 r ok;have k74:=K74 h74 r w hw;have k68:=K68 h68 r;have k65m:=K65 h65 r.members w.frm ok.m;have k65a:=K65 h65 r.acks w.frm ok.a;have k69:=K69 h69 r.acks (by omega);have k71:=K71 h71 (YaO r w);have hlim:r.acks.length+1≤lim:=by simp only[lim];omega
 simp only[Yi,YX,YaL,eRW,Yax] at k39 k74 k68 k65m k65a k69;simp only[Yi,YX,YaO,GF,GC,Gk] at k71;refine Qb h rfl ?_;cases c1:rightB r with
 |false=>simp only[go_sem,k39,c1,Yx]
 |true=>
 by_cases c2:w.to=r.id
 ·have c2':=GD c2;by_cases d1:w.kind=1
  ·have d1':=GD d1;have e:Yx r w=Yaj r w:=by simp only[Yx,c1,c2,d1,Gz]
   rw[e];simp only[go_sem,k39,c1,c2',d1',k74]
  ·have d1':=Gp d1;by_cases d2:w.kind=2
   ·have d2':=GD d2;have e:Yx r w=(if Yca r w then (YaU (YaO r w),[]) else (r,[])):=by simp only[Yx];rw[Gr c1,Gr c2,Gn d1,Gr d2]
    rw[e];cases b1:Yp r with
    |false=>simp only[go_sem,k39,c1,c2',d1',d2',k68,b1,Yca]
    |true=>
    cases b2:decide (w.view=r.view) with
    |false=>simp only[go_sem,k39,c1,c2',d1',d2',k68,b1,b2,Yca]
    |true=>
    cases b3:decide (w.n=r.n) with
    |false=>simp only[go_sem,k39,c1,c2',d1',d2',k68,b1,b2,b3,Yca]
    |true=>
    cases b4:decide (w.frm∈r.members) with
    |false=>simp only[go_sem,k39,c1,c2',d1',d2',k68,b1,b2,b3,k65m,b4,Yca]
    |true=>
    cases b5:decide (w.frm∈r.acks) with
    |true=>simp only[go_sem,k39,c1,c2',d1',d2',k68,b1,b2,b3,k65m,k65a,b4,b5,Yca]
    |false=>simp only[go_sem,k39,c1,c2',d1',d2',k68,b1,b2,b3,k65m,k65a,b4,b5,Yca,k69,hlim,k71,YaO]
   ·have d2':=Gp d2;by_cases d3:w.kind=3
    ·have d3':=GD d3;have e:Yx r w=(if r.view<w.view then (Yb3 r,[]) else (r,[])):=by simp only[Yx];rw[Gr c1,Gr c2,Gn d1,Gn d2,Gr d3]
     rw[e];by_cases b:r.view<w.view<;>simp only[go_sem,k39,c1,c2',d1',d2',d3',b,Yb3]
    ·have d3':=Gp d3;have e:Yx r w=(r,[]):=by simp only[Yx];rw[Gr c1,Gr c2,Gn d1,Gn d2,Gn d3]
     rw[e];simp only[go_sem,k39,c1,c2',d1',d2',d3']
 ·have c2':=Gp c2;have e:Yx r w=(r,[]):=by simp only[Yx,c1,c2,Gz,Gu]
  rw[e];simp only[go_sem,k39,c1,c2']
structure RP (r:Rep):Prop where
 id:1≤r.id∧r.id≤255
 view:0≤r.view∧r.view≤1099511627776
 n:0≤r.n∧r.n≤1099511627776
 sm:SetP r.members
 sa:SetP r.acks
 sub:∀a∈r.acks,a∈r.members
 inn:r.members≠[]→r.id∈r.members
 lead:Yp r=true→r.id∈r.acks∧(Yby r=true→r.base=r.text)
 not:Yp r=false→r.acks=[]∧r.base=r.text
theorem Ybt (r:Rep):rightB r=true↔RP r:=by
 have e1:((0:Int)<(r.members.length:Int))↔r.members≠[]:=by
  cases h:r.members with
  |nil=>simp
  |cons a l=>simp
 have e2:((r.acks.length:Int)=0)↔r.acks=[]:=by cases r.acks<;>simp;omega
 unfold rightB;simp only[Gc,GN,Gap,Gq,Bool.and_eq_false_iff,Gx,Gi,Ybz,GaG,Gc,Decidable.not_not,e1];constructor
 ·rintro⟨⟨h1,h2,h3,h4,h5,h6⟩,h7,h8,h9⟩;refine⟨⟨by omega,by omega⟩,?_,?_,h5,h6,h7,fun hm=>?_,fun hl=>?_,fun hl=>?_⟩
  ·rcases h3 with h|h<;>omega
  ·rcases h4 with h|h<;>omega
  ·rcases h8 with h|h
   ·exact absurd (h) (fun h=>by first|exact h hm|exact hm h)
   ·exact h
  ·rw[hl] at h9;simp only[cond_true,Gc,G2,GN,Gi] at h9;refine⟨h9.1,fun ha=>?_⟩;rcases h9.2 with h|h
   ·rw[ha] at h;cases h
   ·exact h
  ·rw[hl] at h9;simp only[cond_false,Gc,Gi,e2] at h9;exact h9
 ·rintro⟨h1,h2,h3,h4,h5,h6,h7,h8,h9⟩;refine⟨⟨by omega,by omega,?_,?_,h4,h5⟩,h6,?_,?_⟩
  ·by_cases h:r.view=0
   ·exact .inl h
   ·exact .inr ⟨by omega,by omega⟩
  ·by_cases h:r.n=0
   ·exact .inl h
   ·exact .inr ⟨by omega,by omega⟩
  ·by_cases hm:r.members=[]
   ·exact .inl (by first|exact hm|exact fun h=>h hm)
   ·exact .inr (h7 hm)
  ·cases hl:Yp r with
   |true=>
    obtain⟨a,b⟩:=h8 hl;simp only[cond_true,Gc,G2,GN,Gi];refine⟨a,?_⟩;cases ha:Yby r with
    |false=>exact .inl rfl
    |true=>exact .inr (b ha)
   |false=>
    simp only[cond_false,Gc,Gi,e2];exact h9 hl
theorem Yc5:SetP []:=by decide
def Ybb (k:Nat):Int:=(k:Int)+1
structure Gh where
 V:Int
 who:Int→Nat
 mem:Int→List Int
 n0:Int→Int
 top:Int→Int
 τ:Int→Int→List UInt8
structure GOK (g:Gh):Prop where
 V1:1≤g.V
 who:∀v,1≤v→v≤g.V→g.who v<3
 set:∀v,1≤v→v≤g.V→SetP (g.mem v)∧(∀m∈g.mem v,1≤m∧m≤3)∧(g.mem v).head?=some (Ybb (g.who v))
 n0:∀v,1≤v→v≤g.V→1≤g.n0 v∧g.n0 v≤g.top v
 chain:∀v,1≤v→v≤g.V→∀n m,g.n0 v≤n→n≤m→m≤g.top v→g.τ v n <+:g.τ v m
 next:∀v,1≤v→v+1≤g.V→Ybb (g.who (v+1))∈g.mem v∧g.n0 v≤g.n0 (v+1)-1∧g.n0 (v+1)-1≤g.top v∧g.τ (v+1) (g.n0 (v+1))=g.τ v (g.n0 (v+1)-1)
def AckOK (g:Gh) (r:Nat→Rep) (j:Nat) (v n:Int):Prop:=
 v≤(r j).view∧((r j).view=v→n≤(r j).n)∧(v+1≤g.V→g.who (v+1)=j→n≤g.n0 (v+1)-1)
def Evd (g:Gh) (r:Nat→Rep) (v b:Int):Prop:=
 b=g.n0 v∨∀j,j<3→Ybb j∈g.mem v→v≤(r j).view∧((r j).view=v→b≤(r j).n)
structure ROK (g:Gh) (r:Nat→Rep) (k:Nat):Prop where
 id:(r k).id=Ybb k
 right:RP (r k)
 view:1≤(r k).view∧(r k).view≤g.V
 n:g.n0 (r k).view≤(r k).n∧(r k).n≤g.top (r k).view
 text:(r k).text=g.τ (r k).view (r k).n
 mem:(r k).members=[]∨(r k).members=g.mem (r k).view∧Ybb k∈g.mem (r k).view
 top:Yp (r k)=true→(r k).n=g.top (r k).view
 base:Yp (r k)=true→∃b,g.n0 (r k).view≤b∧b≤(r k).n∧(r k).base=g.τ (r k).view b∧((r k).view+1≤g.V→b≤g.n0 ((r k).view+1)-1)∧Evd g r (r k).view b
 acks:Yp (r k)=true→∀a∈(r k).acks,a≠(r k).id→∃j,j<3∧a=Ybb j∧AckOK g r j (r k).view (r k).n
structure WOK (g:Gh) (r:Nat→Rep) (x:Word):Prop where
 ship:x.kind=1→1≤x.view∧x.view≤g.V∧g.n0 x.view≤x.n∧x.n≤g.top x.view∧x.text=g.τ x.view x.n∧x.members=g.mem x.view∧x.frm=Ybb (g.who x.view)
 ack:x.kind=2→∃j,j<3∧x.frm=Ybb j∧AckOK g r j x.view x.n
 past:x.kind=3→x.view≤g.V
structure Fixd where
 text:List UInt8
 at_:Int
structure FOK (g:Gh) (r:Nat→Rep) (x:Fixd):Prop where
 at_:1≤x.at_∧x.at_≤g.V
 b:∃b,g.n0 x.at_≤b∧b≤g.top x.at_∧x.text=g.τ x.at_ b∧(x.at_+1≤g.V→b≤g.n0 (x.at_+1)-1)∧Evd g r x.at_ b
 now:∀k,k<3→Yp (r k)=true→(r k).view=x.at_→x.text <+:(r k).base
structure Told where
 view:Int
 who:Int
 members:List Int
structure Inv1 (g:Gh) (r:Nat→Rep) (net:List Word) (views:List Told) (fx:List Fixd):Prop where
 gk:GOK g
 rk:∀k,k<3→ROK g r k
 told:∀v,1≤v→v≤g.V→v≤(r (g.who v)).view
 netk:∀x∈net,WOK g r x
 viewk:∀t∈views,2≤t.view∧t.view≤g.V∧t.who=(g.who t.view:Int)
 all:∀v,2≤v→v≤g.V→∃t∈views,t.view=v
 fxk:∀x∈fx,FOK g r x
section
variable {g:Gh} {r:Nat→Rep} {net:List Word} {views:List Told} {fx:List Fixd}
theorem Inv1.say (h:Inv1 g r net views fx) {net':List Word} (hn:∀x∈net',WOK g r x):Inv1 g r net' views fx:=⟨h.gk,h.rk,h.told,hn,h.viewk,h.all,h.fxk⟩
theorem Yba (r:Rep):(YaU r).id=r.id∧(YaU r).view=r.view∧(YaU r).members=r.members∧(YaU r).n=r.n∧(YaU r).text=r.text∧(YaU r).acks=r.acks:=by
 unfold YaU;split<;>exact⟨rfl,rfl,rfl,rfl,rfl,rfl⟩
end
section
variable {g:Gh} {r:Nat→Rep} {net:List Word} {views:List Told} {fx:List Fixd}
end
structure Thr where
 r:Nat→Rep
 net:List Word
 views:List Told
 fx:List Fixd
 count:Int
def Yhi (net:List Word) (i:Nat):List Word:=net.take i++net.drop (i+1)
theorem Yka {net:List Word} {i:Nat} {x:Word} (h:x∈Yhi net i):x∈net:=by
 rcases GT.1 h with h|h
 ·exact Gah h
 ·exact Gac h
abbrev IT (g:Gh) (t:Thr):Prop:=Inv1 g t.r t.net t.views t.fx
section
variable {g:Gh} {t:Thr}
theorem IT.off (h:IT g t) (i:Nat):IT g {t with net:=Yhi t.net i}:=Inv1.say h fun y hy=>h.netk y (Yka hy)
end
section
variable {g:Gh} {t:Thr} {N:Int} {T:List UInt8}
end
@[go_sem] def YeH (t:Told):List V:=[iz t.view,iz t.who,Yi t.members]
def Ybi (r:Nat→Rep) (v1 v2 v3 v4 v5:V):List V:=YX (r 0)++(YX (r 1)++(YX (r 2)++[v1,v2,v3,v4,v5]))
@[go_sem] def Ydl (t:Thr) (a b c d:Nat):List V:=Ybi t.r (.own a 7 t.net.length) (.own b 3 t.views.length) (.own c 1 t.fx.length) (.own d 1 t.fx.length) (iz t.count)
structure Arr4 (A:AA) (t:Thr) (a b c d:Nat):Prop where
 ra:A a=some (7,t.net.map YaL,.live)
 rb:A b=some (3,t.views.map YeH,.live)
 rc:A c=some (1,t.fx.map (fun f=>[.str f.text]),.live)
 rd:A d=some (1,t.fx.map (fun f=>[iz f.at_]),.live)
 rn:a≠b∧a≠c∧a≠d∧b≠c∧b≠d∧c≠d
def HT (S:St) (v:Nat) (t:Thr) (a b c d:Nat):Prop:=S.μ v=some (Ydl t a b c d,false)∧Arr4 S.A t a b c d
theorem YbG {A:AA}:∀{l m:List V},l.all V.datC=true→(∀z,V.nslice z∉l)→Jad (l++m) A=(Jad m A).map fun r=>(l++r.1,r.2)
 |[],m,_,_=>by cases h:Jad m A<;>simp[h]
 |x::l,m,hd,hn=>by
  simp only[List.all_cons,Gc] at hd;have hx:handC A x=some (x,A):=by
   cases x<;>first|rfl|(simp[V.datC] at hd;done)|(exact absurd (GR ..) (hn _))
  rw[List.cons_append,Jcq,hx];simp only[Option.bind_some];rw[YbG hd.2 (fun z hz=>hn z (by simp[hz]))];cases Jad m A<;>simp
theorem YcB {A:AA}:∀{l m:List V} {d:Nat},l.all V.datC=true→JH d (l++m) A=(JH (d+l.length) m A).map fun r=>(l++r.1,r.2)
 |[],m,d,_=>by cases h:JH d m A<;>simp[h]
 |x::l,m,d,hd=>by
  simp only[List.all_cons,Gc] at hd;have hx:takeC d A x=some (x,A):=by
   cases x<;>first|rfl|(simp[V.datC] at hd;done)
  rw[List.cons_append,JcI,hx];simp only[Option.bind_some];rw[YcB hd.2,show d+1+l.length=d+(x::l).length by simp;omega];cases JH (d+(x::l).length) m A<;>simp
theorem YdF (r:Rep):(YX r).all V.datC=true:=rfl
section
variable {r:Nat→Rep} {v1 v2 v3 v4 v5 w:V} {k s:Nat} {S:St}
theorem Ylf:(Ybi r v1 v2 v3 v4 v5).length=26:=rfl
theorem k3 (hk:k<3):k=0∨k=1∨k=2:=by omega
theorem Ymn:(Ybi r v1 v2 v3 v4 v5)[21]?=some v1:=rfl
theorem Ymo:(Ybi r v1 v2 v3 v4 v5)[22]?=some v2:=rfl
theorem Ymp:(Ybi r v1 v2 v3 v4 v5)[23]?=some v3:=rfl
theorem Ymq:(Ybi r v1 v2 v3 v4 v5)[24]?=some v4:=rfl
theorem Ymr:(Ybi r v1 v2 v3 v4 v5)[25]?=some v5:=rfl
theorem Yl3:stV S s 21 [w] (some (Ybi r v1 v2 v3 v4 v5,false))=some ⟨S.ρ,upd S.μ s (some (Ybi r w v2 v3 v4 v5,false)),S.A⟩:=rfl
theorem Yl4:stV S s 22 [w] (some (Ybi r v1 v2 v3 v4 v5,false))=some ⟨S.ρ,upd S.μ s (some (Ybi r v1 w v3 v4 v5,false)),S.A⟩:=rfl
theorem Yl5:stV S s 23 [w] (some (Ybi r v1 v2 v3 v4 v5,false))=some ⟨S.ρ,upd S.μ s (some (Ybi r v1 v2 w v4 v5,false)),S.A⟩:=rfl
theorem Yl6:stV S s 24 [w] (some (Ybi r v1 v2 v3 v4 v5,false))=some ⟨S.ρ,upd S.μ s (some (Ybi r v1 v2 v3 w v5,false)),S.A⟩:=rfl
theorem Yl7:stV S s 25 [w] (some (Ybi r v1 v2 v3 v4 v5,false))=some ⟨S.ρ,upd S.μ s (some (Ybi r v1 v2 v3 v4 w,false)),S.A⟩:=rfl
attribute [go_sem] Ymn Ymo Ymp Ymq Ymr Ylf
attribute [go_sem high] Yl3 Yl4 Yl5 Yl6 Yl7
end
theorem ren_arr {A:AA} {t:Thr} {a b c d x h:Nat} (hA:Arr4 A t a b c d):Arr4 (fun i=>A (swp x h i)) t (swp x h a) (swp x h b) (swp x h c) (swp x h d):=by
 obtain⟨n1,n2,n3,n4,n5,n6⟩:=hA.rn;have inj:∀{p q:Nat},p≠q→swp x h p≠swp x h q:=fun {p q} hn e=>hn (by
  have:∀r,swp x h (swp x h r)=r:=fun r=>by
   unfold swp;by_cases e1:r=x
   ·subst e1;simp only[Gz];split
    ·rename_i e;exact e
    ·rfl
   ·rw[Gn e1];by_cases e2:r=h
    ·subst e2;simp
    ·rw[Gn e2,Gn e1,Gn e2]
  rw[←this p,e,this q])
 have inv:∀r,swp x h (swp x h r)=r:=fun r=>by
   unfold swp;by_cases e1:r=x
   ·subst e1;simp only[Gz];split
    ·rename_i e;exact e
    ·rfl
   ·rw[Gn e1];by_cases e2:r=h
    ·subst e2;simp
    ·rw[Gn e2,Gn e1,Gn e2]
 exact⟨by simp only[inv];exact hA.ra,by simp only[inv];exact hA.rb,by simp only[inv];exact hA.rc,by simp only[inv];exact hA.rd,inj n1,inj n2,inj n3,inj n4,inj n5,inj n6⟩
theorem HT.ren {S:St} {v x h:Nat} {t:Thr} {a b c d:Nat} (hT:HT S v t a b c d):HT (S.ren x h) v t (swp x h a) (swp x h b) (swp x h c) (swp x h d):=by
 refine⟨?_,ren_arr hT.2⟩
 show (S.μ v).map _=_
 rw[hT.1];rfl
theorem Ya9 {x h p:Nat} (h1:p≠x) (h2:p≠h):swp x h p=p:=by simp[swp,h1,h2]
theorem Ygk {T:List Nat} {x h y:Nat} (hx:x∈T) (hh:h∈T) (hy:y∈T):swp x h y∈T:=by
 unfold swp;split
 ·exact hh
 ·split
  ·exact hx
  ·exact hy
theorem HT.head {S:St} {v:Nat} {t:Thr} {a b c d h1 h2 h3 h4:Nat} {Wv Wa:List Nat} (hT:HT S v t a b c d) (hh:h1≠h2∧h1≠h3∧h1≠h4∧h2≠h3∧h2≠h4∧h3≠h4)
  (hv:Wv.contains v=false) (hw:Wa.contains h1=false∧Wa.contains h2=false∧Wa.contains h3=false∧Wa.contains h4=false) :
  HT (S.head [] [v,21,h1,v,22,h2,v,23,h3,v,24,h4] Wv Wa) v t h1 h2 h3 h4∧(∀x,Wa.contains x=true→(S.head [] [v,21,h1,v,22,h2,v,23,h3,v,24,h4] Wv Wa).A x=none)∧
   (∀x,x∉[a,b,c,d,h1,h2,h3,h4]→S.A x=none→(S.head [] [v,21,h1,v,22,h2,v,23,h3,v,24,h4] Wv Wa).A x=none):=by
 obtain⟨q1,q2,q3,q4,q5,q6⟩:=hh
 have s1:=hT.ren (x:=a) (h:=h1)
 rw[Jh8] at s1
 have e1:S.swp1 v 21 h1=S.ren a h1:=by rw[JgQ,hT.1,Jh6];rfl
 have T0:∀y∈[a,b,c,d,h1,h2,h3,h4],swp a h1 y∈[a,b,c,d,h1,h2,h3,h4]:=fun y hy=>Ygk (by simp) (by simp) hy
 have tb1:=T0 b (by simp)
 have tc1:=T0 c (by simp)
 have td1:=T0 d (by simp)
 generalize swp a h1 b=b1 at *
 generalize swp a h1 c=c1 at *
 generalize swp a h1 d=d1 at *
 obtain⟨n1,n2,n3,n4,n5,n6⟩:=s1.2.rn
 have s2:=s1.ren (x:=b1) (h:=h2)
 rw[Jh8,Ya9 n1 q1] at s2
 have e2:(S.ren a h1).swp1 v 22 h2=(S.ren a h1).ren b1 h2:=by rw[JgQ,s1.1,Jh6];rfl
 have tc2:=Ygk (h:=h2) tb1 (by simp) tc1
 have td2:=Ygk (h:=h2) tb1 (by simp) td1
 generalize swp b1 h2 c1=c2 at *
 generalize swp b1 h2 d1=d2 at *
 obtain⟨m1,m2,m3,m4,m5,m6⟩:=s2.2.rn
 have s3:=s2.ren (x:=c2) (h:=h3)
 rw[Jh8,Ya9 m2 q2,Ya9 m4 q4] at s3
 have e3:((S.ren a h1).ren b1 h2).swp1 v 23 h3=((S.ren a h1).ren b1 h2).ren c2 h3:=by rw[JgQ,s2.1,Jh6];rfl
 have td3:=Ygk (h:=h3) tc2 (by simp) td2
 generalize swp c2 h3 d2=d3 at *
 obtain⟨l1,l2,l3,l4,l5,l6⟩:=s3.2.rn
 have s4:=s3.ren (x:=d3) (h:=h4)
 rw[Jh8,Ya9 l3 q3,Ya9 l5 q5,Ya9 l6 q6] at s4
 have e4:(((S.ren a h1).ren b1 h2).ren c2 h3).swp1 v 24 h4=(((S.ren a h1).ren b1 h2).ren c2 h3).ren d3 h4:=by rw[JgQ,s3.1,Jh6];rfl
 have eh:S.head [] [v,21,h1,v,22,h2,v,23,h3,v,24,h4] Wv Wa=((((S.ren a h1).ren b1 h2).ren c2 h3).ren d3 h4).scrub [] Wv Wa:=by
  rw[Jir,e1,Jir,e2,Jir,e3,Jir,e4];rfl
 rw[eh]
 refine⟨⟨?_,?_⟩,fun x hx=>?_,fun x hx h0=>?_⟩
 ·show (if Wv.contains v then none else _)=_
  rw[hv,s4.1]
  simp only[Gm,Gu,Option.map_some]
  have:(Ydl t h1 h2 h3 h4).map (Jv Wa)=Ydl t h1 h2 h3 h4:=by
   unfold Ydl Ybi;simp only[GF,JbW (YdF _),GC,Gk,Jv,hw.1,hw.2.1,hw.2.2.1,hw.2.2.2]
   rfl
  rw[this]
  cases Wa.isEmpty<;>rfl
 ·have keep:∀x,Wa.contains x=false→(((((S.ren a h1).ren b1 h2).ren c2 h3).ren d3 h4).scrub [] Wv Wa).A x=((((S.ren a h1).ren b1 h2).ren c2 h3).ren d3 h4).A x:=fun x hx=>by
   show (if Wa.contains x then none else _)=_
   rw[hx];rfl
  exact⟨by rw[keep _ hw.1];exact s4.2.ra,by rw[keep _ hw.2.1];exact s4.2.rb,by rw[keep _ hw.2.2.1];exact s4.2.rc,by rw[keep _ hw.2.2.2];exact s4.2.rd,q1,q2,q3,q4,q5,q6⟩
 ·show (if Wa.contains x then none else _)=_
  rw[hx];rfl
 ·show (if Wa.contains x then none else _)=_
  split
  ·rfl
  ·show S.A (swp a h1 (swp b1 h2 (swp c2 h3 (swp d3 h4 x))))=none
   have ne:∀{y},y∈[a,b,c,d,h1,h2,h3,h4]→x≠y:=fun hy e=>hx (e▸hy)
   rw[Ya9 (ne td3) (ne (by simp)),Ya9 (ne tc2) (ne (by simp)),Ya9 (ne tb1) (ne (by simp)),Ya9 (ne (by simp)) (ne (by simp))]
   exact h0
theorem Arr4.of {A:AA} {t t':Thr} {a b c d:Nat} (h:Arr4 A t a b c d) (h1:t'.net=t.net) (h2:t'.views=t.views) (h3:t'.fx=t.fx):Arr4 A t' a b c d:=
 ⟨by rw[h1];exact h.ra,by rw[h2];exact h.rb,by rw[h3];exact h.rc,by rw[h3];exact h.rd,h.rn⟩
theorem YgD {A:AA} {l:List V} (hd:l.all V.datC=true) (hn:∀z,V.nslice z∉l):Jad l A=some (l,A):=by
 have:=YbG (A:=A) (m:=[]) hd hn;rw[Gv] at this;rw[this,Jc2];simp
theorem YgU {A:AA} {l:List V} {d:Nat} (hd:l.all V.datC=true):JH d l A=some (l,A):=by
 have:=YcB (A:=A) (m:=[]) (d:=d) hd;rw[Gv] at this;rw[this,Jdy];simp
structure SDat (S:St) (rest cs:List V):Prop where
 r0:S.ρ 0=.lref 0 0
 r:∀i,S.ρ (i+1)=(rest[i]?).getD .undef
 h:S.μ 0=some (cs,false)
 m:∀i,(i == 0)=false→S.μ i=none
 a:∀x,S.A x=none
theorem YgY {f:Nat} {F:F} (rs:List Res) {rest ws cs cs':List V} (hF:Pg f=some (.codeR F 0)) (hl:rest.length+1=F.np) (hrs:F.res=rs) (hd:cs.all V.datC=true) (hd':cs'.all V.datC=true) (hn':∀z,V.nslice z∉cs')
  (h:∀S,SDat S rest cs→Wp (K' Pg) F.body S fun ex S'=>(ex=.norm∨ex=.ret)∧S'.μ 0=some (cs',false)∧∃vs,Jo (resV S') rs=some vs∧Jo (toD S'.A) vs=some ws) :
  K' Pg f (.tuple (.lref 0 0::cs)::rest)=some (.tuple [Jbc ws,.tuple cs']):=by
 have hs:startR (.tuple (.lref 0 0::cs)::rest) 0 cs=some ⟨fun i=>if i=0 then .lref 0 0 else ((V.tuple (.lref 0 0::cs)::rest)[i]?).getD .undef,upd (fun _=>none) 0 (some (cs,false)),fun _=>none⟩:=by
  unfold startR;rw[YgU hd];rfl
 have hm:∀i,(i == 0)=false→(upd (fun _=>none) 0 (some (cs,false)):Nat→Option (List V×Bool)) i=none:=fun i hi=>Je5 hi
 refine Qf hF (by simpa using hl) rfl hs ((h _ ⟨rfl,fun i=>rfl,by simp[upd],hm,fun x=>rfl⟩).mono fun ex S' hq=>⟨hq.1,?_⟩)
 obtain⟨h1,vs,h2,h3⟩:=hq.2
 unfold Jaz
 rw[hrs,h2]
 simp only[Option.bind_some,h1,YgD hd' hn',h3]
theorem Ydw {f:Nat} {F:F} (rs:List Res) {rest ws cs cs':List V} (hF:Pg f=some (.codeR F 0)) (hl:rest.length+1=F.np) (hrs:F.res=rs) (hd:cs.all V.datC=true) (hd':cs'.all V.datC=true) (hn':∀z,V.nslice z∉cs')
  (h:∀S,SDat S rest cs→Wp (K' Pg) F.body S fun ex S'=>(ex=.norm∨ex=.ret)∧S'.μ 0=some (cs',false)∧∃vs,Jo (resV S') rs=some vs∧∀A,Jo (toD A) vs=some ws) :
  K' Pg f (.tuple (.lref 0 0::cs)::rest)=some (.tuple [Jbc ws,.tuple cs']):=
 YgY rs hF hl hrs hd hd' hn' fun S hS=>(h S hS).mono fun ex S' hq=>⟨hq.1,hq.2.1,hq.2.2.elim fun vs hv=>⟨vs,hv.1,hv.2 _⟩⟩
theorem Yjv {κ:Nat→List V→Option V} {S:St} {f v p:Nat} {rest cs cs':List V} {r:V} (hm:S.μ v=some (cs,false)) (hc:cs.all V.datC=true) (hn:∀z,V.nslice z∉cs) (hc':cs'.all V.datC=true)
  (hd:∀A,Jo (toD A) rest=some rest) (hs:rest.flatMap Jd=[])
  (hκ:κ f (.tuple (.lref 0 0::cs)::rest)=some (.tuple [r,.tuple cs'])) :
  Jau κ p S f 0 v (.lref v 0::rest)=some (r,⟨S.ρ,upd S.μ v (some (cs',false)),S.A⟩):=by
 have hA:rcallA S 0 v (.lref v 0::rest)=some (.tuple (.lref 0 0::cs)::rest,S.A):=by
  simp only[Jdi,JhD,Jgn,List.set_cons_zero,Jo,Jik,hd,Option.bind_some,hm,Jgp,Jcn,JeP,hs,List.nil_append,Jd9,YgD hc hn]
 rw[Jiv,hA]
 simp only[Option.bind_some,hκ,Jdj,YgU hc']
abbrev Rd:=List UInt8×Bool
@[go_sem] def eRd (r:Rd):List V:=[.str r.1,.bool r.2]
theorem YaX (r:Rd):(eRd r).all V.datC=true:=rfl
theorem YdM (r:Rd) (z:Nat):V.nslice z∉eRd r:=by simp[eRd]
theorem Qc {κ:Nat→List V→Option V} {S:St} {f v p:Nat} {x:Rd} {r:V} {y:Rd} (hκ:κ f [.tuple (.lref 0 0::eRd x)]=some (.tuple [r,.tuple (eRd y)])) (hm:S.μ v=some (eRd x,false)) :
  Jau κ p S f 0 v [.lref v 0]=some (r,⟨S.ρ,upd S.μ v (some (eRd y,false)),S.A⟩):=
 Yjv (rest:=[]) hm (YaX x) (YdM x) (YaX y) (fun A=>rfl) rfl hκ
def rd {α:Type} (f:List UInt8→Option (α×List UInt8)) (d:α) (r:Rd):α×Rd:=match r.2,f r.1 with
 |false,some (n,s)=>(n,(s,false))
 |_,_=>(d,(r.1,true))
def cu {α:Type} (f:List UInt8→Option (α×List UInt8)) (d:α) (r:Rd):α×Rd:=match f r.1 with
 |some (n,s)=>(n,(s,r.2))
 |none=>(d,([],true))
def zS:Stamp:=⟨0,0,0⟩
def eSt (s:Stamp):V:=.agg (Yd s)
def H465 (Pg:PgT):Prop:=Pg 465=some (.codeR F465 0)∧H491 Pg
theorem K465 (h:H465 Pg) (x:Rd) (hx:x.1.length<2 ^ 62):K' Pg 465 [.tuple (.lref 0 0::eRd x)]=some (.tuple [iz (rd (tk 9) 0 x).1,.tuple (eRd (rd (tk 9) 0 x).2)]):=by
 obtain⟨h,hk⟩:=h;obtain⟨e,he,k⟩:=K491 hk x.1 hx;have hd:decide (e=0)=false:=Gp he;obtain⟨s,b⟩:=x;refine Ydw [.t 2] (ws:=[iz _]) h rfl rfl (YaX _) (YaX _) (YdM _) fun S ⟨r0,r,hm,m0,a0⟩=>?_;simp only[go_sem] at hm k;cases hq:(tk 9) s with
 |none=>
  rw[hq] at k;simp only[eTk] at k;cases b with
  |true=>
   simp only[F465,c465,go_sem,r0,hm,k,rd];exact⟨_,rfl,fun _=>rfl⟩
  |false=>
   simp only[F465,c465,go_sem,r0,hm,k,hd,rd,hq];exact⟨_,rfl,fun _=>rfl⟩
 |some q=>
  obtain⟨n,u⟩:=q;rw[hq] at k;simp only[eTk] at k;cases b with
  |true=>
   simp only[F465,c465,go_sem,r0,hm,k,rd];exact⟨_,rfl,fun _=>rfl⟩
  |false=>
   simp only[F465,c465,go_sem,r0,hm,k,rd,hq];exact⟨_,rfl,fun _=>rfl⟩
def H492 (Pg:PgT):Prop:=Pg 492=some (.codeR F492 0)∧H506 Pg
theorem K492 (h:H492 Pg) (x:Rd) (hx:x.1.length<2 ^ 62):K' Pg 492 [.tuple (.lref 0 0::eRd x)]=some (.tuple [.str (rd tkT [] x).1,.tuple (eRd (rd tkT [] x).2)]):=by
 obtain⟨h,hk⟩:=h;obtain⟨e,he,k⟩:=K506 hk x.1 hx;have hd:decide (e=0)=false:=Gp he;obtain⟨s,b⟩:=x;refine Ydw [.t 2] (ws:=[.str _]) h rfl rfl (YaX _) (YaX _) (YdM _) fun S ⟨r0,r,hm,m0,a0⟩=>?_;simp only[go_sem] at hm k;cases hq:tkT s with
 |none=>
  rw[hq] at k;simp only[Yfm] at k;cases b with
  |true=>
   simp only[F492,c492,go_sem,r0,hm,k,rd];exact⟨_,rfl,fun _=>rfl⟩
  |false=>
   simp only[F492,c492,go_sem,r0,hm,k,hd,rd,hq];exact⟨_,rfl,fun _=>rfl⟩
 |some q=>
  obtain⟨n,u⟩:=q;rw[hq] at k;simp only[Yfm] at k;cases b with
  |true=>
   simp only[F492,c492,go_sem,r0,hm,k,rd];exact⟨_,rfl,fun _=>rfl⟩
  |false=>
   simp only[F492,c492,go_sem,r0,hm,k,rd,hq];exact⟨_,rfl,fun _=>rfl⟩
def H493 (Pg:PgT):Prop:=Pg 493=some (.codeR F493 0)∧H507 Pg
theorem K493 (h:H493 Pg) (x:Rd) (hx:x.1.length<2 ^ 62):K' Pg 493 [.tuple (.lref 0 0::eRd x)]=some (.tuple [.bool (rd tkF false x).1,.tuple (eRd (rd tkF false x).2)]):=by
 obtain⟨h,hk⟩:=h;obtain⟨e,he,k⟩:=K507 hk x.1;have hd:decide (e=0)=false:=Gp he;obtain⟨s,b⟩:=x;refine Ydw [.t 2] (ws:=[.bool _]) h rfl rfl (YaX _) (YaX _) (YdM _) fun S ⟨r0,r,hm,m0,a0⟩=>?_;simp only[go_sem] at hm k;cases hq:tkF s with
 |none=>
  rw[hq] at k;simp only[Yfl] at k;cases b with
  |true=>
   simp only[F493,c493,go_sem,r0,hm,k,rd];exact⟨_,rfl,fun _=>rfl⟩
  |false=>
   simp only[F493,c493,go_sem,r0,hm,k,hd,rd,hq];exact⟨_,rfl,fun _=>rfl⟩
 |some q=>
  obtain⟨n,u⟩:=q;rw[hq] at k;simp only[Yfl] at k;cases b with
  |true=>
   simp only[F493,c493,go_sem,r0,hm,k,rd];exact⟨_,rfl,fun _=>rfl⟩
  |false=>
   simp only[F493,c493,go_sem,r0,hm,k,rd,hq];exact⟨_,rfl,fun _=>rfl⟩
def H464 (Pg:PgT):Prop:=Pg 464=some (.codeR F464 0)∧H490 Pg
theorem K464 (h:H464 Pg) (x:Rd) (hx:x.1.length<2 ^ 62):K' Pg 464 [.tuple (.lref 0 0::eRd x)]=some (.tuple [eSt (rd tkS zS x).1,.tuple (eRd (rd tkS zS x).2)]):=by
 obtain⟨h,hk⟩:=h;obtain⟨e,he,k⟩:=K490 hk x.1 hx;have hd:decide (e=0)=false:=Gp he;obtain⟨s,b⟩:=x;refine Ydw [.cell 2 (some 3)] (ws:=[eSt _]) h rfl rfl (YaX _) (YaX _) (YdM _) fun S ⟨r0,r,hm,m0,a0⟩=>?_;have m2:=m0 2 rfl;have m3:=m0 3 rfl;simp only[go_sem] at hm k;cases hq:tkS s with
 |none=>
  rw[hq] at k;simp only[Yet] at k;cases b with
  |true=>
   simp only[F464,c464,go_sem,r0,hm,k,rd,m2,m3,eSt,zS];exact⟨_,rfl,fun _=>rfl⟩
  |false=>
   simp only[F464,c464,go_sem,r0,hm,k,hd,rd,hq,m2,m3,eSt,zS];exact⟨_,rfl,fun _=>rfl⟩
 |some q=>
  obtain⟨n,u⟩:=q;rw[hq] at k;simp only[Yet,Yd] at k;cases b with
  |true=>
   simp only[F464,c464,go_sem,r0,hm,k,rd,m2,m3,eSt,zS];exact⟨_,rfl,fun _=>rfl⟩
  |false=>
   simp only[F464,c464,go_sem,r0,hm,k,rd,hq,m2,m3,eSt];exact⟨_,rfl,fun _=>rfl⟩
def H435 (Pg:PgT):Prop:=Pg 435=some (.codeR F435 0)∧H470 Pg
theorem K435 (h:H435 Pg) (x:Rd) (hx:x.1.length<2 ^ 62):K' Pg 435 [.tuple (.lref 0 0::eRd x)]=some (.tuple [iz (cu (tk 9) 0 x).1,.tuple (eRd (cu (tk 9) 0 x).2)]):=by
 obtain⟨h,hk⟩:=h;obtain⟨e,he,k⟩:=K470 hk x.1 hx;have hd:decide (e=0)=false:=Gp he;obtain⟨s,b⟩:=x;refine Ydw [.t 2] (ws:=[iz _]) h rfl rfl (YaX _) (YaX _) (YdM _) fun S ⟨r0,r,hm,m0,a0⟩=>?_;simp only[go_sem] at hm k;cases hq:(tk 9) s with
 |none=>
  rw[hq] at k;simp only[eTk] at k;cases b with
  |true=>
   simp only[F435,c435,go_sem,r0,hm,k,cu,hq];exact⟨_,rfl,fun _=>rfl⟩
  |false=>
   simp only[F435,c435,go_sem,r0,hm,k,hd,cu,hq];exact⟨_,rfl,fun _=>rfl⟩
 |some q=>
  obtain⟨n,u⟩:=q;rw[hq] at k;simp only[eTk] at k;cases b with
  |true=>
   simp only[F435,c435,go_sem,r0,hm,k,cu,hq];exact⟨_,rfl,fun _=>rfl⟩
  |false=>
   simp only[F435,c435,go_sem,r0,hm,k,cu,hq];exact⟨_,rfl,fun _=>rfl⟩
def H471 (Pg:PgT):Prop:=Pg 471=some (.codeR F471 0)∧H494 Pg
theorem K471 (h:H471 Pg) (x:Rd) (hx:x.1.length<2 ^ 62):K' Pg 471 [.tuple (.lref 0 0::eRd x)]=some (.tuple [.str (cu tkT [] x).1,.tuple (eRd (cu tkT [] x).2)]):=by
 obtain⟨h,hk⟩:=h;obtain⟨e,he,k⟩:=K494 hk x.1 hx;have hd:decide (e=0)=false:=Gp he;obtain⟨s,b⟩:=x;refine Ydw [.t 2] (ws:=[.str _]) h rfl rfl (YaX _) (YaX _) (YdM _) fun S ⟨r0,r,hm,m0,a0⟩=>?_;simp only[go_sem] at hm k;cases hq:tkT s with
 |none=>
  rw[hq] at k;simp only[Yfm] at k;cases b with
  |true=>
   simp only[F471,c471,go_sem,r0,hm,k,cu,hq];exact⟨_,rfl,fun _=>rfl⟩
  |false=>
   simp only[F471,c471,go_sem,r0,hm,k,hd,cu,hq];exact⟨_,rfl,fun _=>rfl⟩
 |some q=>
  obtain⟨n,u⟩:=q;rw[hq] at k;simp only[Yfm] at k;cases b with
  |true=>
   simp only[F471,c471,go_sem,r0,hm,k,cu,hq];exact⟨_,rfl,fun _=>rfl⟩
  |false=>
   simp only[F471,c471,go_sem,r0,hm,k,cu,hq];exact⟨_,rfl,fun _=>rfl⟩
def H472 (Pg:PgT):Prop:=Pg 472=some (.codeR F472 0)∧H495 Pg
theorem K472 (h:H472 Pg) (x:Rd) (hx:x.1.length<2 ^ 62):K' Pg 472 [.tuple (.lref 0 0::eRd x)]=some (.tuple [.bool (cu tkF false x).1,.tuple (eRd (cu tkF false x).2)]):=by
 obtain⟨h,hk⟩:=h;obtain⟨e,he,k⟩:=K495 hk x.1;have hd:decide (e=0)=false:=Gp he;obtain⟨s,b⟩:=x;refine Ydw [.t 2] (ws:=[.bool _]) h rfl rfl (YaX _) (YaX _) (YdM _) fun S ⟨r0,r,hm,m0,a0⟩=>?_;simp only[go_sem] at hm k;cases hq:tkF s with
 |none=>
  rw[hq] at k;simp only[Yfl] at k;cases b with
  |true=>
   simp only[F472,c472,go_sem,r0,hm,k,cu,hq];exact⟨_,rfl,fun _=>rfl⟩
  |false=>
   simp only[F472,c472,go_sem,r0,hm,k,hd,cu,hq];exact⟨_,rfl,fun _=>rfl⟩
 |some q=>
  obtain⟨n,u⟩:=q;rw[hq] at k;simp only[Yfl] at k;cases b with
  |true=>
   simp only[F472,c472,go_sem,r0,hm,k,cu,hq];exact⟨_,rfl,fun _=>rfl⟩
  |false=>
   simp only[F472,c472,go_sem,r0,hm,k,cu,hq];exact⟨_,rfl,fun _=>rfl⟩
def H434 (Pg:PgT):Prop:=Pg 434=some (.codeR F434 0)∧H469 Pg
theorem K434 (h:H434 Pg) (x:Rd) (hx:x.1.length<2 ^ 62):K' Pg 434 [.tuple (.lref 0 0::eRd x)]=some (.tuple [eSt (cu tkS zS x).1,.tuple (eRd (cu tkS zS x).2)]):=by
 obtain⟨h,hk⟩:=h;obtain⟨e,he,k⟩:=K469 hk x.1 hx;have hd:decide (e=0)=false:=Gp he;obtain⟨s,b⟩:=x;refine Ydw [.cell 2 (some 3)] (ws:=[eSt _]) h rfl rfl (YaX _) (YaX _) (YdM _) fun S ⟨r0,r,hm,m0,a0⟩=>?_;have m2:=m0 2 rfl;have m3:=m0 3 rfl;simp only[go_sem] at hm k;cases hq:tkS s with
 |none=>
  rw[hq] at k;simp only[Yet] at k;cases b with
  |true=>
   simp only[F434,c434,go_sem,r0,hm,k,cu,hq,m2,m3,eSt,zS];exact⟨_,rfl,fun _=>rfl⟩
  |false=>
   simp only[F434,c434,go_sem,r0,hm,k,hd,cu,hq,m2,m3,eSt,zS];exact⟨_,rfl,fun _=>rfl⟩
 |some q=>
  obtain⟨n,u⟩:=q;rw[hq] at k;simp only[Yet,Yd] at k;cases b with
  |true=>
   simp only[F434,c434,go_sem,r0,hm,k,cu,hq,m2,m3,eSt];exact⟨_,rfl,fun _=>rfl⟩
  |false=>
   simp only[F434,c434,go_sem,r0,hm,k,cu,hq,m2,m3,eSt];exact⟨_,rfl,fun _=>rfl⟩
structure Cod {α:Type} (R:Rd→α×Rd) (W:α→List UInt8) (P:α→Prop):Prop where
 get:∀{s r:List UInt8} {a:α},R (s,false)=(a,(r,false))→s=W a++r∧P a
 put:∀{r:List UInt8} {a:α},P a→R (W a++r,false)=(a,(r,false))
 bad:∀{s:List UInt8},(R (s,true)).2.2=true
 len:∀x,(R x).2.1.length≤x.1.length
section
variable {α β:Type}
theorem Cod.rd {f:List UInt8→Option (α×List UInt8)} {d:α} {W:α→List UInt8} {P:α→Prop} (hf:∀{s r a},f s=some (a,r)↔s=W a++r∧P a):Cod (rd f d) W P:=by
 refine⟨fun {s r a} h=>?_,fun {r a} h=>?_,fun {s}=>rfl,fun x=>?_⟩
 ·simp only[Sg.rd] at h;cases hq:f s with
  |none=>rw[hq] at h;simp at h
  |some q=>
   rw[hq] at h;simp only[Gl,and_true] at h;exact hf.1 (by rw[hq,←h.1,←h.2])
 ·simp only[Sg.rd,hf.2 ⟨rfl,h⟩]
 ·obtain⟨s,b⟩:=x;cases b with
  |true=>exact Gt _
  |false=>
   simp only[Sg.rd];cases hq:f s with
   |none=>exact Gt _
   |some q=>
    obtain⟨a,r⟩:=q;have:=Gaz List.length (hf.1 hq).1;simp only[Ge] at this ⊢;omega
theorem Cod.cu {f:List UInt8→Option (α×List UInt8)} {d:α} {W:α→List UInt8} {P:α→Prop} (hf:∀{s r a},f s=some (a,r)↔s=W a++r∧P a):Cod (cu f d) W P:=by
 refine⟨fun {s r a} h=>?_,fun {r a} h=>?_,fun {s}=>?_,fun x=>?_⟩
 ·simp only[Sg.cu] at h;cases hq:f s with
  |none=>rw[hq] at h;simp at h
  |some q=>
   rw[hq] at h;simp only[Gl,and_true] at h;exact hf.1 (by rw[hq,←h.1,←h.2])
 ·simp only[Sg.cu,hf.2 ⟨rfl,h⟩]
 ·simp only[Sg.cu];cases f s<;>rfl
 ·obtain⟨s,b⟩:=x;simp only[Sg.cu];cases hq:f s with
  |none=>exact GE _
  |some q=>
   obtain⟨a,r⟩:=q;have:=Gaz List.length (hf.1 hq).1;simp only[Ge] at this ⊢;omega
def pairR (R1:Rd→α×Rd) (R2:Rd→β×Rd) (x:Rd):(α×β)×Rd:=(((R1 x).1,(R2 (R1 x).2).1),(R2 (R1 x).2).2)
theorem Cod.pair {R1:Rd→α×Rd} {R2:Rd→β×Rd} {W1:α→List UInt8} {W2:β→List UInt8} {P1:α→Prop} {P2:β→Prop} (h1:Cod R1 W1 P1) (h2:Cod R2 W2 P2) :
  Cod (pairR R1 R2) (fun p=>W1 p.1++W2 p.2) (fun p=>P1 p.1∧P2 p.2):=by
 refine⟨fun {s r a} h=>?_,fun {r a} h=>?_,fun {s}=>?_,fun x=>?_⟩
 ·obtain⟨a,b⟩:=a
  simp only[pairR,Gl] at h
  obtain⟨⟨e1,e2⟩,e3⟩:=h
  cases hq:R1 (s,false) with
  |mk a' y=>
   obtain⟨s',b'⟩:=y
   rw[hq] at e1 e2 e3
   cases b' with
   |true=>
    have:=h2.bad (s:=s')
    rw[e3] at this;cases this
   |false=>
    obtain⟨g1,g2⟩:=h1.get hq
    obtain⟨g3,g4⟩:=h2.get (s:=s') (r:=r) (a:=b) (Prod.ext e2 e3)
    subst e1
    rw[g1,g3]
    exact⟨by simp,g2,g4⟩
 ·obtain⟨a,b⟩:=a
  simp only[pairR,GS]
  rw[h1.put h.1,h2.put h.2]
 ·simp only[pairR]
  have:=h1.bad (s:=s)
  generalize R1 (s,true)=q at *
  obtain⟨a,t,b⟩:=q
  simp only at this
  subst this
  exact h2.bad
 ·exact GJ (h2.len _) (h1.len x)
def mapR (g:α→β) (R:Rd→α×Rd) (x:Rd):β×Rd:=(g (R x).1,(R x).2)
theorem Cod.map {R:Rd→α×Rd} {W:α→List UInt8} {P:α→Prop} (h:Cod R W P) {g:α→β} {k:β→α} (hk:∀a,k (g a)=a):Cod (mapR g R) (fun b=>W (k b)) (fun b=>P (k b)∧g (k b)=b):=by
 refine⟨fun {s r b} hb=>?_,fun {r b} hb=>?_,fun {s}=>h.bad,fun x=>h.len x⟩
 ·simp only[mapR,Gl] at hb;obtain⟨e1,e2⟩:=hb;obtain⟨g1,g2⟩:=h.get (Prod.ext (x:=R (s,false)) (y:=((R (s,false)).1,(r,false))) rfl e2);subst e1;rw[hk];exact⟨g1,g2,rfl⟩
 ·simp only[mapR];rw[h.put hb.1];simp only[hb.2]
def rL (x:Rd):Nat×Rd:=if (rd (tk 9) 0 x).2.1.length<(rd (tk 9) 0 x).1 then (0,((rd (tk 9) 0 x).2.1,true)) else rd (tk 9) 0 x
def Yaz (R:Rd→α×Rd):Nat→Rd→List α×Rd
 |0,x=>([],x)
 |k+1,x=>((R x).1::(Yaz R k (R x).2).1,(Yaz R k (R x).2).2)
def YaC (R:Rd→α×Rd):Nat→Rd→List α×Rd
 |0,x=>([],x)
 |k+1,x=>if x.2 then ([],x) else ((R x).1::(YaC R k (R x).2).1,(YaC R k (R x).2).2)
def lstP (R:Rd→α×Rd) (x:Rd):List α×Rd:=Yaz R (rL x).1 (rL x).2
def lstD (R:Rd→α×Rd) (x:Rd):List α×Rd:=YaC R (cu (tk 9) 0 x).1 (cu (tk 9) 0 x).2
def Yb9 (W:α→List UInt8) (l:List α):List UInt8:=putB l.length++l.flatMap W
variable {R:Rd→α×Rd} {W:α→List UInt8} {P:α→Prop}
theorem Yei (h:Cod R W P):∀{k:Nat} {s:List UInt8},(Yaz R k (s,true)).2.2=true
 |0,s=>rfl
 |k+1,s=>by
  simp only[Yaz];have:=h.bad (s:=s);generalize R (s,true)=q at *
  obtain⟨a,t,b⟩:=q;simp only at this;subst this;exact Yei h
theorem Ydp:∀{k:Nat} {s:List UInt8},YaC R k (s,true)=([],(s,true))
 |0,s=>rfl
 |k+1,s=>rfl
theorem Yi6 (h:Cod R W P):∀{k:Nat} {x:Rd},(YaC R k x).2.2=false→YaC R k x=Yaz R k x
 |0,x,_=>rfl
 |k+1,(s,true),hf=>by rw[Ydp] at hf;cases hf
 |k+1,(s,false),hf=>by
  have e:YaC R (k+1) (s,false)=((R (s,false)).1::(YaC R k (R (s,false)).2).1,(YaC R k (R (s,false)).2).2):=rfl;rw[e] at hf ⊢;rw[Yi6 h hf];rfl
theorem Yhp (h:Cod R W P):∀{k:Nat} {s r:List UInt8} {l:List α},Yaz R k (s,false)=(l,(r,false))→l.length=k∧s=l.flatMap W++r∧∀a∈l,P a
 |0,s,r,l,hr=>by
  simp only[Yaz,Gl,and_true] at hr;obtain⟨rfl,rfl⟩:=hr;exact⟨rfl,by simp,fun a ha=>by simp at ha⟩
 |k+1,s,r,l,hr=>by
  simp only[Yaz,Gl] at hr;obtain⟨e1,e2⟩:=hr;cases hq:R (s,false) with
  |mk a' y=>
   obtain⟨s',b'⟩:=y;rw[hq] at e1 e2;cases b' with
   |true=>
    have:=Yei h (k:=k) (s:=s');rw[e2] at this;cases this
   |false=>
    obtain⟨g1,g2⟩:=h.get hq;obtain⟨g3,g4,g5⟩:=Yhp h (Prod.ext (x:=Yaz R k (s',false)) (y:=((Yaz R k (s',false)).1,(r,false))) rfl e2);subst e1;refine⟨by simp[g3],by rw[g1,GK,GS];exact Gaz (W a'++·) g4,fun a ha=>?_⟩;rcases GI.1 ha with rfl|ha
    ·exact g2
    ·exact g5 a ha
theorem Yi7 (h:Cod R W P):∀{l:List α} {r:List UInt8},(∀a∈l,P a)→Yaz R l.length (l.flatMap W++r,false)=(l,(r,false))
 |[],r,_=>rfl
 |a::l,r,hl=>by
  simp only[List.length_cons,Yaz,GK,GS];rw[h.put (hl a (by simp)),Yi7 h (fun b hb=>hl b (by simp[hb]))]
theorem YhP (h:Cod R W P):∀{l:List α} {r:List UInt8},(∀a∈l,P a)→YaC R l.length (l.flatMap W++r,false)=(l,(r,false))
 |[],r,_=>rfl
 |a::l,r,hl=>by
  have e:YaC R (a::l).length ((a::l).flatMap W++r,false)=((R ((a::l).flatMap W++r,false)).1::(YaC R l.length (R ((a::l).flatMap W++r,false)).2).1,(YaC R l.length (R ((a::l).flatMap W++r,false)).2).2):=rfl;rw[e];simp only[GK,GS];rw[h.put (hl a (by simp)),YhP h (fun b hb=>hl b (by simp[hb]))]
theorem Yd6 (h:Cod R W P):∀{k:Nat} {x:Rd},(Yaz R k x).2.1.length≤x.1.length
 |0,x=>Gt _
 |k+1,x=>GJ (Yd6 h (k:=k)) (h.len x)
theorem YeU (h:Cod R W P):∀{k:Nat} {x:Rd},(YaC R k x).2.1.length≤x.1.length
 |0,x=>Gt _
 |k+1,x=>by
  simp only[YaC];split
  ·exact Gt _
  ·exact GJ (YeU h (k:=k)) (h.len x)
theorem codN:Cod (rd (tk 9) 0) putB (fun n=>n<2 ^ 63):=Cod.rd fun {s r a}=>by rw[Yix,Ybc]
theorem Yb1:Cod (cu (tk 9) 0) putB (fun n=>n<2 ^ 63):=Cod.cu fun {s r a}=>by rw[Yix,Ybc]
theorem YdU (hW:∀a,P a→1≤(W a).length):∀{l:List α},(∀a∈l,P a)→l.length≤(l.flatMap W).length
 |[],_=>by simp
 |a::l,hl=>by
  have h1:=hW a (hl a (by simp));have h2:=YdU hW (l:=l) fun b hb=>hl b (by simp[hb]);simp only[GK,Ge,List.length_cons];omega
theorem Cod.lstP (h:Cod R W P) (hW:∀a,P a→1≤(W a).length):Cod (Sg.lstP R) (Yb9 W) (fun l=>l.length<2 ^ 63∧∀a∈l,P a):=by
 refine⟨fun {s r l} hl=>?_,fun {r l} hl=>?_,fun {s}=>?_,fun x=>?_⟩
 ·simp only[Sg.lstP,rL] at hl;split at hl
  ·have:=Yei h (k:=0) (s:=(Sg.rd (tk 9) 0 (s,false)).2.1);rw[hl] at this;cases this
  ·cases hq:Sg.rd (tk 9) 0 (s,false) with
   |mk n y=>
    obtain⟨s',b'⟩:=y;rw[hq] at hl;cases b' with
    |true=>
     have:=Yei h (k:=n) (s:=s');simp only at hl;rw[hl] at this;cases this
    |false=>
     obtain⟨g1,g2⟩:=codN.get hq;obtain⟨g3,g4,g5⟩:=Yhp h hl;subst g3;rw[g1,g4];exact⟨by simp[Yb9],g2,g5⟩
 ·simp only[Sg.lstP,rL,Yb9,GS];rw[codN.put hl.1];have:=YdU hW hl.2;rw[Gn (by simp only[Ge];omega)];exact Yi7 h hl.2
 ·simp only[Sg.lstP,rL];split
  ·exact Yei h
  ·exact Yei h
 ·simp only[Sg.lstP,rL];split
  ·exact GJ (Yd6 h) (codN.len x)
  ·exact GJ (Yd6 h) (codN.len x)
theorem Cod.lstD (h:Cod R W P):Cod (Sg.lstD R) (Yb9 W) (fun l=>l.length<2 ^ 63∧∀a∈l,P a):=by
 refine⟨fun {s r l} hl=>?_,fun {r l} hl=>?_,fun {s}=>?_,fun x=>?_⟩
 ·simp only[Sg.lstD] at hl;cases hq:Sg.cu (tk 9) 0 (s,false) with
  |mk n y=>
   obtain⟨s',b'⟩:=y;rw[hq] at hl;cases b' with
   |true=>
    simp only[Ydp,Gl] at hl;simp at hl
   |false=>
    obtain⟨g1,g2⟩:=Yb1.get hq;simp only at hl;rw[Yi6 h (by rw[hl])] at hl;obtain⟨g3,g4,g5⟩:=Yhp h hl;subst g3;rw[g1,g4];exact⟨by simp[Yb9],g2,g5⟩
 ·simp only[Sg.lstD,Yb9,GS];rw[Yb1.put hl.1];exact YhP h hl.2
 ·simp only[Sg.lstD];have:=Yb1.bad (s:=s);generalize Sg.cu (tk 9) 0 (s,true)=q at *
  obtain⟨a,t,b⟩:=q;simp only at this;subst this;simp only[Ydp]
 ·exact GJ (YeU h) (Yb1.len x)
end
theorem YhL {l:List UInt8} (h:l≠[]):(Ydf l).2=((dN l).2:Int):=by
 rw[Yfv h];by_cases c:dN l=(65533,1)
 ·rw[Gr c,c];rfl
 ·rw[Gn c]
theorem Yj6 {l:List UInt8} (h:l≠[]) (hn:(Ydf l).1<0):((dN l).1:Int)=65533:=by
 rw[Yfv h] at hn;by_cases c:dN l=(65533,1)
 ·rw[c];rfl
 ·rw[Gn c] at hn;simp at hn;omega
theorem YkW {l:List UInt8} (h:l≠[]) (hn:¬(Ydf l).1<0):((dN l).1:Int)=(Ydf l).1:=by
 rw[Yfv h] at hn ⊢;by_cases c:dN l=(65533,1)
 ·rw[Gr c] at hn;simp at hn
 ·rw[Gn c]
theorem YiH {l:List UInt8} (h:l≠[]):(dN l).2≤l.length:=by
 rcases YeD h with x|⟨a0,t,rfl,q,x⟩|⟨a0,a1,t,rfl,q,q1,x⟩|⟨a0,a1,a2,t,rfl,q,q1,q2,q3,x⟩|⟨a0,a1,a2,a3,t,rfl,q,q1,q2,q3,q4,x⟩
 ·rw[x];have:=Gaq.2 h;simp only;omega
 all_goals rw[x];simp
@[go_sem] def eIL (l:List Int):V:=.slice 1 (l.map fun x=>[iz x])
def H195 (Pg:PgT):Prop:=Pg 195=some (.code F195)∧H188 Pg
theorem YZ {l:List UInt8}:decide ((0:Int)<(l.length:Int))=!decide (l=[]):=by
 cases l<;>simp
theorem K195 (h:H195 Pg) (s:List UInt8) (hl:s.length≤1000000):K' Pg 195 [.str s]=some (eIL (Yq s)):=by
 obtain⟨h,h188⟩:=h;refine Qb h rfl ?_;simp only[go_sem];unfold l195_0;refine JiJ (fun (l:List UInt8) S=>∃acc:List Int,S.ρ 0=.str l∧S.A 3=some (1,acc.map (fun x=>[iz x]),.live)∧S.ρ 3=.own 3 1 acc.length∧acc++Yq l=Yq s∧acc.length+l.length≤s.length) (fun l=>l.length) s ?_ ?_
 ·exact⟨[],by simp[go_sem]⟩
 ·intro l S ⟨acc,h0,a3,h3,hacc,hlen⟩;simp only[go_sem,h0,YZ];by_cases hn:l=[]
  ·subst hn;rw[Ycc,Gv] at hacc;subst hacc;simp only[go_sem,a3,h3]
  ·have hd:=YcJ hn;have hp:=Gaq.2 hn;have k:=K188 h188 l hn;rw[show Ydf l=((Ydf l).1,((dN l).2:Int)) from Prod.ext rfl (YhL hn)] at k;simp only[eLN] at k;have hle:=YiH hn;have hlim:acc.length+1≤lim:=by simp only[lim];omega
   have hc:=Ya6 hn;simp only[go_sem,hn,h0,k];refine JiK (fun c=>?_) (fun c=>?_)
   ·have e:=Yj6 hn (Gg c);simp only[go_sem,h0,a3,h3,hlim,hle];refine⟨l.drop (dN l).2,hd,acc++[65533],rfl,by simp,by simp,?_,by simp only[Ge,List.length_cons,List.length_nil];omega⟩;rw[←hacc,hc,e];simp
   ·have e:=YkW hn (Gb c);simp only[go_sem,h0,a3,h3,hlim,hle];refine⟨l.drop (dN l).2,hd,acc++[(Ydf l).1],rfl,by simp,by simp,?_,by simp only[Ge,List.length_cons,List.length_nil];omega⟩;rw[←hacc,hc,e];simp
def H168 (Pg:PgT):Prop:=Pg 168=some (.code F168)∧H188 Pg∧H189 Pg
theorem K168 (h:H168 Pg) (s:List UInt8):K' Pg 168 [.str s]=some (.bool (keyR s)):=by
 obtain⟨h,h188,h189⟩:=h;refine Qb h rfl ?_;have ez:decide ((s.length:Int)=0)=decide (s=[]):=by cases s<;>simp;omega
 simp only[go_sem,ez];by_cases hs:s=[]
 ·have e:keyR s=false:=by rw[hs];rfl
  rw[e];simp only[go_sem,hs]
 simp only[go_sem,hs];refine JiK (fun c=>?_) (fun c=>?_)
 ·have e:keyR s=false:=by
   have:=Gg c;have:decide (s.length≤16)=false:=Gp (by omega);simp[keyR,this]
  rw[e];simp only[go_sem]
 have c:=Gb c;have hp:=Gaq.2 hs;have e:keyR s=keyAll s.length s:=by
  have h1:decide (1≤s.length)=true:=GD (by omega);have h2:decide (s.length≤16)=true:=GD (by omega);simp only[keyR,h1,h2,GU]
 rw[e];simp only[go_sem];unfold l168_0;refine JiJ (fun (l:List UInt8) S=>S.ρ 0=.str l∧keyAll l.length l=keyAll s.length s) (fun l=>l.length) s ?_ ?_
 ·simp[go_sem]
 ·intro l S ⟨h0,hacc⟩;simp only[go_sem,h0,YZ];by_cases hn:l=[]
  ·subst hn;rw[←hacc];simp only[go_sem,Yig]
  ·have hd:=YcJ hn;have k:=K188 h188 l hn;rw[show Ydf l=((Ydf l).1,((dN l).2:Int)) from Prod.ext rfl (YhL hn)] at k;simp only[eLN] at k;have k9:=K189 h189 (Ydf l).1;rw[Ykd hn] at k9;have hle:=YiH hn;rw[Yd0 hn] at hacc;simp only[go_sem,hn,h0,k,k9];cases hP:plainR (dN l).1 (dN l).2 with
   |false=>
    rw[hP,Gs] at hacc;rw[←hacc];simp only[go_sem]
   |true=>
    rw[hP,GP] at hacc;simp only[go_sem,h0,hle];exact⟨l.drop (dN l).2,hd,rfl,hacc⟩
def H187 (Pg:PgT):Prop:=Pg 187=some (.code F187)∧H195 Pg
theorem K187 (h:H187 Pg) (a b:List UInt8) (ha:a.length≤1000000) (hb:b.length≤1000000):K' Pg 187 [.str a,.str b]=some (iz (YD (Yq a) (Yq b))):=by
 obtain⟨h,h195⟩:=h;have ka:=K195 h195 a ha;have kb:=K195 h195 b hb;simp only[eIL] at ka kb;refine Qb h rfl ?_;simp only[go_sem,ka,kb];have la:=Yf4 a.length a (Gt _);have lb:=Yf4 b.length b (Gt _);generalize Yq a=x at *
 generalize Yq b=y at *
 unfold l187_0;refine JiJ (fun (i:Nat) S=>i≤x.length∧i≤y.length∧S.ρ 5=eIL x∧S.ρ 6=eIL y∧S.ρ 7=iz i∧YD (x.drop i) (y.drop i)=YD x y) (fun i=>x.length-i) 0 ?_ ?_
 ·simp[go_sem]
 ·intro i S ⟨hi,hj,h5,h6,h7,ho⟩;simp only[go_sem,h5,h7];by_cases hx:i<x.length
  ·have ex:decide ((i:Int)<(x.length:Int))=true:=GD (by omega);obtain⟨u,hu,hdx⟩:=Jiq hx;by_cases hy:i<y.length
   ·have ey:decide ((i:Int)<(y.length:Int))=true:=GD (by omega);obtain⟨v,hv,hdy⟩:=Jiq hy;rw[hdx,hdy] at ho;simp only[go_sem,h5,h6,h7,ex,ey,hu,hv];refine JiK (fun c=>?_) (fun c=>?_)
    ·rw[Ydk (Gg c)] at ho;simp only[go_sem,←ho]
    ·have c:=Gb c;simp only[go_sem,h5,h6,h7,hu,hv];refine JiK (fun d=>?_) (fun d=>?_)
     ·rw[YdT (Gg d)] at ho;simp only[go_sem,←ho]
     ·have d:=Gb d;obtain rfl:u=v:=by omega
      rw[YdS] at ho;simp only[go_sem,h5,h6,h7];exact⟨i+1,by omega,by omega,by omega,by rw[Yn hx (by omega)],ho⟩
   ·have ey:decide ((i:Int)<(y.length:Int))=false:=Gp (by omega);have e1:decide ((x.length:Int)<(y.length:Int))=false:=Gp (by omega);have e2:decide ((y.length:Int)<(x.length:Int))=true:=GD (by omega);have hdy:y.drop i=[]:=List.drop_eq_nil_of_le (by omega);rw[hdx,hdy] at ho;have ho:(1:Int)=YD x y:=ho;simp only[go_sem,h5,h6,h7,ex,ey,e1,e2,←ho]
  ·have ex:decide ((i:Int)<(x.length:Int))=false:=Gp (by omega);simp only[go_sem,h5,h6,ex];rw[List.drop_eq_nil_of_le (by omega)] at ho;by_cases hy:i<y.length
   ·have e1:decide ((x.length:Int)<(y.length:Int))=true:=GD (by omega);obtain⟨v,hv,hdy⟩:=Jiq hy;rw[hdy] at ho;have ho:(-1:Int)=YD x y:=ho;simp only[go_sem,e1,←ho]
   ·have e1:decide ((x.length:Int)<(y.length:Int))=false:=Gp (by omega);have e2:decide ((y.length:Int)<(x.length:Int))=false:=Gp (by omega);rw[List.drop_eq_nil_of_le (by omega)] at ho;have ho:(0:Int)=YD x y:=ho;simp only[go_sem,h5,h6,e1,e2,←ho]
def H192 (Pg:PgT):Prop:=Pg 192=some (.code F192)∧H190 Pg
theorem K192 (h:H192 Pg) (a b:List UInt8):K' Pg 192 [.str a,.str b]=some (iz (YD (Yq a) (Yq b))):=by
 obtain⟨h,h190⟩:=h;refine Qb h rfl ?_;simp only[go_sem];unfold l192_0;refine JiJ (fun (p:List UInt8×List UInt8) S=>S.ρ 0=.str p.1∧S.ρ 1=.str p.2∧YD (Yq p.1) (Yq p.2)=YD (Yq a) (Yq b)) (fun p=>p.1.length) (a,b) ?_ ?_
 ·simp[go_sem]
 ·intro⟨x,y⟩ S ⟨h0,h1,ho⟩;simp only at h0 h1 ho;have k:=K190 h190 x;have k':=K190 h190 y;simp only[go_sem,h0];by_cases hx:x=[]
  ·subst hx;rw[Ycc] at ho;by_cases hy:y=[]
   ·subst hy;have ho:(0:Int)=YD (Yq a) (Yq b):=ho;simp only[go_sem,h0,h1,←ho]
   ·rw[Ya6 hy] at ho;have ho:(-1:Int)=YD (Yq a) (Yq b):=ho;simp only[go_sem,h0,h1,hy,←ho]
  ·by_cases hy:y=[]
   ·subst hy;rw[Ya6 hx,Ycc] at ho;have ho:(1:Int)=YD (Yq a) (Yq b):=ho;simp only[go_sem,h0,h1,hx,←ho]
   ·rw[Ya6 hx,Ya6 hy] at ho;have ex:JcS x=dN x:=by rw[JcS,Gn hx]
    have ey:JcS y=dN y:=by rw[JcS,Gn hy]
    rw[ex] at k;rw[ey] at k';have lx:=YiH hx;have ly:=YiH hy;have hd:=YcJ hx;simp only[go_sem,h0,h1,hx,hy,k,k'];refine JiK (fun c=>?_) (fun c=>?_)
    ·rw[Ydk (Gg c)] at ho;simp only[go_sem,←ho]
    ·have c:=Gb c;simp only[go_sem];refine JiK (fun d=>?_) (fun d=>?_)
     ·rw[YdT (Gg d)] at ho;simp only[go_sem,←ho]
     ·have d:=Gb d;have e:((dN x).1:Int)=((dN y).1:Int):=by omega
      rw[e,YdS] at ho;simp only[go_sem,h0,h1,lx,ly];exact⟨(x.drop (dN x).2,y.drop (dN y).2),hd,rfl,rfl,ho⟩
structure Span where
 lo:List UInt8
 hi:List UInt8
 deriving DecidableEq
@[go_sem] def Y6 (s:Span):List V:=[.str s.lo,.str s.hi]
def ltS (a b:List UInt8):Bool:=decide (YD (Yq a) (Yq b)<0)
def leS (a b:List UInt8):Bool:=decide (YD (Yq a) (Yq b)≤0)
def YC (s:Span):Bool:=(decide (s.lo=[])||keyR s.lo)&&(decide (s.hi=[])||(keyR s.hi&&ltS s.lo s.hi))
theorem Yh6 {a b:List Int}:decide (YD a b=-1)=decide (YD a b<0):=by
 apply GZ.2;have:=Yhz a b;omega
theorem YaN {l:List UInt8}:decide ((l.length:Int)=0)=decide (l=[]):=by cases l<;>simp;omega
theorem Yaa {l:List UInt8} (h:keyR l=true):l.length≤16∧l≠[]:=by
 simp only[keyR,Gc,Gi] at h;exact⟨h.2.2,fun e=>by rw[e] at h;simp at h⟩
def H186 (Pg:PgT):Prop:=Pg 186=some (.code F186)∧H170 Pg∧H192 Pg
theorem K186 (h:H186 Pg) (s:Span):K' Pg 186 [.agg (Y6 s)]=some (.bool (YC s)):=by
 obtain⟨h,h170,h192⟩:=h;have k1:=K170 h170 s.lo;have k2:=K170 h170 s.hi;have k3:=K192 h192 s.lo s.hi;refine Qb h rfl ?_;cases c1:decide (s.lo=[])<;>cases c2:keyR s.lo<;>cases c3:decide (s.hi=[])<;>cases c4:keyR s.hi <;>
  simp only[go_sem,c1,c2,c3,c4,k1,k2,k3,YC,ltS]
def H167 (Pg:PgT):Prop:=Pg 167=some (.code F167)∧H168 Pg∧H187 Pg
theorem K167 (h:H167 Pg) (s:Span):K' Pg 167 [.agg (Y6 s)]=some (.bool (YC s)):=by
 obtain⟨h,h168,h187⟩:=h;have k1:=K168 h168 s.lo;have k2:=K168 h168 s.hi;have k3:s.lo.length≤1000000→s.hi.length≤1000000→_:=K187 h187 s.lo s.hi;refine Qb h rfl ?_;cases c1:decide (s.lo=[]) with
 |true=>
  have hl:s.lo.length≤1000000:=by rw[Gg c1];simp
  cases c3:decide (s.hi=[]) with
  |true=>simp only[go_sem,c1,c3,YaN,YZ,YC]
  |false=>
   cases c4:keyR s.hi with
   |false=>simp only[go_sem,c1,c3,c4,k2,YaN,YZ,YC]
   |true=>simp only[go_sem,c1,c3,c4,k2,k3 hl (by have:=Yaa c4;omega),YaN,YZ,YC,ltS,Yh6]
 |false=>
 cases c2:keyR s.lo with
 |false=>simp only[go_sem,c1,c2,k1,YZ,YC]
 |true=>
  have hl:s.lo.length≤1000000:=by have:=Yaa c2;omega
  cases c3:decide (s.hi=[]) with
  |true=>simp only[go_sem,c1,c2,c3,k1,YaN,YZ,YC]
  |false=>
   cases c4:keyR s.hi with
   |false=>simp only[go_sem,c1,c2,c3,c4,k1,k2,YaN,YZ,YC]
   |true=>simp only[go_sem,c1,c2,c3,c4,k1,k2,k3 hl (by have:=Yaa c4;omega),YaN,YZ,YC,ltS,Yh6]
theorem YcS {s:Span} (h:YC s=true):s.lo.length≤16∧s.hi.length≤16:=by
 simp only[YC,Gc,G2,Gi] at h;constructor
 ·rcases h.1 with e|e
  ·rw[e];simp
  ·exact (Yaa e).1
 ·rcases h.2 with e|e
  ·rw[e];simp
  ·exact (Yaa e.1).1
def Yas (s:Span) (k:List UInt8):Bool:=YC s&&(keyR k&&(leS s.lo k&&(decide (s.hi=[])||ltS k s.hi)))
def H171 (Pg:PgT):Prop:=Pg 171=some (.code F171)∧H186 Pg∧H170 Pg∧H192 Pg
theorem K171 (h:H171 Pg) (s:Span) (k:List UInt8):K' Pg 171 [.agg (Y6 s),.str k]=some (.bool (Yas s k)):=by
 obtain⟨h,h186,h170,h192⟩:=h;have k1:=K186 h186 s;have k2:=K170 h170 k;have k3:=K192 h192 s.lo k;have k4:=K192 h192 k s.hi;simp only[Y6] at k1;refine Qb h rfl ?_;cases c1:YC s<;>cases c2:keyR k<;>cases c3:decide (YD (Yq s.lo) (Yq k)≤0)<;>cases c4:decide (s.hi=[]) <;>
  simp only[go_sem,c1,c2,c3,c4,k1,k2,k3,k4,Yas,leS,ltS]
def H169 (Pg:PgT):Prop:=Pg 169=some (.code F169)∧H187 Pg
theorem Ylz {a b:List Int}:decide (0≤YD a b)=decide (YD b a≤0):=by
 apply GZ.2;have:=YbS a b;omega
theorem K169 (h:H169 Pg) (k lo hi:List UInt8) (h1:k.length≤1000000) (h2:lo.length≤1000000) (h3:hi.length≤1000000):K' Pg 169 [.str k,.str lo,.str hi]=some (.bool (leS lo k&&(decide (hi=[])||ltS k hi))):=by
 obtain⟨h,h187⟩:=h;have k1:=K187 h187 k lo h1 h2;have k2:=K187 h187 k hi h1 h3;refine Qb h rfl ?_;cases c3:decide (YD (Yq lo) (Yq k)≤0)<;>cases c4:decide (hi=[]) <;>
  simp only[go_sem,c3,c4,k1,k2,leS,ltS,Ylz,YaN]
def H142 (Pg:PgT):Prop:=Pg 142=some (.code F142)∧H167 Pg∧H168 Pg∧H169 Pg
theorem K142 (h:H142 Pg) (s:Span) (k:List UInt8):K' Pg 142 [.agg (Y6 s),.str k]=some (.bool (Yas s k)):=by
 obtain⟨h,h167,h168,h169⟩:=h;have k1:=K167 h167 s;have k2:=K168 h168 k;simp only[Y6] at k1;refine Qb h rfl ?_;cases c1:YC s with
 |false=>simp only[go_sem,c1,k1,Yas]
 |true=>
 cases c2:keyR k with
 |false=>simp only[go_sem,c1,c2,k1,k2,Yas]
 |true=>
  have l1:=YcS c1;have l2:=Yaa c2;have k3:=K169 h169 k s.lo s.hi (by omega) (by omega) (by omega);simp only[go_sem,c1,c2,k1,k2,k3,Yas]
def YcT (lo hi:List UInt8):Bool:=decide (hi=[])||ltS lo hi
theorem YaG {a b:List UInt8}:ltS a b=true↔YD (Yq a) (Yq b)<0:=by simp[ltS]
theorem Yc0 {a b c:List UInt8} (h1:YD (Yq a) (Yq b)≤0) (h2:YD (Yq b) (Yq c)<0):YD (Yq a) (Yq c)<0:=(YeC _ _ _ h1 (by omega)).2 (.inr h2)
theorem Ydg {a b c:List UInt8} (h1:YD (Yq a) (Yq b)<0) (h2:YD (Yq b) (Yq c)≤0):YD (Yq a) (Yq c)<0:=(YeC _ _ _ (by omega) h2).2 (.inl h1)
theorem Yf2 {a b:List UInt8} (h:¬YD (Yq a) (Yq b)<0):YD (Yq b) (Yq a)≤0:=by have:=YbS (Yq a) (Yq b);omega
theorem Yln {a b:List UInt8} (h:0<YD (Yq a) (Yq b)):YD (Yq b) (Yq a)<0:=by have:=YbS (Yq a) (Yq b);omega
theorem Yc6 {s:Span} (h:YC s=true):(decide (s.lo=[])||keyR s.lo)=true:=by
 simp only[YC,Gc] at h;exact h.1
theorem Ya8 {s:Span} (h:YC s=true):s.hi=[]∨(keyR s.hi=true∧YD (Yq s.lo) (Yq s.hi)<0):=by
 simp only[YC,Gc,G2,Gi,ltS] at h;exact h.2
theorem Ydt {lo hi:List UInt8} (h1:(decide (lo=[])||keyR lo)=true) (h2:hi=[]∨keyR hi=true):YC ⟨lo,hi⟩=YcT lo hi:=by
 simp only[YC,YcT,h1,GP];rcases h2 with e|e
 ·rw[GD e];rfl
 ·rw[e,GP]
theorem YcR {lo hi:List UInt8}:YcT lo hi=true↔hi=[]∨YD (Yq lo) (Yq hi)<0:=by
 simp[YcT,ltS]
def YaP:Span:=⟨[],[]⟩
@[go_sem] def Yjl (x:Span×Span×Int):V:=.tuple [.agg (Y6 x.1),.agg (Y6 x.2.1),iz x.2.2]
@[go_sem] def eSE (x:Span×Int):V:=.tuple [.agg (Y6 x.1),iz x.2]
def YaF (s:Span) (k:List UInt8):Span×Span×Int:=
 if YC s&&keyR k then (if decide (k=s.lo)||!Yas s k then (YaP,YaP,9) else (⟨s.lo,k⟩,⟨k,s.hi⟩,0)) else (YaP,YaP,1)
def H178 (Pg:PgT):Prop:=Pg 178=some (.code F178)∧H186 Pg∧H170 Pg∧H171 Pg
theorem K178 (h:H178 Pg) (s:Span) (k:List UInt8):K' Pg 178 [.agg (Y6 s),.str k]=some (Yjl (YaF s k)):=by
 obtain⟨h,h186,h170,h171⟩:=h;have k1:=K186 h186 s;have k2:=K170 h170 k;have k3:=K171 h171 s k;simp only[Y6] at k1 k3;refine Qb h rfl ?_;cases c1:YC s<;>cases c2:keyR k<;>cases c3:decide (k=s.lo)<;>cases c4:Yas s k <;>
  simp only[go_sem,c1,c2,c3,c4,k1,k2,k3,YaF,YaP]
theorem YlL {s:Span} {k:List UInt8} (hs:YC s=true) (hk:keyR k=true):ltS s.lo k=(leS s.lo k&&!decide (k=s.lo)):=by
 rw[Bool.eq_iff_iff];simp only[ltS,leS,Gc,GN,Gi,Gq];have hkk:=Yaa hk;constructor
 ·intro h;exact⟨by omega,fun e=>by rw[e,Ybg] at h;omega⟩
 ·intro⟨h1,h2⟩;have:YD (Yq s.lo) (Yq k)≠0:=fun e=>by
   have e:=Yed _ _ e;have q:=Yc6 hs;simp only[G2,Gi] at q;rcases q with q|q
   ·rw[q,Ycc,Ya6 hkk.2] at e;simp at e
   ·simp only[keyR,Gc] at q hk;exact h2 (lets_inj _ _ _ (Gt _) q.1 hk.1 e).symm
  omega
theorem Yh8 {s:Span} {k:List UInt8} (hs:YC s=true) (hk:keyR k=true):(YC ⟨s.lo,k⟩&&YC ⟨k,s.hi⟩)=!(decide (k=s.lo)||!Yas s k):=by
 have hkk:=Yaa hk;have e1:=Ydt (lo:=s.lo) (hi:=k) (Yc6 hs) (.inr hk);have e2:=Ydt (lo:=k) (hi:=s.hi) (by rw[hk];simp) ((Ya8 hs).imp id fun e=>e.1);rw[e1,e2];have e3:decide (k=[])=false:=Gp hkk.2;simp only[YcT,e3,Gau,Yas,hs,hk,GP,YlL hs hk];cases leS s.lo k<;>cases decide (k=s.lo)<;>simp
def Y7 (a b:Span):Span×Int:=
 if YC a&&YC b then (if decide (a.hi=[])||!decide (a.hi=b.lo) then (YaP,9) else (⟨a.lo,b.hi⟩,0)) else (YaP,1)
def later (a b:Stamp):Stamp:=if Yb a b<0 then b else a
def H21 (Pg:PgT):Prop:=Pg 21=some (.code F21)∧H15 Pg
theorem K21 (h:H21 Pg) (a b:Stamp):K' Pg 21 [.agg (Yd a),.agg (Yd b)]=some (.agg (Yd (later a b))):=by
 obtain⟨h,h15⟩:=h;refine Qb h rfl ?_;have k15:=K15 h15 a b;simp only[Yd] at k15;simp only[go_sem,k15];refine JiK (fun hc=>?_) (fun hc=>?_)
 ·have:=Gg hc;simp only[go_sem,later,this]
 ·have:=Gb hc;simp only[go_sem,later,this]
def pruneN (s:Stamp) (c:List Ver):Nat:=if upC s c=0 then 0 else match c[upC s c-1]? with|some v=>if v.gone then upC s c else upC s c-1|none=>0
def YV (s:Stamp) (c:List Ver):List Ver:=if Yg c then c.drop (pruneN s c) else []
def H17 (Pg:PgT):Prop:=Pg 17=some (.code F17)∧H7 Pg∧H25 Pg∧H23 Pg
theorem K17 (h:H17 Pg) (l:List Ver) (s:Stamp) (hl:l.length<2 ^ 60):K' Pg 17 [Ye l,.agg (Yd s)]=some (Ye (YV s l)):=by
 obtain⟨h,h7,h25,h23⟩:=h;refine Qb h rfl ?_;have k7:=K7 h7 l hl;simp only[Ye] at k7;cases hr:Yg l with
 |false=>simp only[go_sem,Ye,k7,hr,GY,YV,Gm]
 |true=>
  have k25:=K25 h25 l s hl (YaS hr).1;have hle:=Yc7 s l;have hlen:=(YaS hr).2;simp only[Ye,Yd] at k25;simp only[go_sem,Ye,k7,hr,GQ,k25];have k23:=fun n=>K23 h23 ((l.map Yam).drop n) (by simp[lim];omega);have htk:(l.map Yam).take l.length=l.map Yam:=by simp[Gaa]
  refine JiI (fun hc=>?_) (fun hc=>?_)
  ·have hc':upC s l≠0:=by have:=Gg hc;omega
   obtain⟨x,hx,-⟩:=Jiq (l:=l) (i:=upC s l-1) (by omega);have hdec:IntKind.i64.wrap ((upC s l:Int)-1)=((upC s l-1:Nat):Int):=by rw[JiG (by omega) (by omega)];omega
   have hle':upC s l-1≤l.length:=by omega
   cases hg:x.gone with
   |false=>
    have hn:pruneN s l=upC s l-1:=by simp[pruneN,hc',hx,hg]
    simp only[go_sem,hc,hdec,hx,hg,GY,YV,hr,hn,hle',htk,Gt,k23,Gao]
   |true=>
    have hn:pruneN s l=upC s l:=by simp[pruneN,hc',hx,hg]
    simp only[go_sem,hc,hdec,hx,hg,GQ,YV,hr,hn,hle,htk,Gt,k23,Gao]
  ·have hc':upC s l=0:=by have:=Gb hc;omega
   have hn:pruneN s l=upC s l:=by simp[pruneN,hc']
   simp only[go_sem,hc,YV,hr,hn,hle,htk,Gt,k23,Gao]
theorem Yfp:∀{l:List Ver} {p:Option Ver} {v:Ver},chR p l=true→v∈l→YS v=true
 |[],_,_,_,h=>by simp at h
 |w::l,p,v,h,hv=>by
  simp only[chR,Gc] at h;rcases GI.1 hv with rfl|hv
  ·exact h.1.1
  ·exact Yfp h.2 hv
theorem YjX {v:Ver} (h:YS v=true) (hg:v.gone=true):v.val=[]:=by
 simp[YS,hg] at h;exact h.2
theorem Yjh {s:Stamp} {l:List Ver} {v:Ver} (h:atC s l=some v):YS v=true:=by
 simp only[atC] at h;split at h
 ·rename_i hr;split at h
  ·simp at h
  ·exact Yfp (YaS hr).1 (List.mem_of_getElem? h)
 ·simp at h
theorem Yem {s:Stamp} {l:List Ver}:(YaW s l).getD []=(match atC s l with|some v=>v.val|none=>[]):=by
 simp only[YaW];cases h:atC s l with
 |none=>rfl
 |some v=>
  cases hg:v.gone with
  |true=>simp[hg,YjX (Yjh h) hg]
  |false=>simp[hg]
theorem Yda {s:Stamp} {l:List Ver}:(YaW s l).isSome=(match atC s l with|some v=>!v.gone|none=>false):=by
 simp only[YaW];cases h:atC s l with
 |none=>rfl
 |some v=>cases hg:v.gone<;>simp[hg]
theorem K12' (h:H12 Pg) (l:List Ver) (s:Stamp) (hl:l.length<2 ^ 60):K' Pg 12 [Ye l,.agg (Yd s)]=some (.tuple [.str ((YaW s l).getD []),.bool (YaW s l).isSome]):=by
 rw[K12 h l s hl,Yem,Yda]<;>(cases atC s l<;>rfl)
theorem YiG {v:Ver}:∀{l:List Ver} {p:Option Ver},chR p l=true→YS v=true→Yd2 (l.getLast?.or p) v=true→chR p (l++[v])=true
 |[],p,_,hv,h=>by simp at h;simp[Ycu hv,h,chR]
 |w::l,p,hl,hv,h=>by
  have hw:=Yfp hl (GR ..);rw[List.cons_append,Ycu hw];rw[Ycu hw] at hl;simp only[Gc] at hl ⊢;refine⟨hl.1,YiG hl.2 hv ?_⟩;cases l with
  |nil=>simpa using h
  |cons a l=>simpa [List.getLast?_cons] using h
theorem YiB {l:List Ver} {v:Ver} (h:(addC l v).2=0):addC l v=(l++[v],0)∧Yg l=true∧YS v=true∧Yg (l++[v])=true:=by
 cases h1:Yg l with
 |false=>simp[addC,h1] at h
 |true=>
 cases h1':YS v with
 |false=>simp[addC,h1'] at h
 |true=>
 have hr:=YaS h1;cases hg:l.getLast? with
 |none=>
  have:l=[]:=by simpa using hg
  subst this;exact⟨by simp[addC,h1,h1'],rfl,rfl,by simp[Yg,chR,h1']⟩
 |some q=>
  simp only[addC,h1,h1',hg] at h ⊢;by_cases h2:0≤Yb q.at_ v.at_
  ·simp[h2] at h
  ·by_cases h3:l.length=64
   ·simp[h2,h3] at h
   ·refine⟨by simp[h2,h3],Gy,Gy,?_⟩;simp only[Yg,Gc,Gi,Ge,List.length_singleton];exact⟨YiG hr.1 h1' (by rw[hg];simp[Yd2];omega),by omega⟩
theorem YaR {a b:Stamp}:0≤Yb a b↔Yb b a≤0:=by
 have h1:=@Ybh a b;have h2:=@Ydy b a;have:Yb a b<0↔0<Yb b a:=by rw[h1,h2]
 omega
theorem Yhy:∀{n:Nat} {l:List Ver} {p:Option Ver},chR p l=true→chR none (l.drop n)=true
 |0,[],p,_=>rfl
 |0,v::l,p,h=>by
  have hv:=Yfp h (GR ..);rw[GaH,Ycu hv];rw[Ycu hv] at h;simp only[Gc] at h;simp[Yd2,h.2]
 |n+1,[],p,_=>by simp[chR]
 |n+1,v::l,p,h=>by rw[List.drop_succ_cons];exact Yhy (Ydj h)
theorem YdG {l:List Ver} {n:Nat} (h:Yg l=true):Yg (l.drop n)=true:=by
 have:=YaS h;simp only[Yg,Gc,Gi];exact⟨Yhy this.1,by simp;omega⟩
structure Entr where
 key:List UInt8
 chain:List Ver
 deriving DecidableEq
@[go_sem] def YaK (e:Entr):List V:=[.str e.key,Ye e.chain]
@[go_sem] def Yf (l:List Entr):V:=.slice 2 (l.map YaK)
def Sm (l:List Entr):Prop:=l.length≤10000∧∀e∈l,e.chain.length≤10000∧e.key.length≤10000
theorem Sm.len {l:List Entr} (h:Sm l):l.length≤10000:=h.1
theorem Sm.at {l:List Entr} (h:Sm l) {i:Nat} {e:Entr} (he:l[i]?=some e):e.chain.length≤10000∧e.key.length≤10000:=h.2 e (List.mem_of_getElem? he)
theorem gtd {a b:Nat}:decide ((a:Int)<(b:Int))=!decide (b≤a):=by
 by_cases h:b≤a<;>simp[h]<;>omega
theorem Yml {n:Nat}:decide ((64:Int)<(n:Int))=!decide (n≤64):=gtd (a:=64)
theorem YmL {n:Nat}:decide ((n:Int)≤64)=decide (n≤64):=led (b:=64)
def YcX (e:Entr):Bool:=keyR e.key&&(!decide (e.chain=[])&&Yg e.chain)
def ixG:Option Entr→List Entr→Bool
 |_,[]=>true
 |p,e::l=>YcX e&&((match p with|none=>true|some q=>ltS q.key e.key)&&ixG (some e) l)
def ixR (l:List Entr):Bool:=decide (l.length≤64)&&ixG none l
def YdL (l:List Entr) (i:Nat):Option Entr:=if i=0 then none else l[i-1]?
theorem Yfy {l:List Entr} {i:Nat} {x:Entr} (h:l[i]?=some x):YdL l (i+1)=some x:=by simp[YdL,h]
theorem YdH {l:List Ver}:decide ((l.length:Int)=0)=decide (l=[]):=by cases l<;>simp;omega
def H203 (Pg:PgT):Prop:=Pg 203=some (.code F203)∧H7 Pg∧H170 Pg∧H192 Pg
theorem K203 (h:H203 Pg) (l:List Entr) (hl:Sm l):K' Pg 203 [Yf l]=some (.bool (ixR l)):=by
 obtain⟨h,h7,h170,h192⟩:=h;have k170:=fun x=>K170 h170 x;have k192:=fun x y=>K192 h192 x y;have hlen:=hl.len;refine Qb h rfl ?_;simp only[go_sem];unfold l203_0;refine JiJ (fun (i:Nat) S=>i≤l.length∧S.ρ 0=Yf l∧S.ρ 5=Yf l∧S.ρ 6=iz l.length∧S.ρ 7=iz i∧S.μ 4=none∧ixG (YdL l i) (l.drop i)=ixG none l) (fun i=>l.length-i) 0 ?_ ?_
 ·simp[go_sem,YdL]
 ·intro i S ⟨hi,h0,h5,h6,h7',m4,ho⟩;simp only[go_sem,h6,h7'];refine JiK (fun h=>?_) (fun h=>?_)
  ·have h:=Yj h;obtain⟨x,hx,hd⟩:=Jiq h;have k7:=K7 h7 x.chain (by have:=hl.at hx;omega);simp only[Ye] at k7;have hinc:IntKind.i64.wrap ((i:Int)+1)=((i+1:Nat):Int):=Yn h (by omega);rw[hd] at ho;simp only[ixG] at ho;simp only[go_sem,h5,h7',m4,hx,Ye,k170];cases c1:keyR x.key with
   |false=>
    simp only[YcX,c1,Gs] at ho;simp only[go_sem,ixR,←ho]
   |true=>
   cases c2:Yg x.chain with
   |false=>
    simp only[YcX,c1,c2,Gs,GB] at ho;simp only[go_sem,c2,k7,ixR,←ho]
   |true=>
   cases c3:decide (x.chain=[]) with
   |true=>
    simp only[YcX,c1,c2,c3,Gs,GB,GQ] at ho;simp only[go_sem,c2,c3,k7,YdH,ixR,←ho]
   |false=>
   simp only[YcX,c1,c2,c3,GP,GU,GY] at ho;rcases Gae i with hz|hz
   ·have hgt:decide ((0:Int)<(i:Int))=false:=Gp (by omega);simp only[go_sem,hgt,h0,h5,h6,h7',c2,c3,k7,YdH];exact⟨i+1,by omega,by omega,by rw[hinc],by rw[Yfy hx];simpa [YdL,hz] using ho⟩
   ·have hgt:decide ((0:Int)<(i:Int))=true:=GD (by omega);have hdec:IntKind.i64.wrap ((i:Int)-1)=((i-1:Nat):Int):=Yep hz (by omega);obtain⟨y,hy,-⟩:=Jiq (l:=l) (i:=i-1) (by omega);have hp:YdL l i=some y:=by simp[YdL,Nat.ne_of_gt hz,hy]
    rw[hp] at ho;simp only at ho;simp only[go_sem,h0,c2,c3,k7,YdH,Ye,hgt,hdec,hy,k192];refine JiK (fun hc=>?_) (fun hc=>?_)
    ·have:ltS y.key x.key=false:=Gp (by have:=Gg hc;omega);rw[this] at ho;simp only[Gs] at ho;simp only[go_sem,ixR,←ho]
    ·have:ltS y.key x.key=true:=GD (by have:=Gb hc;omega);rw[this] at ho;simp only[GP] at ho;simp only[go_sem,h0,h5,h6,h7'];exact⟨i+1,by omega,by omega,by rw[hinc],by rw[Yfy hx];exact ho⟩
  ·have h:=YE hi h;subst h;rw[GW] at ho;simp only[ixG] at ho;simp only[go_sem,h0,YmL,ixR,←ho]
def H204 (Pg:PgT):Prop:=Pg 204=some (.code F204)∧H4 Pg∧H168 Pg∧H187 Pg
theorem K204 (h:H204 Pg) (l:List Entr) (hl:Sm l):K' Pg 204 [Yf l]=some (.bool (ixR l)):=by
 obtain⟨h,h4,h168,h187⟩:=h;have k168:=fun x=>K168 h168 x;refine Qb h rfl ?_;cases c0:decide (l.length≤64) with
 |false=>simp only[go_sem,Yml,c0,ixR]
 |true=>
 have hlen:=Gg c0;simp only[go_sem,Yml,c0,ixR];unfold l204_0;refine JiJ (fun (i:Nat) S=>i≤l.length∧S.ρ 0=Yf l∧S.ρ 3=iz i∧ixG (YdL l i) (l.drop i)=ixG none l) (fun i=>l.length-i) 0 ?_ ?_
 ·simp[go_sem,YdL]
 ·intro i S ⟨hi,h0,h3,ho⟩;simp only[go_sem,h0,h3];refine JiK (fun h=>?_) (fun h=>?_)
  ·have h:=Yj h;obtain⟨x,hx,hd⟩:=Jiq h;have k4:=K4 h4 x.chain (by have:=hl.at hx;omega);simp only[Ye] at k4;have hinc:IntKind.i64.wrap ((i:Int)+1)=((i+1:Nat):Int):=Yn h (by omega);rw[hd] at ho;simp only[ixG] at ho;simp only[go_sem,h0,h3,hx,Ye,k168];cases c1:keyR x.key with
   |false=>
    simp only[YcX,c1,Gs] at ho;simp only[go_sem,←ho]
   |true=>
   cases c3:decide (x.chain=[]) with
   |true=>
    simp only[YcX,c1,c3,Gs,GB,GQ] at ho;simp only[go_sem,h0,h3,hx,c3,YdH,←ho,Ye]
   |false=>
   cases c2:Yg x.chain with
   |false=>
    simp only[YcX,c1,c2,Gs,GB] at ho;simp only[go_sem,h0,h3,hx,c2,c3,k4,YdH,←ho,Ye]
   |true=>
   simp only[YcX,c1,c2,c3,GP,GU,GY] at ho;rcases Gae i with hz|hz
   ·have hgt:decide ((0:Int)<(i:Int))=false:=Gp (by omega);simp only[go_sem,hgt,h0,h3,hx,c2,c3,k4,YdH,Ye];exact⟨i+1,by omega,by omega,by rw[hinc],by rw[Yfy hx];simpa [YdL,hz] using ho⟩
   ·have hgt:decide ((0:Int)<(i:Int))=true:=GD (by omega);have hdec:IntKind.i64.wrap ((i:Int)-1)=((i-1:Nat):Int):=Yep hz (by omega);obtain⟨y,hy,-⟩:=Jiq (l:=l) (i:=i-1) (by omega);have hp:YdL l i=some y:=by simp[YdL,Nat.ne_of_gt hz,hy]
    have k187:=K187 h187 y.key x.key (by have:=hl.at hy;omega) (by have:=hl.at hx;omega);rw[hp] at ho;simp only at ho;simp only[go_sem,h0,h3,hx,c2,c3,k4,YdH,Ye,hgt,hdec,hy,k187,Yh6];cases hc:ltS y.key x.key with
    |false=>
     rw[hc] at ho;simp only[ltS] at hc;simp only[Gs] at ho;simp only[go_sem,hc,←ho]
    |true=>
     rw[hc] at ho;simp only[ltS] at hc;simp only[GP] at ho;simp only[go_sem,h0,h3,hc];exact⟨i+1,by omega,by omega,by rw[hinc],by rw[Yfy hx];exact ho⟩
  ·have h:=YE hi h;subst h;rw[GW] at ho;simp only[ixG] at ho;simp only[go_sem,←ho]
def YL (k:List UInt8):List Entr→Nat
 |[]=>0
 |e::l=>if ltS e.key k then YL k l+1 else 0
theorem YdD {k:List UInt8}:∀(l:List Entr),YL k l≤l.length
 |[]=>Gt _
 |e::l=>by
  have:=YdD (k:=k) l;simp only[YL,List.length_cons];split<;>omega
theorem YeR {k : List UInt8} : ∀ {l : List Entr} {j : Nat} {e : Entr}, j < YL k l → l[j]? = some e → ltS e.key k = true
  | [], _, _, h, _ => by simp [YL] at h
  | a :: l, j, e, h, he => by
    simp only [YL] at h;split at h
    · rename_i ha
      cases j with
      | zero => obtain rfl : a = e := by simpa using he
                exact ha
      | succ j => exact YeR (l := l) (j := j) (by omega) (by simpa using he)
    · omega
theorem Yeu:∀{l:List Entr} {p:Option Entr},ixG p l=true→(∀q,p=some q→∀e∈l,ltS q.key e.key=true)∧l.Pairwise (fun a b=>ltS a.key b.key=true)∧∀e∈l,YcX e=true
 |[],_,_=>⟨fun _ _=>by simp,.nil,by simp⟩
 |e::l,p,h=>by
  simp only[ixG,Gc] at h;obtain⟨h1,h2,h3⟩:=h;obtain⟨g1,g2,g3⟩:=Yeu h3;have g1:=g1 e rfl;refine⟨?_,GV.2 ⟨g1,g2⟩,fun x hx=>?_⟩
  ·rintro q rfl x hx;simp only at h2;rcases GI.1 hx with rfl|hx
   ·exact h2
   ·have:=g1 x hx;rw[YaG] at h2 this ⊢;exact Yc0 (by omega) this
  ·rcases GI.1 hx with rfl|hx
   ·exact h1
   ·exact g3 x hx
theorem YkT:∀{l:List Entr},ixG none l=true↔l.Pairwise (fun a b=>ltS a.key b.key=true)∧∀e∈l,YcX e=true:=by
 intro l;refine⟨fun h=>(Yeu h).2,fun⟨h1,h2⟩=>?_⟩
 suffices ∀(l:List Entr) (p:Option Entr),l.Pairwise (fun a b=>ltS a.key b.key=true)→(∀e∈l,YcX e=true)→(∀q,p=some q→∀e∈l,ltS q.key e.key=true)→ixG p l=true from this l none h1 h2 (fun _ h=>by simp at h)
 intro l
 induction l with
 |nil=>intros;rfl
 |cons e l ih=>
  intro p h1 h2 h3;obtain⟨g1,g2⟩:=GV.1 h1;simp only[ixG,Gc];refine⟨h2 e (by simp),?_,ih (some e) g2 (fun x hx=>h2 x (by simp[hx])) (fun q hq x hx=>by
   obtain rfl:e=q:=by simpa using hq
   exact g1 x hx)⟩
  cases p with
  |none=>rfl
  |some q=>exact h3 q rfl e (by simp)
theorem YaA {l:List Entr}:ixR l=true↔l.length≤64∧l.Pairwise (fun a b=>ltS a.key b.key=true)∧∀e∈l,YcX e=true:=by
 simp only[ixR,Gc,Gi,YkT]
theorem YdB {l l':List Entr} (h:ixR l=true) (hs:l'.Sublist l):ixR l'=true:=by
 rw[YaA] at h ⊢;exact⟨GJ hs.length_le h.1,h.2.1.sublist hs,fun e he=>h.2.2 e (hs.subset he)⟩
theorem Ybj {e:Entr}:YcX e=true↔keyR e.key=true∧e.chain≠[]∧Yg e.chain=true:=by simp[YcX]
theorem YeY {c:List Ver} (h:Yg c=true):c.length≤64:=by simp only[Yg,Gc,Gi] at h;exact h.2
theorem YdY {l:List Entr} (h:ixR l=true):Sm l:=by
 rw[YaA] at h;refine⟨by omega,fun e he=>?_⟩;obtain⟨h1,-,h2⟩:=Ybj.1 (h.2.2 e he);have:=YeY h2;have:=Yaa h1;omega
theorem Yeh {k : List UInt8} : ∀ {l : List Entr} {p : Option Entr} {j : Nat} {e : Entr}, ixG p l = true → YL k l ≤ j → l[j]? = some e → ltS e.key k = false
  | [], _, _, _, _, _, he => by simp at he
  | a :: l, p, j, e, h, hj, he => by
    have hp := Yeu h;simp only [ixG, Gc] at h;simp only [YL] at hj;split at hj
    · rename_i ha
      cases j with
      | zero => omega
      | succ j => exact Yeh (l := l) (j := j) h.2.2 (by omega) (by simpa using he)
    · rename_i ha
      have ha : ltS a.key k = false := by simpa using ha
      cases j with
      | zero => obtain rfl : a = e := by simpa using he
                exact ha
      | succ j =>
        have := (GV.1 hp.2.1).1 e (List.mem_of_getElem? (by simpa using he))
        simp only [ltS, Gi, Gq] at this ha ⊢
        exact fun h => ha (Yc0 (by omega) h)
def H226 (Pg:PgT):Prop:=Pg 226=some (.code F226)∧H192 Pg
theorem K226 (h:H226 Pg) (e:Entr) (k:List UInt8):K' Pg 226 [.agg (YaK e),.str k]=some (iz (YD (Yq e.key) (Yq k))):=by
 obtain⟨h,h192⟩:=h;have k192:=K192 h192 e.key k;refine Qb h rfl ?_;simp only[go_sem,k192]
def H225 (Pg:PgT):Prop:=Pg 225=some (.code F225)
theorem K225 (h:H225 Pg) (l:List Entr) (s:List UInt8) (g:Nat) (f:Nat→Int) (n:Nat) (hl:l.length<2 ^ 60)
  (hg:∀i v,l[i]?=some v→K' Pg g [.agg (YaK v),.str s]=some (iz (f i))) (hn:n≤l.length) (h1:∀j,j<n→f j<0) (h2:∀j,n≤j→j<l.length→0≤f j) :
  K' Pg 225 [Yf l,.str s,.func g []]=some (.tuple [iz n,.bool (decide (n<l.length)&&decide (f n=0))]):=by
 refine Qb h rfl ?_
 simp only[YaK,Ye] at hg
 simp only[go_sem]
 unfold l225_0
 refine JiJ (fun (p:Nat×Nat) S=>p.1≤n∧n≤p.2∧p.2≤l.length∧S.ρ 0=Yf l∧S.ρ 1=.str s∧S.ρ 2=.func g []∧S.ρ 8=iz l.length∧S.ρ 9=iz p.1∧S.ρ 10=iz p.2) (fun p=>p.2-p.1) (0,l.length) ?_ ?_
 ·simp[go_sem,hn]
 ·intro⟨i,j⟩ S ⟨hi,hj,hjl,h0,hs,h2',h8,h9,h10⟩
  simp only at hi hj hjl h9 h10
  simp only[go_sem,h9,h10]
  refine JiK (fun h=>?_) (fun h=>?_)
  ·simp only[Gi,G0] at h
   have e1:IntKind.i64.wrap ((i:Int)+j)=(i:Int)+j:=JiG (by omega) (by omega)
   have e2:IntKind.u64.wrap ((i:Int)+j)=(i:Int)+j:=_root_.Go.IntWalk.u64_in _ ⟨by omega,by omega⟩
   have e3:Int.fdiv ((i:Int)+j) 2=(((i+j) / 2:Nat):Int):=by
    rw[GaD _ (by omega)];omega
   have e4:IntKind.i64.wrap ((((i+j) / 2:Nat):Int))=(((i+j) / 2:Nat):Int):=JiG (by omega) (by omega)
   have e5:IntKind.i64.wrap ((((i+j) / 2:Nat):Int)+1)=(((i+j) / 2+1:Nat):Int):=JiG (by omega) (by omega)
   obtain⟨x,hx,hd⟩:=Jiq (l:=l) (i:=(i+j) / 2) (by omega)
   have hgx:=hg _ _ hx
   simp only[go_sem,h0,hs,h2',h9,h10,e1,e2,e3,e4,hx,hgx,Ye]
   refine JiK (fun hc=>?_) (fun hc=>?_)
   ·simp only[go_sem,h0,hs,h2',h8,h10,e5]
    have hf:f ((i+j) / 2)<0:=by simpa using hc
    refine⟨((i+j) / 2+1,j),by simp only;omega,?_,hj,hjl,rfl,rfl⟩
    simp only
    rcases GA ((i+j) / 2) n with h'|h'
    ·exact h'
    ·have:=h2 _ h' (by omega);omega
   ·simp only[go_sem,h0,hs,h2',h8,h9]
    have hf:¬f ((i+j) / 2)<0:=by simpa using hc
    refine⟨(i,(i+j) / 2),by simp only;omega,hi,?_,by simp only;omega,rfl,rfl⟩
    simp only
    rcases GA ((i+j) / 2) n with h'|h'
    ·exact absurd (h1 _ h') hf
    ·exact h'
  ·simp only[Gq,G0] at h
   have:i=n:=by omega
   subst this
   simp only[go_sem,h8,h9]
   refine JiI (fun hc=>?_) (fun hc=>?_)
   ·simp only[Gi,G0] at hc
    obtain⟨x,hx,hd⟩:=Jiq hc
    have hgx:=hg _ _ hx
    simp only[go_sem,h0,hs,h2',h9,hx,hgx,Ye,hc,GaN,G0]
   ·simp only[Gq,G0] at hc
    simp only[go_sem,hc,GaE,G0]
def YW (k:List UInt8) (l:List Entr):Bool:=match l[YL k l]? with
 |none=>false
 |some e=>decide (YD (Yq e.key) (Yq k)=0)
def H220 (Pg:PgT):Prop:=Pg 220=some (.code F220)∧H225 Pg∧H226 Pg
theorem K220 (h:H220 Pg) (l:List Entr) (k:List UInt8) (hr:ixR l=true):K' Pg 220 [Yf l,.str k]=some (.tuple [iz (YL k l),.bool (YW k l)]):=by
 obtain⟨h,h225,h226⟩:=h;have hl:=(YdY hr).len;have hg:ixG none l=true:=by simp only[ixR,Gc] at hr;exact hr.2
 have k225:=K225 h225 l k 226 (fun i=>match l[i]? with|none=>0|some e=>YD (Yq e.key) (Yq k)) (YL k l) (by omega) (fun i v hv=>by
  simp only[hv];exact K226 h226 v k) (YdD l) (fun j hj=>by
  obtain⟨x,hx,-⟩:=Jiq (G6 hj (YdD l));simp only[hx];exact YaG.1 (YeR hj hx)) (fun j hj hjl=>by
  obtain⟨x,hx,-⟩:=Jiq hjl;simp only[hx];have:=Yeh hg hj hx;simp only[ltS,Gq] at this;omega)
 have e:(decide (YL k l<l.length)&&decide ((match l[YL k l]? with|none=>0|some e=>YD (Yq e.key) (Yq k))=0))=YW k l:=by
  unfold YW;cases hx:l[YL k l]? with
  |none=>
   have:¬YL k l<l.length:=by have:=List.getElem?_eq_none_iff.1 hx;omega
   simp[this]
  |some x=>have:=(List.getElem?_eq_some_iff.1 hx).1;simp[this]
 rw[e] at k225;simp only[Yf] at k225;refine Qb h rfl ?_;simp only[go_sem,k225]
def Yk2 (z n:Nat):Option (Nat×List (List V)×Fz)→Option V
 |some (z',rows,.live)=>if z'=z∧rows.length=n then some (.slice z rows) else none
 |_=>none
@[go_sem] theorem YmO {z n:Nat} {rows:List (List V)}:Yk2 z n (some (z,rows,.live))=if rows.length=n then some (.slice z rows) else none:=by simp[Yk2]
@[go_sem] theorem YmU {A:Nat→Option (Nat×List (List V)×Fz)} {s z n:Nat}:Jbu A (some 0) 0 (.own s z n)=Yk2 z n (A s):=by
 unfold Jbu Yk2;rw[Gr rfl]
 rfl
theorem Ykl {α:Type} {L:List α} {i:Nat} {r:α} (h:L[i]?=some r):L.set i r=L:=by
 obtain⟨hi,rfl⟩:=List.getElem?_eq_some_iff.1 h;exact List.set_getElem_self hi
theorem YmM {α:Type} {L D:List α} {j:Nat} {r:α} (h:j≤L.length):(L.take j++r::D)[j]?=some r:=by
 have e:(L.take j).length=j:=by rw[GG];omega
 rw[List.getElem?_append_right (by omega),e];simp
theorem YmN {α:Type} {L D:List α} {j:Nat} {r r':α} (h:j≤L.length):(L.take j++r::D).set j r'=L.take j++r'::D:=by
 have e:(L.take j).length=j:=by rw[GG];omega
 rw[List.set_append_right _ _ (by omega),e];simp
theorem Ymm {α:Type} {L:List α} {j:Nat} {r:α} (h:j<L.length):L.set j r=L.take j++r::L.drop (j+1):=by
 rw[List.set_eq_take_append_cons_drop,Gr h]
def H227 (Pg:PgT):Prop:=Pg 227=some (.prim (some 0) (cloneQ 2))
theorem K227 (h:H227 Pg) (rows:List (List V)) (hl:rows.length≤lim):K' Pg 227 [.slice 2 rows]=some (.slice 2 rows):=by
 rw[Jip h];simp[cloneQ,hl]
def H221 (Pg:PgT):Prop:=Pg 221=some (.code F221)∧H23 Pg∧H227 Pg
theorem K221 (h:H221 Pg) (l:List Entr) (hl:Sm l):K' Pg 221 [Yf l]=some (Yf l):=by
 obtain⟨h,h23,h227⟩:=h;have hlen:=hl.len;have k227:=K227 h227 (l.map YaK) (by simp[lim];omega);refine Qb h rfl ?_;simp only[go_sem,k227];unfold l221_0;refine JiJ (fun (i:Nat) S=>i≤l.length∧S.ρ 3=.own 6 2 l.length∧S.A 6=some (2,l.map YaK,.live)∧S.ρ 8=iz l.length∧S.ρ 9=iz i) (fun i=>l.length-i) 0 ?_ ?_
 ·simp[go_sem]
 ·intro i S ⟨hi,h3,a6,h8,h9⟩;simp only[go_sem,h8,h9];refine JiK (fun h=>?_) (fun h=>?_)
  ·have h:=Yj h;obtain⟨x,hx,hd⟩:=Jiq h;have k23:=K23 h23 (x.chain.map Yam) (by have:=hl.at hx;simp[lim];omega);have hs:(l.map YaK).set i [.str x.key,.slice 5 (x.chain.map Yam)]=l.map YaK:=Ykl (by rw[List.getElem?_map,hx];rfl);simp only[go_sem,h3,a6,h8,h9,h,hx,Ye,k23,hs];exact⟨i+1,by omega,by omega,by rw[Yn h (by omega)]⟩
  ·simp only[go_sem,h3,a6]
theorem YiU {a b:List UInt8} (ha:keyR a=true) (hb:keyR b=true) (h:YD (Yq a) (Yq b)=0):a=b:=by
 simp only[keyR,Gc] at ha hb;have:∀{l:List UInt8},keyR l=true→keyAll l.length l=true:=fun {l} h=>by
  simp only[keyR,Gc] at h
  first|exact h.1|exact h.2.1|exact h.2.2
 exact lets_inj a.length a b (Gt _) (this (by simp only[keyR,Gc];exact ha)) (this (by simp only[keyR,Gc];exact hb)) (Yed _ _ h)
def oldC (k:List UInt8) (l:List Entr):List Ver:=if YW k l then (match l[YL k l]? with|some e=>e.chain|none=>[]) else []
def Ycm (l:List Entr) (k:List UInt8) (c:List Ver):List Entr:=l.take (YL k l)++⟨k,c⟩::l.drop (YL k l+if YW k l then 1 else 0)
def YaV (l:List Entr) (k:List UInt8) (v:Ver):List Entr×Int:=
 if ixR l&&keyR k then (if (addC (oldC k l) v).2=0 then (if (!YW k l&&decide (l.length=64))=true then ([],6) else (Ycm l k (addC (oldC k l) v).1,0)) else ([],(addC (oldC k l) v).2)) else ([],1)
@[go_sem] def eEE (x:List Entr×Int):V:=.tuple [Yf x.1,iz x.2]
theorem YeW {k:List UInt8} {l:List Entr} (h:YW k l=true):∃e,l[YL k l]?=some e∧YD (Yq e.key) (Yq k)=0:=by
 unfold YW at h;split at h
 ·simp at h
 ·rename_i e he;exact⟨e,he,Gg h⟩
theorem Ydv {k:List UInt8} {l:List Entr} (hr:ixR l=true) (hk:keyR k=true) (h:YW k l=true):∃e,l[YL k l]?=some e∧e.key=k:=by
 obtain⟨e,he,hc⟩:=YeW h;have:=(YaA.1 hr).2.2 e (List.mem_of_getElem? he);exact⟨e,he,YiU (Ybj.1 this).1 hk hc⟩
theorem Ykb {k:List UInt8} {l:List Entr} (hl:Sm l):(oldC k l).length≤10000:=by
 unfold oldC;split
 ·split
  ·rename_i e he;exact (hl.at he).1
  ·simp
 ·simp
def H200 (Pg:PgT):Prop:=Pg 200=some (.code F200)∧H3 Pg∧H170 Pg∧H203 Pg∧H220 Pg∧H221 Pg
theorem K200 (h:H200 Pg) (l:List Entr) (k:List UInt8) (v:Ver) (hl:Sm l):K' Pg 200 [Yf l,.str k,.agg (Yam v)]=some (eEE (YaV l k v)):=by
 obtain⟨h,h3,h170,h203,h220,h221⟩:=h;have k203:=K203 h203 l hl;have k170:=K170 h170 k;have k221:=K221 h221 l hl;have hlen:=hl.len;simp only[Yf] at k203 k221;refine Qb h rfl ?_;cases c1:ixR l with
 |false=>simp only[go_sem,k203,c1,YaV]
 |true=>
 cases c2:keyR k with
 |false=>simp only[go_sem,k203,k170,c1,c2,YaV]
 |true=>
 have k220:=K220 h220 l k c1;have k3:=K3 h3 (oldC k l) v (by have:=Ykb (k:=k) hl;omega);have hp:=YdD (k:=k) l;simp only[Yf] at k220;cases c3:YW k l with
 |true=>
  obtain⟨e,he,hk⟩:=Ydv c1 c2 c3;have hj:=(List.getElem?_eq_some_iff.1 he).1;have ho:oldC k l=e.chain:=by simp only[oldC,c3,he,Gz]
  rw[ho] at k3;simp only[Ye,Yam] at k3;cases c4:decide ((addC e.chain v).2=0) with
  |false=>
   have hm:YaV l k v=([],(addC e.chain v).2):=by simp only[YaV,c1,c2,ho,Gb c4,G1,Gz,Gu]
   rw[hm];simp only[go_sem,k203,k170,k220,k3,c1,c2,c3,c4,he,Ye]
  |true=>
   have hm:YaV l k v=(Ycm l k (addC e.chain v).1,0):=by simp only[YaV,c1,c2,c3,ho,Gg c4,G1,Gz,GQ,Gs,Gm,Gu]
   have hs:(l.map YaK).set (YL k l) [.str e.key,.slice 5 ((addC e.chain v).1.map Yam)]=(Ycm l k (addC e.chain v).1).map YaK:=by
    rw[Ymm (by simpa using hj),hk];simp[Ycm,c3,YaK,Ye]
   have hz:(Ycm l k (addC e.chain v).1).length=l.length:=by simp[Ycm,c3];omega
   rw[hm];simp only[go_sem,k203,k170,k220,k3,k221,c1,c2,c3,c4,he,Ye,hj,hs,hz]
 |false=>
  have ho:oldC k l=[]:=by simp only[oldC,c3,Gm,Gu]
  rw[ho] at k3;simp only[Ye,Yam,Gk] at k3;cases c4:decide ((addC [] v).2=0) with
  |false=>
   have hm:YaV l k v=([],(addC [] v).2):=by simp only[YaV,c1,c2,ho,Gb c4,G1,Gz,Gu]
   rw[hm];simp only[go_sem,k203,k170,k220,k3,c1,c2,c3,c4]
  |true=>
  cases c5:decide ((l.length:Int)=64) with
  |true=>
   have c5':l.length=64:=by have:=Gg c5;omega
   have hm:YaV l k v=([],6):=by simp only[YaV,c1,c2,c3,c5',ho,Gg c4,G1,Gz,GY,GaN]
   rw[hm];simp only[go_sem,k203,k170,k220,k3,c1,c2,c3,c4,c5]
  |false=>
   have c5':¬l.length=64:=by have:=Gb c5;omega
   have hm:YaV l k v=(Ycm l k (addC [] v).1,0):=by simp only[YaV,c1,c2,c3,c5',ho,Gg c4,G1,Gz,GY,GaE,GP,Gm,Gu]
   have hlim:l.length+1≤lim:=by simp only[lim];omega
   have hpl:YL k l≤(l.map YaK).length:=by simpa using hp
   have hp1:YL k l<l.length+1:=by omega
   have q1:∀r D,((l.map YaK).take (YL k l)++r::D)[YL k l]?=some r:=fun r D=>YmM hpl;have q2:∀r r' D,((l.map YaK).take (YL k l)++r::D).set (YL k l) r'=(l.map YaK).take (YL k l)++r'::D:=fun r r' D=>YmN hpl;have q3:((l.map YaK).take (YL k l)).length+(((l.map YaK).drop (YL k l)).length+1)=l.length+1:=by
    rw[GG,GL,Gj];omega
   have q4:(Ycm l k (addC [] v).1).map YaK=(l.map YaK).take (YL k l)++[.str k,.slice 5 ((addC [] v).1.map Yam)]::(l.map YaK).drop (YL k l):=by
    simp[Ycm,c3,YaK,Ye]
   rw[hm];simp only[go_sem,k203,k170,k220,k3,k221,c1,c2,c3,c4,c5,hp,hlim,hp1,q1,q2,q3,q4]
abbrev It:=List UInt8×List UInt8
@[go_sem] def eIt (x:It):List V:=[.str x.1,.str x.2]
@[go_sem] def YfM (l:List It):V:=.slice 2 (l.map eIt)
def inS (k lo hi:List UInt8):Bool:=leS lo k&&(decide (hi=[])||ltS k hi)
def itF (hi:List UInt8) (s:Stamp) (e:Entr):Option It:=if decide (hi=[])||ltS e.key hi then (YaW s e.chain).map fun v=>(e.key,v) else none
def YdQ (lo hi:List UInt8) (s:Stamp) (e:Entr):Option It:=if inS e.key lo hi then (YaW s e.chain).map fun v=>(e.key,v) else none
def Yaq (l:List Entr) (lo hi:List UInt8) (s:Stamp):List It:=l.filterMap (YdQ lo hi s)
def YeZ (a:List It) (n:Nat):List It×List UInt8×Bool:=if a.length≤n then (a,[],false) else (a.take n,(a[n]?.map Prod.fst).getD [],true)
def YbC (l:List Entr) (lo hi:List UInt8) (s:Stamp) (limit:Int):List It×List UInt8×Bool:=YeZ (Yaq l lo hi s) limit.toNat
@[go_sem] def Yg6 (x:List It×List UInt8×Bool):V:=.tuple [YfM x.1,.str x.2.1,.bool x.2.2]
def pgL (hi:List UInt8) (s:Stamp) (n:Nat):List Entr→List It→List It×List UInt8×Bool
 |[],out=>(out,[],false)
 |e::t,out=>if !decide (hi=[])&&!ltS e.key hi then (out,[],false) else match YaW s e.chain with
  |none=>pgL hi s n t out
  |some v=>if n≤out.length then (out,e.key,true) else pgL hi s n t (out++[(e.key,v)])
theorem Ygb {hi:List UInt8} {s:Stamp} {n:Nat}:∀{t:List Entr} {out:List It},t.Pairwise (fun a b=>ltS a.key b.key=true)→out.length≤n→
  pgL hi s n t out=if out.length+(t.filterMap (itF hi s)).length≤n then (out++t.filterMap (itF hi s),[],false) else (out++(t.filterMap (itF hi s)).take (n-out.length),((t.filterMap (itF hi s))[n-out.length]?.map Prod.fst).getD [],true)
 |[],out,_,ho=>by simp[pgL,ho]
 |e::t,out,hp,ho=>by
  obtain⟨hp1,hp2⟩:=GV.1 hp;simp only[pgL];cases c1:decide (hi=[]) with
  |false=>
   cases c2:ltS e.key hi with
   |false=>
    have hn:(e::t).filterMap (itF hi s)=[]:=List.filterMap_eq_nil_iff.2 fun x hx=>by
     have:ltS x.key hi=false:=by
      rcases GI.1 hx with rfl|hx
      ·exact c2
      ·have h1:=hp1 x hx;simp only[ltS,Gi,Gq] at c2 h1 ⊢;exact fun h=>c2 (Yc0 (by omega) h)
     simp[itF,c1,this]
    simp[hn,ho]
   |true=>
    have hf:itF hi s e=(YaW s e.chain).map fun v=>(e.key,v):=by simp[itF,c2]
    simp only[GQ,GB,Gm,Gu,List.filterMap_cons,hf];cases c3:YaW s e.chain with
    |none=>simp only[Option.map_none];exact Ygb hp2 ho
    |some v=>
     simp only[Option.map_some];by_cases c4:n≤out.length
     ·have e1:n=out.length:=by omega
      rw[Gr c4,Gn (by simp only[List.length_cons];omega)];simp[e1]
     ·rw[Gn c4,Ygb hp2 (by simp;omega)];have e2:n-out.length=(n-(out++[(e.key,v)]).length)+1:=by simp;omega
      simp only[Ge,List.length_cons,List.length_nil] at e2 ⊢;rw[e2];simp only[List.take_succ_cons,List.getElem?_cons_succ,GS,List.cons_append,List.nil_append];have e3:(out.length+(0+1)+(t.filterMap (itF hi s)).length≤n)=(out.length+((t.filterMap (itF hi s)).length+1)≤n):=propext (by omega);simp only[e3]
  |true=>
   have hf:itF hi s e=(YaW s e.chain).map fun v=>(e.key,v):=by simp[itF,c1]
   simp only[GQ,Gs,Gm,Gu,List.filterMap_cons,hf];cases c3:YaW s e.chain with
   |none=>simp only[Option.map_none];exact Ygb hp2 ho
   |some v=>
    simp only[Option.map_some];by_cases c4:n≤out.length
    ·have e1:n=out.length:=by omega
     rw[Gr c4,Gn (by simp only[List.length_cons];omega)];simp[e1]
    ·rw[Gn c4,Ygb hp2 (by simp;omega)];have e2:n-out.length=(n-(out++[(e.key,v)]).length)+1:=by simp;omega
     simp only[Ge,List.length_cons,List.length_nil] at e2 ⊢;rw[e2];simp only[List.take_succ_cons,List.getElem?_cons_succ,GS,List.cons_append,List.nil_append];have e3:(out.length+(0+1)+(t.filterMap (itF hi s)).length≤n)=(out.length+((t.filterMap (itF hi s)).length+1)≤n):=propext (by omega);simp only[e3]
theorem YfS {α β:Type} {f g:α→Option β}:∀{l:List α},(∀x∈l,f x=g x)→l.filterMap f=l.filterMap g
 |[],_=>rfl
 |a::l,h=>by simp only[List.filterMap_cons,h a (by simp),YfS (l:=l) fun x hx=>h x (by simp[hx])]
theorem YfD {lo hi:List UInt8} {s:Stamp}:∀{l:List Entr} {p:Option Entr},ixG p l=true→Yaq l lo hi s=(l.drop (YL lo l)).filterMap (itF hi s)
 |[],_,_=>rfl
 |e::l,p,h=>by
  have hp:=Yeu h;simp only[ixG,Gc] at h;have hneg:∀x:Entr,leS lo x.key=!ltS x.key lo:=fun x=>by
   have:=YbS (Yq x.key) (Yq lo);simp only[leS,ltS];by_cases c:YD (Yq x.key) (Yq lo)<0<;>simp[c]<;>omega
  simp only[YL];cases c:ltS e.key lo with
  |true=>
   have hf:YdQ lo hi s e=none:=by simp[YdQ,inS,hneg,c]
   have ih:=YfD (lo:=lo) (hi:=hi) (s:=s) h.2.2;simp only[Yaq] at ih;simp only[Yaq,List.filterMap_cons,hf,ih,Gz,List.drop_succ_cons]
  |false=>
   simp only[Gm,Gu,GaH,Yaq];refine YfS fun x hx=>?_;have:ltS x.key lo=false:=by
    rcases GI.1 hx with rfl|hx
    ·exact c
    ·have h1:=(GV.1 hp.2.1).1 x hx;simp only[ltS,Gi,Gq] at c h1 ⊢;exact fun h=>c (Yc0 (by omega) h)
   simp[YdQ,itF,inS,hneg,this]
theorem YdX {l:List Entr} (h:ixR l=true):ixG none l=true:=by simp only[ixR,Gc] at h;exact h.2
theorem Yk3 {l:List Entr} {lo hi:List UInt8} {s:Stamp} {limit:Int} (hr:ixR l=true):pgL hi s limit.toNat (l.drop (YL lo l)) []=YbC l lo hi s limit:=by
 have hp:=(YaA.1 hr).2.1;rw[Ygb (hp.sublist (List.drop_sublist _ _)) (GE _),YbC,YfD (YdX hr),YeZ];simp
def H206 (Pg:PgT):Prop:=Pg 206=some (.code F206)∧H12 Pg∧H192 Pg∧H203 Pg∧H220 Pg
theorem K206 (h:H206 Pg) (l:List Entr) (lo hi:List UInt8) (s:Stamp) (limit:Int) (hl:Sm l):K' Pg 206 [Yf l,.str lo,.str hi,.agg (Yd s),iz limit]=some (Yg6 (if ixR l then YbC l lo hi s limit else ([],[],false))):=by
 obtain⟨h,h12,h192,h203,h220⟩:=h;have k203:=K203 h203 l hl;have k192:=fun x=>K192 h192 x hi;have hlen:=hl.len;simp only[Yf] at k203;refine Qb h rfl ?_;cases c1:ixR l with
 |false=>simp only[go_sem,k203,c1]
 |true=>
 have k220:=K220 h220 l lo c1;have hp:=YdD (k:=lo) l;simp only[Yf] at k220;have hpl:YL lo l≤(l.map YaK).length:=by simpa using hp
 rw[Gr rfl,←Yk3 c1];simp only[go_sem,k203,k220,c1,hp];have hmlen:(l.drop (YL lo l)).length≤10000:=by rw[GL];omega
 have hm:∀(i:Nat) (x:Entr),(l.drop (YL lo l))[i]?=some x→x.chain.length≤10000:=fun i x hx=>(hl.2 x (Gac (List.mem_of_getElem? hx))).1;rw[Gaa (show (l.map YaK).length≤l.length by simp),←Gao];generalize l.drop (YL lo l)=m at hmlen hm;simp only[Gj];unfold l206_0;refine JiJ (fun (x:Nat×List It) S=>(x.1≤m.length∧x.2.length≤x.1)∧S.ρ 2=.str hi∧S.ρ 4=iz limit∧S.ρ 8=.lref 8 0∧S.μ 8=some (Yd s,false)∧S.A 13=some (2,x.2.map eIt,.live)∧S.ρ 13=.own 13 2 x.2.length∧S.μ 17=none∧S.ρ 31=Yf m∧S.ρ 32=iz m.length∧S.ρ 33=iz x.1∧pgL hi s limit.toNat (m.drop x.1) x.2=pgL hi s limit.toNat m []) (fun x=>m.length-x.1) (0,[]) ?_ ?_
 ·simp[go_sem]
 ·intro⟨i,out⟩ S ⟨⟨hi',hol⟩,h2,h4,h8,m8,a13,h13,m17,h31,h32,h33,ho⟩;simp only at hi' hol a13 h13 h33 ho;simp only[go_sem,h32,h33];refine JiK (fun h=>?_) (fun h=>?_)
  ·have h:=Yj h;obtain⟨x,hx,hd⟩:=Jiq h;have k12:=K12' h12 x.chain s (by have:=hm i x hx;omega);simp only[Ye,Yd] at k12;have hinc:IntKind.i64.wrap ((i:Int)+1)=((i+1:Nat):Int):=Yn h (by omega);have hlt:decide (0≤YD (Yq x.key) (Yq hi))=!ltS x.key hi:=by
    simp only[ltS];by_cases c:YD (Yq x.key) (Yq hi)<0<;>simp[c]<;>omega
   rw[hd] at ho;simp only[pgL] at ho;simp only[go_sem,h2,m17,h31,h33,hx,Ye];cases c2:(!decide (hi=[])&&!ltS x.key hi) with
   |true=>
    have c2':decide (hi=[])=false∧ltS x.key hi=false:=by simpa using c2
    rw[c2] at ho;simp only[Gz] at ho;simp only[go_sem,h2,h4,h8,m8,a13,h13,h31,h32,h33,k192,hlt,c2'.1,c2'.2,←ho]
   |false=>
    rw[c2] at ho;simp only[Gm,Gu] at ho;have fin:∀S:St,S.ρ 2=.str hi→S.ρ 4=iz limit→S.ρ 8=.lref 8 0→True:=fun _ _ _ _=>Gy;have hle:decide (limit≤(out.length:Int))=decide (limit.toNat≤out.length):=GZ.2 (by omega);have hlim:out.length+1≤lim:=by simp only[lim];omega
    cases c3:decide (hi=[]) with
    |true=>
     cases c4:YaW s x.chain with
     |none=>
      rw[c4] at k12 ho;simp only[Option.getD_none,Option.isSome_none] at k12 ho;simp only[go_sem,h2,h4,h8,m8,a13,h13,h31,h32,h33,k12];exact⟨(i+1,out),by simp only;omega,⟨by simp only;omega,by simp only;omega⟩,rfl,rfl,by simp only[hinc],ho⟩
     |some v=>
      rw[c4] at k12 ho;simp only[Option.getD_some,Option.isSome_some] at k12 ho;simp only[go_sem,h4,h8,m8,h13,k12,hle];cases c5:decide (limit.toNat≤out.length) with
      |true=>
       rw[Gr (Gg c5)] at ho;simp only[go_sem,a13,h13,←ho]
      |false=>
       rw[Gn (Gb c5)] at ho;simp only[go_sem,h2,h4,h8,m8,a13,h13,h31,h32,h33,hlim];exact⟨(i+1,out++[(x.key,v)]),by simp only;omega,⟨by simp only;omega,by simp;omega⟩,by simp[eIt],by simp,by simp only[hinc],ho⟩
    |false=>
     have c6:ltS x.key hi=true:=by simpa [c3] using c2
     cases c4:YaW s x.chain with
     |none=>
      rw[c4] at k12 ho;simp only[Option.getD_none,Option.isSome_none] at k12 ho;simp only[go_sem,h2,h4,h8,m8,a13,h13,h31,h32,h33,k192,hlt,c6,k12];exact⟨(i+1,out),by simp only;omega,⟨by simp only;omega,by simp only;omega⟩,rfl,rfl,by simp only[hinc],ho⟩
     |some v=>
      rw[c4] at k12 ho;simp only[Option.getD_some,Option.isSome_some] at k12 ho;simp only[go_sem,h2,h4,h8,m8,h13,k192,hlt,c6,k12,hle];cases c5:decide (limit.toNat≤out.length) with
      |true=>
       rw[Gr (Gg c5)] at ho;simp only[go_sem,a13,h13,←ho]
      |false=>
       rw[Gn (Gb c5)] at ho;simp only[go_sem,h2,h4,h8,m8,a13,h13,h31,h32,h33,hlim];exact⟨(i+1,out++[(x.key,v)]),by simp only;omega,⟨by simp only;omega,by simp;omega⟩,by simp[eIt],by simp,by simp only[hinc],ho⟩
  ·have h:=YE hi' h;subst h;rw[GW] at ho;have ho:(out,[],false)=pgL hi s limit.toNat m []:=ho;simp only[go_sem,a13,h13,←ho]
theorem YlH {α β:Type} {l:List α} {f:α→Option β} {i:Nat} {x:α} (hx:l[i]?=some x):(l.take (i+1)).filterMap f=(l.take i).filterMap f++(f x).toList:=by
 rw[Y4 hx,List.filterMap_append];cases h:f x<;>simp[h]
def prF (s:Stamp) (e:Entr):Option Entr:=if decide (YV s e.chain=[]) then none else some ⟨e.key,YV s e.chain⟩
def Y0 (l:List Entr) (s:Stamp):List Entr:=l.filterMap (prF s)
theorem Yi1 {l:List Ver}:decide ((0:Int)<(l.length:Int))=!decide (l=[]):=by cases l<;>simp
def H217 (Pg:PgT):Prop:=Pg 217=some (.code F217)∧H17 Pg∧H203 Pg
theorem K217 (h:H217 Pg) (l:List Entr) (s:Stamp) (hl:Sm l):K' Pg 217 [Yf l,.agg (Yd s)]=some (Yf (if ixR l then Y0 l s else [])):=by
 obtain⟨h,h17,h203⟩:=h;have k203:=K203 h203 l hl;have hlen:=hl.len;simp only[Yf] at k203;refine Qb h rfl ?_;cases c1:ixR l with
 |false=>simp only[go_sem,k203,c1]
 |true=>
 simp only[go_sem,k203,c1];unfold l217_0;refine JiJ (fun (i:Nat) S=>i≤l.length∧S.ρ 3=.lref 3 0∧S.μ 3=some (Yd s,false)∧S.A 5=some (2,(Y0 (l.take i) s).map YaK,.live)∧S.ρ 5=.own 5 2 (Y0 (l.take i) s).length∧S.μ 7=none∧S.ρ 12=Yf l∧S.ρ 13=iz l.length∧S.ρ 14=iz i) (fun i=>l.length-i) 0 ?_ ?_
 ·simp[go_sem,Y0]
 ·intro i S ⟨hi,h3,m3,a5,h5,m7,h12,h13,h14⟩;simp only[go_sem,h13,h14];refine JiK (fun h=>?_) (fun h=>?_)
  ·have h:=Yj h;obtain⟨x,hx,hd⟩:=Jiq h;have k17:=K17 h17 x.chain s (by have:=hl.at hx;omega);simp only[Ye,Yd] at k17;have hinc:IntKind.i64.wrap ((i:Int)+1)=((i+1:Nat):Int):=Yn h (by omega);have hs:=YlH (f:=prF s) hx;have hle:(Y0 (l.take i) s).length≤i:=GJ (List.length_filterMap_le _ _) (by simp;omega);have hlim:(Y0 (l.take i) s).length+1≤lim:=by simp only[lim];omega
   simp only[go_sem,h3,m3,m7,h12,h14,hx,Ye,k17,Yi1];cases c2:decide (YV s x.chain=[]) with
   |true=>
    have hf:prF s x=none:=by simp[prF,c2]
    rw[hf] at hs;simp only[Option.toList_none,Gv] at hs;simp only[go_sem,h3,m3,a5,h5,h12,h13,h14];exact⟨i+1,by omega,by omega,by simp only[Y0] at hs ⊢;rw[hs],by simp only[Y0] at hs ⊢;rw[hs],by rw[hinc]⟩
   |false=>
    have hf:prF s x=some ⟨x.key,YV s x.chain⟩:=by simp[prF,c2]
    rw[hf] at hs;simp only[Option.toList_some] at hs;simp only[go_sem,h3,m3,a5,h5,h12,h13,h14,hlim];exact⟨i+1,by omega,by omega,by simp only[Y0] at hs ⊢;rw[hs];simp[YaK,Ye],by simp only[Y0] at hs ⊢;rw[hs];simp,by rw[hinc]⟩
  ·have h:=YE hi h;subst h;rw[GM] at a5 h5;simp only[go_sem,a5,h5]
theorem Yb4 {l:List Entr} {s:Stamp} (hr:ixR l=true):ixR (Y0 l s)=true:=by
 obtain⟨h1,h2,h3⟩:=YaA.1 hr;refine YaA.2 ⟨GJ (List.length_filterMap_le _ _) h1,?_,fun e he=>?_⟩
 ·refine List.pairwise_filterMap.2 (h2.imp fun {a b} hab x hx y hy=>?_);have:∀{e z:Entr},z∈prF s e→z.key=e.key:=fun {e z} hz=>by
   unfold prF at hz;split at hz
   ·simp at hz
   ·have hz:(⟨e.key,YV s e.chain⟩:Entr)=z:=by simpa using hz
    rw[←hz]
  rw[this hx,this hy];exact hab
 ·obtain⟨a,ha,hz⟩:=List.mem_filterMap.1 he;obtain⟨g1,g2,g3⟩:=Ybj.1 (h3 a ha);unfold prF at hz;split at hz
  ·simp at hz
  ·rename_i hn;have hz:(⟨a.key,YV s a.chain⟩:Entr)=e:=by simpa using hz
   rw[←hz];refine Ybj.2 ⟨g1,by simpa using hn,?_⟩;simp only[YV,g3,Gz];exact YdG g3
def H211 (Pg:PgT):Prop:=Pg 211=some (.code F211)∧H203 Pg∧H220 Pg∧H221 Pg
theorem Sm.take {l:List Entr} (h:Sm l) {n:Nat}:Sm (l.take n):=⟨by have:=h.1;simp;omega,fun e he=>h.2 e (Gah he)⟩
theorem Sm.drop {l:List Entr} (h:Sm l) {n:Nat}:Sm (l.drop n):=⟨by have:=h.1;simp;omega,fun e he=>h.2 e (Gac he)⟩
@[go_sem] def eE2 (x:List Entr×List Entr):V:=.tuple [Yf x.1,Yf x.2]
def YcH (l:List Entr) (k:List UInt8):List Entr×List Entr:=if ixR l then (l.take (YL k l),l.drop (YL k l)) else ([],[])
theorem K211 (h:H211 Pg) (l:List Entr) (k:List UInt8) (hl:Sm l):K' Pg 211 [Yf l,.str k]=some (eE2 (YcH l k)):=by
 obtain⟨h,h203,h220,h221⟩:=h;have k203:=K203 h203 l hl;simp only[Yf] at k203;refine Qb h rfl ?_;cases c1:ixR l with
 |false=>simp only[go_sem,k203,c1,YcH]
 |true=>
 have k220:=K220 h220 l k c1;have ka:=K221 h221 (l.take (YL k l)) hl.take;have kb:=K221 h221 (l.drop (YL k l)) hl.drop;have hp:=YdD (k:=k) l;have hd:(l.map YaK).take l.length=l.map YaK:=Gaa (by simp);simp only[Yf,GaF,Gao] at k220 ka kb;simp only[go_sem,k203,k220,c1,YcH,hp,hd,ka,kb,GaF,Gao]
def Yaw (l:List Entr) (k:List UInt8) (b:Bool):List Entr:=l.filter fun e=>ltS e.key k == b
theorem YhV {k:List UInt8}:∀{l:List Entr} {p:Option Entr},ixG p l=true→Yaw l k true=l.take (YL k l)∧Yaw l k false=l.drop (YL k l):=by
 intro l p h;have hf:∀b,∀m:List Entr,(∀e∈m,ltS e.key k=b)→Yaw m k b=m∧Yaw m k (!b)=[]:=fun b m hm=>
  ⟨List.filter_eq_self.2 fun e he=>by rw[hm e he];simp,List.filter_eq_nil_iff.2 fun e he=>by rw[hm e he];cases b<;>simp⟩
 have h1:=hf true (l.take (YL k l)) fun e he=>by
  obtain⟨i,hi⟩:=List.mem_iff_getElem?.1 he;have hlt:i<YL k l:=by have:=(List.getElem?_eq_some_iff.1 hi).1;rw[GG] at this;omega
  rw[List.getElem?_take_of_lt hlt] at hi;exact YeR hlt hi
 have h2:=hf false (l.drop (YL k l)) fun e he=>by
  obtain⟨i,hi⟩:=List.mem_iff_getElem?.1 he;rw[List.getElem?_drop] at hi;exact Yeh h (by omega) hi
 have hs:∀b,Yaw l k b=Yaw (l.take (YL k l)) k b++Yaw (l.drop (YL k l)) k b:=fun b=>by
  simp only[Yaw];rw[←List.filter_append,G4]
 refine⟨?_,?_⟩
 ·rw[hs true,h1.1];have:=h2.2;simp only[GY] at this;rw[this,Gv]
 ·rw[hs false,h2.1];have:=h1.2;simp only[GQ] at this;rw[this,List.nil_append]
def Ydd (a b:List Entr):Bool:=match a.getLast?,b[0]? with
 |some x,some y=>!ltS x.key y.key
 |_,_=>false
def Yav (a b:List Entr):List Entr×Int:=if ixR a&&ixR b then (if Ydd a b then ([],9) else if 64<a.length+b.length then ([],6) else (a++b,0)) else ([],1)
def H213 (Pg:PgT):Prop:=Pg 213=some (.code F213)∧H192 Pg∧H203 Pg∧H221 Pg
theorem K213 (h:H213 Pg) (a b:List Entr) (ha:Sm a) (hb:Sm b):K' Pg 213 [Yf a,Yf b]=some (eEE (Yav a b)):=by
 obtain⟨h,h192,h203,h221⟩:=h;have ka:=K203 h203 a ha;have kb:=K203 h203 b hb;have la:=K221 h221 a ha;have lb:=K221 h221 b hb;have k192:=fun x y=>K192 h192 x y;have hla:=ha.len;have hlb:=hb.len;simp only[Yf] at ka kb la lb;refine Qb h rfl ?_;cases c1:ixR a with
 |false=>simp only[go_sem,ka,c1,Yav]
 |true=>
 cases c2:ixR b with
 |false=>simp only[go_sem,ka,kb,c1,c2,Yav]
 |true=>
 have hw:IntKind.i64.wrap ((a.length:Int)+b.length)=((a.length+b.length:Nat):Int):=by rw[JiG (by omega) (by omega)];omega
 have hlim:a.length+b.length≤lim:=by simp only[lim];omega
 have hj:Yav a b=if Ydd a b then ([],9) else if 64<a.length+b.length then ([],6) else (a++b,0):=by simp[Yav,c1,c2]
 have hg:decide ((64:Int)<((a.length+b.length:Nat):Int))=decide (64<a.length+b.length):=GZ.2 (by omega);rw[hj];have fin:∀S:St,S.ρ 0=Yf a→S.ρ 1=Yf b→True:=fun _ _ _=>Gy;cases hza:a.getLast? with
 |none=>
  obtain rfl:=List.getLast?_eq_none_iff.1 hza;have hc:Ydd [] b=false:=rfl;rw[hc];cases c4:decide (64<([]:List Entr).length+b.length) with
  |true=>simp only[List.length_nil,Gav,Int.cast_ofNat_Int,Gk] at c4 hw hg ka;simp only[go_sem,ka,kb,c1,c2,hw,hg,Gg c4]
  |false=>simp only[List.length_nil,Gav,Int.cast_ofNat_Int,Gk] at c4 hw hg hlim la ka;simp only[go_sem,ka,kb,la,lb,c1,c2,hw,hg,Gb c4,hlim]
 |some x=>
 have hpa:decide ((0:Int)<(a.length:Int))=true:=by cases a<;>simp at hza ⊢
 have hla0:0<a.length:=by have:=Gg hpa;omega
 have hdec:IntKind.i64.wrap ((a.length:Int)-1)=((a.length-1:Nat):Int):=Yep hla0 (by omega);have hx:a[a.length-1]?=some x:=by rw[←List.getLast?_eq_getElem?];exact hza
 cases hzb:b[0]? with
 |none=>
  obtain rfl:b=[]:=by cases b<;>simp at hzb ⊢
  have hc:Ydd a []=false:=by simp[Ydd]
  rw[hc];cases c4:decide (64<a.length+([]:List Entr).length) with
  |true=>simp only[List.length_nil,Nat.add_zero,Int.cast_ofNat_Int,Gk] at c4 hw hg kb;simp only[go_sem,ka,kb,c1,c2,hpa,hw,hg,Gg c4]
  |false=>simp only[List.length_nil,Nat.add_zero,Int.cast_ofNat_Int,Gk] at c4 hw hg hlim lb kb;simp only[go_sem,ka,kb,la,lb,c1,c2,hpa,hw,hg,Gb c4,hlim]
 |some y=>
 have hpb:decide ((0:Int)<(b.length:Int))=true:=by cases b<;>simp at hzb ⊢
 have hc:Ydd a b=!ltS x.key y.key:=by simp[Ydd,hza,hzb]
 have hlt:decide (0≤YD (Yq x.key) (Yq y.key))=!ltS x.key y.key:=by
  simp only[ltS];by_cases c:YD (Yq x.key) (Yq y.key)<0<;>simp[c]<;>omega
 rw[hc];cases c3:ltS x.key y.key with
 |false=>simp only[go_sem,ka,kb,c1,c2,hpa,hpb,hdec,hx,hzb,k192,hlt,c3]
 |true=>
  cases c4:decide (64<a.length+b.length) with
  |true=>simp only[go_sem,ka,kb,c1,c2,hpa,hpb,hdec,hx,hzb,k192,hlt,c3,hw,hg,Gg c4]
  |false=>simp only[go_sem,ka,kb,la,lb,c1,c2,hpa,hpb,hdec,hx,hzb,k192,hlt,c3,hw,hg,Gb c4,hlim,GF]
def Yes (a b:List Entr):Bool:=a.any fun x=>b.any fun y=>!ltS x.key y.key
theorem YfH {a b:List Entr} (ha:ixR a=true) (hb:ixR b=true):Yes a b=Ydd a b:=by
 have pa:=(YaA.1 ha).2.1;have pb:=(YaA.1 hb).2.1;unfold Ydd;cases hza:a.getLast? with
 |none=>obtain rfl:=List.getLast?_eq_none_iff.1 hza;rfl
 |some x=>
 cases hzb:b[0]? with
 |none=>
  obtain rfl:b=[]:=by cases b<;>simp at hzb ⊢
  simp[Yes]
 |some y=>
  simp only;have hx:a[a.length-1]?=some x:=by rw[←List.getLast?_eq_getElem?];exact hza
  cases c:ltS x.key y.key with
  |false=>
   exact List.any_eq_true.2 ⟨x,List.mem_of_getElem? hx,List.any_eq_true.2 ⟨y,List.mem_of_getElem? hzb,by simp[c]⟩⟩
  |true=>
   have:∀u∈a,∀v∈b,ltS u.key v.key=true:=fun u hu v hv=>by
    obtain⟨i,hi⟩:=List.mem_iff_getElem?.1 hu;obtain⟨j,hj⟩:=List.mem_iff_getElem?.1 hv;have h1:YD (Yq u.key) (Yq x.key)≤0:=by
     by_cases e:i=a.length-1
     ·subst e;rw[hx] at hi;obtain rfl:x=u:=by simpa using hi
      rw[Ybg];omega
     ·obtain⟨i1,rfl⟩:=List.getElem?_eq_some_iff.1 hi;obtain⟨i2,rfl⟩:=List.getElem?_eq_some_iff.1 hx;have:=Gat.1 pa i (a.length-1) i1 i2 (by omega);rw[YaG] at this;omega
    have h2:YD (Yq y.key) (Yq v.key)≤0:=by
     by_cases e:j=0
     ·subst e;rw[hzb] at hj;obtain rfl:y=v:=by simpa using hj
      rw[Ybg];omega
     ·obtain⟨i1,rfl⟩:=List.getElem?_eq_some_iff.1 hj;obtain⟨i2,rfl⟩:=List.getElem?_eq_some_iff.1 hzb;have:=Gat.1 pb 0 j i2 i1 (by omega);rw[YaG] at this;omega
    rw[YaG] at c ⊢;exact Ydg (Yc0 h1 c) h2
   simp only[Yes,GQ];refine List.any_eq_false.2 fun u hu=>?_;simp only[Bool.not_eq_true];exact List.any_eq_false.2 fun v hv=>by simp[this u hu v hv]
def ofI (k:List UInt8) (l:List Entr):List Ver:=match l.find? (fun e=>decide (e.key=k)) with|some e=>e.chain|none=>[]
def H223 (Pg:PgT):Prop:=Pg 223=some (.code F223)
theorem K223 (h:H223 Pg) (l:List Entr) (k:List UInt8) (hl:l.length≤10000):K' Pg 223 [Yf l,.str k]=some (Ye (ofI k l)):=by
 refine Qb h rfl ?_;simp only[go_sem];unfold l223_0;refine JiJ (fun (i:Nat) S=>i≤l.length∧S.ρ 0=Yf l∧S.ρ 1=.str k∧S.ρ 5=iz i∧ofI k (l.drop i)=ofI k l) (fun i=>l.length-i) 0 ?_ ?_
 ·simp[go_sem]
 ·intro i S ⟨hi,h0,h1,h5,ho⟩;simp only[go_sem,h0,h5];refine JiK (fun h=>?_) (fun h=>?_)
  ·have h:=Yj h;obtain⟨x,hx,hd⟩:=Jiq h;rw[hd] at ho;simp only[ofI,List.find?_cons] at ho;simp only[go_sem,h0,h1,h5,hx];cases c:decide (x.key=k) with
   |true=>
    rw[c] at ho;simp only at ho;simp only[go_sem,h0,h5,hx,Ye,ofI,←ho]
   |false=>
    rw[c] at ho;simp only at ho;simp only[go_sem,h0,h1,h5];exact⟨i+1,by omega,by omega,by rw[Yn h (by omega)],ho⟩
  ·have h:=YE hi h;subst h;rw[GW] at ho;have ho:[]=ofI k l:=ho;simp only[go_sem,←ho,Ye,Gk]
theorem YeP (k:List UInt8):ltS k k=false:=by simp[ltS,Ybg]
theorem Yil {l:List Entr} {k:List UInt8} (hr:ixR l=true) (hk:keyR k=true):ofI k l=oldC k l∧YW k l=!decide (oldC k l=[]):=by
 obtain⟨-,hp,he⟩:=YaA.1 hr;have hg:=YdX hr;cases c:YW k l with
 |true=>
  obtain⟨e,h1,h2⟩:=Ydv hr hk c;have ho:oldC k l=e.chain:=by simp only[oldC,c,h1,Gz]
  have hn:=(Ybj.1 (he e (List.mem_of_getElem? h1))).2.1;refine⟨?_,by rw[ho];simp[hn]⟩;rw[ho];unfold ofI;cases hf:l.find? (fun e=>decide (e.key=k)) with
  |none=>
   have:=List.find?_eq_none.1 hf e (List.mem_of_getElem? h1);simp[h2] at this
  |some x=>
   have hx:=List.mem_of_find?_eq_some hf;have hxk:x.key=k:=by simpa using List.find?_some hf
   obtain⟨i,hi⟩:=List.mem_iff_getElem?.1 hx;have:i=YL k l:=by
    have hw:=Gat.1 hp;obtain⟨g1,g2⟩:=List.getElem?_eq_some_iff.1 hi;obtain⟨g3,g4⟩:=List.getElem?_eq_some_iff.1 h1;rcases Nat.lt_trichotomy i (YL k l) with q|q|q
    ·have:=hw i _ g1 g3 q;rw[g2,g4,hxk,h2,YeP] at this;simp at this
    ·exact q
    ·have:=hw _ i g3 g1 q;rw[g2,g4,hxk,h2,YeP] at this;simp at this
   subst this;rw[h1] at hi;obtain rfl:e=x:=by simpa using hi
   rfl
 |false=>
  have ho:oldC k l=[]:=by simp only[oldC,c,Gm,Gu]
  refine⟨?_,by rw[ho];rfl⟩;rw[ho];unfold ofI;cases hf:l.find? (fun e=>decide (e.key=k)) with
  |none=>rfl
  |some x=>
   exfalso
   have hx:=List.mem_of_find?_eq_some hf;have hxk:x.key=k:=by simpa using List.find?_some hf
   obtain⟨i,hi⟩:=List.mem_iff_getElem?.1 hx;rcases Nat.lt_trichotomy i (YL k l) with q|q|q
   ·have:=YeR q hi;rw[hxk,YeP] at this;simp at this
   ·subst q;unfold YW at c;rw[hi] at c;simp[hxk,Ybg] at c
   ·obtain⟨g1,g2⟩:=List.getElem?_eq_some_iff.1 hi;obtain⟨y,hy,-⟩:=Jiq (l:=l) (i:=YL k l) (by omega);obtain⟨g3,g4⟩:=List.getElem?_eq_some_iff.1 hy;have h1:=Gat.1 hp _ i g3 g1 q;rw[g2,g4,hxk] at h1;have h2:=Yeh hg (Gt _) hy;rw[h1] at h2;simp at h2
theorem Ykw {κ:Nat→List V→Option V} {id:Nat} {b c:C} {S:St} {R:Ex→St→Prop} (h:Wp κ (.seq (.block id b) c) S R):Wp κ b S (Blk id (Cont κ c R)):=by
 rw[Je9,JcK] at h;exact h
structure Ans where
 err:Int
 at_:Stamp
 found:Bool
 val:List UInt8
 items:List (List UInt8×List UInt8)
 next:List UInt8
 more:Bool
 deriving DecidableEq
structure Done where
 client:Int
 req:Int
 ans:Ans
 deriving DecidableEq
@[go_sem] def Ylm (p:List UInt8×List UInt8):List V:=[.str p.1,.str p.2]
@[go_sem] def YB (l:List (List UInt8×List UInt8)):V:=.slice 2 (l.map Ylm)
@[go_sem] def YaQ (a:Ans):List V:=[iz a.err,iz a.at_.wall,iz a.at_.tick,iz a.at_.node,.bool a.found,.str a.val,YB a.items,.str a.next,.bool a.more]
@[go_sem] def YQ (d:Done):List V:=[iz d.client,iz d.req,iz d.ans.err,iz d.ans.at_.wall,iz d.ans.at_.tick,iz d.ans.at_.node,.bool d.ans.found,.str d.ans.val,YB d.ans.items,.str d.ans.next,.bool d.ans.more]
@[go_sem] def Yc (l:List Done):V:=.slice 11 (l.map YQ)
def Yr (n:Int):Bool:=decide (1≤n)&&decide (n≤1099511627776)
def H97 (Pg:PgT):Prop:=Pg 97=some (.code F97)
theorem K97 (h:H97 Pg) (n:Int):K' Pg 97 [iz n]=some (.bool (Yr n)):=by
 refine Qb h rfl ?_;simp only[go_sem];refine JiI (fun h=>?_) (fun h=>?_)<;>simp only[go_sem,h,Yr]
def H95 (Pg:PgT):Prop:=Pg 95=some (.code F95)
theorem K95 (h:H95 Pg) (n:Int):K' Pg 95 [iz n]=some (.bool (Yr n)):=by
 refine Qb h rfl ?_;have e:decide ((0:Int)<n)=decide (1≤n):=GZ.2 (by omega);simp only[go_sem,e];refine JiI (fun h=>?_) (fun h=>?_)<;>simp only[go_sem,h,Yr]
def YbX (a:Ans):Bool:=decide (0≤a.err)&&(decide (a.err≤16)&&(Ya a.at_&&(decide (a.val.length≤16)&&(decide (a.items=[])&&(decide (a.next=[])&&!a.more)))))
theorem YkZ {α:Type} [DecidableEq α] {l:List α}:decide ((l.length:Int)=0)=decide (l=[]):=by cases l<;>simp;omega
theorem YmK {n:Nat}:decide ((n:Int)≤16)=decide (n≤16):=GZ.2 (by omega)
def H98 (Pg:PgT):Prop:=Pg 98=some (.code F98)∧H28 Pg
theorem K98 (h:H98 Pg) (a:Ans):K' Pg 98 [.agg (YaQ a)]=some (.bool (YbX a)):=by
 obtain⟨h,h28⟩:=h;have k:=K28 h28 a.at_;simp only[Yd] at k;refine Qb h rfl ?_;simp only[go_sem]
 repeat' (refine JiI (fun h=>?_) (fun h=>?_)<;>simp only[go_sem,h,k,YkZ,YmK,YbX])
def H96 (Pg:PgT):Prop:=Pg 96=some (.code F96)∧H24 Pg
theorem K96 (h:H96 Pg) (a:Ans):K' Pg 96 [.agg (YaQ a)]=some (.bool (YbX a)):=by
 obtain⟨h,h24⟩:=h;have k:=K24 h24 a.at_;simp only[Yd] at k;have e1:decide (a.err<0)=!decide (0≤a.err):=by by_cases h:0≤a.err<;>simp[h]<;>omega
 have e2:decide (16<a.err)=!decide (a.err≤16):=by by_cases h:a.err≤16<;>simp[h]<;>omega
 have e3:decide ((16:Int)<(a.val.length:Int))=!decide (a.val.length≤16):=by by_cases h:a.val.length≤16<;>simp[h]<;>omega
 have e4:decide ((0:Int)<(a.items.length:Int))=!decide (a.items=[]):=by rw[Yip];cases a.items<;>simp
 have e5:decide ((0:Int)<(a.next.length:Int))=!decide (a.next=[]):=by rw[Yip];cases a.next<;>simp
 refine Qb h rfl ?_;simp only[go_sem,e1,YbX];cases h1:decide (0≤a.err)<;>simp only[go_sem,e2];cases h2:decide (a.err≤16)<;>simp only[go_sem,e3];cases h3:decide (a.val.length≤16)<;>simp only[go_sem,e4];cases h4:decide (a.items=[])<;>simp only[go_sem,e5];cases h5:decide (a.next=[])<;>simp only[go_sem];cases h6:a.more<;>simp only[go_sem,k]
def rowR (d:Done):Bool:=Yr d.client&&(Yr d.req&&YbX d.ans)
def rtR:Int→List Done→Bool
 |_,[]=>true
 |p,d::l=>decide (p<d.client)&&(rowR d&&rtR d.client l)
def YA (t:List Done):Bool:=rtR 0 t&&decide (t.length≤8)
theorem YhR {p:Int} {d:Done} {l:List Done}:rtR p (d::l)=(decide (p<d.client)&&(rowR d&&rtR d.client l)):=rfl
def Ycy (t:List Done) (i:Nat):Int:=if i=0 then 0 else (t[i-1]?.map Done.client).getD 0
def H81 (Pg:PgT):Prop:=Pg 81=some (.code F81)∧H97 Pg∧H98 Pg
theorem K81 (h:H81 Pg) (t:List Done) (hl:t.length<2 ^ 60):K' Pg 81 [Yc t]=some (.bool (YA t)):=by
 obtain⟨h,h97,h98⟩:=h;have k97:=fun x=>K97 h97 x;have k98:=fun x=>K98 h98 x;simp only[YaQ,YB] at k98;refine Qb h rfl ?_;simp only[go_sem];unfold l81_0;refine JiJ (fun (i:Nat) S=>i≤t.length∧S.ρ 0=Yc t∧S.μ 5=none∧S.ρ 3=iz (Ycy t i)∧S.ρ 6=Yc t∧S.ρ 7=iz t.length∧S.ρ 8=iz i∧rtR (Ycy t i) (t.drop i)=rtR 0 t) (fun i=>t.length-i) 0 ?_ ?_
 ·simp[go_sem,Ycy]
 ·intro i S ⟨hi,h0,m5,h3,h6,h7,h8,ho⟩;simp only[go_sem,h7,h8];refine JiK (fun h=>?_) (fun h=>?_)
  ·have h:=Yj h;obtain⟨x,hx,hd⟩:=Jiq h;have hnext:Ycy t (i+1)=x.client:=by simp[Ycy,hx]
   rw[hd,YhR] at ho;have e1:decide (x.client≤Ycy t i)=!decide (Ycy t i<x.client):=by by_cases h:Ycy t i<x.client<;>simp[h]<;>omega
   simp only[go_sem,m5,h3,h6,h8,hx,e1];cases c1:decide (Ycy t i<x.client) with
   |false=>rw[c1] at ho;simp only[go_sem,YA,←ho]
   |true=>
   cases c2:Yr x.client with
   |false=>simp only[rowR,c2,Gs,GB] at ho;simp only[go_sem,c2,YA,←ho,k97]
   |true=>
   cases c3:Yr x.req with
   |false=>simp only[rowR,c3,Gs,GB] at ho;simp only[go_sem,c2,c3,YA,←ho,k97]
   |true=>
   cases c4:YbX x.ans with
   |false=>simp only[rowR,c4,Gs,GB] at ho;simp only[go_sem,c2,c3,c4,YA,←ho,k97,k98]
   |true=>
    simp only[rowR,c1,c2,c3,c4,GP] at ho;simp only[go_sem,c2,c3,c4,h0,h6,h7,h8,k97,k98];exact⟨i+1,by omega,by omega,by rw[hnext],by rw[Yn h hl],by rw[hnext];exact ho⟩
  ·have h:=YE hi h;subst h;simp only[GW,rtR] at ho;have e8:decide ((t.length:Int)≤8)=decide (t.length≤8):=GZ.2 (by omega);simp only[go_sem,h0,YA,←ho,e8]
def H80 (Pg:PgT):Prop:=Pg 80=some (.code F80)∧H95 Pg∧H96 Pg
theorem K80 (h:H80 Pg) (t:List Done) (hl:t.length<2 ^ 60):K' Pg 80 [Yc t]=some (.bool (YA t)):=by
 obtain⟨h,h95,h96⟩:=h;have k95:=fun x=>K95 h95 x;have k96:=fun x=>K96 h96 x;simp only[YaQ,YB] at k96;refine Qb h rfl ?_;simp only[go_sem];refine JiK (fun hc=>?_) (fun hc=>?_)
 ·have hc:¬t.length≤8:=by have:=Gg hc;omega
  simp only[go_sem,YA,hc]
 have hc:t.length≤8:=by have:=Gb hc;omega
 have hrt:YA t=rtR 0 t:=by simp[YA,hc]
 simp only[go_sem];unfold l80_0;refine JiJ (fun (i:Nat) S=>i≤t.length∧S.ρ 0=Yc t∧S.ρ 3=iz i∧rtR (Ycy t i) (t.drop i)=rtR 0 t) (fun i=>t.length-i) 0 ?_ ?_
 ·simp[go_sem,Ycy]
 ·intro i S ⟨hi,h0,h3,ho⟩;simp only[go_sem,h0,h3];refine JiK (fun h=>?_) (fun h=>?_)
  ·have h:=Yj h;obtain⟨x,hx,hd⟩:=Jiq h;have hnext:Ycy t (i+1)=x.client:=by simp[Ycy,hx]
   rw[hd,YhR] at ho;simp only[go_sem,h0,h3,hx,k95];cases c2:Yr x.client with
   |false=>simp only[rowR,c2,Gs,GB] at ho;simp only[go_sem,hrt,←ho]
   |true=>
   cases c3:Yr x.req with
   |false=>simp only[rowR,c3,Gs,GB] at ho;simp only[go_sem,c3,hrt,←ho,h0,h3,hx,k95]
   |true=>
   cases c4:YbX x.ans with
   |false=>simp only[rowR,c4,Gs,GB] at ho;simp only[go_sem,c3,c4,hrt,←ho,h0,h3,hx,k95,k96]
   |true=>
    simp only[rowR,c2,c3,c4,GP] at ho;simp only[go_sem,c3,c4,h0,h3,hx,k95,k96,Yip];rcases Gae i with hz|hz
    ·have hz':decide (i=0)=true:=by simp[hz]
     have hp:decide (Ycy t i<x.client)=true:=by
      simp only[Yr,Gc,Gi] at c2;simp[Ycy,hz];omega
     rw[hp,GP] at ho;simp only[go_sem,hz',h0,h3];exact⟨i+1,by omega,by omega,by rw[Yn h hl],by rw[hnext];exact ho⟩
    ·have hz':decide (i=0)=false:=by simp;omega
     obtain⟨y,hy,-⟩:=Jiq (l:=t) (i:=i-1) (by omega);have hp:Ycy t i=y.client:=by simp[Ycy,hy];omega
     have hdec:=Yep hz (by omega);rw[hp] at ho;have e1:decide (x.client≤y.client)=!decide (y.client<x.client):=by by_cases h:y.client<x.client<;>simp[h]<;>omega
     simp only[go_sem,hz',h0,h3,hx,hdec,hy,e1];cases c1:decide (y.client<x.client) with
     |false=>rw[c1] at ho;simp only[go_sem,hrt,←ho]
     |true=>
      rw[c1,GP] at ho;simp only[go_sem,h0,h3];exact⟨i+1,by omega,by omega,by rw[Yn h hl],by rw[hnext];exact ho⟩
  ·have h:=YE hi h;subst h;simp only[GW,rtR] at ho;simp only[go_sem,hrt,←ho]
def YaT:List Done→Int→Int
 |[],_=>0
 |d::l,c=>if d.client=c then d.req else YaT l c
def H99 (Pg:PgT):Prop:=Pg 99=some (.code F99)
theorem K99 (h:H99 Pg) (t:List Done) (c:Int) (hl:t.length<2 ^ 60):K' Pg 99 [Yc t,iz c]=some (iz (YaT t c)):=by
 refine Qb h rfl ?_;simp only[go_sem];unfold l99_0;refine JiJ (fun (i:Nat) S=>i≤t.length∧S.ρ 0=Yc t∧S.ρ 1=iz c∧S.ρ 5=iz i∧YaT (t.drop i) c=YaT t c) (fun i=>t.length-i) 0 ?_ ?_
 ·simp[go_sem]
 ·intro i S ⟨hi,h0,h1,h5,ho⟩;simp only[go_sem,h0,h5];refine JiK (fun h=>?_) (fun h=>?_)
  ·have h:=Yj h;obtain⟨x,hx,hd⟩:=Jiq h;rw[hd] at ho;simp only[go_sem,h0,h1,h5,hx];refine JiK (fun hc=>?_) (fun hc=>?_)
   ·simp only[YaT,Gg hc,Gz] at ho;simp only[go_sem,h0,h5,hx,←ho]
   ·simp only[YaT,Gb hc,Gu] at ho;simp only[go_sem,h0,h1,h5];exact⟨i+1,by omega,by omega,by rw[Yn h hl],ho⟩
  ·have h:=YE hi h;subst h;simp only[GW,YaT] at ho;simp only[go_sem,←ho]
def Ym:List Done→Int→Option Done
 |[],_=>none
 |d::l,c=>if d.client=c then some d else Ym l c
def YK:Done:=⟨0,0,⟨0,⟨0,0,0⟩,false,[],[],[],false⟩⟩
@[go_sem] def eOD (o:Option Done):V:=.tuple [.agg (YQ (o.getD YK)),.bool o.isSome]
def H105 (Pg:PgT):Prop:=Pg 105=some (.code F105)
theorem K105 (h:H105 Pg) (d:Done) (c:Int):K' Pg 105 [.agg (YQ d),.cptr [iz c] 0]=some (.bool (decide (c≤d.client))):=by
 refine Qb h rfl ?_;simp only[go_sem]
def Ygr:List Done→(Done→Bool)→Nat→Int
 |[],_,_=>-1
 |a::l,p,i=>if p a then i else Ygr l p (i+1)
def H106 (Pg:PgT):Prop:=Pg 106=some (.code F106)
theorem K106 (h:H106 Pg) (l:List Done) (g:Nat) (cap:List V) (p:Done→Bool) (hl:l.length<2 ^ 60) (hg:∀x∈l,K' Pg g (.agg (YQ x)::cap)=some (.bool (p x))) :
  K' Pg 106 [Yc l,.func g cap]=some (iz (Ygr l p 0)):=by
 refine Qb h rfl ?_
 simp only[YQ,YB] at hg
 simp only[go_sem]
 unfold l106_0
 refine JiJ (fun (i:Nat) S=>i≤l.length∧S.ρ 0=Yc l∧S.ρ 1=.func g cap∧S.ρ 7=iz l.length∧S.ρ 8=iz i∧Ygr (l.drop i) p i=Ygr l p 0) (fun i=>l.length-i) 0 ?_ ?_
 ·simp[go_sem]
 ·intro i S ⟨hi,h0,h1,h7,h8,ho⟩
  simp only[go_sem,h7,h8]
  refine JiK (fun h=>?_) (fun h=>?_)
  ·have h:=Yj h
   obtain⟨x,hx,hd⟩:=Jiq h
   rw[hd] at ho
   have hgx:=hg x (List.mem_of_getElem? hx)
   simp only[go_sem,h0,h1,h8,hx,hgx]
   refine JiK (fun hc=>?_) (fun hc=>?_)
   ·simp only[Ygr,hc,Gz] at ho
    simp only[go_sem,←ho]
   ·simp only[Ygr,hc,Gm,Gu] at ho
    simp only[go_sem,h0,h1,h7,h8]
    exact⟨i+1,by omega,by omega,by rw[Yn h hl],ho⟩
  ·have h:=YE hi h
   subst h
   simp only[GW,Ygr] at ho
   simp only[go_sem,←ho]
def cntT:List Done→Int→Nat
 |[],_=>0
 |d::l,c=>if c≤d.client then 0 else cntT l c+1
theorem Yh7 {c:Int}:∀{l:List Done},cntT l c≤l.length
 |[]=>by simp[cntT]
 |d::l=>by
  have:=Yh7 (c:=c) (l:=l);simp only[cntT];split<;>simp<;>omega
theorem YiQ {c:Int}:∀{l:List Done} {i:Nat},Ygr l (fun d=>decide (c≤d.client)) i=if cntT l c<l.length then ((i+cntT l c:Nat):Int) else -1
 |[],i=>by simp[Ygr,cntT]
 |d::l,i=>by
  simp only[Ygr,cntT];by_cases h:c≤d.client
  ·simp[h]
  ·simp only[h,GaE,Gm,Gu];rw[YiQ];simp only[List.length_cons,Nat.add_lt_add_iff_right];split
   ·congr 1;omega
   ·rfl
def Ybs (t:List Done) (c:Int):Bool:=match t[cntT t c]? with|some d=>decide (d.client=c)|none=>false
def H100 (Pg:PgT):Prop:=Pg 100=some (.code F100)∧H105 Pg∧H106 Pg
theorem K100 (h:H100 Pg) (t:List Done) (c:Int) (hl:t.length<2 ^ 60):K' Pg 100 [Yc t,iz c]=some (.tuple [iz (cntT t c),.bool (Ybs t c)]):=by
 obtain⟨h,h105,h106⟩:=h;have k106:=K106 h106 t 105 [.cptr [iz c] 0] (fun d=>decide (c≤d.client)) hl (fun x _=>K105 h105 x c);rw[YiQ] at k106;simp only[Yc] at k106;have hle:=Yh7 (c:=c) (l:=t);refine Qb h rfl ?_;by_cases hc:cntT t c<t.length
 ·obtain⟨x,hx,-⟩:=Jiq hc;have hn:decide (((cntT t c:Nat):Int)<0)=false:=by simp
  simp only[hc,Gz,Gav] at k106;simp only[go_sem,k106,hn,hx,Ybs]
 ·have he:cntT t c=t.length:=by omega
  have hx:t[cntT t c]?=none:=by rw[he];simp
  simp only[hc,Gu] at k106;have hat:Ybs t c=false:=by simp only[Ybs,hx]
  simp only[go_sem,k106,hat];rw[he]
theorem YbW {p:Int} {d:Done} {l:List Done} (h:rtR p (d::l)=true):p<d.client∧rowR d=true∧rtR d.client l=true:=by
 simpa [rtR] using h
theorem YhS:∀{l:List Done} {p:Int} {d:Done},rtR p l=true→d∈l→p<d.client
 |[],_,_,_,h=>by simp at h
 |a::l,p,d,h,hd=>by
  obtain⟨h1,-,h3⟩:=YbW h;rcases GI.1 hd with rfl|hd
  ·exact h1
  ·have:=YhS h3 hd;omega
theorem Ygf:∀{l:List Done} {c:Int},(∀d∈l,d.client≠c)→Ym l c=none
 |[],_,_=>rfl
 |a::l,c,h=>by
  simp only[Ym,h a (GR ..),Gu];exact Ygf fun d hd=>h d (G5 _ hd)
theorem Yge {c:Int}:∀{l:List Done} {p:Int},rtR p l=true→Ym l c=if Ybs l c then l[cntT l c]? else none
 |[],_,_=>by simp[Ym,Ybs]
 |d::l,p,h=>by
  obtain⟨h1,-,h3⟩:=YbW h;by_cases hc:c≤d.client
  ·by_cases he:d.client=c
   ·simp[Ym,Ybs,cntT,he]
   ·have:Ym l c=none:=Ygf fun x hx=>by have:=YhS h3 hx;omega
    simp[Ym,Ybs,cntT,hc,he,this]
  ·have he:d.client≠c:=by omega
   have:=Yge (c:=c) h3;have e:Ybs (d::l) c=Ybs l c:=by simp only[Ybs,cntT,hc,Gu,List.getElem?_cons_succ]
   rw[e];simp only[Ym,he,Gu,this,cntT,hc,List.getElem?_cons_succ]
theorem YbD {l:List Done} {c:Int}:YaT l c=(match Ym l c with|some d=>d.req|none=>0):=by
 induction l with
 |nil=>rfl
 |cons a l ih=>simp only[YaT,Ym];split<;>simp_all
theorem Yap {t:List Done} (h:YA t=true):rtR 0 t=true∧t.length≤8:=by simpa [YA] using h
def Yb7 (t:List Done) (c:Int):Option Done:=if YA t then Ym t c else none
def H84 (Pg:PgT):Prop:=Pg 84=some (.code F84)∧H81 Pg∧H100 Pg
theorem K84 (h:H84 Pg) (t:List Done) (c:Int) (hl:t.length<2 ^ 60):K' Pg 84 [Yc t,iz c]=some (eOD (Yb7 t c)):=by
 obtain⟨h,h81,h100⟩:=h;have k81:=K81 h81 t hl;have k100:=K100 h100 t c hl;simp only[Yc] at k81 k100;refine Qb h rfl ?_;cases hr:YA t with
 |false=>simp only[go_sem,k81,hr,Yb7,YK,Option.isSome_none]
 |true=>
  have hf:=Yge (c:=c) (Yap hr).1;cases ha:Ybs t c with
  |false=>
   rw[ha] at hf;simp only[Gm,Gu] at hf;simp only[go_sem,k81,hr,k100,ha,Yb7,hf,YK,Option.isSome_none]
  |true=>
   rw[ha] at hf;simp only[Gz] at hf;have hlt:cntT t c<t.length:=by
    rcases GA (cntT t c) t.length with h|h
    ·exact h
    ·simp only[Ybs,List.getElem?_eq_none h] at ha;simp at ha
   obtain⟨x,hx,-⟩:=Jiq hlt;rw[hx] at hf;simp only[go_sem,k81,hr,k100,ha,Yb7,hf,hx,Option.isSome_some]
def Yag (t:List Done) (c r:Int):Int:=if YA t&&(Yr c&&Yr r) then (match Ym t c with|none=>1|some d=>if d.req<r then 1 else if r=d.req then 2 else 3) else 0
def H82 (Pg:PgT):Prop:=Pg 82=some (.code F82)∧H81 Pg∧H97 Pg∧H84 Pg
theorem K82 (h:H82 Pg) (t:List Done) (c r:Int) (hl:t.length<2 ^ 60):K' Pg 82 [Yc t,iz c,iz r]=some (iz (Yag t c r)):=by
 obtain⟨h,h81,h97,h84⟩:=h;have k81:=K81 h81 t hl;have k84:=K84 h84 t c hl;have k97:=fun x=>K97 h97 x;simp only[Yc,eOD,YQ,YB] at k81 k84;refine Qb h rfl ?_;cases hr:YA t with
 |false=>simp only[go_sem,k81,hr,Yag]
 |true=>
 cases hc:Yr c with
 |false=>simp only[go_sem,k81,hr,Yag,k97,hc]
 |true=>
 cases hq:Yr r with
 |false=>simp only[go_sem,k81,hr,Yag,k97,hc,hq]
 |true=>
  simp only[Yb7,hr,Gz] at k84;cases hw:Ym t c with
  |none=>
   simp only[hw,Option.getD_none,Option.isSome_none,YK,Gk] at k84;simp only[go_sem,k81,hr,Yag,k97,hc,hq,k84,hw]
  |some d=>
   simp only[hw,Option.getD_some,Option.isSome_some] at k84;by_cases h1:d.req<r
   ·simp only[go_sem,k81,hr,Yag,k97,hc,hq,k84,hw,h1]
   ·by_cases h2:r=d.req
    ·have h2':=GD h2;have e:Yag t c r=2:=by simp only[Yag,hr,hc,hq,hw,G1,Gz,Gn h1,Gr h2]
     rw[e];simp only[go_sem,k81,hr,k97,hc,hq,k84,h1,h2']
    ·simp only[go_sem,k81,hr,Yag,k97,hc,hq,k84,hw,h1,h2]
def H102 (Pg:PgT):Prop:=Pg 102=some (.prim (some 0) (cloneQ 11))
theorem K102 (h:H102 Pg) (rows:List (List V)) (hl:rows.length≤lim):K' Pg 102 [.slice 11 rows]=some (.slice 11 rows):=by
 rw[Jip h];simp[cloneQ,hl]
def Yay (t:List Done) (d:Done):List Done×Int:=
 if YA t&&rowR d then (match t[cntT t d.client]? with
  |some x=>if x.client=d.client then (if d.req≤x.req then ([],9) else (t.set (cntT t d.client) d,0)) else if t.length=8 then ([],6) else (t.take (cntT t d.client)++d::t.drop (cntT t d.client),0)
  |none=>if t.length=8 then ([],6) else (t.take (cntT t d.client)++d::t.drop (cntT t d.client),0)) else ([],1)
@[go_sem] def eTE (x:List Done×Int):V:=.tuple [Yc x.1,iz x.2]
theorem YgM {d:Done}:YA [d]=rowR d:=by
 simp only[YA,rtR,GU,List.length_singleton];cases h:rowR d with
 |false=>simp
 |true=>
  simp only[rowR,Yr,Gc,Gi] at h;simp;omega
def H88 (Pg:PgT):Prop:=Pg 88=some (.code F88)∧H81 Pg∧H100 Pg∧H102 Pg
theorem K88 (h:H88 Pg) (t:List Done) (d:Done) (hl:t.length<2 ^ 60):K' Pg 88 [Yc t,.agg (YQ d)]=some (eTE (Yay t d)):=by
 obtain⟨h,h81,h100,h102⟩:=h;have k81:=K81 h81 t hl;have k81d:=K81 h81 [d] (by simp);rw[YgM] at k81d;have k100:=K100 h100 t d.client hl;simp only[Yc,GC,Gk,YQ,YB] at k81 k81d k100;refine Qb h rfl ?_;cases hr:YA t with
 |false=>simp only[go_sem,k81,hr,Yay]
 |true=>
 cases hd:rowR d with
 |false=>simp only[go_sem,k81,hr,k81d,hd,Yay]
 |true=>
  obtain⟨hrt,h8⟩:=Yap hr;have k102:=K102 h102 (t.map YQ) (by simp[lim];omega);have hle:=Yh7 (c:=d.client) (l:=t);have h8':decide ((t.length:Int)=8)=decide (t.length=8):=GZ.2 (by omega);have hlim:t.length+1≤lim:=by simp only[lim];omega
  cases ha:Ybs t d.client with
  |true=>
   have hlt:cntT t d.client<t.length:=by
    rcases GA (cntT t d.client) t.length with h|h
    ·exact h
    ·simp only[Ybs,List.getElem?_eq_none h] at ha;simp at ha
   obtain⟨x,hx,-⟩:=Jiq hlt;have hxc:x.client=d.client:=by simp only[Ybs,hx] at ha;simpa using ha
   by_cases hq:d.req≤x.req
   ·have e:Yay t d=([],9):=by simp only[Yay,hr,hd,hx,hxc,hq];rfl
    rw[e];simp only[go_sem,k81,hr,k81d,hd,k100,ha,hx,hq]
   ·have e:Yay t d=(t.set (cntT t d.client) d,0):=by simp only[Yay,hr,hd,hx,hxc,hq];rfl
    rw[e];simp only[go_sem,k81,hr,k81d,hd,k100,ha,hx,hq,k102,hlt,Gaw,List.map_set]
  |false=>
   have e:Yay t d=if t.length=8 then ([],6) else (t.take (cntT t d.client)++d::t.drop (cntT t d.client),0):=by
    simp only[Yay,hr,hd];simp only[Ybs] at ha;cases hx:t[cntT t d.client]? with
    |none=>rfl
    |some x=>rw[hx] at ha;simp only[Gq] at ha;simp[ha]
   rw[e];by_cases h8e:t.length=8
   ·have h8e':decide ((t.length:Int)=8)=true:=by simp[h8e]
    simp only[go_sem,k81,hr,k81d,hd,k100,ha,h8e',Gr h8e]
   ·have h8e':decide ((t.length:Int)=8)=false:=by simp;omega
    have hlen:(List.take (cntT t d.client) (List.map YQ t)).length+((List.drop (cntT t d.client) (List.map YQ t)).length+1)=t.length+1:=by simp;omega
    simp only[go_sem,k81,hr,k81d,hd,k100,ha,h8e',Gn h8e,k102,hle,hlim,GF,GaF,Gao,hlen]
def Ybm:List Done→Done→List Done
 |[],d=>[d]
 |x::l,d=>if d.client<x.client then d::x::l else if x.client=d.client then d::l else x::Ybm l d
theorem Yi9 {d:Done}:∀{t:List Done},Ybs t d.client=true→t.set (cntT t d.client) d=Ybm t d
 |[],h=>by simp[Ybs] at h
 |x::l,h=>by
  by_cases hc:d.client≤x.client
  ·have he:x.client=d.client:=by simpa [Ybs,cntT,hc] using h
   have:¬d.client<x.client:=by omega
   simp[cntT,Ybm,he]
  ·have h1:Ybs l d.client=true:=by simpa [Ybs,cntT,hc] using h
   have h2:¬d.client<x.client:=by omega
   have h3:¬x.client=d.client:=by omega
   simp[cntT,Ybm,hc,h2,h3,Yi9 h1]
theorem Yi4 {d:Done}:∀{t:List Done},Ybs t d.client=false→t.take (cntT t d.client)++d::t.drop (cntT t d.client)=Ybm t d
 |[],h=>by simp[cntT,Ybm]
 |x::l,h=>by
  by_cases hc:d.client≤x.client
  ·have he:x.client≠d.client:=by simpa [Ybs,cntT,hc] using h
   have h2:d.client<x.client:=by omega
   simp[cntT,Ybm,hc,h2]
  ·have h1:Ybs l d.client=false:=by simpa [Ybs,cntT,hc] using h
   have h2:¬d.client<x.client:=by omega
   have h3:¬x.client=d.client:=by omega
   simp[cntT,Ybm,hc,h2,h3];exact Yi4 h1
theorem YiR {d:Done}:∀{t:List Done} {p:Int},rtR p t=true→(Ybm t d).length=if Ybs t d.client then t.length else t.length+1
 |[],_,_=>by simp[Ybm,Ybs]
 |x::l,p,h=>by
  obtain⟨-,-,h3⟩:=YbW h;simp only[Ybm];by_cases h1:d.client<x.client
  ·have:Ybs (x::l) d.client=false:=by
    have hc:d.client≤x.client:=by omega
    simp[Ybs,cntT,hc];omega
   simp[h1,this]
  ·by_cases h2:x.client=d.client
   ·have:Ybs (x::l) d.client=true:=by simp[Ybs,cntT,h2]
    simp[h2,this]
   ·have hc:¬d.client≤x.client:=by omega
    have:Ybs (x::l) d.client=Ybs l d.client:=by simp only[Ybs,cntT,hc,Gu,List.getElem?_cons_succ]
    simp only[h1,h2,Gu,List.length_cons,this,YiR h3];split<;>rfl
theorem Yid {d:Done} (hd:rowR d=true):∀{t:List Done} {p:Int},rtR p t=true→p<d.client→rtR p (Ybm t d)=true
 |[],p,_,hp=>by simp[Ybm,rtR,hd,hp]
 |x::l,p,h,hp=>by
  obtain⟨h1,h2,h3⟩:=YbW h;simp only[Ybm];split
  ·rename_i hc;simp[rtR,hd,hp,hc,h2,h3]
  ·split
   ·rename_i he;rw[he] at h3;simp[rtR,hd,hp,h3]
   ·simp only[rtR,h1,h2,GaN,GP];exact Yid hd h3 (by omega)
theorem Yex {t:List Done} {d:Done} (hr:YA t=true) (hd:rowR d=true) :
  Yay t d=if d.req≤YaT t d.client then ([],9) else if 8<(Ybm t d).length then ([],6) else (Ybm t d,0):=by
 obtain⟨hrt,h8⟩:=Yap hr
 have hq:1≤d.req:=by simp only[rowR,Yr,Gc,Gi] at hd;omega
 have hf:=Yge (c:=d.client) hrt
 have hl:=YiR (d:=d) hrt
 have hrq:=YbD (l:=t) (c:=d.client)
 cases ha:Ybs t d.client with
 |true=>
  rw[ha] at hf hl
  simp only[Gz] at hf hl
  have hlt:cntT t d.client<t.length:=by
   rcases GA (cntT t d.client) t.length with h|h
   ·exact h
   ·simp only[Ybs,List.getElem?_eq_none h] at ha;simp at ha
  obtain⟨x,hx,-⟩:=Jiq hlt
  have hxc:x.client=d.client:=by simp only[Ybs,hx] at ha;simpa using ha
  rw[hx] at hf
  rw[hf] at hrq
  simp only at hrq
  have hn:¬8<(Ybm t d).length:=by omega
  simp only[Yay,hr,hd,G1,Gz,hx,hxc,hrq,Yi9 ha,hn,Gu]
 |false=>
  rw[ha] at hf hl
  simp only[Gm,Gu] at hf hl
  rw[hf] at hrq
  simp only at hrq
  have e1:¬d.req≤YaT t d.client:=by omega
  have e2:(8<(Ybm t d).length)=(t.length=8):=propext (by omega)
  have hp:Yay t d=if t.length=8 then ([],6) else (t.take (cntT t d.client)++d::t.drop (cntT t d.client),0):=by
   simp only[Yay,hr,hd];simp only[Ybs] at ha;cases hx:t[cntT t d.client]? with
   |none=>rfl
   |some x=>rw[hx] at ha;simp only[Gq] at ha;simp[ha]
  rw[hp,Gn e1,Yi4 ha]
  simp only[e2]
def YG:List Done→List Done→List Done
 |[],b=>b
 |x::a,[]=>x::a
 |x::a,y::b=>if x.client<y.client then x::YG a (y::b) else if y.client<x.client then y::YG (x::a) b else if y.req≤x.req then x::YG a b else y::YG a b
 termination_by a b=>a.length+b.length
theorem Yef {a:List Done}:YG a []=a:=by cases a<;>simp[YG]
theorem Yc1:∀(a b:List Done) (p:Int),rtR p a=true→rtR p b=true→rtR p (YG a b)=true
 |[],b,p,_,hb=>by simpa [YG] using hb
 |x::a,[],p,ha,_=>by simpa [YG] using ha
 |x::a,y::b,p,ha,hb=>by
  obtain⟨a1,a2,a3⟩:=YbW ha;obtain⟨b1,b2,b3⟩:=YbW hb;simp only[YG];split
  ·rename_i h;have:=Yc1 a (y::b) x.client a3 (by simp[rtR,h,b2,b3]);simp[rtR,a1,a2,this]
  ·split
   ·rename_i h;have:=Yc1 (x::a) b y.client (by simp[rtR,h,a2,a3]) b3;simp[rtR,b1,b2,this]
   ·have he:x.client=y.client:=by omega
    split
    ·have:=Yc1 a b x.client a3 (by rw[he];exact b3);simp[rtR,a1,a2,this]
    ·have:=Yc1 a b y.client (by rw[←he];exact a3) b3;simp[rtR,b1,b2,this]
 termination_by a b=>a.length+b.length
def Y3 (a b:List Done):List Done×Int:=if YA a&&YA b then (if 8<(YG a b).length then ([],6) else (YG a b,0)) else ([],1)
def H91 (Pg:PgT):Prop:=Pg 91=some (.code F91)∧H81 Pg
theorem K91 (h:H91 Pg) (a b:List Done) (ha:a.length≤10000) (hb:b.length≤10000):K' Pg 91 [Yc a,Yc b]=some (eTE (Y3 a b)):=by
 obtain⟨h,h81⟩:=h;have k81a:=K81 h81 a (by omega);have k81b:=K81 h81 b (by omega);simp only[Yc] at k81a k81b;refine Qb h rfl ?_;cases hra:YA a with
 |false=>simp only[go_sem,k81a,hra,Y3]
 |true=>
 cases hrb:YA b with
 |false=>simp only[go_sem,k81a,k81b,hra,hrb,Y3]
 |true=>
  simp only[go_sem,k81a,k81b,hra,hrb,Y3];unfold l91_0;refine JiJ (fun (p:List Done×List Done×List Done) S=>S.ρ 0=Yc p.1∧S.ρ 1=Yc p.2.1∧S.A 6=some (11,p.2.2.map YQ,.live)∧S.ρ 6=.own 6 11 p.2.2.length∧p.2.2++YG p.1 p.2.1=YG a b∧p.1.length+p.2.1.length+p.2.2.length≤20000) (fun p=>p.1.length+p.2.1.length) (a,b,[]) ?_ ?_
  ·simp[go_sem];omega
  ·intro⟨a',b',o⟩ S ⟨h0,h1,a6,h6,ho,hle⟩;simp only at h0 h1 a6 h6 ho hle;have hlim:o.length+1≤lim:=by simp only[lim];omega
   cases a' with
   |nil=>
    cases b' with
    |nil=>
     simp only[YG,Gv] at ho;simp only[go_sem,h0,h1,h6,ho];have e8:decide ((8:Int)<((YG a b).length:Int))=decide (8<(YG a b).length):=GZ.2 (by omega);rw[ho] at a6 h6;by_cases hn:8<(YG a b).length<;>simp only[go_sem,a6,h6,e8,hn]
    |cons y b'=>
     have hz:decide (((b'.length+1:Nat):Int)=0)=false:=Gp (by omega);have h1l:1≤b'.length+1:=by omega
     have htk:List.take b'.length (List.map YQ b')=List.map YQ b':=by rw[Gaa];simp
     simp only[YG] at ho;simp only[go_sem,h0,h1,a6,h6,Yce,hz,hlim,h1l,htk];refine⟨([],b',o++[y]),by simp,rfl,rfl,by simp[YQ,YB],by simp,by simp[YG,ho],by simp at hle ⊢;omega⟩
   |cons x a'=>
    have hza:decide (((a'.length+1:Nat):Int)=0)=false:=Gp (by omega);have h1a:1≤a'.length+1:=by omega
    have hta:List.take a'.length (List.map YQ a')=List.map YQ a':=by rw[Gaa];simp
    cases b' with
    |nil=>
     rw[Yef] at ho;simp only[go_sem,h0,h1,a6,h6,Yce,hlim,h1a,hta];refine⟨(a',[],o++[x]),by simp,rfl,rfl,by simp[YQ,YB],by simp,by simp[Yef,ho],by simp at hle ⊢;omega⟩
    |cons y b'=>
     have hzb:decide (((b'.length+1:Nat):Int)=0)=false:=Gp (by omega);have h1b:1≤b'.length+1:=by omega
     have htb:List.take b'.length (List.map YQ b')=List.map YQ b':=by rw[Gaa];simp
     simp only[YG] at ho;by_cases c1:x.client<y.client
     ·rw[Gr c1] at ho;simp only[go_sem,h0,h1,a6,h6,Yce,hzb,hlim,h1a,hta,c1];refine⟨(a',y::b',o++[x]),by simp,rfl,rfl,by simp[YQ,YB],by simp,by simp[ho],by simp at hle ⊢;omega⟩
     ·rw[Gn c1] at ho;by_cases c2:y.client<x.client
      ·rw[Gr c2] at ho;simp only[go_sem,h0,h1,a6,h6,Yce,hza,hzb,hlim,h1b,htb,c1,c2];refine⟨(x::a',b',o++[y]),by simp,rfl,rfl,by simp[YQ,YB],by simp,by simp[ho],by simp at hle ⊢;omega⟩
      ·rw[Gn c2] at ho;by_cases c3:y.req≤x.req
       ·rw[Gr c3] at ho;simp only[go_sem,h0,h1,a6,h6,Yce,hza,hzb,hlim,h1a,h1b,hta,htb,c1,c2,c3];refine⟨(a',b',o++[x]),by simp;omega,rfl,rfl,by simp[YQ,YB],by simp,by simp[ho],by simp at hle ⊢;omega⟩
       ·rw[Gn c3] at ho;simp only[go_sem,h0,h1,a6,h6,Yce,hza,hzb,hlim,h1a,h1b,hta,htb,c1,c2,c3];refine⟨(a',b',o++[y]),by simp;omega,rfl,rfl,by simp[YQ,YB],by simp,by simp[ho],by simp at hle ⊢;omega⟩
structure Shd where
 id:Int
 epoch:Int
 span:Span
 phase:Int
 ents:List Entr
 mark:Stamp
 top:Stamp
 done:List Done
 hold:Int
 seen:Int
 move:Int
 closed:Int
@[go_sem] def Yh (s:Shd):List V:=[iz s.id,iz s.epoch,.str s.span.lo,.str s.span.hi,iz s.phase,Yf s.ents,iz s.mark.wall,iz s.mark.tick,iz s.mark.node,iz s.top.wall,iz s.top.tick,iz s.top.node,Yc s.done,iz s.hold,iz s.seen,iz s.move,iz s.closed]
@[go_sem] def Ys (l:List Shd):V:=.slice 17 (l.map Yh)
structure Cel where
 shards:List Shd
 top:Stamp
 dropped:Int
@[go_sem] def Yk (c:Cel):List V:=[Ys c.shards,iz c.top.wall,iz c.top.tick,iz c.top.node,iz c.dropped]
structure Rq where
 client:Int
 req:Int
 kind:Int
 key:List UInt8
 value:List UInt8
 had:Bool
 old:List UInt8
 at_:Stamp
 hi:List UInt8
 limit:Int
@[go_sem] def eRq (r:Rq):List V:=[iz r.client,iz r.req,iz r.kind,.str r.key,.str r.value,.bool r.had,.str r.old,iz r.at_.wall,iz r.at_.tick,iz r.at_.node,.str r.hi,iz r.limit]
def nou (n:Int):Bool:=decide (0≤n)&&decide (n≤1099511627776)
def shR0 (s:Shd):Bool:=Yr s.id&&(Yr s.epoch&&(nou s.hold&&(nou s.seen&&(nou s.move&&(nou s.closed&&(decide (1≤s.phase)&&(decide (s.phase≤3)&&(YC s.span&&(ixR s.ents&&(Ya s.mark&&(Ya s.top&&YA s.done)))))))))))
def shR (s:Shd):Bool:=shR0 s&&s.ents.all fun e=>Yas s.span e.key
def uptoE (s:Shd) (top:Stamp):Bool:=s.ents.all fun e=>match e.chain.getLast? with|some v=>decide (Yb v.at_ top≤0)|none=>true
def cgo (top:Stamp):Int→List Shd→Bool
 |_,[]=>true
 |p,s::l=>decide (p<s.id)&&(shR s&&(uptoE s top&&cgo top s.id l))
def Yy (c:Cel):Bool:=decide (c.shards.length≤8)&&(Ya c.top&&(nou c.dropped&&cgo c.top 0 c.shards))
def rqR (r:Rq):Bool:=Yr r.client&&(Yr r.req&&(decide (1≤r.kind)&&(decide (r.kind≤6)&&(decide (r.value.length≤16)&&(decide (r.old.length≤16)&&(decide (0≤r.limit)&&(decide (r.limit≤8)&&(Ya r.at_&&((decide (r.hi=[])||keyR r.hi) &&
 (if r.kind=6 then (decide (r.key=[])||keyR r.key)&&decide (1≤r.limit) else keyR r.key))))))))))
def Yl:Shd:=⟨0,0,⟨[],[]⟩,0,[],⟨0,0,0⟩,⟨0,0,0⟩,[],0,0,0,0⟩
def SmS (s:Shd):Prop:=Sm s.ents∧s.done.length≤10000∧(∀d∈s.done,d.ans.items.length<2 ^ 60)∧s.span.lo.length≤10000∧s.span.hi.length≤10000
def SmC (c:Cel):Prop:=c.shards.length≤10000∧∀s∈c.shards,SmS s
def YY (l:List Shd) (id:Int):Option Shd:=l.find? fun s=>decide (s.id=id)
def putC:List Shd→Shd→List Shd
 |[],s=>[s]
 |x::l,s=>if s.id<x.id then s::x::l else if x.id=s.id then s::l else x::putC l s
def YbF (l:List Shd) (id:Int):List Shd:=l.filter fun s=>!decide (s.id=id)
def gN (D:Bool):Rd→Nat×Rd:=bif D then cu (tk 9) 0 else rd (tk 9) 0
def gT (D:Bool):Rd→List UInt8×Rd:=bif D then cu tkT [] else rd tkT []
def gF (D:Bool):Rd→Bool×Rd:=bif D then cu tkF false else rd tkF false
def gS (D:Bool):Rd→Stamp×Rd:=bif D then cu tkS zS else rd tkS zS
def gL (D:Bool) {α:Type} (R:Rd→α×Rd):Rd→List α×Rd:=bif D then lstD R else lstP R
theorem cN {D:Bool}:Cod (gN D) putB (fun n=>n<2 ^ 63):=by
 cases D
 ·exact codN
 ·exact Yb1
theorem cT {D:Bool}:Cod (gT D) Yak (fun t=>t.length<2 ^ 63):=by
 cases D
 ·exact Cod.rd Yjd
 ·exact Cod.cu Yjd
theorem cF {D:Bool}:Cod (gF D) Ya0 (fun _=>True):=by
 have h:∀{s r:List UInt8} {b:Bool},tkF s=some (b,r)↔s=Ya0 b++r∧True:=fun {s r b}=>by rw[Ylg];simp
 cases D
 ·exact Cod.rd h
 ·exact Cod.cu h
theorem cS {D:Bool}:Cod (gS D) stB (fun s=>Ya s=true):=by
 cases D
 ·exact Cod.rd Yjc
 ·exact Cod.cu Yjc
theorem cL {D:Bool} {α:Type} {R:Rd→α×Rd} {W:α→List UInt8} {P:α→Prop} (h:Cod R W P) (hW:∀a,P a→1≤(W a).length):Cod (gL D R) (Yb9 W) (fun l=>l.length<2 ^ 63∧∀a∈l,P a):=by
 cases D
 ·exact h.lstP hW
 ·exact h.lstD
theorem Ygm {t:List UInt8}:1≤(Yak t).length:=by
 have:=Ycz t.length;simp only[Yak,Ge];omega
def gV (D:Bool):Rd→Ver×Rd:=mapR (fun p:Stamp×Bool×List UInt8=>⟨p.1,p.2.1,p.2.2⟩) (pairR (gS D) (pairR (gF D) (gT D)))
def Yci (v:Ver):List UInt8:=stB v.at_++(Ya0 v.gone++Yak v.val)
def Ykx (v:Ver):Prop:=(Ya v.at_=true∧True∧v.val.length<2 ^ 63)∧True
theorem cV {D:Bool}:Cod (gV D) Yci Ykx:=by
 have h:=((cS (D:=D)).pair ((cF (D:=D)).pair (cT (D:=D)))).map (g:=fun p:Stamp×Bool×List UInt8=>(⟨p.1,p.2.1,p.2.2⟩:Ver)) (k:=fun v=>(v.at_,v.gone,v.val)) (fun a=>rfl);exact⟨fun hr=>⟨(h.get hr).1,(h.get hr).2.1,Gy⟩,fun hp=>h.put ⟨hp.1,rfl⟩,h.bad,h.len⟩
def gE (D:Bool):Rd→Entr×Rd:=mapR (fun p:List UInt8×List Ver=>⟨p.1,p.2⟩) (pairR (gT D) (gL D (gV D)))
def YbN (e:Entr):List UInt8:=Yak e.key++Yb9 Yci e.chain
def YhZ (e:Entr):Prop:=e.key.length<2 ^ 63∧e.chain.length<2 ^ 63∧∀v∈e.chain,Ykx v
theorem Yhw (v:Ver) (h:Ykx v):1≤(Yci v).length:=by
 have:=Ygm (t:=v.val);simp only[Yci,Ge];omega
theorem cE {D:Bool}:Cod (gE D) YbN YhZ:=by
 have h:=((cT (D:=D)).pair (cL (D:=D) (cV (D:=D)) Yhw)).map (g:=fun p:List UInt8×List Ver=>(⟨p.1,p.2⟩:Entr)) (k:=fun v=>(v.key,v.chain)) (fun a=>rfl);exact⟨fun hr=>⟨(h.get hr).1,(h.get hr).2.1⟩,fun hp=>h.put ⟨hp,rfl⟩,h.bad,h.len⟩
def mkD (p:Nat×Nat×Nat×Stamp×Bool×List UInt8):Done:=⟨p.1,p.2.1,⟨p.2.2.1,p.2.2.2.1,p.2.2.2.2.1,p.2.2.2.2.2,[],[],false⟩⟩
def gD (D:Bool):Rd→Done×Rd:=mapR mkD (pairR (gN D) (pairR (gN D) (pairR (gN D) (pairR (gS D) (pairR (gF D) (gT D))))))
def YaY (d:Done):List UInt8:=putB d.client.toNat++(putB d.req.toNat++(putB d.ans.err.toNat++(stB d.ans.at_++(Ya0 d.ans.found++Yak d.ans.val))))
def unD (d:Done):Nat×Nat×Nat×Stamp×Bool×List UInt8:=(d.client.toNat,d.req.toNat,d.ans.err.toNat,d.ans.at_,d.ans.found,d.ans.val)
def YiA (d:Done):Prop:=(d.client.toNat<2 ^ 63∧d.req.toNat<2 ^ 63∧d.ans.err.toNat<2 ^ 63∧Ya d.ans.at_=true∧True∧d.ans.val.length<2 ^ 63)∧mkD (unD d)=d
theorem cD {D:Bool}:Cod (gD D) YaY YiA:=
 ((cN (D:=D)).pair ((cN (D:=D)).pair ((cN (D:=D)).pair ((cS (D:=D)).pair ((cF (D:=D)).pair (cT (D:=D))))))).map (g:=mkD) (k:=unD) (fun a=>rfl)
theorem Yg8 (e:Entr) (h:YhZ e):1≤(YbN e).length:=by
 have:=Ygm (t:=e.key);simp only[YbN,Ge];omega
theorem YfK (d:Done) (h:YiA d):1≤(YaY d).length:=by
 have:=Ycz d.client.toNat;simp only[YaY,Ge];omega
abbrev ShT:=Nat×Nat×Nat×Nat×Nat×Nat×Nat×List UInt8×List UInt8×Stamp×Stamp×List Entr×List Done
def mkS (p:ShT):Shd:=
 ⟨p.1,p.2.1,⟨p.2.2.2.2.2.2.2.1,p.2.2.2.2.2.2.2.2.1⟩,p.2.2.1,p.2.2.2.2.2.2.2.2.2.2.2.1,p.2.2.2.2.2.2.2.2.2.1,p.2.2.2.2.2.2.2.2.2.2.1,p.2.2.2.2.2.2.2.2.2.2.2.2,p.2.2.2.1,p.2.2.2.2.1,p.2.2.2.2.2.1,p.2.2.2.2.2.2.1⟩
def unS (s:Shd):ShT:=(s.id.toNat,s.epoch.toNat,s.phase.toNat,s.hold.toNat,s.seen.toNat,s.move.toNat,s.closed.toNat,s.span.lo,s.span.hi,s.mark,s.top,s.ents,s.done)
def gSh (D:Bool):Rd→Shd×Rd:=mapR mkS (pairR (gN D) (pairR (gN D) (pairR (gN D) (pairR (gN D) (pairR (gN D) (pairR (gN D) (pairR (gN D) (pairR (gT D) (pairR (gT D) (pairR (gS D) (pairR (gS D) (pairR (gL D (gE D)) (gL D (gD D))))))))))))))
def shB (s:Shd):List UInt8:=putB s.id.toNat++(putB s.epoch.toNat++(putB s.phase.toNat++(putB s.hold.toNat++(putB s.seen.toNat++(putB s.move.toNat++(putB s.closed.toNat++(Yak s.span.lo++(Yak s.span.hi++(stB s.mark++(stB s.top++(Yb9 YbN s.ents++Yb9 YaY s.done)))))))))))
def ShV (s:Shd):Prop:=(s.id.toNat<2 ^ 63∧s.epoch.toNat<2 ^ 63∧s.phase.toNat<2 ^ 63∧s.hold.toNat<2 ^ 63∧s.seen.toNat<2 ^ 63∧s.move.toNat<2 ^ 63∧s.closed.toNat<2 ^ 63∧s.span.lo.length<2 ^ 63∧s.span.hi.length<2 ^ 63∧
 Ya s.mark=true∧Ya s.top=true∧(s.ents.length<2 ^ 63∧∀e∈s.ents,YhZ e)∧(s.done.length<2 ^ 63∧∀d∈s.done,YiA d))∧mkS (unS s)=s
theorem cSh {D:Bool}:Cod (gSh D) shB ShV:=
 ((cN (D:=D)).pair ((cN (D:=D)).pair ((cN (D:=D)).pair ((cN (D:=D)).pair ((cN (D:=D)).pair ((cN (D:=D)).pair ((cN (D:=D)).pair ((cT (D:=D)).pair ((cT (D:=D)).pair ((cS (D:=D)).pair ((cS (D:=D)).pair
  ((cL (D:=D) (cE (D:=D)) Yg8).pair (cL (D:=D) (cD (D:=D)) YfK))))))))))))).map (g:=mkS) (k:=unS) (fun a=>rfl)
theorem Yhr (s:Shd) (h:ShV s):1≤(shB s).length:=by
 have:=Ycz s.id.toNat;simp only[shB,Ge];omega
def mkC (p:Stamp×Nat×List Shd):Cel:=⟨p.2.2,p.1,p.2.1⟩
def unC (c:Cel):Stamp×Nat×List Shd:=(c.top,c.dropped.toNat,c.shards)
def gC (D:Bool):Rd→Cel×Rd:=mapR mkC (pairR (gS D) (pairR (gN D) (gL D (gSh D))))
def cB (c:Cel):List UInt8:=stB c.top++(putB c.dropped.toNat++Yb9 shB c.shards)
def CV (c:Cel):Prop:=(Ya c.top=true∧c.dropped.toNat<2 ^ 63∧(c.shards.length<2 ^ 63∧∀s∈c.shards,ShV s))∧mkC (unC c)=c
theorem cC {D:Bool}:Cod (gC D) cB CV:=
 ((cS (D:=D)).pair ((cN (D:=D)).pair (cL (D:=D) (cSh (D:=D)) Yhr))).map (g:=mkC) (k:=unC) (fun a=>rfl)
def YdO (l:List Shd):Prop:=l.Pairwise fun a b=>a.id<b.id
theorem YiF {top:Stamp}:∀{l:List Shd} {p:Int},cgo top p l=true↔YdO l∧∀s∈l,p<s.id∧shR s=true∧uptoE s top=true
 |[],p=>by simp[cgo,YdO]
 |s::l,p=>by
  simp only[cgo,Gc,Gi,YiF (l:=l),YdO,GV,GI,forall_eq_or_imp];constructor
  ·rintro⟨h1,h2,h3,h4,h5⟩;exact⟨⟨fun x hx=>(h5 x hx).1,h4⟩,⟨h1,h2,h3⟩,fun x hx=>⟨by have:=(h5 x hx).1;omega,(h5 x hx).2⟩⟩
  ·rintro⟨⟨h1,h2⟩,⟨h3,h4,h5⟩,h6⟩;exact⟨h3,h4,h5,h2,fun x hx=>⟨h1 x hx,(h6 x hx).2⟩⟩
theorem Yt {c:Cel}:Yy c=true↔c.shards.length≤8∧Ya c.top=true∧nou c.dropped=true∧YdO c.shards∧∀s∈c.shards,0<s.id∧shR s=true∧uptoE s c.top=true:=by
 simp only[Yy,Gc,Gi,YiF]
def YaH (n:Int):List Shd→Nat
 |[]=>0
 |s::l=>if s.id<n then YaH n l+1 else 0
theorem YeS {n:Int}:∀(l:List Shd),YaH n l≤l.length
 |[]=>Gt _
 |s::l=>by
  have:=YeS (n:=n) l;simp only[YaH,List.length_cons];split<;>omega
theorem Yi0 {n : Int} : ∀ {l : List Shd} {j : Nat} {s : Shd}, j < YaH n l → l[j]? = some s → s.id < n
  | [], _, _, h, _ => by simp [YaH] at h
  | a :: l, j, s, h, hs => by
    simp only [YaH] at h;split at h
    · rename_i ha
      cases j with
      | zero => obtain rfl : a = s := by simpa using hs
                exact ha
      | succ j => exact Yi0 (l := l) (j := j) (by omega) (by simpa using hs)
    · omega
theorem YiZ {n : Int} : ∀ {l : List Shd} {j : Nat} {s : Shd}, YdO l → YaH n l ≤ j → l[j]? = some s → n ≤ s.id
  | [], _, _, _, _, hs => by simp at hs
  | a :: l, j, s, h, hj, hs => by
    obtain ⟨h1, h2⟩ := GV.1 h;simp only [YaH] at hj;split at hj
    · cases j with
      | zero => omega
      | succ j => exact YiZ (l := l) (j := j) h2 (by omega) (by simpa using hs)
    · cases j with
      | zero => obtain rfl : a = s := by simpa using hs
                omega
      | succ j => have := h1 s (List.mem_of_getElem? (by simpa using hs)); omega
def Yah (n:Int) (l:List Shd):Bool:=match l[YaH n l]? with|none=>false|some s=>decide (s.id=n)
theorem Yha {n:Int}:∀{l:List Shd},YdO l→YY l n=if Yah n l then l[YaH n l]? else none
 |[],_=>rfl
 |a::l,h=>by
  obtain⟨h1,h2⟩:=GV.1 h;have ih:=Yha (n:=n) h2;simp only[YY] at ih;simp only[YY,List.find?_cons];rcases Gar a.id n with q|q|q
  ·have e1:decide (a.id=n)=false:=Gp (by omega);have e2:YaH n (a::l)=YaH n l+1:=by simp[YaH,q]
   have e3:Yah n (a::l)=Yah n l:=by simp[Yah,e2]
   rw[e1,e3,e2];simpa using ih
  ·have e2:YaH n (a::l)=0:=by simp[YaH];omega
   have e3:Yah n (a::l)=true:=by simp[Yah,e2,q]
   rw[e3,e2];simp[q]
  ·have e1:decide (a.id=n)=false:=Gp (by omega);have e2:YaH n (a::l)=0:=by simp[YaH];omega
   have e3:Yah n (a::l)=false:=by simp[Yah,e2];omega
   have e4:l.find? (fun s=>decide (s.id=n))=none:=List.find?_eq_none.2 fun x hx=>by have:=h1 x hx;simp;omega
   rw[e1,e3];simp[e4]
theorem Yo {l:List Shd} {n:Int} {s:Shd} (h:YY l n=some s):s∈l∧s.id=n:=⟨List.mem_of_find?_eq_some h,by simpa using List.find?_some h⟩
theorem Yir {s:Shd}:∀{l:List Shd},YdO l→putC l s=l.take (YaH s.id l)++s::l.drop (YaH s.id l+if Yah s.id l then 1 else 0)
 |[],_=>rfl
 |x::l,h=>by
  obtain⟨h1,h2⟩:=GV.1 h;have ih:=Yir (s:=s) h2;simp only[putC];rcases Gar x.id s.id with q|q|q
  ·have e2:YaH s.id (x::l)=YaH s.id l+1:=by simp[YaH,q]
   have e3:Yah s.id (x::l)=Yah s.id l:=by simp[Yah,e2]
   have e4:YaH s.id l+1+(if Yah s.id l=true then 1 else 0)=YaH s.id l+(if Yah s.id l=true then 1 else 0)+1:=by omega
   rw[Gn (by omega),Gn (by omega),ih,e2,e3,e4];rfl
  ·have e2:YaH s.id (x::l)=0:=by simp[YaH];omega
   have e3:Yah s.id (x::l)=true:=by simp[Yah,e2,q]
   rw[Gn (by omega),Gr q,e2,e3];rfl
  ·have e2:YaH s.id (x::l)=0:=by simp[YaH];omega
   have e3:Yah s.id (x::l)=false:=by simp[Yah,e2];omega
   rw[Gr q,e2,e3];rfl
theorem Yg3 {l:List Shd} {n:Int} (h:∀s∈l,s.id≠n):YbF l n=l:=List.filter_eq_self.2 fun s hs=>by simp[h s hs]
theorem YiI {n:Int}:∀{l:List Shd},YdO l→YbF l n=if Yah n l then l.take (YaH n l)++l.drop (YaH n l+1) else l
 |[],_=>rfl
 |x::l,h=>by
  obtain⟨h1,h2⟩:=GV.1 h;have ih:=YiI (n:=n) h2;simp only[YbF] at ih;simp only[YbF,List.filter_cons];rcases Gar x.id n with q|q|q
  ·have e1:decide (x.id=n)=false:=Gp (by omega);have e2:YaH n (x::l)=YaH n l+1:=by simp[YaH,q]
   have e3:Yah n (x::l)=Yah n l:=by simp[Yah,e2]
   rw[e1,e2,e3,ih];cases Yah n l<;>simp
  ·have e2:YaH n (x::l)=0:=by simp[YaH];omega
   have e3:Yah n (x::l)=true:=by simp[Yah,e2,q]
   have:=Yg3 (l:=l) (n:=n) fun s hs=>by have:=h1 s hs;omega
   simp only[YbF] at this;rw[e2,e3];simp[q,this]
  ·have e1:decide (x.id=n)=false:=Gp (by omega);have e2:YaH n (x::l)=0:=by simp[YaH];omega
   have e3:Yah n (x::l)=false:=by simp[Yah,e2];omega
   have:=Yg3 (l:=l) (n:=n) fun s hs=>by have:=h1 s hs;omega
   simp only[YbF] at this;rw[e1,e3];simp[this]
theorem YdE {s:Shd}:∀{l:List Shd} {x:Shd},x∈putC l s→x=s∨x∈l
 |[],x,h=>by simpa [putC] using h
 |y::l,x,h=>by
  simp only[putC] at h;split at h
  ·rcases GI.1 h with h|h
   ·exact .inl h
   ·exact .inr h
  ·split at h
   ·rcases GI.1 h with h|h
    ·exact .inl h
    ·exact .inr (by simp[h])
   ·rcases GI.1 h with h|h
    ·exact .inr (by simp[h])
    ·rcases YdE h with h|h
     ·exact .inl h
     ·exact .inr (by simp[h])
theorem Yd4 {s:Shd}:∀{l:List Shd},(putC l s).length≤l.length+1
 |[]=>by simp[putC]
 |y::l=>by
  have:=Yd4 (s:=s) (l:=l);simp only[putC]
  repeat' split
  all_goals simp only[List.length_cons];omega
theorem Yhn {s:Shd}:∀{l:List Shd},YdO l→YdO (putC l s)
 |[],_=>List.pairwise_singleton _ _
 |y::l,h=>by
  obtain⟨h1,h2⟩:=GV.1 h;simp only[putC];split
  ·rename_i q;exact GV.2 ⟨fun z hz=>by
    rcases GI.1 hz with rfl|hz
    ·exact q
    ·have:=h1 z hz;omega,h⟩
  ·split
   ·rename_i q;exact GV.2 ⟨fun z hz=>by have:=h1 z hz;omega,h2⟩
   ·refine GV.2 ⟨fun z hz=>?_,Yhn h2⟩;rcases YdE hz with rfl|hz
    ·omega
    ·exact h1 z hz
theorem YiJ {n:Int} {l:List Shd} (h:YdO l):YdO (YbF l n):=h.sublist Gal
theorem Yea:∀{l:List Ver} {p:Option Ver},chR p l=true→∀v∈l,YS v=true
 |[],_,_,v,hv=>by simp at hv
 |a::l,p,h,v,hv=>by
  simp only[chR,Gc] at h;rcases GI.1 hv with rfl|hv
  ·exact h.1.1
  ·exact Yea h.2 v hv
theorem Yee:∀{l:List Entr} {p:Option Entr},ixG p l=true→∀v∈l,YcX v=true
 |[],_,_,v,hv=>by simp at hv
 |a::l,p,h,v,hv=>by
  simp only[ixG,Gc] at h;rcases GI.1 hv with rfl|hv
  ·exact h.1
  ·exact Yee h.2.2 v hv
theorem YcA:∀{l:List Done} {p:Int},rtR p l=true→∀v∈l,rowR v=true
 |[],_,_,v,hv=>by simp at hv
 |a::l,p,h,v,hv=>by
  simp only[rtR,Gc] at h;rcases GI.1 hv with rfl|hv
  ·exact h.2.1
  ·exact YcA h.2.2 v hv
theorem Ymf {v:Ver} (h:YS v=true):Ykx v:=by
 simp only[YS,Gc,Gi] at h;exact⟨⟨h.1.1,Gy,by omega⟩,Gy⟩
theorem YjT {e:Entr} (h:YcX e=true):YhZ e:=by
 simp only[YcX,Yg,Gc,Gi] at h;obtain⟨h1,h2,h3,h4⟩:=h;exact⟨by have:=(Yaa h1).1;omega,by omega,fun v hv=>Ymf (Yea h3 v hv)⟩
theorem Ya2 {n:Int} (h:0≤n):((n.toNat:Nat):Int)=n:=by omega
theorem YlU {d:Done} (h:rowR d=true):YiA d:=by
 simp only[rowR,Yr,YbX,Gc,Gi,GN] at h;obtain⟨⟨a1,a2⟩,⟨b1,b2⟩,c1,c2,c3,c4,c5,c6,c7⟩:=h;refine⟨⟨by omega,by omega,by omega,c3,Gy,by omega⟩,?_⟩;obtain⟨cl,rq,⟨er,at_,fo,va,it,nx,mo⟩⟩:=d;simp only at a1 b1 c1 c5 c6 c7;subst c5;subst c6;subst c7;simp only[mkD,unD,Ya2 (show (0:Int)≤cl by omega),Ya2 (show (0:Int)≤rq by omega),Ya2 c1]
theorem Yfa {s:Shd} (h:shR s=true):ShV s:=by
 simp only[shR,shR0,Yr,nou,YC,ixR,YA,Gc,G2,Gi,Gx] at h;obtain⟨⟨⟨a1,a2⟩,⟨b1,b2⟩,⟨c1,c2⟩,⟨d1,d2⟩,⟨e1,e2⟩,⟨f1,f2⟩,g1,g2,⟨i1,i2⟩,⟨j1,j2⟩,k1,k2,l1,l2⟩,-⟩:=h;refine⟨⟨by omega,by omega,by omega,by omega,by omega,by omega,by omega,?_,?_,k1,k2,⟨by omega,fun e he=>YjT (Yee j2 e he)⟩,⟨by omega,fun d hd=>YlU (YcA l1 d hd)⟩⟩,?_⟩
 ·rcases i1 with i1|i1
  ·rw[i1];simp
  ·have:=(Yaa i1).1;omega
 ·rcases i2 with i2|i2
  ·rw[i2];simp
  ·have:=(Yaa i2.1).1;omega
 ·obtain⟨id,ep,⟨lo,hi⟩,ph,en,mk,tp,dn,ho,se,mv,cl⟩:=s;simp only at a1 b1 c1 d1 e1 f1 g1;simp only[mkS,unS,Ya2 (show (0:Int)≤id by omega),Ya2 (show (0:Int)≤ep by omega),Ya2 c1,Ya2 d1,Ya2 e1,Ya2 f1,Ya2 (show (0:Int)≤ph by omega)]
theorem Yg1 {c:Cel} (h:Yy c=true):CV c:=by
 obtain⟨h1,h2,h3,h4,h5⟩:=Yt.1 h;simp only[nou,Gc,Gi] at h3;refine⟨⟨h2,by omega,by omega,fun s hs=>Yfa (h5 s hs).2.1⟩,?_⟩;obtain⟨sh,tp,dr⟩:=c;simp only at h3;simp only[mkC,unC,Ya2 h3.1]
def tkC (t:List UInt8):Option Cel:=if (gC false (t,false)).2=([],false)∧Yy (gC false (t,false)).1=true then some (gC false (t,false)).1 else none
theorem YcQ {t:List UInt8} {c:Cel}:tkC t=some c↔t=cB c∧Yy c=true:=by
 unfold tkC;constructor
 ·intro h;split at h
  ·rename_i hc;simp only[Ga] at h;obtain⟨h1,h2⟩:=hc;obtain⟨g1,g2⟩:=(cC (D:=false)).get (s:=t) (r:=[]) (a:=c) (Prod.ext h h1);rw[h] at h2;exact⟨by rw[g1];simp,h2⟩
  ·cases h
 ·rintro⟨rfl,h⟩;have:=(cC (D:=false)).put (r:=[]) (Yg1 h);rw[Gv] at this;rw[this,Gr ⟨rfl,h⟩]
theorem tkC_doc {t:List UInt8}:(if (gC true (t,false)).2.2=false∧Yy (gC true (t,false)).1=true∧cB (gC true (t,false)).1=t then some (gC true (t,false)).1 else none)=tkC t:=by
 cases hq:tkC t with
 |some c=>
  obtain⟨rfl,h⟩:=YcQ.1 hq;have:=(cC (D:=true)).put (r:=[]) (Yg1 h);rw[Gv] at this;rw[this,Gr ⟨rfl,h,rfl⟩]
 |none=>
  rw[Gn];rintro⟨h1,h2,h3⟩;rw[YcQ.2 ⟨h3.symm,h2⟩] at hq;cases hq
def Yfn (t:List UInt8):Option Shd:=if (gSh false (t,false)).2=([],false)∧shR (gSh false (t,false)).1=true then some (gSh false (t,false)).1 else none
theorem Ygn {t:List UInt8} {c:Shd}:Yfn t=some c↔t=shB c∧shR c=true:=by
 unfold Yfn;constructor
 ·intro h;split at h
  ·rename_i hc;simp only[Ga] at h;obtain⟨h1,h2⟩:=hc;obtain⟨g1,g2⟩:=(cSh (D:=false)).get (s:=t) (r:=[]) (a:=c) (Prod.ext h h1);rw[h] at h2;exact⟨by rw[g1];simp,h2⟩
  ·cases h
 ·rintro⟨rfl,h⟩;have:=(cSh (D:=false)).put (r:=[]) (Yfa h);rw[Gv] at this;rw[this,Gr ⟨rfl,h⟩]
def H466 (Pg:PgT):Prop:=Pg 466=some (.codeR F466 0)∧H465 Pg
theorem K466 (h:H466 Pg) (x:Rd) (hx:x.1.length<2 ^ 62):K' Pg 466 [.tuple (.lref 0 0::eRd x)]=some (.tuple [iz (rL x).1,.tuple (eRd (rL x).2)]):=by
 obtain⟨h,h465⟩:=h;have k:=K465 h465 x hx;have hr:=fun (S:St) (hm:S.μ 0=some (eRd x,false))=>Qc (p:=20000) k hm;unfold rL;generalize rd (tk 9) 0 x=y at hr;obtain⟨n,s,b⟩:=y;simp only[go_sem] at hr;refine Ydw [.t 2] (ws:=[iz _]) h rfl rfl (YaX _) (YaX _) (YdM _) fun S ⟨r0,r,hm,m0,a0⟩=>?_;simp only[go_sem] at hm;have c:decide (((s.length:Nat):Int)<(n:Int))=decide (s.length<n):=GZ.2 (by omega);simp only;by_cases h1:s.length<n
 ·have c1:decide (s.length<n)=true:=GD h1;rw[Gr h1];simp only[F466,c466,go_sem,r0,hm,hr,c,c1];exact⟨_,rfl,fun _=>rfl⟩
 ·have c1:decide (s.length<n)=false:=Gp h1;rw[Gn h1];simp only[F466,c466,go_sem,r0,hm,hr,c,c1];exact⟨_,rfl,fun _=>rfl⟩
structure Place where
 span:Span
 shard:Int
 cell:Int
 epoch:Int
 deriving DecidableEq
@[go_sem] def ePl (p:Place):List V:=[.str p.span.lo,.str p.span.hi,iz p.shard,iz p.cell,iz p.epoch]
@[go_sem] def Yaf (l:List Place):V:=.slice 5 (l.map ePl)
@[go_sem] def YbM (l:List Stamp):V:=.slice 3 (l.map Yd)
theorem YbZ {T:Nat→Option Fn} (h:∀f x,T f=some x→Pg f=some x):∀n,Le (Jm T n) (Jm Pg n)
 |0=>fun f a r h=>by simp[Jm] at h
 |n+1=>fun f a r hr=>by
  rw[Jm] at hr ⊢;split at hr
  ·simp at hr
  ·rename_i o p hT;rw[h _ _ hT];exact hr
  ·rename_i F k hT;rw[h _ _ hT];simp only;split at hr<;>try (simp at hr;done)
   rename_i hl;rw[Gr hl];split at hr<;>try (simp at hr;done)
   simp only[Gf] at hr ⊢;obtain⟨x,h0,y,h1,h2⟩:=hr;exact⟨x,h0,y,Jr (YbZ h n) (Gt n) h1,h2⟩
  ·rename_i F hT;rw[h _ _ hT];simp only;split at hr<;>try (simp at hr;done)
   rename_i hl;rw[Gr hl];simp only[Gf] at hr ⊢;obtain⟨x,h1,h2⟩:=hr;exact⟨x,Jr (YbZ h n) (Gt n) h1,h2⟩
def Ycx:List (Nat×Fn)→Nat→Option Fn
 |[],_=>none
 |a::l,n=>bif Nat.beq a.1 n then some a.2 else Ycx l n
def isT:Option V→Bool
 |some (.bool true)=>true
 |_=>false
theorem Yie:∀{x:Option V},isT x=true→x=some (.bool true)
 |some (.bool true),_=>rfl
 |none,h=>by simp[isT] at h
 |some (.bool false),h=>by simp[isT] at h
 |some (.int _ _),h=>by simp[isT] at h
 |some .undef,h=>by simp[isT] at h
theorem Ycp:∀{l:List (Nat×Fn)},(∀a∈l,Pg a.1=some a.2)→∀f x,Ycx l f=some x→Pg f=some x
 |[],_,f,x,h=>by simp[Ycx] at h
 |a::l,ha,f,x,h=>by
  rw[Ycx] at h;cases q:Nat.beq a.1 f with
  |true=>
   rw[q,cond_true] at h;rw[←Nat.eq_of_beq_eq_true q,←h];exact ha a (.head _)
  |false=>
   rw[q,cond_false] at h;exact Ycp (fun b hb=>ha b (.tail _ hb)) f x h
def nilOr (s z n:Nat):V:=if n=0 then .nslice z else .own s z n
def YcL (z:Nat) (rows:List (List V)) (n:Nat):Option (Nat×List (List V)×Fz):=if n=0 then none else some (z,rows,.live)
@[go_sem] theorem Ymh {s z n:Nat}:(nilOr s z n).cells=some [nilOr s z n]:=by unfold nilOr;split<;>rfl
def apQ (S:St) (s z n:Nat) (y:V) (a:Option (Nat×List (List V)×Fz)):Option (V×St):=if n=0 then Jff S s z y a else apA S s z n y a
theorem YcU {S:St} {s z n:Nat} {y:V}:appN S s z (nilOr s z n) y=apQ S s z n y (S.A s):=by
 unfold nilOr apQ;split
 ·exact Jfh
 ·rw[Jfi,Jhd]
theorem YdR {S:St} {s z n:Nat} {rows:List (List V)} {r:List V} (hr:rows.length=n) (hl:n+1≤lim) :
  apQ S s z n (.slice z [r]) (YcL z rows n)=some (nilOr s z (n+1),⟨S.ρ,S.μ,upd S.A s (YcL z (rows++[r]) (n+1))⟩):=by
 have e1:nilOr s z (n+1)=.own s z (n+1):=rfl
 have e2:YcL z (rows++[r]) (n+1)=some (z,rows++[r],.live):=rfl
 rw[e1,e2]
 unfold apQ YcL
 split
 ·rename_i h
  subst h
  have hr:rows=[]:=GH hr
  subst hr
  have:1≤lim:=by simpa using hl
  simp[Jff,V.rowsOf,this]
 ·rw[Jhc]
  simp[V.rowsOf,hr,hl]
theorem YbI {A:Nat→Option (Nat×List (List V)×Fz)} {s z n:Nat} {rows:List (List V)} (hA:A s=YcL z rows n) (hr:rows.length=n):toDC A (nilOr s z n)=some (.slice z rows):=by
 unfold nilOr;split
 ·rename_i h;subst h;have hr:rows=[]:=GH hr;rw[hr,Je3]
 ·rename_i h;have:A s=some (z,rows,.live):=by rw[hA,YcL,Gn h]
  simp[toDC,this,hr]
theorem rep_one {α:Type} {R:Rd→α×Rd} {m j:Nat} {vs:List α} {y y':Rd} (hj:j<m) (h:Yaz R m y=(vs++(Yaz R (m-j) y').1,(Yaz R (m-j) y').2)) :
  Yaz R m y=((vs++[(R y').1])++(Yaz R (m-(j+1)) (R y').2).1,(Yaz R (m-(j+1)) (R y').2).2):=by
 rw[h,show m-j=(m-(j+1))+1 by omega]
 simp[Yaz]
theorem Yfz {α:Type} {R:Rd→α×Rd} {m:Nat} {vs:List α} {y y':Rd} (h:Yaz R m y=(vs++(Yaz R (m-m) y').1,(Yaz R (m-m) y').2)):Yaz R m y=(vs,y'):=by
 rw[h,Nat.sub_self];simp[Yaz]
theorem Yme (h464:H464 Pg) (h493:H493 Pg) (h492:H492 Pg) {y:Rd} {m:Nat} {key:List UInt8} (hy:y.1.length≤2 ^ 20) (hm:m≤2 ^ 20) {S:St} {Q:Ex→St→Prop}
  (s0:S.ρ 0=.lref 0 0) (s4:S.ρ 4=.lref 4 0) (s49:S.ρ 49=iz m) (s50:S.ρ 50=iz 0) (n0:S.μ 0=some (eRd y,false)) (n4:S.μ 4=some ([.str key,.nslice 5],false)) (a62:S.A 62=none)
  (hq:∀S',(∀i,i≠50→i≠51→S'.ρ i=S.ρ i)→S'.μ 0=some (eRd (Yaz (gV false) m y).2,false)→S'.μ 4=some ([.str key,nilOr 62 5 m],false)→S'.A 62=YcL 5 ((Yaz (gV false) m y).1.map Yam) m→(Yaz (gV false) m y).1.length=m→
   (∀i,i≠0→i≠4→S'.μ i=S.μ i)→(∀i,i≠62→S'.A i=S.A i)→Q .norm S'):Wp (K' Pg) l467_1 S (Blk 2 Q):=by
 unfold l467_1
 refine JiJ (fun (j:Nat) S'=>j≤m∧(∀i,i≠50→i≠51→S'.ρ i=S.ρ i)∧S'.ρ 50=iz j∧(∀i,i≠0→i≠4→S'.μ i=S.μ i)∧(∀i,i≠62→S'.A i=S.A i)∧∃(vs:List Ver) (y':Rd),vs.length=j∧y'.1.length≤2 ^ 20∧
  Yaz (gV false) m y=(vs++(Yaz (gV false) (m-j) y').1,(Yaz (gV false) (m-j) y').2)∧S'.μ 0=some (eRd y',false)∧S'.μ 4=some ([.str key,nilOr 62 5 j],false)∧S'.A 62=YcL 5 (vs.map Yam) j) (fun j=>m-j) 0 ?_ ?_
 ·simp only[JhF]
  exact⟨GE _,by intros;first|rfl|trivial,s50,by intros;first|rfl|trivial,by intros;first|rfl|trivial,[],y,rfl,hy,rfl,n0,n4,a62⟩
 ·intro j S' ⟨hj,hρ,t50,hμ,hA,vs,y',hvl,hyl,hrep,m0,m4,a62⟩
  have t0:S'.ρ 0=.lref 0 0:=(hρ 0 (by omega) (by omega)).trans s0
  have t4:S'.ρ 4=.lref 4 0:=(hρ 4 (by omega) (by omega)).trans s4
  have t49:S'.ρ 49=iz m:=(hρ 49 (by omega) (by omega)).trans s49
  cases c1:decide ((j:Int)<(m:Int)) with
  |false=>
   have hjm:j=m:=by have:=Gb c1;omega
   subst hjm
   have he:=Yfz hrep
   simp only[go_sem,t50,t49,c1]
   rw[he] at hq
   refine hq _ (fun i h1 h2=>?_) m0 m4 a62 hvl hμ hA
   show upd S'.ρ 51 _ i=_
   rw[Je5 (by simp;omega)]
   exact hρ i h1 h2
  |true=>
   have hlt:=Yj c1
   have hinc:=inc64q (i:=j) (by omega)
   have hone:=rep_one hlt hrep
   have l1:(rd tkS zS y').2.1.length≤2 ^ 20:=GJ ((cS (D:=false)).len y') hyl
   have l2:(rd tkF false (rd tkS zS y').2).2.1.length≤2 ^ 20:=GJ ((cF (D:=false)).len _) l1
   have l3:(rd tkT [] (rd tkF false (rd tkS zS y').2).2).2.1.length≤2 ^ 20:=GJ ((cT (D:=false)).len _) l2
   have k1:=K464 h464 y' (by omega)
   have k2:=K493 h493 (rd tkS zS y').2 (by omega)
   have k3:=K492 h492 (rd tkF false (rd tkS zS y').2).2 (by omega)
   have hR:gV false y'=(⟨(rd tkS zS y').1,(rd tkF false (rd tkS zS y').2).1,(rd tkT [] (rd tkF false (rd tkS zS y').2).2).1⟩,(rd tkT [] (rd tkF false (rd tkS zS y').2).2).2):=rfl
   rw[hR] at hone
   generalize rd tkS zS y'=p1 at *
   obtain⟨b1,x1⟩:=p1
   simp only at k2 k3 hone l2 l3 l1
   generalize rd tkF false x1=p2 at *
   obtain⟨b2,x2⟩:=p2
   simp only at k3 hone l3 l2
   generalize rd tkT [] x2=p3 at *
   obtain⟨b3,x3⟩:=p3
   simp only at hone l3
   have r1:=fun (S:St) (hm:S.μ 0=some (eRd y',false))=>Qc (p:=21400) k1 hm
   have r2:=fun (S:St) (hm:S.μ 0=some (eRd x1,false))=>Qc (p:=21500) k2 hm
   have r3:=fun (S:St) (hm:S.μ 0=some (eRd x2,false))=>Qc (p:=21600) k3 hm
   have hil:(vs.map Yam).length=j:=by simp[hvl]
   have ha:=fun S=>YdR (S:=S) (s:=62) (z:=5) (r:=Yam ⟨b1,b2,b3⟩) hil (by unfold lim;omega)
   simp only[go_sem,eSt] at r1 r2 r3 m0 ha
   simp only[go_sem,t0,t4,t50,t49,c1,m0,m4,a62,r1,r2,r3,YcU,ha,hinc,JhF]
   refine⟨j+1,by omega,by omega,fun i h1 h2=>?_,rfl,fun i h1 h2=>?_,fun i h1=>?_,vs++[⟨b1,b2,b3⟩],x3,by simp[hvl],l3,hone,rfl,rfl,by rw[GF];rfl⟩
   ·rw[Je5 (by simpa using h1),Je5 (by simpa using h2)];exact hρ i h1 h2
   ·rw[Je5 (by simpa using h2),Je5 (by simpa using h1),Je5 (by simpa using h1),Je5 (by simpa using h1)];exact hμ i h1 h2
   ·rw[Je5 (by simpa using h1)];exact hA i h1
def shP (s:Shd) (e d:V):List V:=[iz s.id,iz s.epoch,.str s.span.lo,.str s.span.hi,iz s.phase,e,iz s.mark.wall,iz s.mark.tick,iz s.mark.node,iz s.top.wall,iz s.top.tick,iz s.top.node,d,iz s.hold,iz s.seen,iz s.move,iz s.closed]
def zSh:List V:=[.int .i64 0,.int .i64 0,.str [],.str [],.int .i64 0,.slice 2 [],.int .i64 0,.int .i64 0,.int .i64 0,.int .i64 0,.int .i64 0,.int .i64 0,.slice 11 [],.int .i64 0,.int .i64 0,.int .i64 0,.int .i64 0]
theorem scrub_nil {Wa:List Nat} {s z n:Nat} (h:Wa.contains s=false):Jv Wa (nilOr s z n)=nilOr s z n:=by
 unfold nilOr;split
 ·rfl
 ·simp only[Jv,h,Gm,Gu]
theorem Ydn {S:St} {v:Nat} {Wv Wa:List Nat} {x:Shd} {s z n s' z' n':Nat} (hm:S.μ v=some (shP x (nilOr s z n) (nilOr s' z' n'),false)) (hv:Wv.contains v=false) (h:Wa.contains s=false) (h':Wa.contains s'=false) :
  (S.head [] [] Wv Wa).μ v=some (shP x (nilOr s z n) (nilOr s' z' n'),false):=by
 show (if Wv.contains v then none else (S.μ v).map _)=_
 rw[hv,hm]
 simp only[Gm,Gu,Option.map_some]
 have:(shP x (nilOr s z n) (nilOr s' z' n')).map (Jv Wa)=shP x (nilOr s z n) (nilOr s' z' n'):=by
  simp only[shP,GC,Gk,scrub_nil h,scrub_nil h']
  rfl
 rw[this]
 cases Wa.isEmpty<;>rfl
theorem Ybr {S:St} {Wv Wa:List Nat} {x:Nat} (h:Wa.contains x=false):(S.head [] [] Wv Wa).A x=S.A x:=by
 show (if Wa.contains x then none else S.A x)=S.A x
 rw[h];rfl
theorem YiP {S:St} {Wv Wa:List Nat} {x:Nat} (h:Wa.contains x=true):(S.head [] [] Wv Wa).A x=none:=by
 show (if Wa.contains x then none else S.A x)=none
 rw[h];rfl
theorem YgS {s z n:Nat}:(Jc (nilOr s z n)).all (fun t=>t == s)=true:=by
 unfold nilOr;split<;>simp[Jc]
structure E467 (S:St) (y:Rd) (sh:Shd) (m j:Nat) (vs:List Entr):Prop where
 r0:S.ρ 0=.lref 0 0
 r2:S.ρ 2=.lref 2 0
 r3:S.ρ 3=.lref 3 0
 m0:S.μ 0=some (eRd y,false)
 m2:S.μ 2=some (zSh,false)
 m3:S.μ 3=some (shP sh (nilOr 69 2 j) (nilOr 95 11 0),false)
 m5:S.μ 5=none
 a69:S.A 69=YcL 2 (vs.map YaK) j
 a95:S.A 95=none
 vl:vs.length=j
theorem YlG (h464:H464 Pg) (h493:H493 Pg) (h492:H492 Pg) (h466:H466 Pg) {y:Rd} {m:Nat} {sh:Shd} (hy:y.1.length≤2 ^ 20) (hm:m≤2 ^ 20) {S:St} {Q:Ex→St→Prop}
  (hS:E467 S y sh m 0 []) (s42:S.ρ 42=iz m) (s43:S.ρ 43=iz 0) (n4:S.μ 4=none) (a62:S.A 62=none)
  (hq:∀S',E467 S' (Yaz (gE false) m y).2 sh m m (Yaz (gE false) m y).1→Q .norm S'):Wp (K' Pg) l467_0 S (Blk 0 Q):=by
 unfold l467_0
 refine JiJ (fun (j:Nat) S'=>j≤m∧S'.ρ 42=iz m∧S'.ρ 43=iz j∧S'.μ 4=none∧S'.A 62=none∧∃(vs:List Entr) (y':Rd),y'.1.length≤2 ^ 20∧
  Yaz (gE false) m y=(vs++(Yaz (gE false) (m-j) y').1,(Yaz (gE false) (m-j) y').2)∧E467 S' y' sh m j vs) (fun j=>m-j) 0 ?_ ?_
 ·exact⟨GE _,Jiu s42 rfl,Jiu s43 rfl,Jis (.inl n4),YiP rfl,[],y,hy,rfl,Jiu hS.r0 rfl,Jiu hS.r2 rfl,Jiu hS.r3 rfl,Jit hS.m0 rfl rfl,Jit hS.m2 rfl rfl,Ydn hS.m3 rfl rfl rfl,Jis (.inl hS.m5),(Ybr rfl).trans hS.a69,(Ybr rfl).trans hS.a95,rfl⟩
 ·intro j S' ⟨hj,t42,t43,m4,a62,vs,y',hyl,hrep,hE⟩
  obtain⟨t0,t2,t3,m0,m2,m3,m5,a69,a95,hvl⟩:=hE
  cases c1:decide ((j:Int)<(m:Int)) with
  |false=>
   have hjm:j=m:=by have:=Gb c1;omega
   subst hjm
   have he:=Yfz hrep
   simp only[go_sem,t42,t43,c1]
   rw[he] at hq
   exact hq _ ⟨by simp only[go_sem,t0],by simp only[go_sem,t2],by simp only[go_sem,t3],m0,m2,m3,m5,a69,a95,hvl⟩
  |true=>
   have hlt:=Yj c1
   have hinc:=inc64q (i:=j) (by omega)
   have hone:=rep_one hlt hrep
   have l1:(rd tkT [] y').2.1.length≤2 ^ 20:=GJ ((cT (D:=false)).len y') hyl
   have k1:=K492 h492 y' (by omega)
   have k2:=K466 h466 (rd tkT [] y').2 (by omega)
   have hR:gE false y'=(⟨(rd tkT [] y').1,(Yaz (gV false) (rL (rd tkT [] y').2).1 (rL (rd tkT [] y').2).2).1⟩,(Yaz (gV false) (rL (rd tkT [] y').2).1 (rL (rd tkT [] y').2).2).2):=rfl
   rw[hR] at hone
   generalize rd tkT [] y'=p1 at *
   obtain⟨b1,x1⟩:=p1
   simp only at k2 hone l1
   have hl2:(rL x1).1≤2 ^ 20∧(rL x1).2.1.length≤2 ^ 20:=by
    have hc:=(codN).len x1;unfold rL;split
    ·exact⟨GE _,by simp only;omega⟩
    ·exact⟨by omega,by omega⟩
   generalize rL x1=p2 at *
   obtain⟨n2,x2⟩:=p2
   simp only at k2 hone hl2
   have r1:=fun (S:St) (hm:S.μ 0=some (eRd y',false))=>Qc (p:=21200) k1 hm
   have r2:=fun (S:St) (hm:S.μ 0=some (eRd x1,false))=>Qc (p:=21300) k2 hm
   simp only[go_sem] at r1 r2 m0
   simp only[go_sem,t0,t42,t43,c1,m0,m4,r1,r2]
   refine Yme h464 h493 h492 (y:=x2) (m:=n2) (key:=b1) hl2.2 hl2.1 (by simp only[go_sem,t0]) (by simp only[go_sem]) (by simp only[go_sem]) (by simp only[go_sem]) (by simp only[go_sem]) (by simp only[go_sem]) a62 fun S2 q1 q2 q3 q4 q5 q6 q7=>?_
   have u0:S2.ρ 0=.lref 0 0:=by rw[q1 0 (by omega) (by omega)];simp only[go_sem,t0]
   have u2:S2.ρ 2=.lref 2 0:=by rw[q1 2 (by omega) (by omega)];simp only[go_sem,t2]
   have u3:S2.ρ 3=.lref 3 0:=by rw[q1 3 (by omega) (by omega)];simp only[go_sem,t3]
   have u4:S2.ρ 4=.lref 4 0:=by rw[q1 4 (by omega) (by omega)];simp only[go_sem]
   have u42:S2.ρ 42=iz m:=by rw[q1 42 (by omega) (by omega)];simp only[go_sem,t42]
   have u43:S2.ρ 43=iz j:=by rw[q1 43 (by omega) (by omega)];simp only[go_sem,t43]
   have v2:S2.μ 2=some (zSh,false):=by rw[q6 2 (by omega) (by omega)];simp only[go_sem,m2]
   have v3:S2.μ 3=some (shP sh (nilOr 69 2 j) (nilOr 95 11 0),false):=by rw[q6 3 (by omega) (by omega)];simp only[go_sem,m3]
   have v5:S2.μ 5=none:=by rw[q6 5 (by omega) (by omega)];simp only[go_sem,m5]
   have w69:S2.A 69=YcL 2 (vs.map YaK) j:=(q7 69 (by omega)).trans a69
   have w95:S2.A 95=none:=(q7 95 (by omega)).trans a95
   generalize hz:Yaz (gV false) n2 x2=z at *
   obtain⟨z1,z2⟩:=z
   simp only at q2 q4 q5 hone
   have hch:=YbI q4 (by simp[q5])
   have hst:=YgS (s:=62) (z:=5) (n:=n2)
   have hil:(vs.map YaK).length=j:=by simp[hvl]
   have ha:=fun S=>YdR (S:=S) (s:=69) (z:=2) (r:=YaK ⟨b1,z1⟩) hil (by unfold lim;omega)
   simp only[go_sem,Ye] at ha
   simp only[shP] at v3
   simp only[go_sem,u3,u4,u42,u43,q3,v3,w69,hch,hst,YcU,ha,hinc]
   have hz2:z2.1.length≤2 ^ 20:=by
    have:=Yd6 (cV (D:=false)) (k:=n2) (x:=x2);rw[hz] at this;exact GJ this hl2.2
   refine⟨j+1,by omega,by omega,rfl,vs++[⟨b1,z1⟩],z2,hz2,hone,Jiu (by simp only[go_sem,u0]) rfl,Jiu (by simp only[go_sem,u2]) rfl,Jiu (by simp only[go_sem,u3]) rfl,Jit (by simp only[go_sem,q2]) rfl rfl,Jit (by simp only[go_sem,v2,zSh]) rfl rfl,
    Ydn (by simp only[go_sem];rfl) rfl rfl rfl,Jis (.inl (by simp only[go_sem,v5])),(Ybr rfl).trans (by simp only[go_sem,GF];rfl),(Ybr rfl).trans (by simp only[go_sem,w95]),by simp[hvl]⟩
structure P467 (S:St) (y:Rd) (sh:Shd) (es:List Entr) (ds:List Done) (j:Nat):Prop where
 r0:S.ρ 0=.lref 0 0
 r2:S.ρ 2=.lref 2 0
 r3:S.ρ 3=.lref 3 0
 m0:S.μ 0=some (eRd y,false)
 m2:S.μ 2=some (zSh,false)
 m3:S.μ 3=some (shP sh (nilOr 69 2 es.length) (nilOr 95 11 j),false)
 a69:S.A 69=YcL 2 (es.map YaK) es.length
 a95:S.A 95=YcL 11 (ds.map YQ) j
 vl:ds.length=j
theorem YkL (h464:H464 Pg) (h493:H493 Pg) (h492:H492 Pg) (h465:H465 Pg) {y:Rd} {m:Nat} {sh:Shd} {es:List Entr} (hy:y.1.length≤2 ^ 20) (hm:m≤2 ^ 20) {S:St} {Q:Ex→St→Prop}
  (hS:P467 S y sh es [] 0) (s73:S.ρ 73=iz m) (s74:S.ρ 74=iz 0) (n5:S.μ 5=none)
  (hq:∀S',P467 S' (Yaz (gD false) m y).2 sh es (Yaz (gD false) m y).1 m→Q .norm S'):Wp (K' Pg) l467_2 S (Blk 4 Q):=by
 unfold l467_2
 refine JiJ (fun (j:Nat) S'=>j≤m∧S'.ρ 73=iz m∧S'.ρ 74=iz j∧S'.μ 5=none∧∃(vs:List Done) (y':Rd),y'.1.length≤2 ^ 20∧
  Yaz (gD false) m y=(vs++(Yaz (gD false) (m-j) y').1,(Yaz (gD false) (m-j) y').2)∧P467 S' y' sh es vs j) (fun j=>m-j) 0 ?_ ?_
 ·exact⟨GE _,Jiu s73 rfl,Jiu s74 rfl,Jis (.inl n5),[],y,hy,rfl,Jiu hS.r0 rfl,Jiu hS.r2 rfl,Jiu hS.r3 rfl,Jit hS.m0 rfl rfl,Jit hS.m2 rfl rfl,Ydn hS.m3 rfl rfl rfl,(Ybr rfl).trans hS.a69,(Ybr rfl).trans hS.a95,rfl⟩
 ·intro j S' ⟨hj,t73,t74,m5,vs,y',hyl,hrep,hE⟩
  obtain⟨t0,t2,t3,m0,m2,m3,a69,a95,hvl⟩:=hE
  cases c1:decide ((j:Int)<(m:Int)) with
  |false=>
   have hjm:j=m:=by have:=Gb c1;omega
   subst hjm
   have he:=Yfz hrep
   simp only[go_sem,t73,t74,c1]
   rw[he] at hq
   exact hq _ ⟨by simp only[go_sem,t0],by simp only[go_sem,t2],by simp only[go_sem,t3],m0,m2,m3,a69,a95,hvl⟩
  |true=>
   have hlt:=Yj c1
   have hinc:=inc64q (i:=j) (by omega)
   have hone:=rep_one hlt hrep
   have le:∀{α:Type} {R:Rd→α×Rd} {W:α→List UInt8} {P:α→Prop},Cod R W P→∀{x:Rd},x.1.length≤2 ^ 20→(R x).2.1.length≤2 ^ 20:=fun h x hx=>GJ (h.len x) hx
   have k1:=K465 h465 y' (by omega)
   have hR:gD false y'=(mkD ((rd (tk 9) 0 y').1,(rd (tk 9) 0 (rd (tk 9) 0 y').2).1,(rd (tk 9) 0 (rd (tk 9) 0 (rd (tk 9) 0 y').2).2).1,(rd tkS zS (rd (tk 9) 0 (rd (tk 9) 0 (rd (tk 9) 0 y').2).2).2).1,
     (rd tkF false (rd tkS zS (rd (tk 9) 0 (rd (tk 9) 0 (rd (tk 9) 0 y').2).2).2).2).1,(rd tkT [] (rd tkF false (rd tkS zS (rd (tk 9) 0 (rd (tk 9) 0 (rd (tk 9) 0 y').2).2).2).2).2).1),
     (rd tkT [] (rd tkF false (rd tkS zS (rd (tk 9) 0 (rd (tk 9) 0 (rd (tk 9) 0 y').2).2).2).2).2).2):=rfl
   rw[hR] at hone
   have l1:=le codN hyl
   generalize rd (tk 9) 0 y'=p1 at *
   obtain⟨b1,x1⟩:=p1
   simp only at hone l1
   have k2:=K465 h465 x1 (by omega)
   have l2:=le codN l1
   generalize rd (tk 9) 0 x1=p2 at *
   obtain⟨b2,x2⟩:=p2
   simp only at hone l2
   have k3:=K465 h465 x2 (by omega)
   have l3:=le codN l2
   generalize rd (tk 9) 0 x2=p3 at *
   obtain⟨b3,x3⟩:=p3
   simp only at hone l3
   have k4:=K464 h464 x3 (by omega)
   have l4:=le (cS (D:=false)) l3
   change (rd tkS zS x3).2.1.length≤2 ^ 20 at l4
   generalize rd tkS zS x3=p4 at *
   obtain⟨b4,x4⟩:=p4
   simp only at hone l4
   have k5:=K493 h493 x4 (by omega)
   have l5:=le (cF (D:=false)) l4
   change (rd tkF false x4).2.1.length≤2 ^ 20 at l5
   generalize rd tkF false x4=p5 at *
   obtain⟨b5,x5⟩:=p5
   simp only at hone l5
   have k6:=K492 h492 x5 (by omega)
   have l6:=le (cT (D:=false)) l5
   change (rd tkT [] x5).2.1.length≤2 ^ 20 at l6
   generalize rd tkT [] x5=p6 at *
   obtain⟨b6,x6⟩:=p6
   simp only at hone l6
   have r1:=fun (S:St) (hm:S.μ 0=some (eRd y',false))=>Qc (p:=21800) k1 hm
   have r2:=fun (S:St) (hm:S.μ 0=some (eRd x1,false))=>Qc (p:=21900) k2 hm
   have r3:=fun (S:St) (hm:S.μ 0=some (eRd x2,false))=>Qc (p:=22000) k3 hm
   have r4:=fun (S:St) (hm:S.μ 0=some (eRd x3,false))=>Qc (p:=22100) k4 hm
   have r5:=fun (S:St) (hm:S.μ 0=some (eRd x4,false))=>Qc (p:=22200) k5 hm
   have r6:=fun (S:St) (hm:S.μ 0=some (eRd x5,false))=>Qc (p:=22300) k6 hm
   have hil:(vs.map YQ).length=j:=by simp[hvl]
   have ha:=fun S=>YdR (S:=S) (s:=95) (z:=11) (r:=YQ (mkD (b1,b2,b3,b4,b5,b6))) hil (by unfold lim;omega)
   have v3:=m3
   simp only[shP] at v3
   simp only[go_sem,eSt,mkD,Gk] at r1 r2 r3 r4 r5 r6 m0 ha
   simp only[go_sem,t0,t3,t73,t74,c1,m0,m5,v3,a95,r1,r2,r3,r4,r5,r6,YcU,ha,hinc]
   refine⟨j+1,by omega,by omega,rfl,vs++[mkD (b1,b2,b3,b4,b5,b6)],x6,l6,hone,Jiu (by simp only[go_sem,t0]) rfl,Jiu (by simp only[go_sem,t2]) rfl,Jiu (by simp only[go_sem,t3]) rfl,Jit (by simp only[go_sem]) rfl rfl,Jit (by simp only[go_sem,m2,zSh]) rfl rfl,
    Ydn (by simp only[go_sem];rfl) rfl rfl rfl,(Ybr rfl).trans (by simp only[go_sem,a69]),(Ybr rfl).trans (by simp only[go_sem,GF];rfl),by simp[hvl]⟩
theorem Ykh {x:Rd} (hx:x.1.length≤2 ^ 20):(rL x).1≤2 ^ 20∧(rL x).2.1.length≤2 ^ 20:=by
 have hc:=(codN).len x;unfold rL;split
 ·exact⟨GE _,by simp only;omega⟩
 ·exact⟨by omega,by omega⟩
def H467 (Pg:PgT):Prop:=Pg 467=some (.codeR F467 0)∧H464 Pg∧H493 Pg∧H492 Pg∧H465 Pg∧H466 Pg
theorem K467 (h:H467 Pg) (x:Rd) (hx:x.1.length≤2 ^ 20):K' Pg 467 [.tuple (.lref 0 0::eRd x)]=some (.tuple [.agg (Yh (gSh false x).1),.tuple (eRd (gSh false x).2)]):=by
 obtain⟨h,h464,h493,h492,h465,h466⟩:=h;have le:∀{α:Type} {R:Rd→α×Rd} {W:α→List UInt8} {P:α→Prop},Cod R W P→∀{x:Rd},x.1.length≤2 ^ 20→(R x).2.1.length≤2 ^ 20:=fun h x hx=>GJ (h.len x) hx;have hR:∀{a1 a2 a3 a4 a5 a6 a7:Nat} {b1 b2:List UInt8} {c1 c2:Stamp} {x1 x2 x3 x4 x5 x6 x7 x8 x9 x10 x11:Rd},rd (tk 9) 0 x=(a1,x1)→rd (tk 9) 0 x1=(a2,x2)→rd (tk 9) 0 x2=(a3,x3)→rd (tk 9) 0 x3=(a4,x4)→rd (tk 9) 0 x4=(a5,x5)→rd (tk 9) 0 x5=(a6,x6)→rd (tk 9) 0 x6=(a7,x7)→
   rd tkT [] x7=(b1,x8)→rd tkT [] x8=(b2,x9)→rd tkS zS x9=(c1,x10)→rd tkS zS x10=(c2,x11)→
   gSh false x=(mkS (a1,a2,a3,a4,a5,a6,a7,b1,b2,c1,c2,(Yaz (gE false) (rL x11).1 (rL x11).2).1,(Yaz (gD false) (rL (Yaz (gE false) (rL x11).1 (rL x11).2).2).1 (rL (Yaz (gE false) (rL x11).1 (rL x11).2).2).2).1),(Yaz (gD false) (rL (Yaz (gE false) (rL x11).1 (rL x11).2).2).1 (rL (Yaz (gE false) (rL x11).1 (rL x11).2).2).2).2):=by
  intro a1 a2 a3 a4 a5 a6 a7 b1 b2 c1 c2 x1 x2 x3 x4 x5 x6 x7 x8 x9 x10 x11 e1 e2 e3 e4 e5 e6 e7 e8 e9 e10 e11
  have d1:gN false=rd (tk 9) 0:=rfl
  have d2:gT false=rd tkT []:=rfl
  have d3:gS false=rd tkS zS:=rfl
  simp only[gSh,mapR,pairR,d1,d2,d3,e1,e2,e3,e4,e5,e6,e7,e8,e9,e10,e11]
  rfl
 have k1:=K465 h465 x (by omega);have l1:(rd (tk 9) 0 x).2.1.length≤2 ^ 20:=le codN hx;cases e1:rd (tk 9) 0 x with
 |mk a1 x1=>
 rw[e1] at k1 l1;simp only at k1 l1;have k2:=K465 h465 x1 (by omega);have l2:(rd (tk 9) 0 x1).2.1.length≤2 ^ 20:=le codN l1;cases e2:rd (tk 9) 0 x1 with
 |mk a2 x2=>
 rw[e2] at k2 l2;simp only at k2 l2;have k3:=K465 h465 x2 (by omega);have l3:(rd (tk 9) 0 x2).2.1.length≤2 ^ 20:=le codN l2;cases e3:rd (tk 9) 0 x2 with
 |mk a3 x3=>
 rw[e3] at k3 l3;simp only at k3 l3;have k4:=K465 h465 x3 (by omega);have l4:(rd (tk 9) 0 x3).2.1.length≤2 ^ 20:=le codN l3;cases e4:rd (tk 9) 0 x3 with
 |mk a4 x4=>
 rw[e4] at k4 l4;simp only at k4 l4;have k5:=K465 h465 x4 (by omega);have l5:(rd (tk 9) 0 x4).2.1.length≤2 ^ 20:=le codN l4;cases e5:rd (tk 9) 0 x4 with
 |mk a5 x5=>
 rw[e5] at k5 l5;simp only at k5 l5;have k6:=K465 h465 x5 (by omega);have l6:(rd (tk 9) 0 x5).2.1.length≤2 ^ 20:=le codN l5;cases e6:rd (tk 9) 0 x5 with
 |mk a6 x6=>
 rw[e6] at k6 l6;simp only at k6 l6;have k7:=K465 h465 x6 (by omega);have l7:(rd (tk 9) 0 x6).2.1.length≤2 ^ 20:=le codN l6;cases e7:rd (tk 9) 0 x6 with
 |mk a7 x7=>
 rw[e7] at k7 l7;simp only at k7 l7;have k8:=K492 h492 x7 (by omega);have l8:(rd tkT [] x7).2.1.length≤2 ^ 20:=le (cT (D:=false)) l7;cases e8:rd tkT [] x7 with
 |mk b1 x8=>
 rw[e8] at k8 l8;simp only at k8 l8;have k9:=K492 h492 x8 (by omega);have l9:(rd tkT [] x8).2.1.length≤2 ^ 20:=le (cT (D:=false)) l8;cases e9:rd tkT [] x8 with
 |mk b2 x9=>
 rw[e9] at k9 l9;simp only at k9 l9;have k10:=K464 h464 x9 (by omega);have l10:(rd tkS zS x9).2.1.length≤2 ^ 20:=le (cS (D:=false)) l9;cases e10:rd tkS zS x9 with
 |mk c1 x10=>
 rw[e10] at k10 l10;simp only at k10 l10;have k11:=K464 h464 x10 (by omega);have l11:(rd tkS zS x10).2.1.length≤2 ^ 20:=le (cS (D:=false)) l10;cases e11:rd tkS zS x10 with
 |mk c2 x11=>
 rw[e11] at k11 l11;simp only at k11 l11;rw[hR e1 e2 e3 e4 e5 e6 e7 e8 e9 e10 e11];have kL:=K466 h466 x11 (by omega);have lL:=Ykh l11;generalize rL x11=pL at *
 obtain⟨m,y⟩:=pL;simp only at kL lL ⊢;have lE:=GJ (Yd6 (cE (D:=false)) (k:=m) (x:=y)) lL.2;generalize hE:Yaz (gE false) m y=pE at *
 obtain⟨es,y2⟩:=pE;simp only at lE ⊢;have kM:=K466 h466 y2 (by omega);have lM:=Ykh lE;generalize rL y2=pM at *
 obtain⟨m2,y3⟩:=pM;simp only at kM lM ⊢;generalize hD:Yaz (gD false) m2 y3=pD at *
 obtain⟨ds,y4⟩:=pD;simp only;refine YgY [.cell 2 (some 17)] (ws:=[.agg _]) h rfl rfl (YaX _) (YaX _) (YdM _) fun S ⟨r0,r,hm,m0,a0⟩=>?_;have n2:=m0 2 rfl;have n3:=m0 3 rfl;have n4:=m0 4 rfl;have n5:=m0 5 rfl;have r1:=fun (S:St) (hm:S.μ 0=some (eRd x,false))=>Qc (p:=20000) k1 hm;have r2:=fun (S:St) (hm:S.μ 0=some (eRd x1,false))=>Qc (p:=20100) k2 hm;have r3:=fun (S:St) (hm:S.μ 0=some (eRd x2,false))=>Qc (p:=20200) k3 hm;have r4:=fun (S:St) (hm:S.μ 0=some (eRd x3,false))=>Qc (p:=20300) k4 hm;have r5:=fun (S:St) (hm:S.μ 0=some (eRd x4,false))=>Qc (p:=20400) k5 hm;have r6:=fun (S:St) (hm:S.μ 0=some (eRd x5,false))=>Qc (p:=20500) k6 hm;have r7:=fun (S:St) (hm:S.μ 0=some (eRd x6,false))=>Qc (p:=20600) k7 hm;have r8:=fun (S:St) (hm:S.μ 0=some (eRd x7,false))=>Qc (p:=20700) k8 hm;have r9:=fun (S:St) (hm:S.μ 0=some (eRd x8,false))=>Qc (p:=20800) k9 hm;have r10:=fun (S:St) (hm:S.μ 0=some (eRd x9,false))=>Qc (p:=20900) k10 hm;have r11:=fun (S:St) (hm:S.μ 0=some (eRd x10,false))=>Qc (p:=21000) k11 hm;have rA:=fun (S:St) (hm:S.μ 0=some (eRd x11,false))=>Qc (p:=21100) kL hm;have rB:=fun (S:St) (hm:S.μ 0=some (eRd y2,false))=>Qc (p:=21700) kM hm;simp only[go_sem,eSt] at hm r1 r2 r3 r4 r5 r6 r7 r8 r9 r10 r11 rA rB;simp only[F467,c467,go_sem,r0,hm,n2,n3,r1,r2,r3,r4,r5,r6,r7,r8,r9,r10,r11,rA];refine YlG h464 h493 h492 h466 (y:=y) (m:=m) (sh:=mkS (a1,a2,a3,a4,a5,a6,a7,b1,b2,c1,c2,[],[])) lL.2 lL.1 ⟨by simp only[go_sem,r0],by simp only[go_sem],by simp only[go_sem],by simp only[go_sem],by simp only[go_sem,zSh],by simp only[go_sem];rfl,by simp only[go_sem,n5],a0 69,a0 95,rfl⟩ (by simp only[go_sem]) (by simp only[go_sem]) (by simp only[go_sem,n4]) (a0 62) fun S1 hE1=>?_;rw[hE] at hE1;obtain⟨t0,t2,t3,u0,u2,u3,u5,w69,w95,hvl⟩:=hE1;simp only at hvl w69 u0;simp only[go_sem] at u0;simp only[go_sem,t0,u0,rB];refine YkL h464 h493 h492 h465 (y:=y3) (m:=m2) (sh:=mkS (a1,a2,a3,a4,a5,a6,a7,b1,b2,c1,c2,[],[])) (es:=es) lM.2 lM.1 ⟨by simp only[go_sem,t0],by simp only[go_sem,t2],by simp only[go_sem,t3],by simp only[go_sem],by simp only[go_sem,u2],by simp only[go_sem,u3,hvl],by simp only[go_sem,w69,hvl],by simp only[go_sem,w95];rfl,rfl⟩ (by simp only[go_sem]) (by simp only[go_sem]) (by simp only[go_sem,u5]) fun S2 hD1=>?_;rw[hD] at hD1;obtain⟨q0,q2,q3,v0,v2,v3,z69,z95,hdl⟩:=hD1;simp only at hdl z95 v0;have hc1:=YbI z69 (by simp);have hc2:=YbI z95 (by simp[hdl]);simp only[shP,mkS] at v3;simp only[zSh] at v2;simp only[go_sem,q2,q3,v2,v3];refine⟨v0,_,rfl,?_⟩;simp only[go_sem,hc1,hc2,mkS]
def Yco (l:List Entr) (k:List UInt8) (t:Stamp):Option Ver:=if ixR l then (match (if YW k l then l[YL k l]? else none) with|some e=>atC t e.chain|none=>none) else none
def fault (e:Int):Ans:=⟨e,⟨0,0,0⟩,false,[],[],[],false⟩
def YF (s:Shd) (k:List UInt8) (t:Stamp):Ans:=match Yco s.ents k t with
 |some v=>⟨0,v.at_,!v.gone,v.val,[],[],false⟩
 |none=>fault 0
def wrR (r:Rq):Bool:=decide (r.kind=1)||(decide (r.kind=2)||decide (r.kind=3))
def YcY (s:Shd) (r:Rq):Bool:=(decide (r.key=[])&&decide (s.span.lo=[]))||Yas s.span r.key
def Ya5 (o:Ans) (r:Rq):Bool:=decide (r.kind=3)&&(!(o.found == r.had)||(o.found&&!decide (o.val=r.old)))
def YaE (o:Ans) (r:Rq) (now:Stamp):Ans:=if Ya5 o r then ⟨15,now,o.found,o.val,[],[],false⟩ else ⟨0,now,o.found,[],[],[],false⟩
def YT (o:Ans) (s:Shd) (r:Rq) (now:Stamp):List Entr×Int:=
 if Ya5 o r then (s.ents,0) else if !decide (r.kind=2) then YaV s.ents r.key ⟨now,false,r.value⟩ else if o.found then YaV s.ents r.key ⟨now,true,[]⟩ else (s.ents,0)
def YH (c:Cel) (s:Shd) (r:Rq) (now:Stamp):Cel×Ans:=
 if Yag s.done r.client r.req=2 then (c,((Yb7 s.done r.client).getD YK).ans)
 else if Yag s.done r.client r.req=3 then (c,fault 10)
 else if Yb now c.top≤0 then (c,fault 1)
 else if (YT (YF s r.key c.top) s r now).2≠0 then (c,fault (YT (YF s r.key c.top) s r now).2)
 else if (Yay s.done ⟨r.client,r.req,YaE (YF s r.key c.top) r now⟩).2≠0 then (c,fault (Yay s.done ⟨r.client,r.req,YaE (YF s r.key c.top) r now⟩).2)
 else (⟨putC c.shards {s with ents:=(YT (YF s r.key c.top) s r now).1,done:=(Yay s.done ⟨r.client,r.req,YaE (YF s r.key c.top) r now⟩).1},now,c.dropped⟩,YaE (YF s r.key c.top) r now)
def onP (s:Shd) (r:Rq):Bool:=!decide (s.span.hi=[])&&(decide (r.hi=[])||ltS s.span.hi r.hi)
def hiP (s:Shd) (r:Rq):List UInt8:=if onP s r then s.span.hi else r.hi
def Yfj (s:Shd) (r:Rq):Ans:=
 let p:=YbC s.ents r.key (hiP s r) r.at_ r.limit
 if onP s r&&!p.2.2 then ⟨0,r.at_,false,[],p.1,hiP s r,true⟩ else ⟨0,r.at_,false,[],p.1,p.2.1,p.2.2⟩
def Ygq (s:Shd) (r:Rq):Ans:=match Yco s.ents r.key r.at_ with
 |some v=>⟨0,r.at_,!v.gone,v.val,[],[],false⟩
 |none=>⟨0,r.at_,false,[],[],[],false⟩
def Ya4 (c:Cel) (s:Shd) (r:Rq) (wall:Int):Cel×Ans:=
 if Yb r.at_ s.mark<0 then (c,fault 13) else if wall<r.at_.wall-1000 then (c,fault 12)
 else (⟨c.shards,later c.top r.at_,c.dropped⟩,if r.kind=5 then Ygq s r else Yfj s r)
def doC (c:Cel) (id epoch:Int) (r:Rq) (now:Stamp) (wall:Int):Cel×Ans:=
 if Yy c&&(Yr id&&(Yr epoch&&(nou wall&&(Ya now&&rqR r)))) then
  match YY c.shards id with
  |none=>(c,fault 10)
  |some s=>if !decide (s.epoch=epoch)||!YcY s r then (c,fault 10)
   else if !decide (s.phase=1)||(wrR r&&!decide (s.hold=0)) then (c,fault 11)
   else if wrR r then YH c s r now else if r.kind=4 then (c,YF s r.key c.top) else Ya4 c s r wall
 else (c,fault 1)
def YP (c:Cel) (id:Int):Option Shd:=if Yy c&&Yr id then YY c.shards id else none
def YcC (c:Cel) (s:Shd):Cel:=⟨putC c.shards s,c.top,c.dropped⟩
def Ybk (c:Cel) (id epoch lease:Int):Cel×Bool:=match YP c id with
 |none=>(c,false)
 |some s=>if (Yr epoch&&Yr lease)&&(decide (s.epoch=epoch)&&(decide (s.phase=1)&&(decide (s.seen<lease)&&(decide (s.hold=0)||decide (s.hold=lease))))) then (YcC c {s with hold:=lease},true) else (c,false)
def Ybp (c:Cel) (id lease:Int) (t:Stamp):Cel×Bool:=match YP c id with
 |none=>(c,false)
 |some s=>if Yr lease&&Ya t then (if lease≤s.seen then (c,true) else (⟨putC c.shards {s with seen:=lease,hold:=if s.hold=lease then 0 else s.hold},later c.top t,c.dropped⟩,true)) else (c,false)
def Yad (s:Shd) (move:Int):Bool:=decide (s.phase=2)&&decide (s.move=move)
def YbK (s:Shd) (move:Int):Bool:=decide (s.phase=3)&&decide (s.move=move)
def YO (c:Cel) (id epoch move:Int):Cel×Bool:=match YP c id with
 |none=>(c,false)
 |some s=>if Yr epoch&&Yr move then (if Yad s move then (c,true)
   else if decide (s.epoch=epoch)&&(decide (s.phase=1)&&(decide (s.hold=0)&&decide (s.closed<move))) then (YcC c {s with phase:=2,move:=move,top:=c.top},true) else (c,false)) else (c,false)
def Ya1 (c:Cel) (id move:Int):Cel×Bool:=match YP c id with
 |none=>(c,false)
 |some s=>if Yr move then (if decide (move≤s.closed)||(decide (s.phase=2)&&!decide (s.move=move)) then (c,true)
   else (YcC c {s with closed:=move,phase:=if Yad s move then 1 else s.phase},true)) else (c,false)
def Yac (c:Cel) (id move:Int):Cel×Bool:=if Yy c&&(Yr id&&Yr move) then (match YY c.shards id with
 |none=>(c,true)
 |some s=>if Yad s move then (⟨YbF c.shards id,c.top,c.dropped⟩,true) else (c,false)) else (c,false)
def installC (c:Cel) (s:Shd) (move:Int):Cel×Bool:=if Yy c&&Yr move then (match YY c.shards s.id with
 |some o=>(c,YbK o move)
 |none=>if decide (c.dropped<move)&&(!decide (c.shards.length=8)&&(shR s&&(Yad s move&&uptoE s s.top))) then (⟨putC c.shards {s with phase:=3},later c.top s.top,c.dropped⟩,true) else (c,false)) else (c,false)
def Yat (c:Cel) (id move epoch:Int):Cel×Bool:=match YP c id with
 |none=>(c,false)
 |some s=>if Yr move&&Yr epoch then (if decide (s.phase=1)&&(decide (s.epoch=epoch)&&decide (s.closed=move)) then (c,true)
   else if YbK s move&&decide (s.epoch<epoch) then (⟨putC c.shards {s with phase:=1,epoch:=epoch,closed:=move},c.top,max c.dropped move⟩,true) else (c,false)) else (c,false)
def Ybn (c:Cel) (id move:Int):Cel×Bool:=if Yy c&&(Yr id&&Yr move) then
  (⟨(match YY c.shards id with|some s=>if YbK s move then YbF c.shards id else c.shards|none=>c.shards),c.top,max c.dropped move⟩,true) else (c,false)
def YbB (s:Shd) (epoch:Int):Bool:=decide (s.epoch=epoch)&&(decide (s.phase=1)&&decide (s.hold=0))
def YaD (c:Cel) (id epoch:Int) (k:List UInt8) (other next:Int):Cel×Bool:=
 if Yy c&&(Yr id&&(Yr epoch&&(Yr other&&Yr next))) then (match YY c.shards id with
  |none=>(c,false)
  |some a=>match YY c.shards other with
   |some b=>(c,decide (a.epoch=next)&&(decide (a.span.hi=k)&&decide (b.epoch=next)))
   |none=>if YbB a epoch&&(decide (epoch<next)&&(decide (a.closed<next)&&(!decide (c.shards.length=8)&&decide ((YaF a.span k).2.2=0)))) then
     (⟨putC (putC c.shards {a with ents:=(YcH a.ents k).1,span:=(YaF a.span k).1,epoch:=next}) {a with id:=other,ents:=(YcH a.ents k).2,span:=(YaF a.span k).2.1,epoch:=next},c.top,c.dropped⟩,true)
    else (c,false)) else (c,false)
def YaB (c:Cel) (id other epoch next:Int):Cel×Bool:=
 if Yy c&&(Yr id&&(Yr other&&(Yr epoch&&Yr next))) then (match YY c.shards id with
  |none=>(c,false)
  |some a=>match YY c.shards other with
   |none=>(c,decide (a.epoch=next))
   |some b=>if YbB a epoch&&(YbB b b.epoch&&(decide (a.epoch<next)&&(decide (b.epoch<next)&&(decide (a.closed<next)&&(decide ((Y7 a.span b.span).2=0)&&(decide ((Yav a.ents b.ents).2=0)&&decide ((Y3 a.done b.done).2=0))))))) then
     (⟨YbF (putC c.shards {a with span:=(Y7 a.span b.span).1,done:=(Y3 a.done b.done).1,epoch:=next,move:=0,mark:=later a.mark b.mark,ents:=Y0 (Yav a.ents b.ents).1 (later a.mark b.mark),seen:=max a.seen b.seen,closed:=max a.closed b.closed}) other,c.top,c.dropped⟩,true)
    else (c,false)) else (c,false)
def Ycf (c:Cel) (t:Stamp):Cel:=if Yy c&&Ya t then ⟨c.shards,later c.top t,c.dropped⟩ else c
def prS (t:Stamp) (s:Shd):Shd:={s with ents:=Y0 s.ents t,mark:=later s.mark t}
def YaI (c:Cel) (t:Stamp):Cel:=if Yy c&&Ya t then ⟨c.shards.map (prS t),c.top,c.dropped⟩ else c
theorem YdP {n:Int}:decide (n<1)=!decide (1≤n):=by by_cases h:1≤n<;>simp[h]<;>omega
theorem Yic {n:Int}:decide (3<n)=!decide (n≤3):=by by_cases h:n≤3<;>simp[h]<;>omega
def rgB (m n:Int):Bool:=!(decide (n<m)||decide (1099511627776<n))
theorem rg1 (n:Int):rgB 1 n=Yr n:=by
 simp only[rgB,Yr];by_cases h:1≤n<;>by_cases h2:n≤1099511627776<;>simp[h,h2]<;>omega
theorem rg0 (n:Int):rgB 0 n=nou n:=by
 simp only[rgB,nou];by_cases h:0≤n<;>by_cases h2:n≤1099511627776<;>simp[h,h2]<;>omega
def H313 (Pg:PgT):Prop:=Pg 313=some (.code F313)
theorem K313 (h:H313 Pg) (n m:Int):K' Pg 313 [iz n,.cptr [iz m] 0]=some (.bool (decide (n<m)||decide (1099511627776<n))):=by
 refine Qb h rfl ?_;cases c:decide (n<m)<;>simp only[go_sem,c,GaK,Gau]
def H284 (Pg:PgT):Prop:=Pg 284=some (.code F284)∧H67 Pg∧H313 Pg
theorem K284 (h:H284 Pg) (m:Int) (l:List Int) (hl:l.length<2 ^ 60):K' Pg 284 [iz m,Yi l]=some (.bool (!(l.any fun n=>decide (n<m)||decide (1099511627776<n)))):=by
 obtain⟨h,h67,h313⟩:=h;have k:=K67 h67 l 313 [.cptr [iz m] 0] (fun n=>decide (n<m)||decide (1099511627776<n)) hl rfl (fun n _=>K313 h313 n m);simp only[Yi] at k;refine Qb h rfl ?_;simp only[go_sem,Yi,k]
theorem K284a (h:H284 Pg) (m a:Int):K' Pg 284 [iz m,.slice 1 [[iz a]]]=some (.bool (rgB m a)):=by
 have:=K284 h m [a] (by simp);simpa [Yi,rgB] using this
theorem K284b (h:H284 Pg) (m a b:Int):K' Pg 284 [iz m,.slice 1 [[iz a],[iz b]]]=some (.bool (rgB m a&&rgB m b)):=by
 have:=K284 h m [a,b] (by simp);simpa [Yi,rgB,Bool.and_assoc] using this
theorem K284d (h:H284 Pg) (m a b c d:Int):K' Pg 284 [iz m,.slice 1 [[iz a],[iz b],[iz c],[iz d]]]=some (.bool (rgB m a&&(rgB m b&&(rgB m c&&rgB m d)))):=by
 have:=K284 h m [a,b,c,d] (by simp);simpa [Yi,rgB,Bool.and_assoc] using this
def H298 (Pg:PgT):Prop:=Pg 298=some (.code F298)∧H171 Pg
theorem K298 (h:H298 Pg) (e:Entr) (s:Shd):K' Pg 298 [.agg (YaK e),.cptr (Yh s) 0]=some (.bool (!Yas s.span e.key)):=by
 obtain⟨h,h171⟩:=h;have k:=K171 h171 s.span e.key;simp only[Y6] at k;refine Qb h rfl ?_;simp only[go_sem,Ye,k]
def Ygs:List Entr→(Entr→Bool)→Nat→Int
 |[],_,_=>-1
 |a::l,p,i=>if p a then i else Ygs l p (i+1)
theorem YhE:∀{l:List Entr} {p:Entr→Bool} {i:Nat},decide (0≤Ygs l p i)=l.any p
 |[],p,i=>by simp[Ygs]
 |a::l,p,i=>by
  simp only[Ygs];split
  ·rename_i h;simp[h]
  ·rename_i h;rw[YhE];simp[h]
def H315 (Pg:PgT):Prop:=Pg 315=some (.code F315)
theorem K315 (h:H315 Pg) (l:List Entr) (g:Nat) (cap:List V) (p:Entr→Bool) (hl:l.length<2 ^ 60) (hg:∀x∈l,K' Pg g (.agg (YaK x)::cap)=some (.bool (p x))) :
  K' Pg 315 [Yf l,.func g cap]=some (iz (Ygs l p 0)):=by
 refine Qb h rfl ?_
 simp only[YaK,Ye] at hg
 simp only[go_sem]
 unfold l315_0
 refine JiJ (fun (i:Nat) S=>i≤l.length∧S.ρ 0=Yf l∧S.ρ 1=.func g cap∧S.ρ 7=iz l.length∧S.ρ 8=iz i∧Ygs (l.drop i) p i=Ygs l p 0) (fun i=>l.length-i) 0 ?_ ?_
 ·simp[go_sem]
 ·intro i S ⟨hi,h0,h1,h7,h8,ho⟩
  simp only[go_sem,h7,h8]
  refine JiK (fun h=>?_) (fun h=>?_)
  ·have h:=Yj h
   obtain⟨x,hx,hd⟩:=Jiq h
   rw[hd] at ho
   have hgx:=hg x (List.mem_of_getElem? hx)
   simp only[go_sem,Ye,h0,h1,h8,hx,hgx]
   refine JiK (fun hc=>?_) (fun hc=>?_)
   ·simp only[Ygs,hc,Gz] at ho
    simp only[go_sem,←ho]
   ·simp only[Ygs,hc,Gm,Gu] at ho
    simp only[go_sem,h0,h1,h7,h8]
    exact⟨i+1,by omega,by omega,by rw[Yn h hl],ho⟩
  ·have h:=YE hi h
   subst h
   simp only[GW,Ygs] at ho
   simp only[go_sem,←ho]
def H299 (Pg:PgT):Prop:=Pg 299=some (.code F299)∧H315 Pg
theorem K299 (h:H299 Pg) (l:List Entr) (g:Nat) (cap:List V) (p:Entr→Bool) (hl:l.length<2 ^ 60) (hg:∀x∈l,K' Pg g (.agg (YaK x)::cap)=some (.bool (p x))) :
  K' Pg 299 [Yf l,.func g cap]=some (.bool (l.any p)):=by
 obtain⟨h,h315⟩:=h
 have k:=K315 h315 l g cap p hl hg
 simp only[Yf] at k
 refine Qb h rfl ?_
 simp only[go_sem,k,YhE]
theorem Ykz {α:Type} {l:List α} {p:α→Bool}:(!(l.any fun x=>!p x))=l.all p:=by
 induction l with
 |nil=>rfl
 |cons a l ih=>simp only[List.any_cons,List.all_cons,←ih];cases p a<;>simp
def H244 (Pg:PgT):Prop:=Pg 244=some (.code F244)∧H28 Pg∧H81 Pg∧H186 Pg∧H203 Pg∧H284 Pg∧H298 Pg∧H299 Pg
theorem K244 (h:H244 Pg) (s:Shd) (hs:SmS s):K' Pg 244 [.agg (Yh s)]=some (.bool (shR s)):=by
 obtain⟨h,h28,h81,h186,h203,h284,h298,h299⟩:=h;have hlen:=hs.1.len;have a1:=K284b h284 1 s.id s.epoch;have a2:=K284d h284 0 s.hold s.seen s.move s.closed;have k186:=K186 h186 s.span;have k203:=K203 h203 s.ents hs.1;have kmark:=K28 h28 s.mark;have ktop:=K28 h28 s.top;have k81:=K81 h81 s.done (by have:=hs.2.1;omega);have k299:=K299 h299 s.ents 298 [.cptr (Yh s) 0] (fun e=>!Yas s.span e.key) (by omega) (fun e _=>K298 h298 e s);simp only[rg1] at a1;simp only[rg0] at a2;simp only[Yh,Y6,Yd,Yf,Yc] at k186 k203 kmark ktop k81 k299;clear hs hlen h28 h81 h186 h203 h284 h298 h299;refine Qb h rfl ?_;clear h;cases c1:Yr s.id with
 |false=>simp only[go_sem,shR,shR0, *]
 |true=>
 cases c2:Yr s.epoch with
 |false=>simp only[go_sem,shR,shR0, *]
 |true=>
 cases c3:nou s.hold with
 |false=>simp only[go_sem,shR,shR0, *]
 |true=>
 cases c4:nou s.seen with
 |false=>simp only[go_sem,shR,shR0, *]
 |true=>
 cases c5:nou s.move with
 |false=>simp only[go_sem,shR,shR0, *]
 |true=>
 cases c6:nou s.closed with
 |false=>simp only[go_sem,shR,shR0, *]
 |true=>
 cases c7:decide (1≤s.phase) with
 |false=>simp only[go_sem,shR,shR0,YdP, *]
 |true=>
 cases c8:decide (s.phase≤3) with
 |false=>simp only[go_sem,shR,shR0,YdP,Yic, *]
 |true=>
 cases c9:YC s.span with
 |false=>simp only[go_sem,shR,shR0,YdP,Yic, *]
 |true=>
 cases c10:ixR s.ents with
 |false=>simp only[go_sem,shR,shR0,YdP,Yic, *]
 |true=>
 cases c11:Ya s.mark with
 |false=>simp only[go_sem,shR,shR0,YdP,Yic, *]
 |true=>
 cases c12:Ya s.top with
 |false=>simp only[go_sem,shR,shR0,YdP,Yic, *]
 |true=>
 cases c13:YA s.done with
 |false=>simp only[go_sem,shR,shR0,YdP,Yic, *]
 |true=>
 simp only[go_sem,shR,shR0,YdP,Yic,Ykz, *]
def H292 (Pg:PgT):Prop:=Pg 292=some (.code F292)
theorem Yke {n:Int}:decide (0<n)=decide (1≤n):=GZ.2 (by omega)
theorem K292 (h:H292 Pg) (n:Int):K' Pg 292 [iz n]=some (.bool (Yr n)):=by
 refine Qb h rfl ?_;simp only[go_sem,Yke];cases c1:decide (1≤n)<;>simp only[go_sem,c1,Yr]
def H293 (Pg:PgT):Prop:=Pg 293=some (.code F293)∧H292 Pg
theorem K293 (h:H293 Pg) (n:Int):K' Pg 293 [iz n]=some (.bool (nou n)):=by
 obtain⟨h,h292⟩:=h;have k:=K292 h292 n;have e:nou n=(decide (n=0)||Yr n):=by
  simp only[nou,Yr];by_cases h1:n=0<;>by_cases h2:0≤n<;>by_cases h3:n≤1099511627776<;>by_cases h4:1≤n<;>simp[h1,h2,h3,h4]<;>omega
 refine Qb h rfl ?_;rw[e];cases c1:decide (n=0)<;>simp only[go_sem,c1,k,GaK,Gau]
def H245 (Pg:PgT):Prop:=Pg 245=some (.code F245)∧H24 Pg∧H80 Pg∧H142 Pg∧H167 Pg∧H204 Pg∧H292 Pg∧H293 Pg
theorem K245 (h:H245 Pg) (s:Shd) (hs:SmS s):K' Pg 245 [.agg (Yh s)]=some (.bool (shR s)):=by
 obtain⟨h,h24,h80,h142,h167,h204,h292,h293⟩:=h;have hlen:=hs.1.len;have k292:=fun n=>K292 h292 n;have k293:=fun n=>K293 h293 n;have k167:=K167 h167 s.span;have k204:=K204 h204 s.ents hs.1;have kmark:=K24 h24 s.mark;have ktop:=K24 h24 s.top;have k80:=K80 h80 s.done (by have:=hs.2.1;omega);have k142:=fun k=>K142 h142 s.span k;simp only[Y6,Yd,Yf,Yc] at k167 k204 kmark ktop k80 k142;clear hs h24 h80 h142 h167 h204 h292 h293;refine Qb h rfl ?_;clear h;cases c1:Yr s.id with
 |false=>simp only[go_sem,shR,shR0, *]
 |true=>
 cases c2:Yr s.epoch with
 |false=>simp only[go_sem,shR,shR0, *]
 |true=>
 cases c3:nou s.hold with
 |false=>simp only[go_sem,shR,shR0, *]
 |true=>
 cases c4:nou s.seen with
 |false=>simp only[go_sem,shR,shR0, *]
 |true=>
 cases c5:nou s.move with
 |false=>simp only[go_sem,shR,shR0, *]
 |true=>
 cases c6:nou s.closed with
 |false=>simp only[go_sem,shR,shR0, *]
 |true=>
 cases p1:decide (1≤s.phase) with
 |false=>
  have q1:decide (s.phase=1)=false:=Gp (by have:=Gb p1;omega);have q2:decide (s.phase=2)=false:=Gp (by have:=Gb p1;omega);have q3:decide (s.phase=3)=false:=Gp (by have:=Gb p1;omega);simp only[go_sem,shR,shR0, *]
 |true=>
 cases p2:decide (s.phase≤3) with
 |false=>
  have q1:decide (s.phase=1)=false:=Gp (by have:=Gb p2;omega);have q2:decide (s.phase=2)=false:=Gp (by have:=Gb p2;omega);have q3:decide (s.phase=3)=false:=Gp (by have:=Gb p2;omega);simp only[go_sem,shR,shR0, *]
 |true=>
 have fin:∀S:St,S.ρ 1=.lref 1 0→S.μ 1=some (Yh s,false)→S.ρ 3=iz 0→shR0 s=true→Wp (K' Pg) (.seq (.block 0 l245_0) (.seq (.region false r245_10) .ret)) S (fun ex S=>(ex=.norm∨ex=.ret)∧JaF F245 S=some (.bool (shR s))):=by
  intro S g1 m1 g3 hr;have e:shR s=s.ents.all fun e=>Yas s.span e.key:=by simp[shR,hr]
  rw[e];simp only[go_sem];unfold l245_0;refine JiJ (fun (i:Nat) S=>i≤s.ents.length∧S.ρ 1=.lref 1 0∧S.μ 1=some (Yh s,false)∧S.ρ 3=iz i∧((s.ents.drop i).all fun e=>Yas s.span e.key)=s.ents.all fun e=>Yas s.span e.key) (fun i=>s.ents.length-i) 0 ?_ ?_
  ·simp[go_sem,g1,m1,g3]
  ·intro i S ⟨hi,g1,m1,g3,ho⟩;simp only[go_sem,g1,m1,g3];refine JiK (fun h=>?_) (fun h=>?_)
   ·have h:=Yj h;obtain⟨x,hx,hd⟩:=Jiq h;rw[hd,List.all_cons] at ho;simp only[go_sem,g1,m1,g3,hx,Ye,k142];cases c:Yas s.span x.key with
    |false=>
     rw[c,Gs] at ho;simp only[go_sem,←ho]
    |true=>
     rw[c,GP] at ho;simp only[go_sem,g1,m1,g3];exact⟨i+1,by omega,by omega,by rw[Yn h (by omega)],ho⟩
   ·have h:=YE hi h;subst h;rw[GW,List.all_nil] at ho;simp only[go_sem,←ho]
 have hq:∀b,(decide (s.phase=1)=true∨(decide (s.phase=1)=false∧decide (s.phase=2)=true)∨(decide (s.phase=1)=false∧decide (s.phase=2)=false∧decide (s.phase=3)=true))∨b=true:=fun b=>by
  have:=Gg p1;have:=Gg p2;left;by_cases h1:s.phase=1
  ·left;simp[h1]
  ·by_cases h2:s.phase=2
   ·right;left;simp[h2]
   ·right;right;have:s.phase=3:=by omega
    simp[this]
 have hq:=(hq false).resolve_right (by simp);rcases hq with q1|⟨q1,q2⟩|⟨q1,q2,q3⟩
 all_goals
  cases c9:YC s.span with
  |false=>simp only[go_sem,shR,shR0, *]
  |true=>
  cases c10:ixR s.ents with
  |false=>simp only[go_sem,shR,shR0, *]
  |true=>
  cases c11:Ya s.mark with
  |false=>simp only[go_sem,shR,shR0, *]
  |true=>
  cases c12:Ya s.top with
  |false=>simp only[go_sem,shR,shR0, *]
  |true=>
  cases c13:YA s.done with
  |false=>simp only[go_sem,shR,shR0, *]
  |true=>
  have hr:shR0 s=true:=by simp only[shR0,G1, *]
  simp only[go_sem, *,-fin,-hr]
  exact Ykw (fin _ (by simp only[go_sem]) (by simp only[go_sem]) (by simp only[go_sem]) hr)
def H316 (Pg:PgT):Prop:=Pg 316=some (.code F316)∧H15 Pg
theorem K316 (h:H316 Pg) (e:Entr) (t:Stamp) (v:Ver) (hv:e.chain.getLast?=some v) (hl:e.chain.length≤10000):K' Pg 316 [.agg (YaK e),.cptr (Yd t) 0]=some (.bool (decide (0<Yb v.at_ t))):=by
 obtain⟨h,h15⟩:=h;have k15:=K15 h15 v.at_ t;have hpos:0<e.chain.length:=Gaq.2 fun e0=>by rw[e0] at hv;simp at hv
 have hx:e.chain[e.chain.length-1]?=some v:=by rw[←List.getLast?_eq_getElem?];exact hv
 have hdec:IntKind.i64.wrap ((e.chain.length:Int)-1)=((e.chain.length-1:Nat):Int):=Yep hpos (by omega);simp only[Yd] at k15;refine Qb h rfl ?_;simp only[go_sem,Ye,hdec,hx,k15]
def Yfi (t:Stamp) (e:Entr):Bool:=match e.chain.getLast? with|some v=>decide (0<Yb v.at_ t)|none=>false
theorem YgX {s:Shd} {t:Stamp}:uptoE s t=!(s.ents.any (Yfi t)):=by
 rw[List.not_any_eq_all_not];simp only[uptoE]
 congr 1
 funext e
 unfold Yfi;cases e.chain.getLast? with
 |none=>rfl
 |some v=>by_cases h:Yb v.at_ t≤0<;>simp[h]<;>omega
def H301 (Pg:PgT):Prop:=Pg 301=some (.code F301)∧H299 Pg∧H316 Pg
theorem K301 (h:H301 Pg) (s:Shd) (t:Stamp) (hs:Sm s.ents) (hn:∀e∈s.ents,e.chain≠[]):K' Pg 301 [.agg (Yh s),.agg (Yd t)]=some (.bool (uptoE s t)):=by
 obtain⟨h,h299,h316⟩:=h;have hlen:=hs.len;have k:=K299 h299 s.ents 316 [.cptr (Yd t) 0] (Yfi t) (by omega) (fun e he=>by
  cases hv:e.chain.getLast? with
  |none=>exact absurd (List.getLast?_eq_none_iff.1 hv) (hn e he)
  |some v=>rw[K316 h316 e t v hv (hs.2 e he).1];simp only[Yfi,hv])
 simp only[Yf,Yd] at k;refine Qb h rfl ?_;simp only[go_sem,k,YgX]
theorem Ycg {s:Shd} (h:shR s=true):ixR s.ents=true∧∀e∈s.ents,e.chain≠[]:=by
 simp only[shR,shR0,Gc] at h;exact⟨h.1.2.2.2.2.2.2.2.2.2.1,fun e he=>(Ybj.1 ((YaA.1 h.1.2.2.2.2.2.2.2.2.2.1).2.2 e he)).2.1⟩
theorem Yez {s:Shd} (h:shR s=true):1≤s.id∧s.id≤1099511627776:=by
 simp only[shR,shR0,Gc,Yr,Gi] at h;exact h.1.1
def YdJ (l:List Shd) (i:Nat):Int:=if i=0 then 0 else (l[i-1]?.map Shd.id).getD 0
theorem Yfu {l:List Shd} {i:Nat} {x:Shd} (h:l[i]?=some x):YdJ l (i+1)=x.id:=by simp[YdJ,h]
def H249 (Pg:PgT):Prop:=Pg 249=some (.code F249)∧H28 Pg∧H244 Pg∧H284 Pg∧H301 Pg
theorem le8 {n:Nat}:decide ((n:Int)≤8)=decide (n≤8):=led (b:=8)
theorem gt8 {n:Nat}:decide ((8:Int)<(n:Int))=!decide (n≤8):=gtd (a:=8)
theorem Yj7 {a b:Int}:decide (a≤b)=!decide (b<a):=by by_cases h:b<a<;>simp[h]<;>omega
theorem K249 (h:H249 Pg) (c:Cel) (hc:SmC c):K' Pg 249 [.agg (Yk c)]=some (.bool (Yy c)):=by
 obtain⟨h,h28,h244,h284,h301⟩:=h;have hlen:=hc.1;have k28:=K28 h28 c.top;have k284:=K284a h284 0 c.dropped;simp only[rg0] at k284;simp only[Yd] at k28;refine Qb h rfl ?_;simp only[go_sem];unfold l249_0;refine JiJ (fun (i:Nat) S=>i≤c.shards.length∧S.ρ 1=.lref 1 0∧S.μ 1=some (Yk c,false)∧S.ρ 3=iz (YdJ c.shards i)∧S.μ 5=none∧S.ρ 7=Ys c.shards∧S.ρ 8=iz c.shards.length∧S.ρ 9=iz i∧cgo c.top (YdJ c.shards i) (c.shards.drop i)=cgo c.top 0 c.shards) (fun i=>c.shards.length-i) 0 ?_ ?_
 ·simp[go_sem,YdJ]
 ·intro i S ⟨hi,h1,m1,h3,m5,h7,h8,h9,ho⟩;simp only[go_sem,h8,h9];refine JiK (fun h=>?_) (fun h=>?_)
  ·have h:=Yj h;obtain⟨x,hx,hd⟩:=Jiq h;have hxs:=hc.2 x (List.mem_of_getElem? hx);have k244:=K244 h244 x hxs;have hinc:IntKind.i64.wrap ((i:Int)+1)=((i+1:Nat):Int):=Yn h (by omega);rw[hd] at ho;simp only[cgo] at ho;simp only[Yh,Yf,Yc] at k244;simp only[go_sem,h3,m5,h7,h9,hx,Yj7];cases c1:decide (YdJ c.shards i<x.id) with
   |false=>
    simp only[c1,Gs] at ho;simp only[go_sem,Yy,←ho]
   |true=>
   cases c2:shR x with
   |false=>
    simp only[c1,c2,Gs,GB] at ho;simp only[go_sem,c2,k244,Yy,←ho]
   |true=>
   have k301:=K301 h301 x c.top hxs.1 (Ycg c2).2;simp only[Yh,Yf,Yc,Yd] at k301;cases c3:uptoE x c.top with
   |false=>
    simp only[c1,c2,c3,Gs,GB] at ho;simp only[go_sem,h1,m1,c2,c3,k244,k301,Yy,←ho]
   |true=>
   simp only[c1,c2,c3,GP] at ho;simp only[go_sem,h1,m1,h7,h8,h9,c2,c3,k244,k301];exact⟨i+1,by omega,by omega,by rw[Yfu hx],by rw[hinc],by rw[Yfu hx];exact ho⟩
  ·have h:=YE hi h;subst h;rw[GW] at ho;simp only[cgo] at ho;simp only[go_sem,h1,m1,le8];cases c1:decide (c.shards.length≤8) with
   |false=>simp only[go_sem,c1,Yy]
   |true=>
   cases c2:Ya c.top with
   |false=>simp only[go_sem,h1,m1,c1,c2,k28,Yy]
   |true=>simp only[go_sem,h1,m1,c1,c2,k28,k284,Yy,←ho]
theorem Yh5 {c:List Ver} {v:Ver} {t:Stamp} (hr:Yg c=true) (hv:c.getLast?=some v):(c.any fun x=>before t x.at_)=decide (0<Yb v.at_ t):=by
 have hc:=(YaS hr).1;have hx:c[c.length-1]?=some v:=by rw[←List.getLast?_eq_getElem?];exact hv
 have hlt:∀{a b:Stamp},before a b=decide (0<Yb b a):=fun {a b}=>by
  simp only[before];refine GZ.2 ?_;have:=@YaR a b;constructor
  ·intro h;rcases Gar (Yb b a) 0 with q|q|q
   ·have:=this.2 (by omega);omega
   ·have:=this.2 (by omega);omega
   ·exact q
  ·intro h;rcases Gar (Yb a b) 0 with q|q|q
   ·exact q
   ·have:=this.1 (by omega);omega
   ·have:=this.1 (by omega);omega
 cases q:decide (0<Yb v.at_ t) with
 |true=>exact List.any_eq_true.2 ⟨v,List.mem_of_getElem? hx,by rw[hlt];exact q⟩
 |false=>
  refine List.any_eq_false.2 fun y hy=>?_;obtain⟨i,hi⟩:=List.mem_iff_getElem?.1 hy;have hil:=(List.getElem?_eq_some_iff.1 hi).1;rw[hlt];have hq:=Gb q;by_cases e:i=c.length-1
  ·subst e;rw[hx] at hi;obtain rfl:v=y:=by simpa using hi
   simpa using hq
  ·have hlt2:=Yeb hc (show i<c.length-1 by omega) hi hx;have h1:=Ybh.1 hlt2;have h2:¬0<Yb y.at_ t:=fun h3=>by
    have h3:=Ydy.1 h3;have h4:¬0<Yb v.at_ t:=hq;rw[Ydy] at h4;omega
   simpa using h2
def H300 (Pg:PgT):Prop:=Pg 300=some (.code F300)∧H6 Pg
theorem K300 (h:H300 Pg) (s:Shd) (t:Stamp) (hs:Sm s.ents) (hr:ixR s.ents=true):K' Pg 300 [.agg (Yh s),.agg (Yd t)]=some (.bool (uptoE s t)):=by
 obtain⟨h,h6⟩:=h;have hlen:=hs.len;have k6:=fun x=>K6 h6 t x;simp only[Yd] at k6;have he:∀e∈s.ents,(e.chain.any fun x=>before t x.at_)=Yfi t e:=fun e he=>by
  obtain⟨-,hn,hc⟩:=Ybj.1 ((YaA.1 hr).2.2 e he);cases hv:e.chain.getLast? with
  |none=>exact absurd (List.getLast?_eq_none_iff.1 hv) hn
  |some v=>rw[Yh5 hc hv];simp only[Yfi,hv]
 refine Qb h rfl ?_;rw[YgX];simp only[go_sem];unfold l300_0;refine JiJ (fun (i:Nat) S=>i≤s.ents.length∧S.ρ 2=.lref 2 0∧S.μ 2=some (Yh s,false)∧S.ρ 3=.lref 3 0∧S.μ 3=some (Yd t,false)∧S.ρ 5=iz i∧(s.ents.drop i).any (Yfi t)=s.ents.any (Yfi t)) (fun i=>s.ents.length-i) 0 ?_ ?_
 ·simp[go_sem]
 ·intro i S ⟨hi,h2,m2,h3,m3,h5,ho⟩;simp only[go_sem,h2,m2,h5];refine JiK (fun h=>?_) (fun h=>?_)
  ·have h:=Yj h;obtain⟨x,hx,hd⟩:=Jiq h;have hinc:IntKind.i64.wrap ((i:Int)+1)=((i+1:Nat):Int):=Yn h (by omega);have hxl:=(hs.at hx).1;rw[hd,List.any_cons,←he x (List.mem_of_getElem? hx)] at ho;simp only[go_sem];unfold l300_1;refine JiJ (fun (j:Nat) S=>j≤x.chain.length∧S.ρ 2=.lref 2 0∧S.μ 2=some (Yh s,false)∧S.ρ 3=.lref 3 0∧S.μ 3=some (Yd t,false)∧S.ρ 5=iz i∧S.ρ 6=iz j∧((x.chain.drop j).any fun y=>before t y.at_)=x.chain.any fun y=>before t y.at_) (fun j=>x.chain.length-j) 0 ?_ ?_
   ·simp[go_sem,h2,m2,h3,m3,h5]
   ·intro j S ⟨hj,h2,m2,h3,m3,h5,h6',hw⟩;simp only[go_sem,h2,m2,h5,h6',hx,Ye];refine JiK (fun h'=>?_) (fun h'=>?_)
    ·have h':=Yj h';obtain⟨y,hy,hd'⟩:=Jiq h';rw[hd',List.any_cons] at hw;simp only[go_sem,h2,m2,h3,m3,h5,h6',hx,hy,Ye,k6];cases q:before t y.at_ with
     |true=>
      rw[q,GaK] at hw;rw[←hw,GaK] at ho;simp only[go_sem,←ho]
     |false=>
      rw[q,Gau] at hw;simp only[go_sem,h2,m2,h3,m3,h5,h6'];exact⟨j+1,by omega,by omega,by rw[Yn h' (by omega)],hw⟩
    ·have h':=YE hj h';subst h';rw[GW,List.any_nil] at hw;rw[←hw,Gau] at ho;simp only[go_sem,h2,m2,h3,m3,h5,hinc];exact⟨i+1,by omega,by omega,rfl,ho⟩
  ·have h:=YE hi h;subst h;rw[GW,List.any_nil] at ho;simp only[go_sem,←ho]
def H246 (Pg:PgT):Prop:=Pg 246=some (.code F246)∧H24 Pg∧H245 Pg∧H293 Pg∧H300 Pg
theorem K246 (h:H246 Pg) (c:Cel) (hc:SmC c):K' Pg 246 [.agg (Yk c)]=some (.bool (Yy c)):=by
 obtain⟨h,h24,h245,h293,h300⟩:=h;have k24:=K24 h24 c.top;have k293:=K293 h293 c.dropped;simp only[Yd] at k24;refine Qb h rfl ?_;cases c1:decide (c.shards.length≤8) with
 |false=>simp only[go_sem,gt8,c1,Yy]
 |true=>
 cases c2:Ya c.top with
 |false=>simp only[go_sem,gt8,c1,c2,k24,Yy]
 |true=>
 cases c3:nou c.dropped with
 |false=>simp only[go_sem,gt8,c1,c2,c3,k24,k293,Yy]
 |true=>
 have hlen:=Gg c1;have e:Yy c=cgo c.top 0 c.shards:=by simp only[Yy,c1,c2,c3,GP]
 rw[e];simp only[go_sem,gt8,c1,c2,c3,k24,k293];unfold l246_0;refine JiJ (fun (i:Nat) S=>i≤c.shards.length∧S.ρ 1=.lref 1 0∧S.μ 1=some (Yk c,false)∧S.ρ 3=iz i∧cgo c.top (YdJ c.shards i) (c.shards.drop i)=cgo c.top 0 c.shards) (fun i=>c.shards.length-i) 0 ?_ ?_
 ·simp[go_sem,YdJ]
 ·intro i S ⟨hi,h1,m1,h3,ho⟩;simp only[go_sem,h1,m1,h3];refine JiK (fun h=>?_) (fun h=>?_)
  ·have h:=Yj h;obtain⟨x,hx,hd⟩:=Jiq h;have hxs:=hc.2 x (List.mem_of_getElem? hx);have k245:=K245 h245 x hxs;have hinc:IntKind.i64.wrap ((i:Int)+1)=((i+1:Nat):Int):=Yn h (by omega);rw[hd] at ho;simp only[cgo] at ho;simp only[Yh,Yf,Yc] at k245;simp only[go_sem,h1,m1,h3,hx,k245];cases p2:shR x with
   |false=>
    simp only[p2,Gs,GB] at ho;simp only[go_sem,←ho]
   |true=>
   have k300:=K300 h300 x c.top hxs.1 (Ycg p2).1;simp only[Yh,Yf,Yc,Yd] at k300;cases p3:uptoE x c.top with
   |false=>
    simp only[p2,p3,Gs,GB] at ho;simp only[go_sem,h1,m1,h3,hx,p3,k300,←ho]
   |true=>
   simp only[p2,p3,GP] at ho;rcases Gae i with hz|hz
   ·have hgt:decide ((0:Int)<(i:Int))=false:=Gp (by omega);have hl:decide (YdJ c.shards i<x.id)=true:=GD (by
     have:=(Yez p2).1;simp[YdJ,hz];omega)
    rw[hl,GP] at ho;simp only[go_sem,h1,m1,h3,hx,p3,k300,hgt];exact⟨i+1,by omega,by omega,by rw[hinc],by rw[Yfu hx];exact ho⟩
   ·have hgt:decide ((0:Int)<(i:Int))=true:=GD (by omega);have hdec:IntKind.i64.wrap ((i:Int)-1)=((i-1:Nat):Int):=Yep hz (by omega);obtain⟨y,hy,-⟩:=Jiq (l:=c.shards) (i:=i-1) (by omega);have hp:YdJ c.shards i=y.id:=by simp[YdJ,Nat.ne_of_gt hz,hy]
    rw[hp] at ho;simp only[go_sem,h1,m1,h3,hx,p3,k300,hgt,hdec,hy,Yj7];cases q:decide (y.id<x.id) with
    |false=>
     rw[q,Gs] at ho;simp only[go_sem,←ho]
    |true=>
     rw[q,GP] at ho;simp only[go_sem,h1,m1,h3];exact⟨i+1,by omega,by omega,by rw[hinc],by rw[Yfu hx];exact ho⟩
  ·have h:=YE hi h;subst h;rw[GW] at ho;simp only[cgo] at ho;simp only[go_sem,←ho]
theorem YbO {n:Nat}:decide ((16:Int)<(n:Int))=!decide (n≤16):=gtd (a:=16)
theorem Yhb {n:Int}:decide (6<n)=!decide (n≤6):=by by_cases h:n≤6<;>simp[h]<;>omega
theorem Yhc {n:Int}:decide (8<n)=!decide (n≤8):=by by_cases h:n≤8<;>simp[h]<;>omega
theorem Ygw {n:Int}:decide (n<0)=!decide (0≤n):=by by_cases h:0≤n<;>simp[h]<;>omega
def H285 (Pg:PgT):Prop:=Pg 285=some (.code F285)∧H28 Pg∧H170 Pg∧H284 Pg
theorem K285 (h:H285 Pg) (r:Rq):K' Pg 285 [.agg (eRq r)]=some (.bool (rqR r)):=by
 obtain⟨h,h28,h170,h284⟩:=h;have a1:=K284b h284 1 r.client r.req;have k28:=K28 h28 r.at_;have kh:=K170 h170 r.hi;have kk:=K170 h170 r.key;simp only[rg1] at a1;simp only[Yd] at k28;clear h28 h170 h284;refine Qb h rfl ?_;clear h;cases c1:Yr r.client with
 |false=>simp only[go_sem,rqR, *]
 |true=>
 cases c2:Yr r.req with
 |false=>simp only[go_sem,rqR, *]
 |true=>
 cases c3:decide (1≤r.kind) with
 |false=>simp only[go_sem,rqR,YdP, *]
 |true=>
 cases c4:decide (r.kind≤6) with
 |false=>simp only[go_sem,rqR,YdP,Yhb, *]
 |true=>
 cases c5:decide (r.value.length≤16) with
 |false=>simp only[go_sem,rqR,YdP,Yhb,YbO, *]
 |true=>
 cases c6:decide (r.old.length≤16) with
 |false=>simp only[go_sem,rqR,YdP,Yhb,YbO, *]
 |true=>
 cases c7:decide (0≤r.limit) with
 |false=>simp only[go_sem,rqR,YdP,Yhb,YbO,Ygw, *]
 |true=>
 cases c8:decide (r.limit≤8) with
 |false=>simp only[go_sem,rqR,YdP,Yhb,YbO,Ygw,Yhc, *]
 |true=>
 cases c9:Ya r.at_ with
 |false=>simp only[go_sem,rqR,YdP,Yhb,YbO,Ygw,Yhc, *]
 |true=>
 cases q1:decide (r.hi=[]) with
 |true=>
  cases q3:decide (r.kind=6) with
  |true=>
   have q3':=Gg q3;cases q4:decide (r.key=[]) with
   |true=>simp only[go_sem,rqR,YbO,Ygw,Yhc, *]
   |false=>cases q5:keyR r.key<;>simp only[go_sem,rqR,YbO,Ygw,Yhc, *]
  |false=>
   have q3':=Gb q3;simp only[go_sem,rqR,YdP,Yhb,YbO,Ygw,Yhc, *]
 |false=>
  cases c10:keyR r.hi with
  |false=>simp only[go_sem,rqR,YdP,Yhb,YbO,Ygw,Yhc, *]
  |true=>
  cases q3:decide (r.kind=6) with
  |true=>
   have q3':=Gg q3;cases q4:decide (r.key=[]) with
   |true=>simp only[go_sem,rqR,YbO,Ygw,Yhc, *]
   |false=>cases q5:keyR r.key<;>simp only[go_sem,rqR,YbO,Ygw,Yhc, *]
  |false=>
   have q3':=Gb q3;simp only[go_sem,rqR,YdP,Yhb,YbO,Ygw,Yhc, *]
end Sg
