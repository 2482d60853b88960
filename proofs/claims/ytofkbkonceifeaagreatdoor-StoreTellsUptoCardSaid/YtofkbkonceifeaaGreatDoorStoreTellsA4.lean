/- StoreTells, wherever what it reads is of bulk at most 1048576: proved over a checked abstract run of the translated code; no condition but that. A part. -/
import Derived.KernelRfl
import Derived.Test.YtofkbkonceifeaaGreatDoorStoreTellsA3
set_option linter.unusedSimpArgs false
set_option linter.unusedVariables false
set_option maxRecDepth 100000
namespace Sg
open _root_.Go (IntKind BinOp UnOp)
variable {Pg : Nat → Option Fn}
def eTk (e:Int):Option (Nat×List UInt8)→V
 |some (n,r)=>.tuple [iz n,.str r,iz 0]
 |none=>.tuple [iz 0,.str [],iz e]
def Ycj (e:Int):Option (List UInt8×List UInt8)→V
 |some (n,r)=>.tuple [.str n,.str r,iz 0]
 |none=>.tuple [.str [],.str [],iz e]
def Yci (e:Int):Option (Bool×List UInt8)→V
 |some (n,r)=>.tuple [.bool n,.str r,iz 0]
 |none=>.tuple [.bool false,.str [],iz e]
theorem and127 (b:UInt8):IntKind.u8.wrap ((BitVec.ofInt 8 (b.toNat:Int) &&& BitVec.ofInt 8 127).toNat:Int)=((b.toNat % 128:Nat):Int):=by
 have key:∀x:Fin 256,IntKind.u8.wrap ((BitVec.ofInt 8 ((x.1:Nat):Int) &&& BitVec.ofInt 8 127).toNat:Int)=((x.1 % 128:Nat):Int):=by decide
 exact key ⟨b.toNat,b.toNat_lt⟩
theorem Yet (b:UInt8):JaZ .and .u8 (b.toNat:Int) 127=some (.int .u8 ((b.toNat % 128:Nat):Int)):=congrArg (fun x=>some (V.int .u8 x)) (and127 b)
theorem or_sh {acc d i:Nat} (ha:acc<128 ^ i) (hd:d<128) (hi:i≤8) :
  IntKind.i64.wrap ((BitVec.ofInt 64 (acc:Int) ||| BitVec.ofInt 64 (IntKind.i64.wrap ((d:Int)*2 ^ min (7*i) 64))).toNat:Int)=((acc+128 ^ i*d:Nat):Int):=by
 have hp:(128:Nat) ^ i=2 ^ (7*i):=by rw[Nat.pow_mul]
 have hle:(2:Nat) ^ (7*i)≤2 ^ 56:=Nat.pow_le_pow_right (by omega) (by omega)
 have hmul:2 ^ (7*i)*d<2 ^ 63:=by
  have:2 ^ (7*i)*d≤2 ^ 56*127:=Nat.mul_le_mul hle (by omega)
  omega
 rw[hp] at ha ⊢
 have e1:((d:Int)*2 ^ min (7*i) 64)=((2 ^ (7*i)*d:Nat):Int):=by
  rw[Nat.min_eq_left (by omega)]
  simp[Int.mul_comm]
 have e3:IntKind.i64.wrap ((2 ^ (7*i)*d:Nat):Int)=((2 ^ (7*i)*d:Nat):Int):=JiD (by omega) (by omega)
 rw[e1,e3]
 have e2:∀m:Nat,m<2 ^ 63→BitVec.ofInt 64 (m:Int)=BitVec.ofNat 64 m:=fun m hm=>by simp
 rw[e2 _ (by omega),e2 _ hmul,BitVec.toNat_or,BitVec.toNat_ofNat,BitVec.toNat_ofNat,Nat.mod_eq_of_lt (by omega),Nat.mod_eq_of_lt (by omega),Nat.or_comm,←Nat.two_pow_add_eq_or_of_lt ha,Nat.add_comm]
 have hsum:acc+2 ^ (7*i)*d<2 ^ 63:=by
  have h1:2 ^ (7*i)*d+2 ^ (7*i)≤2 ^ (7*i)*128:=by
   have:=Nat.mul_le_mul (Nat.le_refl (2 ^ (7*i))) (show d+1≤128 by omega)
   rw[Nat.mul_add] at this;omega
  omega
 rw[JiD (by omega) (by omega)]
theorem Ye6 {acc d i:Nat} (ha:acc<128 ^ i) (hd:d<128) (hi:i≤8):JaZ .or .i64 (acc:Int) (IntKind.i64.wrap ((d:Int)*2 ^ min (7*i) 64))=some (iz ((acc+128 ^ i*d:Nat):Int)):=
 congrArg (fun x=>some (V.int .i64 x)) (or_sh ha hd hi)
def H505 (Pg:Nat→Option Fn):Prop:=Pg 505=some (.code F505)
theorem K505 (h:H505 Pg) (s:List UInt8) (hs:s.length<2 ^ 62):∃e:Int,e≠0∧K' Pg 505 [.str s]=some (iz e):=by
 have key:K' Pg 505 [.str s]=some (iz (if s.any (fun b=>decide (b.toNat<128)) then 3 else 2)):=by
  refine K'_code h rfl ?_
  simp only[F505,c505,go_sem]
  unfold l505_0
  refine JiG (fun (i:Nat) S=>i≤s.length∧S.ρ 0=.str s∧S.ρ 5=iz s.length∧S.ρ 6=iz i∧∀b∈s.take i,¬b.toNat<128) (fun i=>s.length-i) 0 ?_ ?_
  ·exact⟨Nat.zero_le _,rfl,rfl,rfl,fun b hb=>by simp at hb⟩
  ·intro i S ⟨hi,s0,s5,s6,hpre⟩
   cases c1:decide ((i:Int)<(s.length:Int)) with
   |false=>
    have:i=s.length:=by have:=of_decide_eq_false c1;omega
    subst this
    rw[List.take_length] at hpre
    have:s.any (fun b=>decide (b.toNat<128))=false:=by
     rw[List.any_eq_false];intro b hb;simpa using hpre b hb
    simp only[go_sem,s0,s5,s6,c1,this]
   |true=>
    have hlt:=Yg c1
    obtain⟨b,hb,-⟩:=Jin hlt
    have hinc:IntKind.i64.wrap ((i:Int)+1)=((i+1:Nat):Int):=by rw[JiD (by omega) (by omega)];omega
    cases c2:decide ((b.toNat:Int)<128) with
    |true=>
     have:s.any (fun b=>decide (b.toNat<128))=true:=List.any_eq_true.2 ⟨b,List.mem_of_getElem? hb,decide_eq_true (by have:=of_decide_eq_true c2;omega)⟩
     simp only[go_sem,s0,s5,s6,c1,hb,hlt,c2,this]
    |false=>
     simp only[go_sem,s0,s5,s6,c1,hb,hlt,c2,hinc]
     refine⟨i+1,by omega,by omega,rfl,fun x hx=>?_⟩
     rw[List.take_add_one,hb] at hx
     rcases List.mem_append.1 hx with hx|hx
     ·exact hpre x hx
     ·have:x=b:=by simpa using hx
      subst this;have:=of_decide_eq_false c2;omega
 refine⟨_,?_,key⟩
 split<;>decide
def cnt (i acc:Nat) (o:Option (Nat×List UInt8)):Option (Nat×List UInt8):=o.bind fun q=>if 0<i∧q.1=0 then none else some (acc+128 ^ i*q.1,q.2)
theorem Yfk (o:Option (Nat×List UInt8)):cnt 0 0 o=o:=by cases o<;>simp[cnt]
theorem Yd5 {i acc k:Nat} {b:UInt8} {s:List UInt8} (hb:128≤b.toNat):cnt i acc (tk (k+1) (b::s))=cnt (i+1) (acc+128 ^ i*(b.toNat % 128)) (tk k s):=by
 have hb2:=b.toNat_lt
 have hm:b.toNat % 128=b.toNat-128:=by omega
 simp only[tk,if_neg (show ¬b.toNat<128 by omega),hm]
 cases tk k s with
 |none=>rfl
 |some q=>
  obtain⟨n,r⟩:=q
  simp only[Option.bind_some,cnt]
  by_cases h0:n=0
  ·simp[h0]
  ·rw[if_neg h0]
   simp only[Option.bind_some]
   rw[if_neg (by omega),if_neg (by omega)]
   congr 2
   rw[Nat.pow_succ,Nat.mul_add,Nat.mul_assoc]
   omega
def tkE (el:Int):Nat→List UInt8→Int
 |_,[]=>2
 |i,b::s=>if 8<i then (if 128≤b.toNat∨0<b.toNat % 128 then el else 3) else if 128≤b.toNat then tkE el (i+1) s else 3
theorem Yeo {el:Int} (hel:el≠0):∀{i:Nat} {s:List UInt8},tkE el i s≠0
 |_,[]=>by simp[tkE]
 |i,b::s=>by
  simp only[tkE]
  split
  ·split
   ·exact hel
   ·decide
  ·split
   ·exact Yeo hel
   ·decide
def H491 (Pg:Nat→Option Fn):Prop:=Pg 491=some (.code F491)∧H505 Pg
theorem K491 (h:H491 Pg) (s:List UInt8) (hs:s.length<2 ^ 62):∃e:Int,e≠0∧K' Pg 491 [.str s]=some (eTk e (tk 9 s)):=by
 obtain⟨h,h505⟩:=h
 obtain⟨el,hel,k505⟩:=K505 h505 s hs
 refine⟨tkE el 0 s,Yeo hel,?_⟩
 refine K'_code h rfl ?_
 simp only[F491,c491,go_sem]
 have and127:=Yet
 simp only[go_sem,Option.some.injEq,V.int.injEq,true_and] at and127
 unfold l491_0
 refine JiG (fun (i:Nat) S=>i≤s.length∧i≤9∧S.ρ 0=.str s∧S.ρ 9=iz s.length∧S.ρ 10=iz i∧∃acc:Nat,acc<128 ^ i∧S.ρ 5=iz acc∧tk 9 s=cnt i acc (tk (9-i) (s.drop i))∧tkE el 0 s=tkE el i (s.drop i)) (fun i=>s.length-i) 0 ?_ ?_
 ·exact⟨Nat.zero_le _,Nat.zero_le _,rfl,rfl,rfl,0,by decide,rfl,(Yfk _).symm,rfl⟩
 ·intro i S ⟨hi,hi9,s0,s9,s10,acc,hacc,s5,htk,hte⟩
  cases c1:decide ((i:Int)<(s.length:Int)) with
  |false=>
   have:i=s.length:=by have:=of_decide_eq_false c1;omega
   subst this
   rw[List.drop_length] at htk hte
   have hval:eTk (tkE el 0 s) (tk 9 s)=.tuple [iz 0,.str [],iz 2]:=by rw[htk,hte];cases 9-s.length<;>rfl
   simp only[go_sem,s0,s9,s10,c1,hval]
  |true=>
   have hlt:=Yg c1
   obtain⟨b,hb,hdr⟩:=Jin hlt
   rw[hdr] at htk hte
   have hinc:IntKind.i64.wrap ((i:Int)+1)=((i+1:Nat):Int):=by rw[JiD (by omega) (by omega)];omega
   have hmul:IntKind.i64.wrap (7*(i:Int))=((7*i:Nat):Int):=by rw[JiD (by omega) (by omega)];omega
   have hw7:IntKind.i64.wrap ((b.toNat % 128:Nat):Int)=((b.toNat % 128:Nat):Int):=JiD (by omega) (by omega)
   have hb2:=b.toNat_lt
   cases c2:decide ((8:Int)<i) with
   |true=>
    have h9:i=9:=by have:=of_decide_eq_true c2;omega
    have e1:tk 9 s=none:=by rw[htk,show 9-i=0 by omega];rfl
    have e2:tkE el 0 s=if 128≤b.toNat∨0<b.toNat % 128 then el else 3:=by rw[hte];simp only[tkE];rw[if_pos (by omega)]
    cases c3:decide ((128:Int)≤(b.toNat:Int)) with
    |true=>
     have hval:eTk (tkE el 0 s) (tk 9 s)=.tuple [iz 0,.str [],iz el]:=by rw[e1,e2,if_pos (.inl (by have:=of_decide_eq_true c3;omega))];rfl
     simp only[go_sem,s0,s5,s9,s10,c1,c2,c3,hb,hlt,and127,hw7,k505,hval]
    |false=>
    cases c4:decide ((0:Int)<((b.toNat % 128:Nat):Int)) with
    |true=>
     have hval:eTk (tkE el 0 s) (tk 9 s)=.tuple [iz 0,.str [],iz el]:=by rw[e1,e2,if_pos (.inr (by have:=of_decide_eq_true c4;omega))];rfl
     simp only[go_sem,s0,s5,s9,s10,c1,c2,c3,c4,hb,hlt,and127,hw7,k505,hval]
    |false=>
     have c5:decide (((b.toNat % 128:Nat):Int)=0)=true:=decide_eq_true (by have:=of_decide_eq_false c4;omega)
     have c6:decide ((0:Int)<(i:Int))=true:=decide_eq_true (by omega)
     have hval:eTk (tkE el 0 s) (tk 9 s)=.tuple [iz 0,.str [],iz 3]:=by rw[e1,e2,if_neg (by have:=of_decide_eq_false c4;have:=of_decide_eq_false c3;omega)];rfl
     simp only[go_sem,s0,s5,s9,s10,c1,c2,c3,c4,c5,c6,hb,hlt,and127,hw7,k505,hval]
   |false=>
    have h8:i≤8:=by have:=of_decide_eq_false c2;omega
    have hor:=Ye6 (acc:=acc) (d:=b.toNat % 128) (i:=i) hacc (by omega) h8
    simp only[go_sem,Option.some.injEq,V.int.injEq,true_and] at hor
    have hsh:shV .shl (iz ((b.toNat % 128:Nat):Int)) (iz ((7*i:Nat):Int))=some (iz (IntKind.i64.wrap (((b.toNat % 128:Nat):Int)*2 ^ min (7*i) 64))):=by
     simp only[shV];rw[if_neg (by omega)];rfl
    have hnext:acc+128 ^ i*(b.toNat % 128)<128 ^ (i+1):=by
     have:=Nat.mul_le_mul (Nat.le_refl (128 ^ i)) (show b.toNat % 128+1≤128 by omega)
     rw[Nat.mul_add] at this
     rw[Nat.pow_succ];omega
    cases c3:decide ((128:Int)≤(b.toNat:Int)) with
    |true=>
     have h128:128≤b.toNat:=by have:=of_decide_eq_true c3;omega
     rw[show 9-i=(8-i)+1 by omega,Yd5 h128,show 8-i=9-(i+1) by omega] at htk
     simp only[tkE] at hte
     rw[if_neg (by omega),if_pos h128] at hte
     simp only[go_sem,s0,s5,s9,s10,c1,c2,c3,hb,hlt,and127,hw7,hmul,hsh,hor,hinc]
     exact⟨i+1,by omega,by omega,by omega,rfl,_,hnext,rfl,htk,hte⟩
    |false=>
     have h128:b.toNat<128:=by have:=of_decide_eq_false c3;omega
     have hmd:b.toNat % 128=b.toNat:=by omega
     have hle1:i+1≤s.length:=hlt
     have e0:tk (9-i) (b::s.drop (i+1))=some (b.toNat,s.drop (i+1)):=by
      rw[show 9-i=(8-i)+1 by omega];simp only[tk];rw[if_pos h128]
     rw[e0] at htk
     simp only[tkE] at hte
     rw[if_neg (by omega),if_neg (by omega)] at hte
     cases c4:decide (((b.toNat % 128:Nat):Int)=0) with
     |true=>
      have h0:b.toNat=0:=by have:=of_decide_eq_true c4;omega
      cases c5:decide ((0:Int)<(i:Int)) with
      |true=>
       have hval:eTk (tkE el 0 s) (tk 9 s)=.tuple [iz 0,.str [],iz 3]:=by
        rw[htk,hte]
        simp only[cnt,Option.bind_some]
        rw[if_pos ⟨by have:=of_decide_eq_true c5;omega,h0⟩];rfl
       simp only[go_sem,s0,s5,s9,s10,c1,c2,c3,c4,c5,hb,hlt,and127,hw7,hmul,hsh,hor,hval]
      |false=>
       have hval:eTk (tkE el 0 s) (tk 9 s)=.tuple [iz ((acc+128 ^ i*(b.toNat % 128):Nat):Int),.str (s.drop (i+1)),iz 0]:=by
        rw[htk]
        simp only[cnt,Option.bind_some]
        rw[if_neg (by have:=of_decide_eq_false c5;omega),hmd];rfl
       simp only[go_sem,s0,s5,s9,s10,c1,c2,c3,c4,c5,hb,hlt,and127,hw7,hmul,hsh,hor,hinc,hle1,List.take_length,hval]
     |false=>
      have hval:eTk (tkE el 0 s) (tk 9 s)=.tuple [iz ((acc+128 ^ i*(b.toNat % 128):Nat):Int),.str (s.drop (i+1)),iz 0]:=by
       rw[htk]
       simp only[cnt,Option.bind_some]
       rw[if_neg (by have:=of_decide_eq_false c4;omega),hmd];rfl
      simp only[go_sem,s0,s5,s9,s10,c1,c2,c3,c4,hb,hlt,and127,hw7,hmul,hsh,hor,hinc,hle1,List.take_length,hval]
def H506 (Pg:Nat→Option Fn):Prop:=Pg 506=some (.code F506)∧H491 Pg
theorem K506 (h:H506 Pg) (s:List UInt8) (hs:s.length<2 ^ 62):∃e:Int,e≠0∧K' Pg 506 [.str s]=some (Ycj e (tkT s)):=by
 obtain⟨h,h491⟩:=h
 obtain⟨e,he,k⟩:=K491 h491 s hs
 unfold tkT
 cases hq:tk 9 s with
 |none=>
  rw[hq] at k
  have hd:decide (e=0)=false:=decide_eq_false he
  refine⟨e,he,K'_code h rfl ?_⟩
  simp only[eTk] at k
  simp only[F506,c506,go_sem,k,hd,Option.bind_none,Ycj]
 |some q=>
  obtain⟨n,r⟩:=q
  rw[hq] at k
  simp only[eTk] at k
  simp only[Option.bind_some]
  have hn:=YeV hq
  cases c1:decide ((r.length:Int)<n) with
  |true=>
   refine⟨2,by decide,K'_code h rfl ?_⟩
   have h1:¬n≤r.length:=by have:=of_decide_eq_true c1;omega
   simp only[F506,c506,go_sem,k,c1,if_neg h1,Ycj]
  |false=>
   refine⟨2,by decide,K'_code h rfl ?_⟩
   have h1:n≤r.length:=by have:=of_decide_eq_false c1;omega
   simp only[F506,c506,go_sem,k,c1,h1,Ycj,List.take_length]
def H507 (Pg:Nat→Option Fn):Prop:=Pg 507=some (.code F507)
theorem K507 (h:H507 Pg) (s:List UInt8):∃e:Int,e≠0∧K' Pg 507 [.str s]=some (Yci e (tkF s)):=by
 cases s with
 |nil=>
  refine⟨2,by decide,K'_code h rfl ?_⟩
  simp only[F507,c507,go_sem,tkF,Yci]
 |cons b s=>
  have h0:Jc2 (.str (b::s)) (.int .i64 0)=some (.int .u8 b.toNat):=rfl
  have hne:decide (b::s=[])=false:=rfl
  have e1:decide ((b.toNat:Int)=1)=decide (b.toNat=1):=decide_eq_decide.2 (by omega)
  have hl1:1≤s.length+1:=by omega
  have htl:List.take (s.length+1) (b::s)=b::s:=by simp
  refine⟨3,by decide,K'_code h rfl ?_⟩
  cases c1:decide ((1:Int)<b.toNat) with
  |true=>
   have h1:¬b.toNat≤1:=by have:=of_decide_eq_true c1;omega
   simp only[F507,c507,go_sem,c1,h0,tkF,Yci,if_neg h1]
  |false=>
   have h1:b.toNat≤1:=by have:=of_decide_eq_false c1;omega
   simp only[F507,c507,go_sem,c1,h0,e1,hl1,htl,tkF,Yci,if_pos h1,List.length_cons,List.drop_succ_cons,List.drop_zero]
def H470 (Pg:Nat→Option Fn):Prop:=Pg 470=some (.code F470)∧H487 Pg
theorem K470 (h:H470 Pg) (s:List UInt8) (hs:s.length<2 ^ 62):∃e:Int,e≠0∧K' Pg 470 [.str s]=some (eTk e (tk 9 s)):=by
 obtain⟨h,h487⟩:=h
 by_cases hall:s.all fun b=>decide (128≤b.toNat)
 ·refine⟨2,by decide,K'_code h rfl ?_⟩
  have hval:eTk 2 (tk 9 s)=.tuple [iz 0,.str [],iz 2]:=by
   rw[tk_no fun b hb=>by
    rw[List.all_eq_true] at hall
    simpa using hall b (List.mem_of_mem_take hb)]
   rfl
  simp only[F470,c470,go_sem,hval]
  unfold l470_0
  refine JiG (fun (i:Nat) S=>i≤s.length∧S.ρ 0=.str s∧S.ρ 5=iz i) (fun i=>s.length-i) 0 ?_ ?_
  ·exact⟨Nat.zero_le _,rfl,rfl⟩
  ·intro i S ⟨hi,s0,s5⟩
   cases c1:decide ((i:Int)<(s.length:Int)) with
   |false=>
    have c2:decide ((i:Int)=(s.length:Int))=true:=decide_eq_true (by have:=of_decide_eq_false c1;omega)
    simp only[go_sem,s0,s5,c1,c2]
   |true=>
    have hlt:=Yg c1
    obtain⟨b,hb,-⟩:=Jin hlt
    have hinc:IntKind.i64.wrap ((i:Int)+1)=((i+1:Nat):Int):=by rw[JiD (by omega) (by omega)];omega
    have c2:decide ((128:Int)≤b.toNat)=true:=decide_eq_true (by
     rw[List.all_eq_true] at hall
     have:=hall b (List.mem_of_getElem? hb)
     simp at this;omega)
    simp only[go_sem,s0,s5,c1,c2,hb,hlt,hinc]
    exact⟨i+1,by omega,by omega,rfl⟩
 ·obtain⟨l,c,r,hl,hc,rfl⟩:∃l c r,(∀b∈l,128≤b.toNat)∧c.toNat<128∧s=l++c::r:=by
   clear hs
   induction s with
   |nil=>simp at hall
   |cons b s ih=>
    by_cases hb:b.toNat<128
    ·exact⟨[],b,s,fun x hx=>by simp at hx,hb,rfl⟩
    ·obtain⟨l,c,r,h1,h2,h3⟩:=ih (fun h'=>hall (by simp only[List.all_cons,h',Bool.and_true,decide_eq_true_eq];omega))
     exact⟨b::l,c,r,fun x hx=>by
      rcases List.mem_cons.1 hx with rfl|hx
      ·omega
      ·exact h1 x hx,h2,by rw[h3];rfl⟩
  have hat:(l++c::r)[l.length]?=some c:=by simp
  have hpos:∀i,i<l.length→∃b,(l++c::r)[i]?=some b∧b∈l:=fun i hi=>⟨l[i],by rw[List.getElem?_append_left hi];simp[hi],List.getElem_mem hi⟩
  have htk:(l++c::r).take (l.length+1)=l++[c]:=by
   rw[show l++c::r=(l++[c])++r by simp,List.take_append_of_le_length (by simp),List.take_of_length_le (by simp)]
  have hdp:(l++c::r).drop (l.length+1)=r:=by
   rw[show l++c::r=(l++[c])++r by simp,List.drop_append_of_le_length (by simp),List.drop_of_length_le (by simp)];rfl
  have hlen:l.length<(l++c::r).length:=by simp
  rw[tk_end hl hc]
  refine⟨3,by decide,K'_code h rfl ?_⟩
  generalize hR:(if l.length+1≤9∧putB (val (l++[c]))=l++[c] then some (val (l++[c]),r) else none)=R
  generalize hsv:l++c::r=s at *
  simp only[F470,c470,go_sem]
  unfold l470_0
  refine JiG (fun (i:Nat) S=>i≤l.length∧S.ρ 0=.str s∧S.ρ 5=iz i) (fun i=>l.length-i) 0 ?_ ?_
  ·exact⟨Nat.zero_le _,rfl,rfl⟩
  ·intro i S ⟨hi,s0,s5⟩
   have c1:decide ((i:Int)<(s.length:Int))=true:=decide_eq_true (by omega)
   have hlt:i<s.length:=by omega
   have hinc:IntKind.i64.wrap ((i:Int)+1)=((i+1:Nat):Int):=by rw[JiD (by omega) (by omega)];omega
   by_cases hil:i<l.length
   ·obtain⟨b,hb,hbl⟩:=hpos i hil
    have c2:decide ((128:Int)≤b.toNat)=true:=decide_eq_true (by have:=hl b hbl;omega)
    simp only[go_sem,s0,s5,c1,c2,hb,hlt,hinc]
    exact⟨i+1,by omega,by omega,rfl⟩
   ·have hie:i=l.length:=by omega
    rw[←hie] at hat htk hdp
    have c2:decide ((128:Int)≤c.toNat)=false:=decide_eq_false (by omega)
    have c3:decide ((i:Int)=(s.length:Int))=false:=decide_eq_false (by omega)
    cases c4:decide ((8:Int)<i) with
    |true=>
     rw[if_neg (by have:=of_decide_eq_true c4;omega)] at hR
     subst hR
     simp only[go_sem,s0,s5,c1,c2,c3,c4,hat,hlt,eTk]
    |false=>
     have h8:i≤8:=by have:=of_decide_eq_false c4;omega
     simp only[go_sem,s0,s5,c1,c2,c3,c4,hat,hlt]
     have hv63:val (l++[c])<2 ^ 63:=by
      have h1:=YdC (l++[c])
      have h2:(128:Nat) ^ (l++[c]).length≤128 ^ 9:=Nat.pow_le_pow_right (by omega) (by simp;omega)
      have h3:(128:Nat) ^ 9=2 ^ 63:=by decide
      omega
     have k487:=K487 h487 (val (l++[c])) hv63
     unfold l470_1
     refine JiG (fun (m:Nat) S=>m≤i+1∧S.ρ 0=.str s∧S.ρ 5=iz i∧S.ρ 7=iz ((m:Int)-1)∧S.ρ 6=iz (val ((l++[c]).drop m))) (fun m=>m) (i+1) ?_ ?_
     ·refine⟨Nat.le_refl _,by simp only[go_sem,s0],by simp only[go_sem,s5],by simp only[go_sem];congr 1;omega,?_⟩
      rw[List.drop_of_length_le (by simp;omega)]
      simp only[go_sem];rfl
     ·intro m S ⟨hm,s0,s5,s7,s6⟩
      by_cases hm0:m=0
      ·have c6:decide ((0:Int)≤(m:Int)-1)=false:=decide_eq_false (by omega)
       rw[show (l++[c]).drop m=l++[c] by rw[hm0];rfl] at s6
       have hle1:i+1≤s.length:=hlt
       by_cases hp:putB (val (l++[c]))=l++[c]
       ·rw[if_pos ⟨by omega,hp⟩] at hR
        subst hR
        have c7:decide (putB (val (l++[c]))=l++[c])=true:=decide_eq_true hp
        simp only[go_sem,s0,s5,s6,s7,c6,k487,hinc,hle1,htk,hdp,c7,eTk,List.take_length]
       ·rw[if_neg (fun h'=>hp h'.2)] at hR
        subst hR
        have c7:decide (putB (val (l++[c]))=l++[c])=false:=decide_eq_false hp
        simp only[go_sem,s0,s5,s6,s7,c6,k487,hinc,hle1,htk,hdp,c7,eTk,List.take_length]
      ·obtain⟨j,rfl⟩:∃j,m=j+1:=⟨m-1,by omega⟩
       have c6:decide ((0:Int)≤((j+1:Nat):Int)-1)=true:=decide_eq_true (by omega)
       have hj:(((j+1:Nat):Int)-1)=(j:Int):=by omega
       rw[hj] at s7 c6
       have hjs:j<s.length:=by omega
       obtain⟨b,hb',hdrop⟩:=Jin (show j<(l++[c]).length by simp;omega)
       have hb:s[j]?=some b:=by rw[←hb',←htk,List.getElem?_take_of_lt (by omega)]
       have hvj:val ((l++[c]).drop j)<2 ^ 63:=by
        have h1:=YdC ((l++[c]).drop j)
        have h2:(128:Nat) ^ ((l++[c]).drop j).length≤128 ^ 9:=Nat.pow_le_pow_right (by omega) (by simp;omega)
        have h3:(128:Nat) ^ 9=2 ^ 63:=by decide
        omega
       rw[hdrop] at hvj
       simp only[val] at hvj
       have hw1:IntKind.i64.wrap (128*((val ((l++[c]).drop (j+1)):Nat):Int))=((128*val ((l++[c]).drop (j+1)):Nat):Int):=by rw[JiD (by omega) (by omega)];omega
       have hbl:=b.toNat_lt
       have hw2:IntKind.i64.wrap (b.toNat:Int)=(b.toNat:Int):=JiD (by omega) (by omega)
       have hmd:(b.toNat:Int).tmod 128=((b.toNat % 128:Nat):Int):=rfl
       have hw3:IntKind.i64.wrap (((128*val ((l++[c]).drop (j+1)):Nat):Int)+((b.toNat % 128:Nat):Int))=((val ((l++[c]).drop j):Nat):Int):=by
        rw[JiD (by omega) (by omega),hdrop];simp only[val];omega
       have hdec:IntKind.i64.wrap ((j:Int)-1)=(j:Int)-1:=JiD (by omega) (by omega)
       simp only[go_sem,s0,s5,s6,s7,c6,hb,hjs,hw1,hw2,hw3,hmd,hdec]
       exact⟨j,by omega,by omega,rfl,rfl⟩
structure Stamp where
 wall:Int
 tick:Int
 node:Int
 deriving DecidableEq
structure Ver where
 at_:Stamp
 gone:Bool
 val:List UInt8
 deriving DecidableEq
@[go_sem] def Yd (s:Stamp):List V:=[iz s.wall,iz s.tick,iz s.node]
@[go_sem] def YI (v:Ver):List V:=[iz v.at_.wall,iz v.at_.tick,iz v.at_.node,.bool v.gone,.str v.val]
def Ya (c:List Ver):V:=.slice 5 (c.map YI)
def YbB (a b:Int):Bool:=decide (0≤a)&&decide (a≤b)
def Ycu (a b:Int):Int:=if a<b then -1 else if b<a then 1 else 0
def orI:List Int→Int
 |[]=>0
 |a::l=>if a=0 then orI l else a
def Yb (s:Stamp):Bool:=YbB s.wall 1099511627776&&YbB s.tick 1048576&&YbB s.node 255
def Yc (a b:Stamp):Int:=orI [Ycu a.wall b.wall,Ycu a.tick b.tick,Ycu a.node b.node]
def Yv (v:Ver):Bool:=Yb v.at_&&decide (v.val.length≤16)&&(!v.gone||decide (v.val=[]))
def H32 (Pg:Nat→Option Fn):Prop:=Pg 32=some (.code F32)
theorem K32 (h:H32 Pg) (a b:Int):K' Pg 32 [iz a,iz b]=some (.bool (YbB a b)):=by
 refine K'_code h rfl ?_
 simp only[go_sem]
 refine JiF (fun h=>?_) (fun h=>?_)<;>simp only[go_sem,h,YbB]
def H31 (Pg:Nat→Option Fn):Prop:=Pg 31=some (.code F31)
theorem K31 (h:H31 Pg) (a:Int):K' Pg 31 [iz a]=some (.bool false):=by
 refine K'_code h rfl ?_
 simp only[go_sem]
def H26 (Pg:Nat→Option Fn):Prop:=Pg 26=some (.code F26)∧H31 Pg
theorem K26 (h:H26 Pg) (a b:Int):K' Pg 26 [iz a,iz b]=some (iz (Ycu a b)):=by
 obtain⟨h,h31⟩:=h
 refine K'_code h rfl ?_
 have k31:=fun x=>K31 h31 x
 simp only[go_sem,k31]
 repeat' (refine JiH (fun h=>?_) (fun h=>?_)<;>simp only[go_sem])
 all_goals simp_all [Ycu]
 omega
def H27 (Pg:Nat→Option Fn):Prop:=Pg 27=some (.code F27)
theorem K27 (h:H27 Pg) (l:List Int) (hl:l.length<2 ^ 60):K' Pg 27 [.slice 1 (l.map fun a=>[iz a])]=some (iz (orI l)):=by
 refine K'_code h rfl ?_
 simp only[go_sem]
 unfold l27_0
 refine JiG (fun (i:Nat) S=>i≤l.length∧S.ρ 3=iz 0∧S.ρ 6=.slice 1 (l.map fun a=>[iz a])∧S.ρ 7=iz l.length∧S.ρ 8=iz i∧orI (l.drop i)=orI l) (fun i=>l.length-i) 0 ?_ ?_
 ·simp[go_sem]
 ·intro i S ⟨hi,h3,h6,h7,h8,ho⟩
  simp only[go_sem,h3,h6,h7,h8]
  refine JiH (fun h=>?_) (fun h=>?_)
  ·simp only[decide_eq_true_eq,Int.ofNat_lt] at h
   obtain⟨x,hx,hd⟩:=Jin h
   simp only[go_sem,h3,h6,h7,h8,hx]
   refine JiH (fun h=>?_) (fun h=>?_)
   ·simp only[go_sem]
    simp only[Bool.not_eq_true',decide_eq_false_iff_not] at h
    rw[←ho,hd];simp[orI,h]
   ·simp only[go_sem,h3,h6,h7,h8]
    simp only[Bool.not_eq_false',decide_eq_true_eq] at h
    refine⟨i+1,by omega,by omega,?_,by rw[←ho,hd];simp[orI,h]⟩
    rw[JiD (by omega) (by omega)];rfl
  ·simp only[decide_eq_false_iff_not,Int.ofNat_lt] at h
   simp only[go_sem,h3]
   have:i=l.length:=by omega
   rw[←ho,this];simp[orI]
def H15 (Pg:Nat→Option Fn):Prop:=Pg 15=some (.code F15)∧H26 Pg∧H27 Pg
theorem K15 (h:H15 Pg) (a b:Stamp):K' Pg 15 [.agg (Yd a),.agg (Yd b)]=some (iz (Yc a b)):=by
 obtain⟨h,h26,h27⟩:=h
 refine K'_code h rfl ?_
 have k26:=fun x y=>K26 h26 x y
 have k27:=K27 h27 [Ycu a.wall b.wall,Ycu a.tick b.tick,Ycu a.node b.node] (by simp)
 simp only[List.map_cons,List.map_nil] at k27
 simp only[go_sem,k26,k27,Yc]
def H28 (Pg:Nat→Option Fn):Prop:=Pg 28=some (.code F28)∧H32 Pg
theorem K28 (h:H28 Pg) (a:Stamp):K' Pg 28 [.agg (Yd a)]=some (.bool (Yb a)):=by
 obtain⟨h,h32⟩:=h
 refine K'_code h rfl ?_
 have k:=fun x y=>K32 h32 x y
 simp only[go_sem,k]
 repeat' (refine JiF (fun h=>?_) (fun h=>?_)<;>simp only[go_sem,h,k,Yb])
def H22 (Pg:Nat→Option Fn):Prop:=Pg 22=some (.code F22)∧H28 Pg
theorem K22 (h:H22 Pg) (a:Ver):K' Pg 22 [.agg (YI a)]=some (.bool (Yv a)):=by
 obtain⟨h,h28⟩:=h
 refine K'_code h rfl ?_
 have k:=K28 h28 a.at_
 simp only[Yd] at k
 simp only[go_sem,k]
 repeat' (first|refine JiF (fun h=>?_) (fun h=>?_)<;>simp only[go_sem,h,k]|refine JiE (fun h=>?_) (fun h=>?_)<;>simp only[go_sem,h,k])
 all_goals simp_all [Yv]
 all_goals omega
def chR:Option Ver→List Ver→Bool
 |_,[]=>true
 |p,v::l=>Yv v&&(match p with|none=>true|some q=>decide (Yc q.at_ v.at_<0))&&chR (some v) l
def Yf (c:List Ver):Bool:=chR none c&&decide (c.length≤64)
def Yaj (c:List Ver) (i:Nat):Option Ver:=if i=0 then none else c[i-1]?
def H7 (Pg:Nat→Option Fn):Prop:=Pg 7=some (.code F7)∧H22 Pg∧H15 Pg
theorem K7 (h:H7 Pg) (l:List Ver) (hl:l.length<2 ^ 60):K' Pg 7 [Ya l]=some (.bool (Yf l)):=by
 obtain⟨h,h22,h15⟩:=h
 refine K'_code h rfl ?_
 have k22:=fun x=>K22 h22 x
 have k15:=fun x y=>K15 h15 x y
 simp only[go_sem,Ya]
 unfold l7_0
 refine JiG (fun (i:Nat) S=>i≤l.length∧S.ρ 0=Ya l∧S.ρ 5=Ya l∧S.ρ 6=iz l.length∧S.ρ 7=iz i∧S.μ 4=none∧chR (Yaj l i) (l.drop i)=chR none l) (fun i=>l.length-i) 0 ?_ ?_
 ·simp[go_sem,Ya,Yaj]
 ·intro i S ⟨hi,h0,h5,h6,h7,hm,ho⟩
  simp only[go_sem,h5,h6,h7,h0]
  refine JiH (fun h=>?_) (fun h=>?_)
  ·simp only[decide_eq_true_eq,Int.ofNat_lt] at h
   obtain⟨x,hx,hd⟩:=Jin h
   simp only[Yd,YI] at k22 k15
   have hstep:(Yv x=true→chR (Yaj l i) (x::l.drop (i+1))=((match Yaj l i with|none=>true|some q=>decide (Yc q.at_ x.at_<0))&&chR (some x) (l.drop (i+1)))):=fun h=>by simp[chR,h]
   have hnext:Yaj l (i+1)=some x:=by simp[Yaj,hx]
   have hinc:IntKind.i64.wrap ((i:Int)+1)=((i+1:Nat):Int):=JiD (by omega) (by omega)
   have hbad:Yv x=false→chR none l=false:=fun h=>by rw[←ho,hd];simp[chR,h]
   cases hv:Yv x with
   |false=>simp only[go_sem,h0,h5,h6,h7,hx,Ya,hm,k22,hv,Bool.not_false,Yf,hbad hv]
   |true=>
    rcases Nat.eq_zero_or_pos i with hz|hz
    ·have hgt:decide ((0:Int)<(i:Int))=false:=by simp[hz]
     simp only[go_sem,h0,h5,h6,h7,hx,Ya,hm,k22,hv,Bool.not_true,hgt]
     refine⟨i+1,by omega,by omega,by rw[hinc],?_⟩
     rw[hnext,←ho,hd,hstep hv];simp[Yaj,hz]
    ·have hgt:decide ((0:Int)<(i:Int))=true:=by simp[hz]
     have hdec:IntKind.i64.wrap ((i:Int)-1)=((i-1:Nat):Int):=by rw[JiD (by omega) (by omega)];omega
     have hy:l[i-1]?=some l[i-1]:=by simp
     have hp:Yaj l i=some l[i-1]:=by simp[Yaj,Nat.ne_of_gt hz]
     simp only[go_sem,h0,h5,h6,h7,hx,Ya,hm,k22,hv,Bool.not_true,hgt,hdec,hy,k15]
     refine JiH (fun hc=>?_) (fun hc=>?_)
     ·simp only[go_sem]
      have:¬Yc l[i-1].at_ x.at_<0:=by simpa using hc
      have:chR none l=false:=by rw[←ho,hd,hstep hv,hp];simp[this]
      simp[Yf,this]
     ·simp only[go_sem,h0,h5,h6,h7,hm,Ya]
      have:Yc l[i-1].at_ x.at_<0:=by simpa using hc
      refine⟨i+1,by omega,by omega,by rw[hinc],?_⟩
      rw[hnext,←ho,hd,hstep hv,hp];simp[this]
  ·simp only[decide_eq_false_iff_not,Int.ofNat_lt] at h
   simp only[go_sem,h0,Ya]
   have:i=l.length:=by omega
   subst this
   simp[chR] at ho
   have:(decide ((l.length:Int)≤64))=decide (l.length≤64):=decide_eq_decide.2 (by omega)
   simp[Yf,←ho,this]
theorem Y4 {a b:Stamp}:Yc a b<0↔a.wall<b.wall∨(a.wall=b.wall∧(a.tick<b.tick∨(a.tick=b.tick∧a.node<b.node))):=by
 simp only[Yc,orI,Ycu]
 repeat' split
 all_goals omega
theorem YbL {a b:Stamp}:0<Yc a b↔b.wall<a.wall∨(b.wall=a.wall∧(b.tick<a.tick∨(b.tick=a.tick∧b.node<a.node))):=by
 simp only[Yc,orI,Ycu]
 repeat' split
 all_goals omega
theorem YaZ {p:Option Ver} {v:Ver} {l:List Ver} (h:chR p (v::l)=true):chR (some v) l=true:=by
 simp only[chR,Bool.and_eq_true] at h;exact h.2
theorem YcY {p v:Ver} {l:List Ver} (h:chR (some p) l=true) (hv:v∈l):Yc p.at_ v.at_<0:=by
 induction l generalizing p with
 |nil=>simp at hv
 |cons w l ih=>
  simp only[chR,Bool.and_eq_true,decide_eq_true_eq] at h
  rcases List.mem_cons.1 hv with rfl|hv
  ·exact h.1.2
  ·have h2:=ih h.2 hv
   have h1:=h.1.2
   rw[Y4] at h1 h2 ⊢
   omega
theorem YbE:∀{c:List Ver} {p:Option Ver} {i j:Nat} {v w:Ver},chR p c=true→i<j→c[i]?=some v→c[j]?=some w→Yc v.at_ w.at_<0
 |[],_,i,j,v,w,_,_,hv,_=>by simp at hv
 |x::l,p,i,j,v,w,hc,hij,hv,hw=>by
  cases j with
  |zero=>omega
  |succ j=>
   cases i with
   |zero=>
    simp at hv hw;subst hv
    exact YcY (YaZ hc) (List.mem_of_getElem? hw)
   |succ i=>exact YbE (c:=l) (i:=i) (j:=j) (YaZ hc) (by omega) (by simpa using hv) (by simpa using hw)
theorem YP {c:List Ver} (h:Yf c=true):chR none c=true∧c.length≤64:=by
 simpa [Yf] using h
def before (a b:Stamp):Bool:=decide (Yc a b<0)
def H6 (Pg:Nat→Option Fn):Prop:=Pg 6=some (.code F6)
theorem K6 (h:H6 Pg) (a b:Stamp):K' Pg 6 [.agg (Yd a),.agg (Yd b)]=some (.bool (before a b)):=by
 refine K'_code h rfl ?_
 simp only[go_sem]
 repeat' (refine JiH (fun h=>?_) (fun h=>?_)<;>simp only[go_sem])
 all_goals
  simp only[before,Option.some.injEq,V.bool.injEq,decide_eq_decide,Y4,Bool.not_eq_true',Bool.not_eq_false',decide_eq_false_iff_not,decide_eq_true_eq] at *
  omega
def H24 (Pg:Nat→Option Fn):Prop:=Pg 24=some (.code F24)
theorem K24 (h:H24 Pg) (a:Stamp):K' Pg 24 [.agg (Yd a)]=some (.bool (Yb a)):=by
 refine K'_code h rfl ?_
 simp only[go_sem]
 repeat' (refine JiF (fun h=>?_) (fun h=>?_)<;>simp only[go_sem,h])
 all_goals simp_all [Yb,YbB]
 all_goals (intros;omega)
def H5 (Pg:Nat→Option Fn):Prop:=Pg 5=some (.code F5)∧H24 Pg
theorem K5 (h:H5 Pg) (v:Ver):K' Pg 5 [.agg (YI v)]=some (.bool (Yv v)):=by
 obtain⟨h,h24⟩:=h
 refine K'_code h rfl ?_
 have k24:=K24 h24 v.at_
 simp only[Yd] at k24
 simp only[go_sem,k24]
 repeat' (first|refine JiF (fun h=>?_) (fun h=>?_)<;>simp only[go_sem,h,k24]|refine JiH (fun h=>?_) (fun h=>?_)<;>simp only[go_sem,h,k24])
 all_goals
  simp only[Yv,Option.some.injEq,V.bool.injEq] at *
  cases hv:v.val<;>simp_all
 all_goals omega
def Ybw:Option Ver→Ver→Bool
 |none,_=>true
 |some q,x=>decide (Yc q.at_ x.at_<0)
theorem YaE {p:Option Ver} {x:Ver} {l:List Ver} (h:Yv x=true):chR p (x::l)=(Ybw p x&&chR (some x) l):=by
 cases p<;>simp[chR,Ybw,h]
def H4 (Pg:Nat→Option Fn):Prop:=Pg 4=some (.code F4)∧H5 Pg∧H6 Pg
theorem K4 (h:H4 Pg) (l:List Ver) (hl:l.length<2 ^ 60):K' Pg 4 [Ya l]=some (.bool (Yf l)):=by
 obtain⟨h,h5',h6'⟩:=h
 refine K'_code h rfl ?_
 have k5:=fun x=>K5 h5' x
 have k6:=fun x y=>K6 h6' x y
 simp only[YI,Yd] at k5 k6
 simp only[go_sem,Ya]
 refine JiH (fun hc=>?_) (fun hc=>?_)
 ·have hc:¬l.length≤64:=by have:=of_decide_eq_true hc;omega
  simp only[go_sem,Yf,hc,decide_false]
 ·have hc:l.length≤64:=by have:=of_decide_eq_false hc;omega
  have hcr:Yf l=chR none l:=by simp[Yf,hc]
  simp only[go_sem,Ya]
  unfold l4_0
  refine JiG (fun (i:Nat) S=>i≤l.length∧S.ρ 0=Ya l∧S.ρ 3=iz i∧chR (Yaj l i) (l.drop i)=chR none l) (fun i=>l.length-i) 0 ?_ ?_
  ·simp[go_sem,Ya,Yaj]
  ·intro i S ⟨hi,h0,h3,ho⟩
   simp only[go_sem,h0,h3,Ya]
   refine JiH (fun h=>?_) (fun h=>?_)
   ·simp only[decide_eq_true_eq,Int.ofNat_lt] at h
    obtain⟨x,hx,hd⟩:=Jin h
    have hnext:Yaj l (i+1)=some x:=by simp[Yaj,hx]
    have hinc:IntKind.i64.wrap ((i:Int)+1)=((i+1:Nat):Int):=JiD (by omega) (by omega)
    have hbad:Yv x=false→chR none l=false:=fun h=>by rw[←ho,hd];simp[chR,h]
    simp only[go_sem,h0,h3,hx,Ya,k5]
    refine JiH (fun hv=>?_) (fun hv=>?_)
    ·have hv:Yv x=false:=by simpa using hv
     simp only[go_sem,hcr,hbad hv]
    ·have hv:Yv x=true:=by simpa using hv
     simp only[go_sem,h0,h3,Ya]
     refine JiF (fun hz=>?_) (fun hz=>?_)
     ·have hz':0<i:=by have:=of_decide_eq_true hz;omega
      have hdec:IntKind.i64.wrap ((i:Int)-1)=((i-1:Nat):Int):=by rw[JiD (by omega) (by omega)];omega
      have hy:l[i-1]?=some l[i-1]:=by simp
      have hp:Yaj l i=some l[i-1]:=by simp[Yaj,Nat.ne_of_gt hz']
      simp only[go_sem,h0,h3,hx,Ya,hz,hdec,hy,k6]
      refine JiH (fun hc=>?_) (fun hc=>?_)
      ·have hb:¬Yc l[i-1].at_ x.at_<0:=by simpa [before] using hc
       have:chR none l=false:=by rw[←ho,hd,YaE hv,hp];simp[Ybw,hb]
       simp only[go_sem,hcr,this]
      ·have hb:Yc l[i-1].at_ x.at_<0:=by simpa [before] using hc
       simp only[go_sem,h0,h3,Ya]
       refine⟨i+1,by omega,by omega,by rw[hinc],?_⟩
       rw[hnext,←ho,hd,YaE hv,hp];simp[Ybw,hb]
     ·have hz':i=0:=by have:=of_decide_eq_false hz;omega
      simp only[go_sem,h0,h3,hx,Ya,hz]
      refine⟨i+1,by omega,by omega,by rw[hinc],?_⟩
      rw[hnext,←ho,hd,YaE hv];simp[Ybw,Yaj,hz']
   ·simp only[decide_eq_false_iff_not,Int.ofNat_lt] at h
    have:i=l.length:=by omega
    subst this
    simp[chR] at ho
    simp only[go_sem,hcr,ho]
def H8 (Pg:Nat→Option Fn):Prop:=Pg 8=some (.code F8)
theorem K8 (h:H8 Pg) (a b:List Ver) (hl:a.length<2 ^ 60):K' Pg 8 [Ya a,Ya b]=some (.bool (decide (a=b))):=by
 refine K'_code h rfl ?_
 simp only[go_sem,Ya]
 refine JiH (fun hc=>?_) (fun hc=>?_)
 ·have hc:¬a.length=b.length:=by intro e;simp[e] at hc
  have:a≠b:=fun e=>hc (by rw[e])
  simp only[go_sem,this,decide_false]
 ·have hc:a.length=b.length:=by simp at hc;omega
  simp only[go_sem,Ya]
  unfold l8_0
  refine JiG (fun (i:Nat) S=>i≤a.length∧S.ρ 0=Ya a∧S.ρ 1=Ya b∧S.ρ 5=iz i∧a.take i=b.take i) (fun i=>a.length-i) 0 ?_ ?_
  ·simp[go_sem,Ya]
  ·intro i S ⟨hi,h0,h1,h5,ho⟩
   simp only[go_sem,h0,h1,h5,Ya]
   refine JiH (fun h=>?_) (fun h=>?_)
   ·simp only[decide_eq_true_eq,Int.ofNat_lt] at h
    obtain⟨x,hx,hd⟩:=Jin h
    obtain⟨y,hy,hd'⟩:=Jin (l:=b) (i:=i) (by omega)
    have hinc:IntKind.i64.wrap ((i:Int)+1)=((i+1:Nat):Int):=JiD (by omega) (by omega)
    simp only[go_sem,h0,h1,h5,hx,hy,Ya]
    have heq:(decide (x.at_.wall=y.at_.wall)&&(decide (x.at_.tick=y.at_.tick)&&(decide (x.at_.node=y.at_.node)&&((x.gone == y.gone)&&decide (x.val=y.val)))))=decide (x=y):=by
     cases x;cases y;rename_i a1 _ _ a2 _ _;cases a1;cases a2
     simp only[Ver.mk.injEq,Stamp.mk.injEq,Bool.decide_and]
     simp[and_assoc,Bool.and_assoc,Bool.beq_eq_decide_eq]
    simp only[heq]
    refine JiH (fun hc=>?_) (fun hc=>?_)
    ·have hne:x≠y:=by simpa using hc
     have:a≠b:=fun e=>hne (by subst e;rw[hx] at hy;simpa using hy)
     simp only[go_sem,this,decide_false]
    ·have he:x=y:=by simpa using hc
     simp only[go_sem,h0,h1,h5,Ya]
     refine⟨i+1,by omega,by omega,by rw[hinc],?_⟩
     rw[List.take_add_one,List.take_add_one,hx,hy,ho,he]
   ·simp only[decide_eq_false_iff_not,Int.ofNat_lt] at h
    have:i=a.length:=by omega
    subst this
    have:a=b:=by rw[List.take_length,hc,List.take_length] at ho;exact ho
    simp only[go_sem,this,decide_true]
def H494 (Pg:Nat→Option Fn):Prop:=Pg 494=some (.code F494)∧H470 Pg
theorem K494 (h:H494 Pg) (s:List UInt8) (hs:s.length<2 ^ 62):∃e:Int,e≠0∧K' Pg 494 [.str s]=some (Ycj e (tkT s)):=by
 obtain⟨h,h470⟩:=h
 obtain⟨e,he,k⟩:=K470 h470 s hs
 unfold tkT
 cases hq:tk 9 s with
 |none=>
  rw[hq] at k
  have hd:decide (e=0)=false:=decide_eq_false he
  refine⟨e,he,K'_code h rfl ?_⟩
  simp only[eTk] at k
  simp only[F494,c494,go_sem,k,hd,Option.bind_none,Ycj]
 |some q=>
  obtain⟨n,r⟩:=q
  rw[hq] at k
  simp only[eTk] at k
  simp only[Option.bind_some]
  cases c1:decide ((r.length:Int)<n) with
  |true=>
   refine⟨2,by decide,K'_code h rfl ?_⟩
   have h1:¬n≤r.length:=by have:=of_decide_eq_true c1;omega
   simp only[F494,c494,go_sem,k,c1,if_neg h1,Ycj]
  |false=>
   refine⟨2,by decide,K'_code h rfl ?_⟩
   have h1:n≤r.length:=by have:=of_decide_eq_false c1;omega
   simp only[F494,c494,go_sem,k,c1,h1,Ycj,List.take_length]
def H495 (Pg:Nat→Option Fn):Prop:=Pg 495=some (.code F495)
theorem K495 (h:H495 Pg) (s:List UInt8):∃e:Int,e≠0∧K' Pg 495 [.str s]=some (Yci e (tkF s)):=by
 cases s with
 |nil=>
  refine⟨2,by decide,K'_code h rfl ?_⟩
  simp only[F495,c495,go_sem,tkF,Yci]
 |cons b s=>
  have h0:Jc2 (.str (b::s)) (.int .i64 0)=some (.int .u8 b.toNat):=rfl
  have hne:decide (((s.length+1:Nat):Int)=0)=false:=decide_eq_false (by omega)
  have e1:decide ((b.toNat:Int)=1)=decide (b.toNat=1):=decide_eq_decide.2 (by omega)
  have hl1:1≤s.length+1:=by omega
  have htl:List.take (s.length+1) (b::s)=b::s:=by simp
  refine⟨3,by decide,K'_code h rfl ?_⟩
  cases c1:decide ((1:Int)<b.toNat) with
  |true=>
   have h1:¬b.toNat≤1:=by have:=of_decide_eq_true c1;omega
   simp only[F495,c495,go_sem,c1,h0,hne,tkF,Yci,if_neg h1,List.length_cons]
  |false=>
   have h1:b.toNat≤1:=by have:=of_decide_eq_false c1;omega
   simp only[F495,c495,go_sem,c1,h0,hne,e1,hl1,htl,tkF,Yci,if_pos h1,List.length_cons,List.drop_succ_cons,List.drop_zero]
def stB (s:Stamp):List UInt8:=putB s.wall.toNat++(putB s.tick.toNat++putB s.node.toNat)
def tkS (s:List UInt8):Option (Stamp×List UInt8):=(tk 9 s).bind fun a=>(tk 9 a.2).bind fun b=>(tk 9 b.2).bind fun c=>if Yb ⟨a.1,b.1,c.1⟩ then some (⟨a.1,b.1,c.1⟩,c.2) else none
def YbM (e:Int):Option (Stamp×List UInt8)→V
 |some (n,r)=>.tuple [.agg (Yd n),.str r,iz 0]
 |none=>.tuple [.agg [iz 0,iz 0,iz 0],.str [],iz e]
theorem stR {s:Stamp}:Yb s=true↔(0≤s.wall∧s.wall≤1099511627776)∧(0≤s.tick∧s.tick≤1048576)∧(0≤s.node∧s.node≤255):=by
 simp only[Yb,YbB,Bool.and_eq_true,decide_eq_true_eq]
 constructor
 ·rintro⟨⟨h1,h2⟩,h3⟩;exact⟨h1,h2,h3⟩
 ·rintro⟨h1,h2,h3⟩;exact⟨⟨h1,h2⟩,h3⟩
theorem YdU {s r:List UInt8} {t:Stamp}:tkS s=some (t,r)↔s=stB t++r∧Yb t=true:=by
 unfold tkS stB
 constructor
 ·intro h
  cases h1:tk 9 s with
  |none=>rw[h1] at h;cases h
  |some a=>
   rw[h1] at h;simp only[Option.bind_some] at h
   cases h2:tk 9 a.2 with
   |none=>rw[h2] at h;cases h
   |some b=>
    rw[h2] at h;simp only[Option.bind_some] at h
    cases h3:tk 9 b.2 with
    |none=>rw[h3] at h;cases h
    |some c=>
     rw[h3] at h;simp only[Option.bind_some] at h
     split at h
     ·rename_i hr
      simp only[Option.some.injEq,Prod.mk.injEq] at h
      obtain⟨rfl,rfl⟩:=h
      refine⟨?_,hr⟩
      obtain⟨a1,a2⟩:=a
      obtain⟨b1,b2⟩:=b
      obtain⟨c1,c2⟩:=c
      simp only at h2 h3 ⊢
      rw[(Ybl h1).1,(Ybl h2).1,(Ybl h3).1]
      simp
     ·cases h
 ·rintro⟨rfl,h⟩
  obtain⟨h1,h2,h3⟩:=stR.1 h
  have e1:((t.wall.toNat:Nat):Int)=t.wall:=by omega
  have e2:((t.tick.toNat:Nat):Int)=t.tick:=by omega
  have e3:((t.node.toNat:Nat):Int)=t.node:=by omega
  have ht:(⟨t.wall.toNat,t.tick.toNat,t.node.toNat⟩:Stamp)=t:=by rw[e1,e2,e3]
  rw[List.append_assoc,List.append_assoc,Ycf 9 _ _ (YY.2 (by omega))]
  simp only[Option.bind_some]
  rw[Ycf 9 _ _ (YY.2 (by omega))]
  simp only[Option.bind_some]
  rw[Ycf 9 _ _ (YY.2 (by omega))]
  simp only[Option.bind_some]
  rw[ht,if_pos h]
def H486 (Pg:Nat→Option Fn):Prop:=Pg 486=some (.code F486)∧H487 Pg
theorem K486 (h:H486 Pg) (s:Stamp) (hs:Yb s=true):K' Pg 486 [.agg (Yd s)]=some (.str (stB s)):=by
 obtain⟨h,h487⟩:=h
 obtain⟨h1,h2,h3⟩:=stR.1 hs
 have kk:∀n:Int,0≤n→n<2 ^ 63→K' Pg 487 [iz n]=some (.tuple [.str (putB n.toNat),iz 0]):=fun n a b=>by
  have:=K487 h487 n.toNat (by omega)
  rw[show ((n.toNat:Nat):Int)=n by omega] at this
  exact this
 have k1:=kk s.wall (by omega) (by omega)
 have k2:=kk s.tick (by omega) (by omega)
 have k3:=kk s.node (by omega) (by omega)
 have l1:=YY.2 (show s.wall.toNat<2 ^ 63 by omega)
 have l2:=YY.2 (show s.tick.toNat<2 ^ 63 by omega)
 have l3:=YY.2 (show s.node.toNat<2 ^ 63 by omega)
 have b1:(putB s.wall.toNat).length+(putB s.tick.toNat).length≤4611686018427387904:=by omega
 have b2:(putB s.wall.toNat).length+(putB s.tick.toNat).length+(putB s.node.toNat).length≤4611686018427387904:=by omega
 refine K'_code h rfl ?_
 simp only[F486,c486,go_sem,k1,k2,k3,b1,b2,List.length_append,stB,List.append_assoc]
def H469 (Pg:Nat→Option Fn):Prop:=Pg 469=some (.code F469)∧H470 Pg∧H24 Pg
theorem K469 (h:H469 Pg) (s:List UInt8) (hs:s.length<2 ^ 62):∃e:Int,e≠0∧K' Pg 469 [.str s]=some (YbM e (tkS s)):=by
 obtain⟨h,h470,h24⟩:=h
 obtain⟨e,he,k⟩:=K470 h470 s hs
 have hd:decide (e=0)=false:=decide_eq_false he
 unfold tkS
 cases hq:tk 9 s with
 |none=>
  rw[hq] at k
  refine⟨e,he,K'_code h rfl ?_⟩
  simp only[eTk] at k
  simp only[F469,c469,go_sem,k,hd,Option.bind_none,YbM]
 |some q=>
  obtain⟨n,r⟩:=q
  rw[hq] at k
  simp only[eTk] at k
  simp only[Option.bind_some]
  have hr:r.length<2 ^ 62:=by have:=congrArg List.length (Ybl hq).1;simp at this;omega
  obtain⟨e',he',k'⟩:=K470 h470 r hr
  have hd':decide (e'=0)=false:=decide_eq_false he'
  cases hq':tk 9 r with
  |none=>
   rw[hq'] at k'
   refine⟨e',he',K'_code h rfl ?_⟩
   simp only[eTk] at k'
   simp only[F469,c469,go_sem,k,k',hd',Option.bind_none,YbM]
  |some q'=>
   obtain⟨n',r'⟩:=q'
   rw[hq'] at k'
   simp only[eTk] at k'
   simp only[Option.bind_some]
   have hr':r'.length<2 ^ 62:=by have:=congrArg List.length (Ybl hq').1;simp at this;omega
   obtain⟨e'',he'',k''⟩:=K470 h470 r' hr'
   have hd'':decide (e''=0)=false:=decide_eq_false he''
   cases hq'':tk 9 r' with
   |none=>
    rw[hq''] at k''
    refine⟨e'',he'',K'_code h rfl ?_⟩
    simp only[eTk] at k''
    simp only[F469,c469,go_sem,k,k',k'',hd'',Option.bind_none,YbM]
   |some q''=>
    obtain⟨n'',r''⟩:=q''
    rw[hq''] at k''
    simp only[eTk] at k''
    have k24:=K24 h24 ⟨n,n',n''⟩
    refine⟨3,by decide,K'_code h rfl ?_⟩
    simp only[Option.bind_some]
    cases hst:Yb ⟨n,n',n''⟩ with
    |true=>
     rw[hst] at k24
     simp only[go_sem] at k24
     simp only[F469,c469,go_sem,k,k',k'',k24,if_true,YbM]
    |false=>
     rw[hst] at k24
     simp only[go_sem] at k24
     simp only[F469,c469,go_sem,k,k',k'',k24,Bool.false_eq_true,if_false,YbM]
def YeP (nu:Nat→Nat) (i:Nat):List V:=[iz ((if 0<i then nu 0 else 0:Nat):Int),iz ((if 1<i then nu 1 else 0:Nat):Int),iz ((if 2<i then nu 2 else 0:Nat):Int)]
theorem Yep {S:St} {nu:Nat→Nat} {i:Nat} (hi:i<3):stV S 5 i [iz (nu i)] (some (YeP nu i,false))=some ⟨S.ρ,upd S.μ 5 (some (YeP nu (i+1),false)),S.A⟩:=by
 rcases (show i=0∨i=1∨i=2 by omega) with rfl|rfl|rfl<;>rfl
def H490 (Pg:Nat→Option Fn):Prop:=Pg 490=some (.code F490)∧H491 Pg∧H28 Pg
theorem K490g (h:Pg 490=some (.code F490)) (h28:H28 Pg) {rest:Nat→List UInt8} {nu:Nat→Nat} {m:Nat} {e:Int} (hm:m≤3)
  (hk:∀i,i<m→K' Pg 491 [.str (rest i)]=some (.tuple [iz (nu i),.str (rest (i+1)),iz 0])) (he:m<3→e≠0∧K' Pg 491 [.str (rest m)]=some (.tuple [iz 0,.str [],iz e])) :
  K' Pg 490 [.str (rest 0)]=some (YbM (if m<3 then e else 3) (if m<3 then none else if Yb ⟨nu 0,nu 1,nu 2⟩ then some (⟨nu 0,nu 1,nu 2⟩,rest 3) else none)):=by
 refine K'_code h rfl ?_
 have i0:JaY 1 3 (.lref 5 0) (.int .i64 0)=some (.lref 5 0):=rfl
 have i1:JaY 1 3 (.lref 5 0) (.int .i64 1)=some (.lref 5 1):=rfl
 have i2:JaY 1 3 (.lref 5 0) (.int .i64 2)=some (.lref 5 2):=rfl
 simp only[F490,c490,go_sem]
 unfold l490_0
 refine JiG (fun (i:Nat) S=>i≤m∧S.ρ 0=.str (rest i)∧S.ρ 2=.lref 2 0∧S.ρ 5=.lref 5 0∧S.ρ 11=iz i∧S.μ 2=some ([iz 0,iz 0,iz 0],false)∧S.μ 5=some (YeP nu i,false)∧S.μ 10=none) (fun i=>3-i) 0 ?_ ?_
 ·exact⟨Nat.zero_le _,rfl,rfl,rfl,rfl,rfl,rfl,rfl⟩
 ·intro i S ⟨hi,s0,s2,s5,s11,m2,m5,m10⟩
  cases c1:decide ((i:Int)<3) with
  |false=>
   have h3:i=3:=by have:=of_decide_eq_false c1;omega
   have hm3:m=3:=by omega
   rw[if_neg (by omega),if_neg (by omega)]
   rw[h3] at m5 s0
   have k28:=K28 h28 ⟨nu 0,nu 1,nu 2⟩
   have hv:YeP nu 3=[iz (nu 0),iz (nu 1),iz (nu 2)]:=rfl
   rw[hv] at m5
   cases hst:Yb ⟨nu 0,nu 1,nu 2⟩ with
   |true=>
    rw[hst] at k28
    simp only[go_sem] at k28
    simp only[go_sem,s0,s2,s5,s11,m2,m5,m10,c1,i0,i1,i2,k28,if_true,YbM]
   |false=>
    rw[hst] at k28
    simp only[go_sem] at k28
    simp only[go_sem,s0,s2,s5,s11,m2,m5,m10,c1,i0,i1,i2,k28,Bool.false_eq_true,if_false,YbM]
  |true=>
   have hi3:i<3:=by have:=of_decide_eq_true c1;omega
   have hinc:IntKind.i64.wrap ((i:Int)+1)=((i+1:Nat):Int):=by rw[JiD (by omega) (by omega)];omega
   by_cases him:i<m
   ·have k:=hk i him
    have hst:=fun S=>Yep (S:=S) (nu:=nu) hi3
    have hia:JaY 1 3 (.lref 5 0) (iz (i:Int))=some (.lref 5 i):=by
     rcases (show i=0∨i=1∨i=2 by omega) with rfl|rfl|rfl<;>rfl
    simp only[go_sem,s0,s2,s5,s11,m2,m5,m10,c1,k,hst,hia,hinc]
    exact⟨i+1,by omega,by omega,rfl,rfl,rfl⟩
   ·have hime:i=m:=by omega
    obtain⟨e0,k⟩:=he (by omega)
    rw[←hime] at k
    have hd:decide (e=0)=false:=decide_eq_false e0
    rw[if_pos (by omega),if_pos (by omega)]
    simp only[go_sem,s0,s2,s5,s11,m2,m5,m10,c1,k,hd,YbM]
theorem K490 (h:H490 Pg) (s:List UInt8) (hs:s.length<2 ^ 62):∃e:Int,e≠0∧K' Pg 490 [.str s]=some (YbM e (tkS s)):=by
 obtain⟨h,h491,h28⟩:=h
 obtain⟨e,he,k⟩:=K491 h491 s hs
 unfold tkS
 cases hq:tk 9 s with
 |none=>
  rw[hq] at k
  exact⟨e,he,by
   have:=K490g h h28 (rest:=fun _=>s) (nu:=fun _=>0) (m:=0) (e:=e) (by omega) (fun i hi=>by omega) (fun _=>⟨he,k⟩)
   exact this⟩
 |some q=>
  obtain⟨n,r⟩:=q
  rw[hq] at k
  have hr:r.length<2 ^ 62:=by have:=congrArg List.length (Ybl hq).1;simp at this;omega
  obtain⟨e',he',k'⟩:=K491 h491 r hr
  simp only[Option.bind_some]
  cases hq':tk 9 r with
  |none=>
   rw[hq'] at k'
   exact⟨e',he',by
    have:=K490g h h28 (rest:=fun i=>if i=0 then s else r) (nu:=fun _=>n) (m:=1) (e:=e') (by omega) (fun i hi=>by
     have h0:i=0:=by omega
     subst h0
     exact k) (fun _=>⟨he',k'⟩)
    exact this⟩
  |some q'=>
   obtain⟨n',r'⟩:=q'
   rw[hq'] at k'
   simp only[Option.bind_some]
   have hr':r'.length<2 ^ 62:=by have:=congrArg List.length (Ybl hq').1;simp at this;omega
   obtain⟨e'',he'',k''⟩:=K491 h491 r' hr'
   cases hq'':tk 9 r' with
   |none=>
    rw[hq''] at k''
    exact⟨e'',he'',by
     have:=K490g h h28 (rest:=fun i=>if i=0 then s else if i=1 then r else r') (nu:=fun i=>if i=0 then n else n') (m:=2) (e:=e'') (by omega) (fun i hi=>by
      rcases (show i=0∨i=1 by omega) with rfl|rfl
      ·exact k
      ·exact k') (fun _=>⟨he'',k''⟩)
     exact this⟩
   |some q''=>
    obtain⟨n'',r''⟩:=q''
    rw[hq''] at k''
    exact⟨3,by decide,by
     have:=K490g h h28 (rest:=fun i=>if i=0 then s else if i=1 then r else if i=2 then r' else r'') (nu:=fun i=>if i=0 then n else if i=1 then n' else n'') (m:=3) (e:=3) (by omega) (fun i hi=>by
      rcases (show i=0∨i=1∨i=2 by omega) with rfl|rfl|rfl
      ·exact k
      ·exact k'
      ·exact k'') (fun h=>by omega)
     exact this⟩
def H61 (Pg:Nat→Option Fn):Prop:=Pg 61=some (.code F61)
theorem K61 (h:H61 Pg) (l:List Int):K' Pg 61 [Ye l]=some (.bool (decide (SetP l))):=by
 refine K'_code h rfl ?_
 simp only[go_sem]
 refine JiH (fun hc=>?_) (fun hc=>?_)
 ·have hc:¬SetP l:=fun⟨e,_⟩=>by have:=of_decide_eq_true hc;omega
  simp only[go_sem,hc]
 ·have hl:l.length≤8:=by have:=of_decide_eq_false hc;omega
  simp only[go_sem]
  unfold l61_0
  refine JiG (fun (i:Nat) S=>i≤l.length∧S.ρ 0=Ye l∧S.ρ 3=iz i∧(∀m∈l.take i,1≤m∧m≤255)∧(l.take i).Nodup) (fun i=>l.length-i) 0 ?_ ?_
  ·simp[go_sem]
  ·intro i S ⟨hi,h0,h3,ho1,ho2⟩
   simp only[go_sem,h0,h3]
   refine JiH (fun h=>?_) (fun h=>?_)
   ·have h:=Yg h
    obtain⟨x,hx,hd⟩:=Jin h
    have bad:¬(1≤x∧x≤255)→¬SetP l:=fun e=>Ycq hx (.inl e)
    simp only[go_sem,h0,h3,hx]
    refine JiE (fun hc=>?_) (fun hc=>?_)
    ·have h1:¬x<1:=of_decide_eq_false hc
     simp only[go_sem,h0,h3,hx,h1]
     refine JiH (fun hc=>?_) (fun hc=>?_)
     ·have hs:¬SetP l:=bad (by have:=of_decide_eq_true hc;omega)
      simp only[go_sem,hs]
     ·have h2:¬255<x:=of_decide_eq_false hc
      simp only[go_sem,h0,h3,hx]
      unfold l61_1
      refine JiG (fun (k:Nat) S=>k≤i∧S.ρ 0=Ye l∧S.ρ 3=iz i∧S.ρ 4=iz k∧x∉l.take k) (fun k=>i-k) 0 ?_ ?_
      ·simp[go_sem,h0,h3]
      ·intro k S ⟨hk,h0,h3,h4,ho3⟩
       simp only[go_sem,h0,h3,h4]
       refine JiH (fun h'=>?_) (fun h'=>?_)
       ·have h':=Yg h'
        obtain⟨y,hy,hd'⟩:=Jin (l:=l) (i:=k) (by omega)
        simp only[go_sem,h0,h3,h4,hx,hy]
        refine JiH (fun hc=>?_) (fun hc=>?_)
        ·have hc:y=x:=of_decide_eq_true hc
         have hm:x∈l.take i:=by
          rw[←hc]
          have:(l.take i)[k]?=some y:=by rw[List.getElem?_take,if_pos h'];exact hy
          exact List.mem_of_getElem? this
         have hs:¬SetP l:=Ycq hx (.inr hm)
         simp only[go_sem,hs]
        ·have hc:¬y=x:=of_decide_eq_false hc
         simp only[go_sem,h0,h3,h4]
         refine⟨k+1,by omega,by omega,by rw[Yi h' (by omega)],?_⟩
         rw[YA hy];simp;exact⟨ho3,fun e=>hc e.symm⟩
       ·have h':=Ym hk h'
        subst h'
        have hn:=Ydm hx ⟨ho1,ho2⟩ (by omega) ho3
        simp only[go_sem,h0,h3,h4]
        exact⟨k+1,by omega,by omega,by rw[Yi h (by omega)],hn.1,hn.2⟩
    ·have h1:x<1:=of_decide_eq_true hc
     have hs:¬SetP l:=bad (by omega)
     simp only[go_sem,h0,h3,hx,h1,hs]
   ·have h:=Ym hi h
    rw[Yao h] at ho1 ho2
    have hs:SetP l:=⟨hl,ho1,ho2⟩
    simp only[go_sem,hs]
def H64 (Pg:Nat→Option Fn):Prop:=Pg 64=some (.code F64)∧H65 Pg
theorem K64 (h:H64 Pg) (l:List Int) (hl:l.length<2 ^ 60):K' Pg 64 [Ye l]=some (.bool (decide (SetP l))):=by
 obtain⟨h,h65⟩:=h
 refine K'_code h rfl ?_
 simp only[go_sem]
 unfold l64_0
 refine JiG (fun (i:Nat) S=>i≤l.length∧S.ρ 0=Ye l∧S.ρ 5=Ye l∧S.ρ 6=iz l.length∧S.ρ 7=iz i∧(∀m∈l.take i,1≤m∧m≤255)∧(l.take i).Nodup) (fun i=>l.length-i) 0 ?_ ?_
 ·simp[go_sem]
 ·intro i S ⟨hi,h0,h5,h6,h7,ho1,ho2⟩
  simp only[go_sem,h0,h5,h6,h7]
  refine JiH (fun h=>?_) (fun h=>?_)
  ·have h:=Yg h
   obtain⟨x,hx,hd⟩:=Jin h
   have bad:¬(1≤x∧x≤255)→¬SetP l:=fun e=>Ycq hx (.inl e)
   have k65:=K65 h65 (l.take i) x (by simp;omega)
   simp only[Ye,List.map_take] at k65
   simp only[go_sem,h0,h5,h6,h7,hx]
   refine JiE (fun hc=>?_) (fun hc=>?_)
   ·have h1:¬x<1:=of_decide_eq_false hc
    simp only[go_sem,h0,h5,h6,h7,hx,hi,h1]
    refine JiE (fun hc=>?_) (fun hc=>?_)
    ·have h2:¬255<x:=of_decide_eq_false hc
     simp only[go_sem,h0,h5,h6,h7,hx,hi,h1,h2,k65]
     refine JiH (fun hc=>?_) (fun hc=>?_)
     ·have hs:¬SetP l:=Ycq hx (.inr (of_decide_eq_true hc))
      simp only[go_sem,hs]
     ·have hn:=Ydm hx ⟨ho1,ho2⟩ (by omega) (of_decide_eq_false hc)
      simp only[go_sem,h0,h5,h6,h7]
      exact⟨i+1,by omega,by omega,by rw[Yi h hl],hn.1,hn.2⟩
    ·have h2:255<x:=of_decide_eq_true hc
     have hs:¬SetP l:=bad (by omega)
     simp only[go_sem,h0,h5,h6,h7,hx,hi,h1,h2,hs]
   ·have h1:x<1:=of_decide_eq_true hc
    have hs:¬SetP l:=bad (by omega)
    simp only[go_sem,h0,h5,h6,h7,hx,h1,hs]
  ·have h:=Ym hi h
   rw[Yao h] at ho1 ho2
   simp only[go_sem,h0]
   have:decide ((l.length:Int)≤8)=decide (SetP l):=decide_eq_decide.2 ⟨fun e=>⟨by omega,ho1,ho2⟩,fun e=>by have:=e.1;omega⟩
   rw[this]
structure Rep where
 id:Int
 view:Int
 members:List Int
 n:Int
 base:List UInt8
 text:List UInt8
 acks:List Int
 deriving DecidableEq
structure Word where
 kind:Int
 frm:Int
 to:Int
 view:Int
 n:Int
 members:List Int
 text:List UInt8
 deriving DecidableEq
@[go_sem] def Yu (r:Rep):List V:=[iz r.id,iz r.view,Ye r.members,iz r.n,.str r.base,.str r.text,Ye r.acks]
@[go_sem] def Y3 (r:Word):List V:=[iz r.kind,iz r.frm,iz r.to,iz r.view,iz r.n,Ye r.members,.str r.text]
@[go_sem] def YM (l:List Word):V:=.slice 7 (l.map Y3)
structure Rep.Ok (r:Rep):Prop where
 m:r.members.length<2 ^ 60
 a:r.acks.length<2 ^ 60
def Yai (n least:Int):Bool:=decide (least≤n)&&decide (n≤1099511627776)
def H63 (Pg:Nat→Option Fn):Prop:=Pg 63=some (.code F63)
theorem K63 (h:H63 Pg) (n least:Int):K' Pg 63 [iz n,iz least]=some (.bool (Yai n least)):=by
 refine K'_code h rfl ?_
 simp only[go_sem]
 refine JiF (fun h=>?_) (fun h=>?_)<;>simp only[go_sem,h,Yai]
def H60 (Pg:Nat→Option Fn):Prop:=Pg 60=some (.code F60)
theorem K60 (h:H60 Pg) (n:Int):K' Pg 60 [iz n]=some (.bool (Yai n 1)):=by
 refine K'_code h rfl ?_
 simp only[go_sem]
 refine JiF (fun h=>?_) (fun h=>?_)<;>simp only[go_sem,h,Yai]
def Yj (r:Rep):Bool:=match r.members with|[]=>false|m::_=>decide (m=r.id)
def H68 (Pg:Nat→Option Fn):Prop:=Pg 68=some (.code F68)
theorem K68 (h:H68 Pg) (r:Rep):K' Pg 68 [.agg (Yu r)]=some (.bool (Yj r)):=by
 refine K'_code h rfl ?_
 obtain⟨id,view,members,n,base,text,acks⟩:=r
 cases members with
 |nil=>simp only[go_sem,Yj]
 |cons m l=>
  have h0:JaF 1 (V.slice 1 ([iz m]::List.map (fun a=>[iz a]) l)) (iz 0)=some (.cptr [iz m] 0):=rfl
  simp only[go_sem,Yj,Yax,h0]
def H38 (Pg:Nat→Option Fn):Prop:=Pg 38=some (.code F38)
theorem K38 (h:H38 Pg) (r:Rep):K' Pg 38 [.agg (Yu r)]=some (.bool (Yj r)):=by
 refine K'_code h rfl ?_
 obtain⟨id,view,members,n,base,text,acks⟩:=r
 cases members with
 |nil=>simp only[go_sem,Yj]
 |cons m l=>
  have h0:JaF 1 (V.slice 1 ([iz m]::List.map (fun a=>[iz a]) l)) (iz 0)=some (.cptr [iz m] 0):=rfl
  simp only[go_sem,Yj,Yax,h0]
def Yaf (r:Rep):Bool:=r.members.all fun m=>decide (m∈r.acks)
def H42 (Pg:Nat→Option Fn):Prop:=Pg 42=some (.code F42)∧H62 Pg
theorem K42 (h:H42 Pg) (r:Rep) (ok:r.Ok):K' Pg 42 [.agg (Yu r)]=some (.bool (Yaf r)):=by
 obtain⟨h,h62⟩:=h
 have k62:=fun x=>K62 h62 r.acks x ok.a
 simp only[Ye] at k62
 refine K'_code h rfl ?_
 simp only[go_sem]
 unfold l42_0
 refine JiG (fun (i:Nat) S=>i≤r.members.length∧S.ρ 1=.lref 1 0∧S.μ 1=some (Yu r,false)∧S.ρ 3=iz i∧(∀m∈r.members.take i,m∈r.acks)) (fun i=>r.members.length-i) 0 ?_ ?_
 ·simp[go_sem]
 ·intro i S ⟨hi,h1,m1,h3,ho⟩
  simp only[go_sem,h1,m1,h3]
  refine JiH (fun h=>?_) (fun h=>?_)
  ·have h:=Yg h
   obtain⟨x,hx,hd⟩:=Jin h
   simp only[go_sem,h1,m1,h3,hx,k62]
   refine JiH (fun hc=>?_) (fun hc=>?_)
   ·have hc:x∉r.acks:=by simpa using hc
    have:Yaf r=false:=by
     simp only[Yaf,List.all_eq_false]
     exact⟨x,List.mem_of_getElem? hx,by simpa using hc⟩
    simp only[go_sem,this]
   ·have hc:x∈r.acks:=by simpa using hc
    simp only[go_sem,h1,m1,h3]
    refine⟨i+1,by omega,by omega,by rw[Yi h ok.m],fun m hm=>?_⟩
    rw[YA hx] at hm
    rcases List.mem_append.1 hm with hm|hm
    ·exact ho m hm
    ·have:m=x:=by simpa using hm
     rw[this];exact hc
  ·have h:=Ym hi h
   rw[Yao h] at ho
   have:Yaf r=true:=by simpa [Yaf] using ho
   simp only[go_sem,this]
def rightB (r:Rep):Bool:=
 !(decide (r.id<1)||(decide (255<r.id)||((!decide (r.view=0)&&!Yai r.view 1)||((!decide (r.n=0)&&!Yai r.n 1)||(!decide (SetP r.members)||!decide (SetP r.acks)))))) &&
  (r.acks.all (fun m=>decide (m∈r.members))&&(!(decide ((0:Int)<(r.members.length:Int))&&!decide (r.id∈r.members)) &&
  (bif Yj r then decide (r.id∈r.acks)&&(!Yaf r||decide (r.base=r.text)) else decide ((r.acks.length:Int)=0)&&decide (r.base=r.text))))
def H37 (Pg:Nat→Option Fn):Prop:=Pg 37=some (.code F37)∧H60 Pg∧H61 Pg∧H62 Pg∧H38 Pg∧H42 Pg
theorem K37 (h:H37 Pg) (r:Rep) (ok:r.Ok):K' Pg 37 [.agg (Yu r)]=some (.bool (rightB r)):=by
 obtain⟨h,h60,h61,h62,h38,h42⟩:=h
 have k60:=fun x=>K60 h60 x
 have k61m:=K61 h61 r.members
 have k61a:=K61 h61 r.acks
 have k62m:=fun x=>K62 h62 r.members x ok.m
 have k62a:=fun x=>K62 h62 r.acks x ok.a
 have k38:=K38 h38 r
 have k42:=K42 h42 r ok
 simp only[Ye,Yu] at k60 k61m k61a k62m k62a k38 k42
 refine K'_code h rfl ?_
 simp only[go_sem,k60,k61m,k61a]
 repeat' (first|refine JiE (fun h=>?_) (fun h=>?_)<;>simp only[go_sem,h,k60,k61m,k61a]|refine JiF (fun h=>?_) (fun h=>?_)<;>simp only[go_sem,h,k60,k61m,k61a]|refine JiH (fun h=>?_) (fun h=>?_)<;>simp only[go_sem,h,k60,k61m,k61a])
 all_goals first|(simp only[rightB, *,Bool.not_true,Bool.not_false,Bool.or_true,Bool.true_or,Bool.or_false,Bool.false_or,Bool.and_true,Bool.true_and,Bool.and_false,Bool.false_and,cond_true,cond_false];done)|skip
 all_goals
  unfold l37_0
  refine JiG (fun (i:Nat) S=>i≤r.acks.length∧S.ρ 1=.lref 1 0∧S.μ 1=some (Yu r,false)∧S.ρ 3=iz i∧(∀m∈r.acks.take i,m∈r.members)) (fun i=>r.acks.length-i) 0 ?_ ?_
  ·simp[go_sem]
  ·intro i S ⟨hi,h1,m1,h3,ho⟩
   simp only[go_sem,h1,m1,h3]
   refine JiH (fun h=>?_) (fun h=>?_)
   ·have h:=Yg h
    obtain⟨x,hx,hd⟩:=Jin h
    simp only[go_sem,h1,m1,h3,hx,k62m]
    refine JiH (fun hc=>?_) (fun hc=>?_)
    ·have hc:x∉r.members:=by simpa using hc
     have hall:r.acks.all (fun m=>decide (m∈r.members))=false:=by
      simp only[List.all_eq_false]
      exact⟨x,List.mem_of_getElem? hx,by simpa using hc⟩
     simp only[go_sem,rightB,hall]
    ·have hc:x∈r.members:=by simpa using hc
     simp only[go_sem,h1,m1,h3]
     refine⟨i+1,by omega,by omega,by rw[Yi h ok.a],fun m hm=>?_⟩
     rw[YA hx] at hm
     rcases List.mem_append.1 hm with hm|hm
     ·exact ho m hm
     ·have:m=x:=by simpa using hm
      rw[this];exact hc
   ·have h:=Ym hi h
    rw[Yao h] at ho
    have hall:r.acks.all (fun m=>decide (m∈r.members))=true:=by simpa using ho
    clear ho
    simp only[go_sem,h1,m1,h3,k62m]
    repeat' (first|refine JiE (fun h=>?_) (fun h=>?_)<;>simp only[go_sem,h,h1,m1,k62m,k62a,k38,k42]|refine JiF (fun h=>?_) (fun h=>?_)<;>simp only[go_sem,h,h1,m1,k62m,k62a,k38,k42]|refine JiH (fun h=>?_) (fun h=>?_)<;>simp only[go_sem,h,h1,m1,k62m,k62a,k38,k42])
    all_goals (simp_all only [rightB,Bool.not_eq_true',Bool.not_eq_false',Bool.not_true,Bool.not_false,Bool.or_true,Bool.true_or,Bool.or_false,Bool.false_or,Bool.and_true,Bool.true_and,Bool.and_false,Bool.false_and,cond_true,cond_false];done)
theorem Y7:∀{l m:List Int},l.Nodup→(∀x∈l,x∈m)→l.length≤m.length
 |[],m,_,_=>by simp
 |a::l,m,h,hs=>by
  rw[List.nodup_cons] at h
  have ha:=hs a (List.mem_cons_self ..)
  have h1:=Y7 (l:=l) (m:=m.erase a) h.2 (fun x hx=>by
   have hne:x≠a:=fun e=>h.1 (e▸hx)
   exact (List.mem_erase_of_ne hne).2 (hs x (List.mem_cons_of_mem _ hx)))
  have h2:=List.length_erase_of_mem ha
  have h3:0<m.length:=List.length_pos_of_mem ha
  simp only[List.length_cons];omega
theorem Yck {r:Rep} (hm:SetP r.members) (ha:SetP r.acks) (hs:∀x∈r.acks,x∈r.members):decide ((r.acks.length:Int)<(r.members.length:Int))=!Yaf r:=by
 cases h:Yaf r with
 |true=>
  have:∀x∈r.members,x∈r.acks:=by simpa [Yaf] using h
  have:=Y7 hm.2.2 this
  simp;omega
 |false=>
  obtain⟨x,hx,hn⟩:∃x,x∈r.members∧x∉r.acks:=by simpa [Yaf] using h
  have:=Y7 (l:=x::r.acks) (m:=r.members) (List.nodup_cons.2 ⟨hn,ha.2.2⟩) (fun y hy=>by
   rcases List.mem_cons.1 hy with rfl|hy
   ·exact hx
   ·exact hs y hy)
  simp only[List.length_cons] at this
  simp;omega
def rightG (r:Rep):Bool:=
 !(decide (r.id<1)||(decide (255<r.id)||(!Yai r.view 0||(!Yai r.n 0||(!decide (SetP r.members)||!decide (SetP r.acks)))))) &&
  (!(decide ((0:Int)<(r.members.length:Int))&&!decide (r.id∈r.members))&&(!(r.acks.any (fun m=>!decide (m∈r.members))) &&
  (bif Yj r then decide (r.id∈r.acks)&&(decide ((r.acks.length:Int)<(r.members.length:Int))||decide (r.base=r.text)) else decide ((r.acks.length:Int)=0)&&decide (r.base=r.text))))
theorem Yfq {n:Int}:(!decide (n=0)&&!Yai n 1)=!Yai n 0:=by
 simp only[Yai]
 by_cases h1:n=0
 ·subst h1;decide
 ·have:decide (1≤n)=decide (0≤n):=decide_eq_decide.2 (by omega)
  simp[h1,this]
theorem Yca (r:Rep):rightG r=rightB r:=by
 unfold rightG rightB
 rw[Yfq,Yfq]
 have hall:(!(r.acks.any (fun m=>!decide (m∈r.members))))=r.acks.all (fun m=>decide (m∈r.members)):=by
  rw[List.all_eq_not_any_not]
 rw[hall]
 by_cases hm:SetP r.members
 ·by_cases ha:SetP r.acks
  ·cases hs:r.acks.all (fun m=>decide (m∈r.members)) with
   |true=>rw[Yck hm ha (by simpa using hs)];simp only[Bool.true_and]
   |false=>simp
  ·simp[ha]
 ·simp[hm]
def H66 (Pg:Nat→Option Fn):Prop:=Pg 66=some (.code F66)∧H65 Pg
theorem K66 (h:H66 Pg) (r:Rep) (m:Int) (ok:r.Ok):K' Pg 66 [iz m,.cptr (Yu r) 0]=some (.bool (!decide (m∈r.members))):=by
 obtain⟨h,h65⟩:=h
 have k65:=K65 h65 r.members m ok.m
 simp only[Ye] at k65
 refine K'_code h rfl ?_
 simp only[go_sem,k65]
def H39 (Pg:Nat→Option Fn):Prop:=Pg 39=some (.code F39)∧H63 Pg∧H64 Pg∧H65 Pg∧H66 Pg∧H67 Pg∧H68 Pg
theorem K39 (h:H39 Pg) (r:Rep) (ok:r.Ok):K' Pg 39 [.agg (Yu r)]=some (.bool (rightB r)):=by
 rw[←Yca]
 obtain⟨h,h63,h64,h65,h66,h67,h68⟩:=h
 have k63:=fun x y=>K63 h63 x y
 have k64m:=K64 h64 r.members ok.m
 have k64a:=K64 h64 r.acks ok.a
 have k65m:=fun x=>K65 h65 r.members x ok.m
 have k65a:=fun x=>K65 h65 r.acks x ok.a
 have k68:=K68 h68 r
 have k67:=K67 h67 r.acks 66 [.cptr (Yu r) 0] (fun m=>!decide (m∈r.members)) ok.a rfl (fun x _=>K66 h66 r x ok)
 simp only[Ye,Yu] at k63 k64m k64a k65m k65a k68 k67
 refine K'_code h rfl ?_
 simp only[go_sem,k63,k64m,k64a,k65m,k65a,k68]
 repeat' (first|refine JiE (fun h=>?_) (fun h=>?_)<;>simp only[go_sem,h,k63,k64m,k64a,k65m,k65a,k68,k67,List.all_cons,List.all_nil]|refine JiF (fun h=>?_) (fun h=>?_)<;>simp only[go_sem,h,k63,k64m,k64a,k65m,k65a,k68,k67]|refine JiH (fun h=>?_) (fun h=>?_)<;>simp only[go_sem,h,k63,k64m,k64a,k65m,k65a,k68,k67])
 all_goals (simp_all only [rightG,Bool.not_eq_true',Bool.not_eq_false',Bool.not_true,Bool.not_false,Bool.or_true,Bool.true_or,Bool.or_false,Bool.false_or,Bool.and_true,Bool.true_and,Bool.and_false,Bool.false_and,cond_true,cond_false];done)
def H40 (Pg:Nat→Option Fn):Prop:=Pg 40=some (.code F40)∧H39 Pg∧H68 Pg
theorem K40 (h:H40 Pg) (r:Rep) (ok:r.Ok):K' Pg 40 [.agg (Yu r)]=some (.bool (rightB r&&Yj r)):=by
 obtain⟨h,h39,h68⟩:=h
 have k39:=K39 h39 r ok
 have k68:=K68 h68 r
 simp only[Ye,Yu] at k39 k68
 refine K'_code h rfl ?_
 simp only[go_sem,k39,k68]
 refine JiF (fun h=>?_) (fun h=>?_)<;>simp only[go_sem,h,k68]
def YF (r:Rep):Bool:=rightB r&&(Yj r&&!Yaf r)
theorem Yau {r:Rep} (h:rightB r=true):SetP r.members∧SetP r.acks∧(∀x∈r.acks,x∈r.members)∧1≤r.id∧r.id≤255∧0≤r.view∧r.view≤1099511627776∧0≤r.n∧r.n≤1099511627776:=by
 rw[←Yca] at h
 simp only[rightG,Yai,Bool.and_eq_true,Bool.not_eq_true',Bool.or_eq_false_iff,Bool.and_eq_false_iff,Bool.not_eq_false',Bool.not_eq_true',decide_eq_true_eq,decide_eq_false_iff_not] at h
 obtain⟨⟨h1,h2,h3,h4,h5,h6⟩,h7,h8,-⟩:=h
 refine⟨h5,h6,by simpa using h8,?_⟩
 omega
theorem Yd1 {r:Rep} (h:rightB r=true):decide ((r.acks.length:Int)<(r.members.length:Int))=!Yaf r:=by
 obtain⟨h1,h2,h3,-⟩:=Yau h
 exact Yck h1 h2 h3
def H41 (Pg:Nat→Option Fn):Prop:=Pg 41=some (.code F41)∧H40 Pg
theorem K41 (h:H41 Pg) (r:Rep) (ok:r.Ok):K' Pg 41 [.agg (Yu r)]=some (.bool (YF r)):=by
 obtain⟨h,h40⟩:=h
 have k40:=K40 h40 r ok
 simp only[Ye,Yu] at k40
 refine K'_code h rfl ?_
 simp only[go_sem,k40]
 refine JiF (fun h=>?_) (fun h=>?_)<;>simp only[go_sem,h,k40]
 ·simp only[Bool.and_eq_true] at h
  rw[Yd1 h.1];simp only[YF,h.1,h.2,Bool.true_and]
 ·rw[YF,←Bool.and_assoc,h];rfl
def H45 (Pg:Nat→Option Fn):Prop:=Pg 45=some (.code F45)∧H70 Pg
theorem K45 (h:H45 Pg) (r:Rep) (ok:r.Ok):K' Pg 45 [.agg (Yu r),.agg (Yu r)]=some (.bool true):=by
 obtain⟨h,h70⟩:=h
 have k70m:=K70 h70 r.members r.members ok.m
 have k70a:=K70 h70 r.acks r.acks ok.a
 simp only[Ye,decide_true] at k70m k70a
 refine K'_code h rfl ?_
 simp only[go_sem,k70m,k70a]
def H69 (Pg:Nat→Option Fn):Prop:=Pg 69=some (.prim (some 0) (cloneQ 1))
theorem K69 (h:H69 Pg) (l:List Int) (hl:l.length≤1000000000):K' Pg 69 [Ye l]=some (Ye l):=by
 rw[Jim h];simp[cloneQ,Ye,lim];omega
def Ys (r:Rep):List Word:=(r.members.filter fun m=>!decide (m∈r.acks)).map fun m=>⟨1,r.id,m,r.view,r.n,r.members,r.text⟩
def Yak (r:Rep) (l:List Int):List Word:=(l.filter fun m=>!decide (m∈r.acks)).map fun m=>⟨1,r.id,m,r.view,r.n,r.members,r.text⟩
theorem YdR {r:Rep} {l:List Int} {m:Int}:Yak r (l++[m])=if m∈r.acks then Yak r l else Yak r l++[⟨1,r.id,m,r.view,r.n,r.members,r.text⟩]:=by
 simp only[Yak,List.filter_append,List.filter_cons,List.filter_nil]
 split<;>simp_all
theorem YcR {r:Rep} {l:List Int}:(Yak r l).length≤l.length:=by
 simp only[Yak,List.length_map];exact List.length_filter_le _ _
def H52 (Pg:Nat→Option Fn):Prop:=Pg 52=some (.code F52)∧H62 Pg
theorem K52 (h:H52 Pg) (r:Rep) (ok:r.Ok) (hm:r.members.length≤10000):K' Pg 52 [.agg (Yu r)]=some (YM (Ys r)):=by
 obtain⟨h,h62⟩:=h
 have k62:=fun x=>K62 h62 r.acks x ok.a
 simp only[Ye] at k62
 refine K'_code h rfl ?_
 simp only[go_sem,mkA]
 unfold l52_0
 refine JiG (fun (i:Nat) S=>i≤r.members.length∧S.ρ 1=.lref 1 0∧S.μ 1=some (Yu r,false)∧S.A 3=some (7,(Yak r (r.members.take i)).map Y3,.live)∧S.ρ 3=.own 3 7 (Yak r (r.members.take i)).length∧S.ρ 4=iz i) (fun i=>r.members.length-i) 0 ?_ ?_
 ·simp[go_sem,Yak]
 ·intro i S ⟨hi,h1,m1,a3,h3,h4⟩
  simp only[go_sem,m1,a3,h3,h1,h4]
  refine JiH (fun h=>?_) (fun h=>?_)
  ·have h:=Yg h
   obtain⟨x,hx,hd⟩:=Jin h
   have hlen:=YcR (r:=r) (l:=r.members.take i)
   have hlim:(Yak r (r.members.take i)).length+1≤lim:=by
    simp only[List.length_take] at hlen
    simp only[lim];omega
   have hs:=YdR (r:=r) (l:=r.members.take i) (m:=x)
   rw[←YA hx] at hs
   simp only[go_sem,m1,a3,h3,h1,h4,hx,k62]
   refine JiH (fun hc=>?_) (fun hc=>?_)
   ·have hc:x∉r.acks:=by simpa using hc
    rw[if_neg hc] at hs
    simp only[go_sem,m1,a3,h3,h1,h4,hx,hlim]
    exact⟨i+1,by omega,by omega,by rw[hs];simp[Y3,Ye],by rw[hs];simp,by rw[Yi h (by omega)]⟩
   ·have hc:x∈r.acks:=by simpa using hc
    rw[if_pos hc] at hs
    simp only[go_sem,m1,a3,h3,h1,h4,hx,hlim]
    exact⟨i+1,by omega,by omega,by rw[hs],by rw[hs],by rw[Yi h (by omega)]⟩
  ·have h:=Ym hi h
   subst h
   have e:Yak r r.members=Ys r:=rfl
   simp only[go_sem,a3,h3,List.take_length,e]
def H72 (Pg:Nat→Option Fn):Prop:=Pg 72=some (.code F72)∧H65 Pg∧H69 Pg
theorem K72 (h:H72 Pg) (r:Rep) (ok:r.Ok) (hm:r.members.length≤10000):K' Pg 72 [.agg (Yu r)]=some (YM (Ys r)):=by
 obtain⟨h,h65,h69⟩:=h
 have k65:=fun x=>K65 h65 r.acks x ok.a
 have k69:=K69 h69 r.members (by omega)
 simp only[Ye] at k65 k69
 refine K'_code h rfl ?_
 simp only[go_sem,mkA]
 unfold l72_0
 refine JiG (fun (i:Nat) S=>i≤r.members.length∧S.ρ 1=.lref 1 0∧S.μ 1=some (Yu r,false)∧S.A 3=some (7,(Yak r (r.members.take i)).map Y3,.live)∧S.ρ 3=.own 3 7 (Yak r (r.members.take i)).length∧S.ρ 7=Ye r.members∧S.ρ 8=iz r.members.length∧S.ρ 9=iz i) (fun i=>r.members.length-i) 0 ?_ ?_
 ·simp[go_sem,Yak]
 ·intro i S ⟨hi,h1,m1,a3,h3,h7,h8,h9⟩
  simp only[go_sem,m1,a3,h3,h1,h7,h8,h9]
  refine JiH (fun h=>?_) (fun h=>?_)
  ·have h:=Yg h
   obtain⟨x,hx,hd⟩:=Jin h
   have hlen:=YcR (r:=r) (l:=r.members.take i)
   have hlim:(Yak r (r.members.take i)).length+1≤lim:=by
    simp only[List.length_take] at hlen
    simp only[lim];omega
   have hs:=YdR (r:=r) (l:=r.members.take i) (m:=x)
   rw[←YA hx] at hs
   simp only[go_sem,m1,a3,h3,h1,h7,h8,h9,hx,k65]
   refine JiH (fun hc=>?_) (fun hc=>?_)
   ·have hc:x∉r.acks:=by simpa using hc
    rw[if_neg hc] at hs
    simp only[go_sem,m1,a3,h3,h1,h7,h8,h9,hx,hlim,k69]
    exact⟨i+1,by omega,by omega,by rw[hs];simp[Y3,Ye],by rw[hs];simp,by rw[Yi h (by omega)]⟩
   ·have hc:x∈r.acks:=by simpa using hc
    rw[if_pos hc] at hs
    simp only[go_sem,m1,a3,h3,h1,h7,h8,h9,hx,hlim]
    exact⟨i+1,by omega,by omega,by rw[hs],by rw[hs],by rw[Yi h (by omega)]⟩
  ·have h:=Ym hi h
   subst h
   have e:Yak r r.members=Ys r:=rfl
   simp only[go_sem,a3,h3,List.take_length,e]
def H51 (Pg:Nat→Option Fn):Prop:=Pg 51=some (.code F51)∧H41 Pg∧H72 Pg
theorem K51 (h:H51 Pg) (r:Rep) (ok:r.Ok) (hm:r.members.length≤10000):K' Pg 51 [.agg (Yu r)]=some (YM (if YF r then Ys r else [])):=by
 obtain⟨h,h41,h72⟩:=h
 have k41:=K41 h41 r ok
 have k72:=K72 h72 r ok hm
 simp only[Ye,Yu] at k41 k72
 refine K'_code h rfl ?_
 cases hb:YF r<;>simp only[go_sem,k41,k72,hb]
end Sg
namespace Sg
structure RP (r:Rep):Prop where
 id:1≤r.id∧r.id≤255
 view:0≤r.view∧r.view≤1099511627776
 n:0≤r.n∧r.n≤1099511627776
 sm:SetP r.members
 sa:SetP r.acks
 sub:∀a∈r.acks,a∈r.members
 inn:r.members≠[]→r.id∈r.members
 lead:Yj r=true→r.id∈r.acks∧(Yaf r=true→r.base=r.text)
 not:Yj r=false→r.acks=[]∧r.base=r.text
def Y1 (k:Nat):Int:=(k:Int)+1
structure Gh where
 V:Int
 who:Int→Nat
 mem:Int→List Int
 n0:Int→Int
 top:Int→Int
 τ:Int→Int→List UInt8
structure GOK (g:Gh):Prop where
 V1:1≤g.V
 who:∀v,1≤v→v≤g.V→g.who v<3
 set:∀v,1≤v→v≤g.V→SetP (g.mem v)∧(∀m∈g.mem v,1≤m∧m≤3)∧(g.mem v).head?=some (Y1 (g.who v))
 n0:∀v,1≤v→v≤g.V→1≤g.n0 v∧g.n0 v≤g.top v
 chain:∀v,1≤v→v≤g.V→∀n m,g.n0 v≤n→n≤m→m≤g.top v→g.τ v n <+:g.τ v m
 next:∀v,1≤v→v+1≤g.V→Y1 (g.who (v+1))∈g.mem v∧g.n0 v≤g.n0 (v+1)-1∧g.n0 (v+1)-1≤g.top v∧g.τ (v+1) (g.n0 (v+1))=g.τ v (g.n0 (v+1)-1)
def AckOK (g:Gh) (r:Nat→Rep) (j:Nat) (v n:Int):Prop:=
 v≤(r j).view∧((r j).view=v→n≤(r j).n)∧(v+1≤g.V→g.who (v+1)=j→n≤g.n0 (v+1)-1)
def Evd (g:Gh) (r:Nat→Rep) (v b:Int):Prop:=
 b=g.n0 v∨∀j,j<3→Y1 j∈g.mem v→v≤(r j).view∧((r j).view=v→b≤(r j).n)
structure ROK (g:Gh) (r:Nat→Rep) (k:Nat):Prop where
 id:(r k).id=Y1 k
 right:RP (r k)
 view:1≤(r k).view∧(r k).view≤g.V
 n:g.n0 (r k).view≤(r k).n∧(r k).n≤g.top (r k).view
 text:(r k).text=g.τ (r k).view (r k).n
 mem:(r k).members=[]∨(r k).members=g.mem (r k).view∧Y1 k∈g.mem (r k).view
 top:Yj (r k)=true→(r k).n=g.top (r k).view
 base:Yj (r k)=true→∃b,g.n0 (r k).view≤b∧b≤(r k).n∧(r k).base=g.τ (r k).view b∧((r k).view+1≤g.V→b≤g.n0 ((r k).view+1)-1)∧Evd g r (r k).view b
 acks:Yj (r k)=true→∀a∈(r k).acks,a≠(r k).id→∃j,j<3∧a=Y1 j∧AckOK g r j (r k).view (r k).n
structure WOK (g:Gh) (r:Nat→Rep) (x:Word):Prop where
 ship:x.kind=1→1≤x.view∧x.view≤g.V∧g.n0 x.view≤x.n∧x.n≤g.top x.view∧x.text=g.τ x.view x.n∧x.members=g.mem x.view∧x.frm=Y1 (g.who x.view)
 ack:x.kind=2→∃j,j<3∧x.frm=Y1 j∧AckOK g r j x.view x.n
 past:x.kind=3→x.view≤g.V
structure Fixd where
 text:List UInt8
 at_:Int
structure FOK (g:Gh) (r:Nat→Rep) (x:Fixd):Prop where
 at_:1≤x.at_∧x.at_≤g.V
 b:∃b,g.n0 x.at_≤b∧b≤g.top x.at_∧x.text=g.τ x.at_ b∧(x.at_+1≤g.V→b≤g.n0 (x.at_+1)-1)∧Evd g r x.at_ b
 now:∀k,k<3→Yj (r k)=true→(r k).view=x.at_→x.text <+:(r k).base
structure Told where
 view:Int
 who:Int
 members:List Int
structure Inv1 (g:Gh) (r:Nat→Rep) (net:List Word) (views:List Told) (fx:List Fixd):Prop where
 gk:GOK g
 rk:∀k,k<3→ROK g r k
 told:∀v,1≤v→v≤g.V→v≤(r (g.who v)).view
 netk:∀x∈net,WOK g r x
 viewk:∀t∈views,2≤t.view∧t.view≤g.V∧t.who=(g.who t.view:Int)
 all:∀v,2≤v→v≤g.V→∃t∈views,t.view=v
 fxk:∀x∈fx,FOK g r x
section
variable {g:Gh} {r:Nat→Rep} {net:List Word} {views:List Told} {fx:List Fixd}
theorem Inv1.say (h:Inv1 g r net views fx) {net':List Word} (hn:∀x∈net',WOK g r x):Inv1 g r net' views fx:=⟨h.gk,h.rk,h.told,hn,h.viewk,h.all,h.fxk⟩
end
section
variable {g:Gh} {r:Nat→Rep} {net:List Word} {views:List Told} {fx:List Fixd}
end
structure Thr where
 r:Nat→Rep
 net:List Word
 views:List Told
 fx:List Fixd
 count:Int
def YeH (net:List Word) (i:Nat):List Word:=net.take i++net.drop (i+1)
theorem Yed {net:List Word} {i:Nat} {x:Word} (h:x∈YeH net i):x∈net:=by
 rcases List.mem_append.1 h with h|h
 ·exact List.mem_of_mem_take h
 ·exact List.mem_of_mem_drop h
abbrev IT (g:Gh) (t:Thr):Prop:=Inv1 g t.r t.net t.views t.fx
section
variable {g:Gh} {t:Thr}
theorem IT.off (h:IT g t) (i:Nat):IT g {t with net:=YeH t.net i}:=Inv1.say h fun y hy=>h.netk y (Yed hy)
end
section
variable {g:Gh} {t:Thr} {N:Int} {T:List UInt8}
end
end Sg
namespace Sg
open _root_.Go (IntKind BinOp UnOp)
@[go_sem] def YbU (t:Told):List V:=[iz t.view,iz t.who,Ye t.members]
def Y2 (r:Nat→Rep) (v1 v2 v3 v4 v5:V):List V:=Yu (r 0)++(Yu (r 1)++(Yu (r 2)++[v1,v2,v3,v4,v5]))
@[go_sem] def Ya1 (t:Thr) (a b c d:Nat):List V:=Y2 t.r (.own a 7 t.net.length) (.own b 3 t.views.length) (.own c 1 t.fx.length) (.own d 1 t.fx.length) (iz t.count)
structure Arr4 (A:AA) (t:Thr) (a b c d:Nat):Prop where
 ra:A a=some (7,t.net.map Y3,.live)
 rb:A b=some (3,t.views.map YbU,.live)
 rc:A c=some (1,t.fx.map (fun f=>[.str f.text]),.live)
 rd:A d=some (1,t.fx.map (fun f=>[iz f.at_]),.live)
 rn:a≠b∧a≠c∧a≠d∧b≠c∧b≠d∧c≠d
def HT (S:St) (v:Nat) (t:Thr) (a b c d:Nat):Prop:=S.μ v=some (Ya1 t a b c d,false)∧Arr4 S.A t a b c d
theorem Ybs {A:AA}:∀{l m:List V},l.all V.datC=true→(∀z,V.nslice z∉l)→Jac (l++m) A=(Jac m A).map fun r=>(l++r.1,r.2)
 |[],m,_,_=>by cases h:Jac m A<;>simp[h]
 |x::l,m,hd,hn=>by
  simp only[List.all_cons,Bool.and_eq_true] at hd
  have hx:handC A x=some (x,A):=by
   cases x<;>first|rfl|(simp[V.datC] at hd;done)|(exact absurd (List.mem_cons_self ..) (hn _))
  rw[List.cons_append,Jcn,hx]
  simp only[Option.bind_some]
  rw[Ybs hd.2 (fun z hz=>hn z (by simp[hz]))]
  cases Jac m A<;>simp
theorem Ybz {A:AA}:∀{l m:List V} {d:Nat},l.all V.datC=true→JH d (l++m) A=(JH (d+l.length) m A).map fun r=>(l++r.1,r.2)
 |[],m,d,_=>by cases h:JH d m A<;>simp[h]
 |x::l,m,d,hd=>by
  simp only[List.all_cons,Bool.and_eq_true] at hd
  have hx:takeC d A x=some (x,A):=by
   cases x<;>first|rfl|(simp[V.datC] at hd;done)
  rw[List.cons_append,JcF,hx]
  simp only[Option.bind_some]
  rw[Ybz hd.2,show d+1+l.length=d+(x::l).length by simp;omega]
  cases JH (d+(x::l).length) m A<;>simp
theorem Ybf (r:Rep):(Yu r).all V.datC=true:=rfl
section
variable {r:Nat→Rep} {v1 v2 v3 v4 v5 w:V} {k s:Nat} {S:St}
end
theorem ren_arr {A:AA} {t:Thr} {a b c d x h:Nat} (hA:Arr4 A t a b c d):Arr4 (fun i=>A (swp x h i)) t (swp x h a) (swp x h b) (swp x h c) (swp x h d):=by
 obtain⟨n1,n2,n3,n4,n5,n6⟩:=hA.rn
 have inj:∀{p q:Nat},p≠q→swp x h p≠swp x h q:=fun {p q} hn e=>hn (by
  have:∀r,swp x h (swp x h r)=r:=fun r=>by
   unfold swp
   by_cases e1:r=x
   ·subst e1;simp only[if_true];split
    ·rename_i e;exact e
    ·rfl
   ·rw[if_neg e1]
    by_cases e2:r=h
    ·subst e2;simp
    ·rw[if_neg e2,if_neg e1,if_neg e2]
  rw[←this p,e,this q])
 have inv:∀r,swp x h (swp x h r)=r:=fun r=>by
   unfold swp
   by_cases e1:r=x
   ·subst e1;simp only[if_true];split
    ·rename_i e;exact e
    ·rfl
   ·rw[if_neg e1]
    by_cases e2:r=h
    ·subst e2;simp
    ·rw[if_neg e2,if_neg e1,if_neg e2]
 exact⟨by simp only[inv];exact hA.ra,by simp only[inv];exact hA.rb,by simp only[inv];exact hA.rc,by simp only[inv];exact hA.rd,inj n1,inj n2,inj n3,inj n4,inj n5,inj n6⟩
theorem HT.ren {S:St} {v x h:Nat} {t:Thr} {a b c d:Nat} (hT:HT S v t a b c d):HT (S.ren x h) v t (swp x h a) (swp x h b) (swp x h c) (swp x h d):=by
 refine⟨?_,ren_arr hT.2⟩
 show (S.μ v).map _=_
 rw[hT.1];rfl
theorem Yae {x h p:Nat} (h1:p≠x) (h2:p≠h):swp x h p=p:=by simp[swp,h1,h2]
theorem Yc7 {T:List Nat} {x h y:Nat} (hx:x∈T) (hh:h∈T) (hy:y∈T):swp x h y∈T:=by
 unfold swp
 split
 ·exact hh
 ·split
  ·exact hx
  ·exact hy
theorem HT.head {S:St} {v:Nat} {t:Thr} {a b c d h1 h2 h3 h4:Nat} {Wv Wa:List Nat} (hT:HT S v t a b c d) (hh:h1≠h2∧h1≠h3∧h1≠h4∧h2≠h3∧h2≠h4∧h3≠h4)
  (hv:Wv.contains v=false) (hw:Wa.contains h1=false∧Wa.contains h2=false∧Wa.contains h3=false∧Wa.contains h4=false) :
  HT (S.head [] [v,21,h1,v,22,h2,v,23,h3,v,24,h4] Wv Wa) v t h1 h2 h3 h4∧(∀x,Wa.contains x=true→(S.head [] [v,21,h1,v,22,h2,v,23,h3,v,24,h4] Wv Wa).A x=none)∧
   (∀x,x∉[a,b,c,d,h1,h2,h3,h4]→S.A x=none→(S.head [] [v,21,h1,v,22,h2,v,23,h3,v,24,h4] Wv Wa).A x=none):=by
 obtain⟨q1,q2,q3,q4,q5,q6⟩:=hh
 have s1:=hT.ren (x:=a) (h:=h1)
 rw[Jh5] at s1
 have e1:S.swp1 v 21 h1=S.ren a h1:=by rw[JgN,hT.1,Jh3];rfl
 have T0:∀y∈[a,b,c,d,h1,h2,h3,h4],swp a h1 y∈[a,b,c,d,h1,h2,h3,h4]:=fun y hy=>Yc7 (by simp) (by simp) hy
 have tb1:=T0 b (by simp)
 have tc1:=T0 c (by simp)
 have td1:=T0 d (by simp)
 generalize swp a h1 b=b1 at *
 generalize swp a h1 c=c1 at *
 generalize swp a h1 d=d1 at *
 obtain⟨n1,n2,n3,n4,n5,n6⟩:=s1.2.rn
 have s2:=s1.ren (x:=b1) (h:=h2)
 rw[Jh5,Yae n1 q1] at s2
 have e2:(S.ren a h1).swp1 v 22 h2=(S.ren a h1).ren b1 h2:=by rw[JgN,s1.1,Jh3];rfl
 have tc2:=Yc7 (h:=h2) tb1 (by simp) tc1
 have td2:=Yc7 (h:=h2) tb1 (by simp) td1
 generalize swp b1 h2 c1=c2 at *
 generalize swp b1 h2 d1=d2 at *
 obtain⟨m1,m2,m3,m4,m5,m6⟩:=s2.2.rn
 have s3:=s2.ren (x:=c2) (h:=h3)
 rw[Jh5,Yae m2 q2,Yae m4 q4] at s3
 have e3:((S.ren a h1).ren b1 h2).swp1 v 23 h3=((S.ren a h1).ren b1 h2).ren c2 h3:=by rw[JgN,s2.1,Jh3];rfl
 have td3:=Yc7 (h:=h3) tc2 (by simp) td2
 generalize swp c2 h3 d2=d3 at *
 obtain⟨l1,l2,l3,l4,l5,l6⟩:=s3.2.rn
 have s4:=s3.ren (x:=d3) (h:=h4)
 rw[Jh5,Yae l3 q3,Yae l5 q5,Yae l6 q6] at s4
 have e4:(((S.ren a h1).ren b1 h2).ren c2 h3).swp1 v 24 h4=(((S.ren a h1).ren b1 h2).ren c2 h3).ren d3 h4:=by rw[JgN,s3.1,Jh3];rfl
 have eh:S.head [] [v,21,h1,v,22,h2,v,23,h3,v,24,h4] Wv Wa=((((S.ren a h1).ren b1 h2).ren c2 h3).ren d3 h4).scrub [] Wv Wa:=by
  rw[Jio,e1,Jio,e2,Jio,e3,Jio,e4];rfl
 rw[eh]
 refine⟨⟨?_,?_⟩,fun x hx=>?_,fun x hx h0=>?_⟩
 ·show (if Wv.contains v then none else _)=_
  rw[hv,s4.1]
  simp only[Bool.false_eq_true,if_false,Option.map_some]
  have:(Ya1 t h1 h2 h3 h4).map (Jv Wa)=Ya1 t h1 h2 h3 h4:=by
   unfold Ya1 Y2
   simp only[List.map_append,JbU (Ybf _),List.map_cons,List.map_nil,Jv,hw.1,hw.2.1,hw.2.2.1,hw.2.2.2]
   rfl
  rw[this]
  cases Wa.isEmpty<;>rfl
 ·have keep:∀x,Wa.contains x=false→(((((S.ren a h1).ren b1 h2).ren c2 h3).ren d3 h4).scrub [] Wv Wa).A x=((((S.ren a h1).ren b1 h2).ren c2 h3).ren d3 h4).A x:=fun x hx=>by
   show (if Wa.contains x then none else _)=_
   rw[hx];rfl
  exact⟨by rw[keep _ hw.1];exact s4.2.ra,by rw[keep _ hw.2.1];exact s4.2.rb,by rw[keep _ hw.2.2.1];exact s4.2.rc,by rw[keep _ hw.2.2.2];exact s4.2.rd,q1,q2,q3,q4,q5,q6⟩
 ·show (if Wa.contains x then none else _)=_
  rw[hx];rfl
 ·show (if Wa.contains x then none else _)=_
  split
  ·rfl
  ·show S.A (swp a h1 (swp b1 h2 (swp c2 h3 (swp d3 h4 x))))=none
   have ne:∀{y},y∈[a,b,c,d,h1,h2,h3,h4]→x≠y:=fun hy e=>hx (e▸hy)
   rw[Yae (ne td3) (ne (by simp)),Yae (ne tc2) (ne (by simp)),Yae (ne tb1) (ne (by simp)),Yae (ne (by simp)) (ne (by simp))]
   exact h0
theorem Arr4.of {A:AA} {t t':Thr} {a b c d:Nat} (h:Arr4 A t a b c d) (h1:t'.net=t.net) (h2:t'.views=t.views) (h3:t'.fx=t.fx):Arr4 A t' a b c d:=
 ⟨by rw[h1];exact h.ra,by rw[h2];exact h.rb,by rw[h3];exact h.rc,by rw[h3];exact h.rd,h.rn⟩
end Sg
namespace Sg
open _root_.Go (IntKind BinOp UnOp)
variable {Pg : Nat → Option Fn}
theorem YcO {A:AA} {l:List V} (hd:l.all V.datC=true) (hn:∀z,V.nslice z∉l):Jac l A=some (l,A):=by
 have:=Ybs (A:=A) (m:=[]) hd hn
 rw[List.append_nil] at this
 rw[this,JcZ];simp
theorem YcT {A:AA} {l:List V} {d:Nat} (hd:l.all V.datC=true):JH d l A=some (l,A):=by
 have:=Ybz (A:=A) (m:=[]) (d:=d) hd
 rw[List.append_nil] at this
 rw[this,Jdv];simp
structure SDat (S:St) (rest cs:List V):Prop where
 r0:S.ρ 0=.lref 0 0
 r:∀i,S.ρ (i+1)=(rest[i]?).getD .undef
 h:S.μ 0=some (cs,false)
 m:∀i,(i == 0)=false→S.μ i=none
 a:∀x,S.A x=none
theorem YcV {f:Nat} {F:F} (rs:List Res) {rest ws cs cs':List V} (hF:Pg f=some (.codeR F 0)) (hl:rest.length+1=F.np) (hrs:F.res=rs) (hd:cs.all V.datC=true) (hd':cs'.all V.datC=true) (hn':∀z,V.nslice z∉cs')
  (h:∀S,SDat S rest cs→Wp (K' Pg) F.body S fun ex S'=>(ex=.norm∨ex=.ret)∧S'.μ 0=some (cs',false)∧∃vs,Jo (resV S') rs=some vs∧Jo (toD S'.A) vs=some ws) :
  K' Pg f (.tuple (.lref 0 0::cs)::rest)=some (.tuple [Jbb ws,.tuple cs']):=by
 have hs:startR (.tuple (.lref 0 0::cs)::rest) 0 cs=some ⟨fun i=>if i=0 then .lref 0 0 else ((V.tuple (.lref 0 0::cs)::rest)[i]?).getD .undef,upd (fun _=>none) 0 (some (cs,false)),fun _=>none⟩:=by
  unfold startR
  rw[YcT hd];rfl
 have hm:∀i,(i == 0)=false→(upd (fun _=>none) 0 (some (cs,false)):Nat→Option (List V×Bool)) i=none:=fun i hi=>Je2 hi
 refine K'_codeR hF (by simpa using hl) rfl hs ((h _ ⟨rfl,fun i=>rfl,by simp[upd],hm,fun x=>rfl⟩).mono fun ex S' hq=>⟨hq.1,?_⟩)
 obtain⟨h1,vs,h2,h3⟩:=hq.2
 unfold Jay
 rw[hrs,h2]
 simp only[Option.bind_some,h1,YcO hd' hn',h3]
theorem Yba {f:Nat} {F:F} (rs:List Res) {rest ws cs cs':List V} (hF:Pg f=some (.codeR F 0)) (hl:rest.length+1=F.np) (hrs:F.res=rs) (hd:cs.all V.datC=true) (hd':cs'.all V.datC=true) (hn':∀z,V.nslice z∉cs')
  (h:∀S,SDat S rest cs→Wp (K' Pg) F.body S fun ex S'=>(ex=.norm∨ex=.ret)∧S'.μ 0=some (cs',false)∧∃vs,Jo (resV S') rs=some vs∧∀A,Jo (toD A) vs=some ws) :
  K' Pg f (.tuple (.lref 0 0::cs)::rest)=some (.tuple [Jbb ws,.tuple cs']):=
 YcV rs hF hl hrs hd hd' hn' fun S hS=>(h S hS).mono fun ex S' hq=>⟨hq.1,hq.2.1,hq.2.2.elim fun vs hv=>⟨vs,hv.1,hv.2 _⟩⟩
theorem Yd0 {κ:Nat→List V→Option V} {S:St} {f v p:Nat} {rest cs cs':List V} {r:V} (hm:S.μ v=some (cs,false)) (hc:cs.all V.datC=true) (hn:∀z,V.nslice z∉cs) (hc':cs'.all V.datC=true)
  (hd:∀A,Jo (toD A) rest=some rest) (hs:rest.flatMap Jd=[])
  (hκ:κ f (.tuple (.lref 0 0::cs)::rest)=some (.tuple [r,.tuple cs'])) :
  Jat κ p S f 0 v (.lref v 0::rest)=some (r,⟨S.ρ,upd S.μ v (some (cs',false)),S.A⟩):=by
 have hA:rcallA S 0 v (.lref v 0::rest)=some (.tuple (.lref 0 0::cs)::rest,S.A):=by
  simp only[Jdf,JhA,Jgk,List.set_cons_zero,Jo,Jih,hd,Option.bind_some,hm,Jgm,Jck,JeM,hs,List.nil_append,Jd6,YcO hc hn]
 rw[Jis,hA]
 simp only[Option.bind_some,hκ,Jdg,YcT hc']
abbrev Rd:=List UInt8×Bool
@[go_sem] def eRd (r:Rd):List V:=[.str r.1,.bool r.2]
theorem YQ (r:Rd):(eRd r).all V.datC=true:=rfl
theorem Ybj (r:Rd) (z:Nat):V.nslice z∉eRd r:=by simp[eRd]
theorem rcall_rd {κ:Nat→List V→Option V} {S:St} {f v p:Nat} {x:Rd} {r:V} {y:Rd} (hκ:κ f [.tuple (.lref 0 0::eRd x)]=some (.tuple [r,.tuple (eRd y)])) (hm:S.μ v=some (eRd x,false)) :
  Jat κ p S f 0 v [.lref v 0]=some (r,⟨S.ρ,upd S.μ v (some (eRd y,false)),S.A⟩):=
 Yd0 (rest:=[]) hm (YQ x) (Ybj x) (YQ y) (fun A=>rfl) rfl hκ
def rd {α:Type} (f:List UInt8→Option (α×List UInt8)) (d:α) (r:Rd):α×Rd:=match r.2,f r.1 with
 |false,some (n,s)=>(n,(s,false))
 |_,_=>(d,(r.1,true))
def cu {α:Type} (f:List UInt8→Option (α×List UInt8)) (d:α) (r:Rd):α×Rd:=match f r.1 with
 |some (n,s)=>(n,(s,r.2))
 |none=>(d,([],true))
def zS:Stamp:=⟨0,0,0⟩
def eSt (s:Stamp):V:=.agg (Yd s)
def H465 (Pg:Nat→Option Fn):Prop:=Pg 465=some (.codeR F465 0)∧H491 Pg
theorem K465 (h:H465 Pg) (x:Rd) (hx:x.1.length<2 ^ 62):K' Pg 465 [.tuple (.lref 0 0::eRd x)]=some (.tuple [iz (rd (tk 9) 0 x).1,.tuple (eRd (rd (tk 9) 0 x).2)]):=by
 obtain⟨h,hk⟩:=h
 obtain⟨e,he,k⟩:=K491 hk x.1 hx
 have hd:decide (e=0)=false:=decide_eq_false he
 obtain⟨s,b⟩:=x
 refine Yba [.t 2] (ws:=[iz _]) h rfl rfl (YQ _) (YQ _) (Ybj _) fun S ⟨r0,r,hm,m0,a0⟩=>?_
 simp only[go_sem] at hm k
 cases hq:(tk 9) s with
 |none=>
  rw[hq] at k
  simp only[eTk] at k
  cases b with
  |true=>
   simp only[F465,c465,go_sem,r0,hm,k,hd,rd,hq]
   exact⟨_,rfl,fun _=>rfl⟩
  |false=>
   simp only[F465,c465,go_sem,r0,hm,k,hd,rd,hq]
   exact⟨_,rfl,fun _=>rfl⟩
 |some q=>
  obtain⟨n,u⟩:=q
  rw[hq] at k
  simp only[eTk] at k
  cases b with
  |true=>
   simp only[F465,c465,go_sem,r0,hm,k,rd,hq]
   exact⟨_,rfl,fun _=>rfl⟩
  |false=>
   simp only[F465,c465,go_sem,r0,hm,k,rd,hq]
   exact⟨_,rfl,fun _=>rfl⟩
def H492 (Pg:Nat→Option Fn):Prop:=Pg 492=some (.codeR F492 0)∧H506 Pg
theorem K492 (h:H492 Pg) (x:Rd) (hx:x.1.length<2 ^ 62):K' Pg 492 [.tuple (.lref 0 0::eRd x)]=some (.tuple [.str (rd tkT [] x).1,.tuple (eRd (rd tkT [] x).2)]):=by
 obtain⟨h,hk⟩:=h
 obtain⟨e,he,k⟩:=K506 hk x.1 hx
 have hd:decide (e=0)=false:=decide_eq_false he
 obtain⟨s,b⟩:=x
 refine Yba [.t 2] (ws:=[.str _]) h rfl rfl (YQ _) (YQ _) (Ybj _) fun S ⟨r0,r,hm,m0,a0⟩=>?_
 simp only[go_sem] at hm k
 cases hq:tkT s with
 |none=>
  rw[hq] at k
  simp only[Ycj] at k
  cases b with
  |true=>
   simp only[F492,c492,go_sem,r0,hm,k,hd,rd,hq]
   exact⟨_,rfl,fun _=>rfl⟩
  |false=>
   simp only[F492,c492,go_sem,r0,hm,k,hd,rd,hq]
   exact⟨_,rfl,fun _=>rfl⟩
 |some q=>
  obtain⟨n,u⟩:=q
  rw[hq] at k
  simp only[Ycj] at k
  cases b with
  |true=>
   simp only[F492,c492,go_sem,r0,hm,k,rd,hq]
   exact⟨_,rfl,fun _=>rfl⟩
  |false=>
   simp only[F492,c492,go_sem,r0,hm,k,rd,hq]
   exact⟨_,rfl,fun _=>rfl⟩
def H493 (Pg:Nat→Option Fn):Prop:=Pg 493=some (.codeR F493 0)∧H507 Pg
theorem K493 (h:H493 Pg) (x:Rd) (hx:x.1.length<2 ^ 62):K' Pg 493 [.tuple (.lref 0 0::eRd x)]=some (.tuple [.bool (rd tkF false x).1,.tuple (eRd (rd tkF false x).2)]):=by
 obtain⟨h,hk⟩:=h
 obtain⟨e,he,k⟩:=K507 hk x.1
 have hd:decide (e=0)=false:=decide_eq_false he
 obtain⟨s,b⟩:=x
 refine Yba [.t 2] (ws:=[.bool _]) h rfl rfl (YQ _) (YQ _) (Ybj _) fun S ⟨r0,r,hm,m0,a0⟩=>?_
 simp only[go_sem] at hm k
 cases hq:tkF s with
 |none=>
  rw[hq] at k
  simp only[Yci] at k
  cases b with
  |true=>
   simp only[F493,c493,go_sem,r0,hm,k,hd,rd,hq]
   exact⟨_,rfl,fun _=>rfl⟩
  |false=>
   simp only[F493,c493,go_sem,r0,hm,k,hd,rd,hq]
   exact⟨_,rfl,fun _=>rfl⟩
 |some q=>
  obtain⟨n,u⟩:=q
  rw[hq] at k
  simp only[Yci] at k
  cases b with
  |true=>
   simp only[F493,c493,go_sem,r0,hm,k,rd,hq]
   exact⟨_,rfl,fun _=>rfl⟩
  |false=>
   simp only[F493,c493,go_sem,r0,hm,k,rd,hq]
   exact⟨_,rfl,fun _=>rfl⟩
def H464 (Pg:Nat→Option Fn):Prop:=Pg 464=some (.codeR F464 0)∧H490 Pg
theorem K464 (h:H464 Pg) (x:Rd) (hx:x.1.length<2 ^ 62):K' Pg 464 [.tuple (.lref 0 0::eRd x)]=some (.tuple [eSt (rd tkS zS x).1,.tuple (eRd (rd tkS zS x).2)]):=by
 obtain⟨h,hk⟩:=h
 obtain⟨e,he,k⟩:=K490 hk x.1 hx
 have hd:decide (e=0)=false:=decide_eq_false he
 obtain⟨s,b⟩:=x
 refine Yba [.cell 2 (some 3)] (ws:=[eSt _]) h rfl rfl (YQ _) (YQ _) (Ybj _) fun S ⟨r0,r,hm,m0,a0⟩=>?_
 have m2:=m0 2 rfl
 have m3:=m0 3 rfl
 simp only[go_sem] at hm k
 cases hq:tkS s with
 |none=>
  rw[hq] at k
  simp only[YbM] at k
  cases b with
  |true=>
   simp only[F464,c464,go_sem,r0,hm,k,hd,rd,hq,m2,m3,eSt,zS]
   exact⟨_,rfl,fun _=>rfl⟩
  |false=>
   simp only[F464,c464,go_sem,r0,hm,k,hd,rd,hq,m2,m3,eSt,zS]
   exact⟨_,rfl,fun _=>rfl⟩
 |some q=>
  obtain⟨n,u⟩:=q
  rw[hq] at k
  simp only[YbM,Yd] at k
  cases b with
  |true=>
   simp only[F464,c464,go_sem,r0,hm,k,rd,hq,m2,m3,eSt,zS]
   exact⟨_,rfl,fun _=>rfl⟩
  |false=>
   simp only[F464,c464,go_sem,r0,hm,k,rd,hq,m2,m3,eSt,zS]
   exact⟨_,rfl,fun _=>rfl⟩
def H435 (Pg:Nat→Option Fn):Prop:=Pg 435=some (.codeR F435 0)∧H470 Pg
theorem K435 (h:H435 Pg) (x:Rd) (hx:x.1.length<2 ^ 62):K' Pg 435 [.tuple (.lref 0 0::eRd x)]=some (.tuple [iz (cu (tk 9) 0 x).1,.tuple (eRd (cu (tk 9) 0 x).2)]):=by
 obtain⟨h,hk⟩:=h
 obtain⟨e,he,k⟩:=K470 hk x.1 hx
 have hd:decide (e=0)=false:=decide_eq_false he
 obtain⟨s,b⟩:=x
 refine Yba [.t 2] (ws:=[iz _]) h rfl rfl (YQ _) (YQ _) (Ybj _) fun S ⟨r0,r,hm,m0,a0⟩=>?_
 simp only[go_sem] at hm k
 cases hq:(tk 9) s with
 |none=>
  rw[hq] at k
  simp only[eTk] at k
  cases b with
  |true=>
   simp only[F435,c435,go_sem,r0,hm,k,hd,cu,hq]
   exact⟨_,rfl,fun _=>rfl⟩
  |false=>
   simp only[F435,c435,go_sem,r0,hm,k,hd,cu,hq]
   exact⟨_,rfl,fun _=>rfl⟩
 |some q=>
  obtain⟨n,u⟩:=q
  rw[hq] at k
  simp only[eTk] at k
  cases b with
  |true=>
   simp only[F435,c435,go_sem,r0,hm,k,cu,hq]
   exact⟨_,rfl,fun _=>rfl⟩
  |false=>
   simp only[F435,c435,go_sem,r0,hm,k,cu,hq]
   exact⟨_,rfl,fun _=>rfl⟩
def H471 (Pg:Nat→Option Fn):Prop:=Pg 471=some (.codeR F471 0)∧H494 Pg
theorem K471 (h:H471 Pg) (x:Rd) (hx:x.1.length<2 ^ 62):K' Pg 471 [.tuple (.lref 0 0::eRd x)]=some (.tuple [.str (cu tkT [] x).1,.tuple (eRd (cu tkT [] x).2)]):=by
 obtain⟨h,hk⟩:=h
 obtain⟨e,he,k⟩:=K494 hk x.1 hx
 have hd:decide (e=0)=false:=decide_eq_false he
 obtain⟨s,b⟩:=x
 refine Yba [.t 2] (ws:=[.str _]) h rfl rfl (YQ _) (YQ _) (Ybj _) fun S ⟨r0,r,hm,m0,a0⟩=>?_
 simp only[go_sem] at hm k
 cases hq:tkT s with
 |none=>
  rw[hq] at k
  simp only[Ycj] at k
  cases b with
  |true=>
   simp only[F471,c471,go_sem,r0,hm,k,hd,cu,hq]
   exact⟨_,rfl,fun _=>rfl⟩
  |false=>
   simp only[F471,c471,go_sem,r0,hm,k,hd,cu,hq]
   exact⟨_,rfl,fun _=>rfl⟩
 |some q=>
  obtain⟨n,u⟩:=q
  rw[hq] at k
  simp only[Ycj] at k
  cases b with
  |true=>
   simp only[F471,c471,go_sem,r0,hm,k,cu,hq]
   exact⟨_,rfl,fun _=>rfl⟩
  |false=>
   simp only[F471,c471,go_sem,r0,hm,k,cu,hq]
   exact⟨_,rfl,fun _=>rfl⟩
def H472 (Pg:Nat→Option Fn):Prop:=Pg 472=some (.codeR F472 0)∧H495 Pg
theorem K472 (h:H472 Pg) (x:Rd) (hx:x.1.length<2 ^ 62):K' Pg 472 [.tuple (.lref 0 0::eRd x)]=some (.tuple [.bool (cu tkF false x).1,.tuple (eRd (cu tkF false x).2)]):=by
 obtain⟨h,hk⟩:=h
 obtain⟨e,he,k⟩:=K495 hk x.1
 have hd:decide (e=0)=false:=decide_eq_false he
 obtain⟨s,b⟩:=x
 refine Yba [.t 2] (ws:=[.bool _]) h rfl rfl (YQ _) (YQ _) (Ybj _) fun S ⟨r0,r,hm,m0,a0⟩=>?_
 simp only[go_sem] at hm k
 cases hq:tkF s with
 |none=>
  rw[hq] at k
  simp only[Yci] at k
  cases b with
  |true=>
   simp only[F472,c472,go_sem,r0,hm,k,hd,cu,hq]
   exact⟨_,rfl,fun _=>rfl⟩
  |false=>
   simp only[F472,c472,go_sem,r0,hm,k,hd,cu,hq]
   exact⟨_,rfl,fun _=>rfl⟩
 |some q=>
  obtain⟨n,u⟩:=q
  rw[hq] at k
  simp only[Yci] at k
  cases b with
  |true=>
   simp only[F472,c472,go_sem,r0,hm,k,cu,hq]
   exact⟨_,rfl,fun _=>rfl⟩
  |false=>
   simp only[F472,c472,go_sem,r0,hm,k,cu,hq]
   exact⟨_,rfl,fun _=>rfl⟩
def H434 (Pg:Nat→Option Fn):Prop:=Pg 434=some (.codeR F434 0)∧H469 Pg
theorem K434 (h:H434 Pg) (x:Rd) (hx:x.1.length<2 ^ 62):K' Pg 434 [.tuple (.lref 0 0::eRd x)]=some (.tuple [eSt (cu tkS zS x).1,.tuple (eRd (cu tkS zS x).2)]):=by
 obtain⟨h,hk⟩:=h
 obtain⟨e,he,k⟩:=K469 hk x.1 hx
 have hd:decide (e=0)=false:=decide_eq_false he
 obtain⟨s,b⟩:=x
 refine Yba [.cell 2 (some 3)] (ws:=[eSt _]) h rfl rfl (YQ _) (YQ _) (Ybj _) fun S ⟨r0,r,hm,m0,a0⟩=>?_
 have m2:=m0 2 rfl
 have m3:=m0 3 rfl
 simp only[go_sem] at hm k
 cases hq:tkS s with
 |none=>
  rw[hq] at k
  simp only[YbM] at k
  cases b with
  |true=>
   simp only[F434,c434,go_sem,r0,hm,k,hd,cu,hq,m2,m3,eSt,zS]
   exact⟨_,rfl,fun _=>rfl⟩
  |false=>
   simp only[F434,c434,go_sem,r0,hm,k,hd,cu,hq,m2,m3,eSt,zS]
   exact⟨_,rfl,fun _=>rfl⟩
 |some q=>
  obtain⟨n,u⟩:=q
  rw[hq] at k
  simp only[YbM,Yd] at k
  cases b with
  |true=>
   simp only[F434,c434,go_sem,r0,hm,k,cu,hq,m2,m3,eSt,zS]
   exact⟨_,rfl,fun _=>rfl⟩
  |false=>
   simp only[F434,c434,go_sem,r0,hm,k,cu,hq,m2,m3,eSt,zS]
   exact⟨_,rfl,fun _=>rfl⟩
end Sg
namespace Sg
structure Cod {α:Type} (R:Rd→α×Rd) (W:α→List UInt8) (P:α→Prop):Prop where
 get:∀{s r:List UInt8} {a:α},R (s,false)=(a,(r,false))→s=W a++r∧P a
 put:∀{r:List UInt8} {a:α},P a→R (W a++r,false)=(a,(r,false))
 bad:∀{s:List UInt8},(R (s,true)).2.2=true
 len:∀x,(R x).2.1.length≤x.1.length
section
variable {α β:Type}
theorem Cod.rd {f:List UInt8→Option (α×List UInt8)} {d:α} {W:α→List UInt8} {P:α→Prop} (hf:∀{s r a},f s=some (a,r)↔s=W a++r∧P a):Cod (rd f d) W P:=by
 refine⟨fun {s r a} h=>?_,fun {r a} h=>?_,fun {s}=>rfl,fun x=>?_⟩
 ·simp only[Sg.rd] at h
  cases hq:f s with
  |none=>rw[hq] at h;simp at h
  |some q=>
   rw[hq] at h
   simp only[Prod.mk.injEq,and_true] at h
   exact hf.1 (by rw[hq,←h.1,←h.2])
 ·simp only[Sg.rd,hf.2 ⟨rfl,h⟩]
 ·obtain⟨s,b⟩:=x
  cases b with
  |true=>exact Nat.le_refl _
  |false=>
   simp only[Sg.rd]
   cases hq:f s with
   |none=>exact Nat.le_refl _
   |some q=>
    obtain⟨a,r⟩:=q
    have:=congrArg List.length (hf.1 hq).1
    simp only[List.length_append] at this ⊢
    omega
theorem Cod.cu {f:List UInt8→Option (α×List UInt8)} {d:α} {W:α→List UInt8} {P:α→Prop} (hf:∀{s r a},f s=some (a,r)↔s=W a++r∧P a):Cod (cu f d) W P:=by
 refine⟨fun {s r a} h=>?_,fun {r a} h=>?_,fun {s}=>?_,fun x=>?_⟩
 ·simp only[Sg.cu] at h
  cases hq:f s with
  |none=>rw[hq] at h;simp at h
  |some q=>
   rw[hq] at h
   simp only[Prod.mk.injEq,and_true] at h
   exact hf.1 (by rw[hq,←h.1,←h.2])
 ·simp only[Sg.cu,hf.2 ⟨rfl,h⟩]
 ·simp only[Sg.cu];cases f s<;>rfl
 ·obtain⟨s,b⟩:=x
  simp only[Sg.cu]
  cases hq:f s with
  |none=>exact Nat.zero_le _
  |some q=>
   obtain⟨a,r⟩:=q
   have:=congrArg List.length (hf.1 hq).1
   simp only[List.length_append] at this ⊢
   omega
def pairR (R1:Rd→α×Rd) (R2:Rd→β×Rd) (x:Rd):(α×β)×Rd:=(((R1 x).1,(R2 (R1 x).2).1),(R2 (R1 x).2).2)
theorem Cod.pair {R1:Rd→α×Rd} {R2:Rd→β×Rd} {W1:α→List UInt8} {W2:β→List UInt8} {P1:α→Prop} {P2:β→Prop} (h1:Cod R1 W1 P1) (h2:Cod R2 W2 P2) :
  Cod (pairR R1 R2) (fun p=>W1 p.1++W2 p.2) (fun p=>P1 p.1∧P2 p.2):=by
 refine⟨fun {s r a} h=>?_,fun {r a} h=>?_,fun {s}=>?_,fun x=>?_⟩
 ·obtain⟨a,b⟩:=a
  simp only[pairR,Prod.mk.injEq] at h
  obtain⟨⟨e1,e2⟩,e3⟩:=h
  cases hq:R1 (s,false) with
  |mk a' y=>
   obtain⟨s',b'⟩:=y
   rw[hq] at e1 e2 e3
   cases b' with
   |true=>
    have:=h2.bad (s:=s')
    rw[e3] at this;cases this
   |false=>
    obtain⟨g1,g2⟩:=h1.get hq
    obtain⟨g3,g4⟩:=h2.get (s:=s') (r:=r) (a:=b) (Prod.ext e2 e3)
    subst e1
    rw[g1,g3]
    exact⟨by simp,g2,g4⟩
 ·obtain⟨a,b⟩:=a
  simp only[pairR,List.append_assoc]
  rw[h1.put h.1,h2.put h.2]
 ·simp only[pairR]
  have:=h1.bad (s:=s)
  generalize R1 (s,true)=q at *
  obtain⟨a,t,b⟩:=q
  simp only at this
  subst this
  exact h2.bad
 ·exact Nat.le_trans (h2.len _) (h1.len x)
def mapR (g:α→β) (R:Rd→α×Rd) (x:Rd):β×Rd:=(g (R x).1,(R x).2)
theorem Cod.map {R:Rd→α×Rd} {W:α→List UInt8} {P:α→Prop} (h:Cod R W P) {g:α→β} {k:β→α} (hk:∀a,k (g a)=a):Cod (mapR g R) (fun b=>W (k b)) (fun b=>P (k b)∧g (k b)=b):=by
 refine⟨fun {s r b} hb=>?_,fun {r b} hb=>?_,fun {s}=>h.bad,fun x=>h.len x⟩
 ·simp only[mapR,Prod.mk.injEq] at hb
  obtain⟨e1,e2⟩:=hb
  obtain⟨g1,g2⟩:=h.get (Prod.ext (x:=R (s,false)) (y:=((R (s,false)).1,(r,false))) rfl e2)
  subst e1
  rw[hk]
  exact⟨g1,g2,rfl⟩
 ·simp only[mapR]
  rw[h.put hb.1]
  simp only[hb.2]
def rL (x:Rd):Nat×Rd:=if (rd (tk 9) 0 x).2.1.length<(rd (tk 9) 0 x).1 then (0,((rd (tk 9) 0 x).2.1,true)) else rd (tk 9) 0 x
def YK (R:Rd→α×Rd):Nat→Rd→List α×Rd
 |0,x=>([],x)
 |k+1,x=>((R x).1::(YK R k (R x).2).1,(YK R k (R x).2).2)
def YL (R:Rd→α×Rd):Nat→Rd→List α×Rd
 |0,x=>([],x)
 |k+1,x=>if x.2 then ([],x) else ((R x).1::(YL R k (R x).2).1,(YL R k (R x).2).2)
def lstP (R:Rd→α×Rd) (x:Rd):List α×Rd:=YK R (rL x).1 (rL x).2
def lstD (R:Rd→α×Rd) (x:Rd):List α×Rd:=YL R (cu (tk 9) 0 x).1 (cu (tk 9) 0 x).2
def Yav (W:α→List UInt8) (l:List α):List UInt8:=putB l.length++l.flatMap W
variable {R:Rd→α×Rd} {W:α→List UInt8} {P:α→Prop}
theorem YbG (h:Cod R W P):∀{k:Nat} {s:List UInt8},(YK R k (s,true)).2.2=true
 |0,s=>rfl
 |k+1,s=>by
  simp only[YK]
  have:=h.bad (s:=s)
  generalize R (s,true)=q at *
  obtain⟨a,t,b⟩:=q
  simp only at this
  subst this
  exact YbG h
theorem Ya7:∀{k:Nat} {s:List UInt8},YL R k (s,true)=([],(s,true))
 |0,s=>rfl
 |k+1,s=>rfl
theorem YdO (h:Cod R W P):∀{k:Nat} {x:Rd},(YL R k x).2.2=false→YL R k x=YK R k x
 |0,x,_=>rfl
 |k+1,(s,true),hf=>by rw[Ya7] at hf;cases hf
 |k+1,(s,false),hf=>by
  have e:YL R (k+1) (s,false)=((R (s,false)).1::(YL R k (R (s,false)).2).1,(YL R k (R (s,false)).2).2):=rfl
  rw[e] at hf ⊢
  rw[YdO h hf];rfl
theorem Yc4 (h:Cod R W P):∀{k:Nat} {s r:List UInt8} {l:List α},YK R k (s,false)=(l,(r,false))→l.length=k∧s=l.flatMap W++r∧∀a∈l,P a
 |0,s,r,l,hr=>by
  simp only[YK,Prod.mk.injEq,and_true] at hr
  obtain⟨rfl,rfl⟩:=hr
  exact⟨rfl,by simp,fun a ha=>by simp at ha⟩
 |k+1,s,r,l,hr=>by
  simp only[YK,Prod.mk.injEq] at hr
  obtain⟨e1,e2⟩:=hr
  cases hq:R (s,false) with
  |mk a' y=>
   obtain⟨s',b'⟩:=y
   rw[hq] at e1 e2
   cases b' with
   |true=>
    have:=YbG h (k:=k) (s:=s')
    rw[e2] at this;cases this
   |false=>
    obtain⟨g1,g2⟩:=h.get hq
    obtain⟨g3,g4,g5⟩:=Yc4 h (Prod.ext (x:=YK R k (s',false)) (y:=((YK R k (s',false)).1,(r,false))) rfl e2)
    subst e1
    refine⟨by simp[g3],by rw[g1,List.flatMap_cons,List.append_assoc];exact congrArg (W a'++·) g4,fun a ha=>?_⟩
    rcases List.mem_cons.1 ha with rfl|ha
    ·exact g2
    ·exact g5 a ha
theorem YdP (h:Cod R W P):∀{l:List α} {r:List UInt8},(∀a∈l,P a)→YK R l.length (l.flatMap W++r,false)=(l,(r,false))
 |[],r,_=>rfl
 |a::l,r,hl=>by
  simp only[List.length_cons,YK,List.flatMap_cons,List.append_assoc]
  rw[h.put (hl a (by simp)),YdP h (fun b hb=>hl b (by simp[hb]))]
theorem Ydj (h:Cod R W P):∀{l:List α} {r:List UInt8},(∀a∈l,P a)→YL R l.length (l.flatMap W++r,false)=(l,(r,false))
 |[],r,_=>rfl
 |a::l,r,hl=>by
  have e:YL R (a::l).length ((a::l).flatMap W++r,false)=((R ((a::l).flatMap W++r,false)).1::(YL R l.length (R ((a::l).flatMap W++r,false)).2).1,(YL R l.length (R ((a::l).flatMap W++r,false)).2).2):=rfl
  rw[e]
  simp only[List.flatMap_cons,List.append_assoc]
  rw[h.put (hl a (by simp)),Ydj h (fun b hb=>hl b (by simp[hb]))]
theorem Yby (h:Cod R W P):∀{k:Nat} {x:Rd},(YK R k x).2.1.length≤x.1.length
 |0,x=>Nat.le_refl _
 |k+1,x=>Nat.le_trans (Yby h (k:=k)) (h.len x)
theorem Yb4 (h:Cod R W P):∀{k:Nat} {x:Rd},(YL R k x).2.1.length≤x.1.length
 |0,x=>Nat.le_refl _
 |k+1,x=>by
  simp only[YL]
  split
  ·exact Nat.le_refl _
  ·exact Nat.le_trans (Yb4 h (k:=k)) (h.len x)
theorem codN:Cod (rd (tk 9) 0) putB (fun n=>n<2 ^ 63):=Cod.rd fun {s r a}=>by rw[YdB,YY]
theorem Yat:Cod (cu (tk 9) 0) putB (fun n=>n<2 ^ 63):=Cod.cu fun {s r a}=>by rw[YdB,YY]
theorem Ybr (hW:∀a,P a→1≤(W a).length):∀{l:List α},(∀a∈l,P a)→l.length≤(l.flatMap W).length
 |[],_=>by simp
 |a::l,hl=>by
  have h1:=hW a (hl a (by simp))
  have h2:=Ybr hW (l:=l) fun b hb=>hl b (by simp[hb])
  simp only[List.flatMap_cons,List.length_append,List.length_cons]
  omega
theorem Cod.lstP (h:Cod R W P) (hW:∀a,P a→1≤(W a).length):Cod (Sg.lstP R) (Yav W) (fun l=>l.length<2 ^ 63∧∀a∈l,P a):=by
 refine⟨fun {s r l} hl=>?_,fun {r l} hl=>?_,fun {s}=>?_,fun x=>?_⟩
 ·simp only[Sg.lstP,rL] at hl
  split at hl
  ·have:=YbG h (k:=0) (s:=(Sg.rd (tk 9) 0 (s,false)).2.1)
   rw[hl] at this;cases this
  ·cases hq:Sg.rd (tk 9) 0 (s,false) with
   |mk n y=>
    obtain⟨s',b'⟩:=y
    rw[hq] at hl
    cases b' with
    |true=>
     have:=YbG h (k:=n) (s:=s')
     simp only at hl
     rw[hl] at this;cases this
    |false=>
     obtain⟨g1,g2⟩:=codN.get hq
     obtain⟨g3,g4,g5⟩:=Yc4 h hl
     subst g3
     rw[g1,g4]
     exact⟨by simp[Yav],g2,g5⟩
 ·simp only[Sg.lstP,rL,Yav,List.append_assoc]
  rw[codN.put hl.1]
  have:=Ybr hW hl.2
  rw[if_neg (by simp only[List.length_append];omega)]
  exact YdP h hl.2
 ·simp only[Sg.lstP,rL]
  split
  ·exact YbG h
  ·exact YbG h
 ·simp only[Sg.lstP,rL]
  split
  ·exact Nat.le_trans (Yby h) (codN.len x)
  ·exact Nat.le_trans (Yby h) (codN.len x)
theorem Cod.lstD (h:Cod R W P):Cod (Sg.lstD R) (Yav W) (fun l=>l.length<2 ^ 63∧∀a∈l,P a):=by
 refine⟨fun {s r l} hl=>?_,fun {r l} hl=>?_,fun {s}=>?_,fun x=>?_⟩
 ·simp only[Sg.lstD] at hl
  cases hq:Sg.cu (tk 9) 0 (s,false) with
  |mk n y=>
   obtain⟨s',b'⟩:=y
   rw[hq] at hl
   cases b' with
   |true=>
    simp only[Ya7,Prod.mk.injEq] at hl
    simp at hl
   |false=>
    obtain⟨g1,g2⟩:=Yat.get hq
    simp only at hl
    rw[YdO h (by rw[hl])] at hl
    obtain⟨g3,g4,g5⟩:=Yc4 h hl
    subst g3
    rw[g1,g4]
    exact⟨by simp[Yav],g2,g5⟩
 ·simp only[Sg.lstD,Yav,List.append_assoc]
  rw[Yat.put hl.1]
  exact Ydj h hl.2
 ·simp only[Sg.lstD]
  have:=Yat.bad (s:=s)
  generalize Sg.cu (tk 9) 0 (s,true)=q at *
  obtain⟨a,t,b⟩:=q
  simp only at this
  subst this
  simp only[Ya7]
 ·exact Nat.le_trans (Yb4 h) (Yat.len x)
end
end Sg
namespace Sg
open _root_.Go (IntKind BinOp UnOp)
variable {Pg : Nat → Option Fn}
theorem Ydh {l:List UInt8} (h:l≠[]):(YaW l).2=((dN l).2:Int):=by
 rw[Ycm h]
 by_cases c:dN l=(65533,1)
 ·rw[if_pos c,c];rfl
 ·rw[if_neg c]
theorem Yec {l:List UInt8} (h:l≠[]) (hn:(YaW l).1<0):((dN l).1:Int)=65533:=by
 rw[Ycm h] at hn
 by_cases c:dN l=(65533,1)
 ·rw[c];rfl
 ·rw[if_neg c] at hn;simp at hn;omega
theorem YeF {l:List UInt8} (h:l≠[]) (hn:¬(YaW l).1<0):((dN l).1:Int)=(YaW l).1:=by
 rw[Ycm h] at hn ⊢
 by_cases c:dN l=(65533,1)
 ·rw[if_pos c] at hn;simp at hn
 ·rw[if_neg c]
theorem YdH {l:List UInt8} (h:l≠[]):(dN l).2≤l.length:=by
 rcases YbT h with x|⟨a0,t,rfl,q,x⟩|⟨a0,a1,t,rfl,q,q1,x⟩|⟨a0,a1,a2,t,rfl,q,q1,q2,q3,x⟩|⟨a0,a1,a2,a3,t,rfl,q,q1,q2,q3,q4,x⟩
 ·rw[x];have:=List.length_pos_iff.2 h;simp only;omega
 all_goals rw[x];simp
@[go_sem] def eIL (l:List Int):V:=.slice 1 (l.map fun x=>[iz x])
def H195 (Pg:Nat→Option Fn):Prop:=Pg 195=some (.code F195)∧H188 Pg
theorem Yw {l:List UInt8}:decide ((0:Int)<(l.length:Int))=!decide (l=[]):=by
 cases l<;>simp
theorem K195 (h:H195 Pg) (s:List UInt8) (hl:s.length≤1000000):K' Pg 195 [.str s]=some (eIL (Yk s)):=by
 obtain⟨h,h188⟩:=h
 refine K'_code h rfl ?_
 simp only[go_sem,mkA]
 unfold l195_0
 refine JiG (fun (l:List UInt8) S=>∃acc:List Int,S.ρ 0=.str l∧S.A 3=some (1,acc.map (fun x=>[iz x]),.live)∧S.ρ 3=.own 3 1 acc.length∧acc++Yk l=Yk s∧acc.length+l.length≤s.length) (fun l=>l.length) s ?_ ?_
 ·exact⟨[],by simp[go_sem]⟩
 ·intro l S ⟨acc,h0,a3,h3,hacc,hlen⟩
  simp only[go_sem,h0,a3,h3,Yw]
  by_cases hn:l=[]
  ·subst hn
   rw[Yaw,List.append_nil] at hacc
   subst hacc
   simp only[go_sem,h0,a3,h3]
  ·have hd:=YaL hn
   have hp:=List.length_pos_iff.2 hn
   have k:=K188 h188 l hn
   rw[show YaW l=((YaW l).1,((dN l).2:Int)) from Prod.ext rfl (Ydh hn)] at k
   simp only[eLN] at k
   have hle:=YdH hn
   have hlim:acc.length+1≤lim:=by simp only[lim];omega
   have hc:=YV hn
   simp only[go_sem,hn,h0,a3,h3,k]
   refine JiH (fun c=>?_) (fun c=>?_)
   ·have e:=Yec hn (of_decide_eq_true c)
    simp only[go_sem,h0,a3,h3,hlim,hle]
    refine⟨l.drop (dN l).2,hd,acc++[65533],rfl,by simp,by simp,?_,by simp only[List.length_append,List.length_cons,List.length_nil];omega⟩
    rw[←hacc,hc,e];simp
   ·have e:=YeF hn (of_decide_eq_false c)
    simp only[go_sem,h0,a3,h3,hlim,hle]
    refine⟨l.drop (dN l).2,hd,acc++[(YaW l).1],rfl,by simp,by simp,?_,by simp only[List.length_append,List.length_cons,List.length_nil];omega⟩
    rw[←hacc,hc,e];simp
def H168 (Pg:Nat→Option Fn):Prop:=Pg 168=some (.code F168)∧H188 Pg∧H189 Pg
theorem K168 (h:H168 Pg) (s:List UInt8):K' Pg 168 [.str s]=some (.bool (keyR s)):=by
 obtain⟨h,h188,h189⟩:=h
 refine K'_code h rfl ?_
 have ez:decide ((s.length:Int)=0)=decide (s=[]):=by cases s<;>simp;omega
 simp only[go_sem,ez]
 by_cases hs:s=[]
 ·have e:keyR s=false:=by rw[hs];rfl
  rw[e]
  simp only[go_sem,hs]
 simp only[go_sem,hs]
 refine JiH (fun c=>?_) (fun c=>?_)
 ·have e:keyR s=false:=by
   have:=of_decide_eq_true c
   have:decide (s.length≤16)=false:=decide_eq_false (by omega)
   simp[keyR,this]
  rw[e]
  simp only[go_sem]
 have c:=of_decide_eq_false c
 have hp:=List.length_pos_iff.2 hs
 have e:keyR s=keyAll s.length s:=by
  have h1:decide (1≤s.length)=true:=decide_eq_true (by omega)
  have h2:decide (s.length≤16)=true:=decide_eq_true (by omega)
  simp only[keyR,h1,h2,Bool.and_true]
 rw[e]
 simp only[go_sem]
 unfold l168_0
 refine JiG (fun (l:List UInt8) S=>S.ρ 0=.str l∧keyAll l.length l=keyAll s.length s) (fun l=>l.length) s ?_ ?_
 ·simp[go_sem]
 ·intro l S ⟨h0,hacc⟩
  simp only[go_sem,h0,Yw]
  by_cases hn:l=[]
  ·subst hn
   rw[←hacc]
   simp only[go_sem,h0,Ydx]
  ·have hd:=YaL hn
   have k:=K188 h188 l hn
   rw[show YaW l=((YaW l).1,((dN l).2:Int)) from Prod.ext rfl (Ydh hn)] at k
   simp only[eLN] at k
   have k9:=K189 h189 (YaW l).1
   rw[Yee hn] at k9
   have hle:=YdH hn
   rw[Ybt hn] at hacc
   simp only[go_sem,hn,h0,k,k9]
   cases hP:plainR (dN l).1 (dN l).2 with
   |false=>
    rw[hP,Bool.false_and] at hacc
    rw[←hacc]
    simp only[go_sem,hP]
   |true=>
    rw[hP,Bool.true_and] at hacc
    simp only[go_sem,hP,h0,hle]
    exact⟨l.drop (dN l).2,hd,rfl,hacc⟩
def H187 (Pg:Nat→Option Fn):Prop:=Pg 187=some (.code F187)∧H195 Pg
theorem K187 (h:H187 Pg) (a b:List UInt8) (ha:a.length≤1000000) (hb:b.length≤1000000):K' Pg 187 [.str a,.str b]=some (iz (Yo (Yk a) (Yk b))):=by
 obtain⟨h,h195⟩:=h
 have ka:=K195 h195 a ha
 have kb:=K195 h195 b hb
 simp only[eIL] at ka kb
 refine K'_code h rfl ?_
 simp only[go_sem,ka,kb]
 have la:=YcB a.length a (Nat.le_refl _)
 have lb:=YcB b.length b (Nat.le_refl _)
 generalize Yk a=x at *
 generalize Yk b=y at *
 unfold l187_0
 refine JiG (fun (i:Nat) S=>i≤x.length∧i≤y.length∧S.ρ 5=eIL x∧S.ρ 6=eIL y∧S.ρ 7=iz i∧Yo (x.drop i) (y.drop i)=Yo x y) (fun i=>x.length-i) 0 ?_ ?_
 ·simp[go_sem]
 ·intro i S ⟨hi,hj,h5,h6,h7,ho⟩
  simp only[go_sem,h5,h6,h7]
  by_cases hx:i<x.length
  ·have ex:decide ((i:Int)<(x.length:Int))=true:=decide_eq_true (by omega)
   obtain⟨u,hu,hdx⟩:=Jin hx
   by_cases hy:i<y.length
   ·have ey:decide ((i:Int)<(y.length:Int))=true:=decide_eq_true (by omega)
    obtain⟨v,hv,hdy⟩:=Jin hy
    rw[hdx,hdy] at ho
    simp only[go_sem,h5,h6,h7,ex,ey,hu,hv]
    refine JiH (fun c=>?_) (fun c=>?_)
    ·rw[Ya0 (of_decide_eq_true c)] at ho
     simp only[go_sem,←ho]
    ·have c:=of_decide_eq_false c
     simp only[go_sem,h5,h6,h7,hu,hv]
     refine JiH (fun d=>?_) (fun d=>?_)
     ·rw[Ybq (of_decide_eq_true d)] at ho
      simp only[go_sem,←ho]
     ·have d:=of_decide_eq_false d
      obtain rfl:u=v:=by omega
      rw[Ybp] at ho
      simp only[go_sem,h5,h6,h7]
      exact⟨i+1,by omega,by omega,by omega,by rw[Yi hx (by omega)],ho⟩
   ·have ey:decide ((i:Int)<(y.length:Int))=false:=decide_eq_false (by omega)
    have e1:decide ((x.length:Int)<(y.length:Int))=false:=decide_eq_false (by omega)
    have e2:decide ((y.length:Int)<(x.length:Int))=true:=decide_eq_true (by omega)
    have hdy:y.drop i=[]:=List.drop_eq_nil_of_le (by omega)
    rw[hdx,hdy] at ho
    have ho:(1:Int)=Yo x y:=ho
    simp only[go_sem,h5,h6,h7,ex,ey,e1,e2,←ho]
  ·have ex:decide ((i:Int)<(x.length:Int))=false:=decide_eq_false (by omega)
   simp only[go_sem,h5,h6,h7,ex]
   rw[List.drop_eq_nil_of_le (by omega)] at ho
   by_cases hy:i<y.length
   ·have e1:decide ((x.length:Int)<(y.length:Int))=true:=decide_eq_true (by omega)
    obtain⟨v,hv,hdy⟩:=Jin hy
    rw[hdy] at ho
    have ho:(-1:Int)=Yo x y:=ho
    simp only[go_sem,h5,h6,h7,ex,e1,←ho]
   ·have e1:decide ((x.length:Int)<(y.length:Int))=false:=decide_eq_false (by omega)
    have e2:decide ((y.length:Int)<(x.length:Int))=false:=decide_eq_false (by omega)
    rw[List.drop_eq_nil_of_le (by omega)] at ho
    have ho:(0:Int)=Yo x y:=ho
    simp only[go_sem,h5,h6,h7,ex,e1,e2,←ho]
def H192 (Pg:Nat→Option Fn):Prop:=Pg 192=some (.code F192)∧H190 Pg
theorem K192 (h:H192 Pg) (a b:List UInt8):K' Pg 192 [.str a,.str b]=some (iz (Yo (Yk a) (Yk b))):=by
 obtain⟨h,h190⟩:=h
 refine K'_code h rfl ?_
 simp only[go_sem]
 unfold l192_0
 refine JiG (fun (p:List UInt8×List UInt8) S=>S.ρ 0=.str p.1∧S.ρ 1=.str p.2∧Yo (Yk p.1) (Yk p.2)=Yo (Yk a) (Yk b)) (fun p=>p.1.length) (a,b) ?_ ?_
 ·simp[go_sem]
 ·intro⟨x,y⟩ S ⟨h0,h1,ho⟩
  simp only at h0 h1 ho
  have k:=K190 h190 x
  have k':=K190 h190 y
  simp only[go_sem,h0,h1]
  by_cases hx:x=[]
  ·subst hx
   rw[Yaw] at ho
   by_cases hy:y=[]
   ·subst hy
    have ho:(0:Int)=Yo (Yk a) (Yk b):=ho
    simp only[go_sem,h0,h1,←ho]
   ·rw[YV hy] at ho
    have ho:(-1:Int)=Yo (Yk a) (Yk b):=ho
    simp only[go_sem,h0,h1,hy,←ho]
  ·by_cases hy:y=[]
   ·subst hy
    rw[YV hx,Yaw] at ho
    have ho:(1:Int)=Yo (Yk a) (Yk b):=ho
    simp only[go_sem,h0,h1,hx,←ho]
   ·rw[YV hx,YV hy] at ho
    have ex:JcP x=dN x:=by rw[JcP,if_neg hx]
    have ey:JcP y=dN y:=by rw[JcP,if_neg hy]
    rw[ex] at k
    rw[ey] at k'
    have lx:=YdH hx
    have ly:=YdH hy
    have hd:=YaL hx
    simp only[go_sem,h0,h1,hx,hy,k,k']
    refine JiH (fun c=>?_) (fun c=>?_)
    ·rw[Ya0 (of_decide_eq_true c)] at ho
     simp only[go_sem,←ho]
    ·have c:=of_decide_eq_false c
     simp only[go_sem,h0,h1,hx,hy]
     refine JiH (fun d=>?_) (fun d=>?_)
     ·rw[Ybq (of_decide_eq_true d)] at ho
      simp only[go_sem,←ho]
     ·have d:=of_decide_eq_false d
      have e:((dN x).1:Int)=((dN y).1:Int):=by omega
      rw[e,Ybp] at ho
      simp only[go_sem,h0,h1,lx,ly]
      exact⟨(x.drop (dN x).2,y.drop (dN y).2),hd,rfl,rfl,ho⟩
structure Span where
 lo:List UInt8
 hi:List UInt8
 deriving DecidableEq
@[go_sem] def YD (s:Span):List V:=[.str s.lo,.str s.hi]
def ltS (a b:List UInt8):Bool:=decide (Yo (Yk a) (Yk b)<0)
def leS (a b:List UInt8):Bool:=decide (Yo (Yk a) (Yk b)≤0)
def Yp (s:Span):Bool:=(decide (s.lo=[])||keyR s.lo)&&(decide (s.hi=[])||(keyR s.hi&&ltS s.lo s.hi))
theorem Ydt {a b:List Int}:decide (Yo a b=-1)=decide (Yo a b<0):=by
 apply decide_eq_decide.2
 have:=Yda a b
 omega
theorem Yq {l:List UInt8}:decide ((l.length:Int)=0)=decide (l=[]):=by cases l<;>simp;omega
theorem YG {l:List UInt8} (h:keyR l=true):l.length≤16∧l≠[]:=by
 simp only[keyR,Bool.and_eq_true,decide_eq_true_eq] at h
 exact⟨h.2.2,fun e=>by rw[e] at h;simp at h⟩
def H186 (Pg:Nat→Option Fn):Prop:=Pg 186=some (.code F186)∧H170 Pg∧H192 Pg
theorem K186 (h:H186 Pg) (s:Span):K' Pg 186 [.agg (YD s)]=some (.bool (Yp s)):=by
 obtain⟨h,h170,h192⟩:=h
 have k1:=K170 h170 s.lo
 have k2:=K170 h170 s.hi
 have k3:=K192 h192 s.lo s.hi
 refine K'_code h rfl ?_
 cases c1:decide (s.lo=[])<;>cases c2:keyR s.lo<;>cases c3:decide (s.hi=[])<;>cases c4:keyR s.hi <;>
  simp only[go_sem,c1,c2,c3,c4,k1,k2,k3,Yp,ltS]
def H167 (Pg:Nat→Option Fn):Prop:=Pg 167=some (.code F167)∧H168 Pg∧H187 Pg
theorem K167 (h:H167 Pg) (s:Span):K' Pg 167 [.agg (YD s)]=some (.bool (Yp s)):=by
 obtain⟨h,h168,h187⟩:=h
 have k1:=K168 h168 s.lo
 have k2:=K168 h168 s.hi
 have k3:s.lo.length≤1000000→s.hi.length≤1000000→_:=K187 h187 s.lo s.hi
 refine K'_code h rfl ?_
 cases c1:decide (s.lo=[]) with
 |true=>
  have hl:s.lo.length≤1000000:=by rw[of_decide_eq_true c1];simp
  cases c3:decide (s.hi=[]) with
  |true=>simp only[go_sem,c1,c3,k1,k2,Yq,Yw,Yp]
  |false=>
   cases c4:keyR s.hi with
   |false=>simp only[go_sem,c1,c3,c4,k1,k2,Yq,Yw,Yp]
   |true=>simp only[go_sem,c1,c3,c4,k1,k2,k3 hl (by have:=YG c4;omega),Yq,Yw,Yp,ltS,Ydt]
 |false=>
 cases c2:keyR s.lo with
 |false=>simp only[go_sem,c1,c2,k1,k2,Yq,Yw,Yp]
 |true=>
  have hl:s.lo.length≤1000000:=by have:=YG c2;omega
  cases c3:decide (s.hi=[]) with
  |true=>simp only[go_sem,c1,c2,c3,k1,k2,Yq,Yw,Yp]
  |false=>
   cases c4:keyR s.hi with
   |false=>simp only[go_sem,c1,c2,c3,c4,k1,k2,Yq,Yw,Yp]
   |true=>simp only[go_sem,c1,c2,c3,c4,k1,k2,k3 hl (by have:=YG c4;omega),Yq,Yw,Yp,ltS,Ydt]
theorem Ycc {s:Span} (h:Yp s=true):s.lo.length≤16∧s.hi.length≤16:=by
 simp only[Yp,Bool.and_eq_true,Bool.or_eq_true,decide_eq_true_eq] at h
 constructor
 ·rcases h.1 with e|e
  ·rw[e];simp
  ·exact (YG e).1
 ·rcases h.2 with e|e
  ·rw[e];simp
  ·exact (YG e.1).1
def Yab (s:Span) (k:List UInt8):Bool:=Yp s&&(keyR k&&(leS s.lo k&&(decide (s.hi=[])||ltS k s.hi)))
def H171 (Pg:Nat→Option Fn):Prop:=Pg 171=some (.code F171)∧H186 Pg∧H170 Pg∧H192 Pg
theorem K171 (h:H171 Pg) (s:Span) (k:List UInt8):K' Pg 171 [.agg (YD s),.str k]=some (.bool (Yab s k)):=by
 obtain⟨h,h186,h170,h192⟩:=h
 have k1:=K186 h186 s
 have k2:=K170 h170 k
 have k3:=K192 h192 s.lo k
 have k4:=K192 h192 k s.hi
 simp only[YD] at k1
 refine K'_code h rfl ?_
 cases c1:Yp s<;>cases c2:keyR k<;>cases c3:decide (Yo (Yk s.lo) (Yk k)≤0)<;>cases c4:decide (s.hi=[]) <;>
  simp only[go_sem,c1,c2,c3,c4,k1,k2,k3,k4,Yab,leS,ltS]
def H169 (Pg:Nat→Option Fn):Prop:=Pg 169=some (.code F169)∧H187 Pg
theorem YeX {a b:List Int}:decide (0≤Yo a b)=decide (Yo b a≤0):=by
 apply decide_eq_decide.2
 have:=YaR a b
 omega
theorem K169 (h:H169 Pg) (k lo hi:List UInt8) (h1:k.length≤1000000) (h2:lo.length≤1000000) (h3:hi.length≤1000000):K' Pg 169 [.str k,.str lo,.str hi]=some (.bool (leS lo k&&(decide (hi=[])||ltS k hi))):=by
 obtain⟨h,h187⟩:=h
 have k1:=K187 h187 k lo h1 h2
 have k2:=K187 h187 k hi h1 h3
 refine K'_code h rfl ?_
 cases c3:decide (Yo (Yk lo) (Yk k)≤0)<;>cases c4:decide (hi=[]) <;>
  simp only[go_sem,c3,c4,k1,k2,leS,ltS,YeX,Yq]
def H142 (Pg:Nat→Option Fn):Prop:=Pg 142=some (.code F142)∧H167 Pg∧H168 Pg∧H169 Pg
theorem K142 (h:H142 Pg) (s:Span) (k:List UInt8):K' Pg 142 [.agg (YD s),.str k]=some (.bool (Yab s k)):=by
 obtain⟨h,h167,h168,h169⟩:=h
 have k1:=K167 h167 s
 have k2:=K168 h168 k
 simp only[YD] at k1
 refine K'_code h rfl ?_
 cases c1:Yp s with
 |false=>simp only[go_sem,c1,k1,Yab]
 |true=>
 cases c2:keyR k with
 |false=>simp only[go_sem,c1,c2,k1,k2,Yab]
 |true=>
  have l1:=Ycc c1
  have l2:=YG c2
  have k3:=K169 h169 k s.lo s.hi (by omega) (by omega) (by omega)
  simp only[go_sem,c1,c2,k1,k2,k3,Yab]
theorem Ybd {a b:List UInt8}:ltS a b=true↔Yo (Yk a) (Yk b)<0:=by simp[ltS]
theorem Yb1 {a b c:List UInt8} (h1:Yo (Yk a) (Yk b)≤0) (h2:Yo (Yk b) (Yk c)<0):Yo (Yk a) (Yk c)<0:=(YcZ _ _ _ h1 (by omega)).2 (.inr h2)
def later (a b:Stamp):Stamp:=if Yc a b<0 then b else a
theorem YbS {a b:Stamp}:0≤Yc a b↔Yc b a≤0:=by
 have h1:=@Y4 a b
 have h2:=@YbL b a
 have:Yc a b<0↔0<Yc b a:=by rw[h1,h2]
 omega
structure Entr where
 key:List UInt8
 chain:List Ver
 deriving DecidableEq
@[go_sem] def YN (e:Entr):List V:=[.str e.key,Ya e.chain]
@[go_sem] def Yl (l:List Entr):V:=.slice 2 (l.map YN)
def Sm (l:List Entr):Prop:=l.length≤10000∧∀e∈l,e.chain.length≤10000∧e.key.length≤10000
theorem Sm.len {l:List Entr} (h:Sm l):l.length≤10000:=h.1
theorem Sm.at {l:List Entr} (h:Sm l) {i:Nat} {e:Entr} (he:l[i]?=some e):e.chain.length≤10000∧e.key.length≤10000:=h.2 e (List.mem_of_getElem? he)
def YbP (l:List Entr):Bool:=decide (l.length≤80)&&l.all fun e=>decide (e.chain.length≤80)&&decide (e.key.length≤100)
theorem gtd {a b:Nat}:decide ((a:Int)<(b:Int))=!decide (b≤a):=by
 by_cases h:b≤a<;>simp[h]<;>omega
theorem Ye2 {n:Nat}:decide ((80:Int)<(n:Int))=!decide (n≤80):=gtd (a:=80)
theorem Ydu {n:Nat}:decide ((100:Int)<(n:Int))=!decide (n≤100):=gtd (a:=100)
theorem Yfo {n:Nat}:decide ((64:Int)<(n:Int))=!decide (n≤64):=gtd (a:=64)
theorem Yfu {n:Nat}:decide ((n:Int)≤64)=decide (n≤64):=led (b:=64)
def H198 (Pg:Nat→Option Fn):Prop:=Pg 198=some (.code F198)
theorem K198 (h:H198 Pg) (l:List Entr):K' Pg 198 [Yl l]=some (.bool (YbP l)):=by
 refine K'_code h rfl ?_
 cases c0:decide (l.length≤80) with
 |false=>simp only[go_sem,Ye2,c0,YbP]
 |true=>
 have hl:=of_decide_eq_true c0
 simp only[go_sem,Ye2,c0,YbP]
 unfold l198_0
 refine JiG (fun (i:Nat) S=>i≤l.length∧S.ρ 0=Yl l∧S.ρ 3=iz i∧((l.drop i).all fun e=>decide (e.chain.length≤80)&&decide (e.key.length≤100))=l.all fun e=>decide (e.chain.length≤80)&&decide (e.key.length≤100)) (fun i=>l.length-i) 0 ?_ ?_
 ·simp[go_sem]
 ·intro i S ⟨hi,h0,h3,ho⟩
  simp only[go_sem,h0,h3]
  refine JiH (fun h=>?_) (fun h=>?_)
  ·have h:=Yg h
   obtain⟨x,hx,hd⟩:=Jin h
   rw[hd,List.all_cons] at ho
   simp only[go_sem,h0,h3,hx,Ya,Ye2,Ydu]
   cases c1:decide (x.chain.length≤80) with
   |false=>rw[c1] at ho;simp only[Bool.false_and] at ho;simp only[go_sem,h0,h3,hx,c1,←ho]
   |true=>
   cases c2:decide (x.key.length≤100) with
   |false=>rw[c1,c2] at ho;simp only[Bool.false_and,Bool.and_false] at ho;simp only[go_sem,h0,h3,hx,c1,c2,Ydu,←ho]
   |true=>
    rw[c1,c2] at ho
    simp only[Bool.true_and] at ho
    simp only[go_sem,h0,h3,hx,c1,c2,Ydu]
    exact⟨i+1,by omega,by omega,by rw[Yi h (by omega)],ho⟩
  ·have h:=Ym hi h
   subst h
   rw[List.drop_length] at ho
   simp only[go_sem,←ho,List.all_nil]
def YaS (e:Entr):Bool:=keyR e.key&&(!decide (e.chain=[])&&Yf e.chain)
def ixG:Option Entr→List Entr→Bool
 |_,[]=>true
 |p,e::l=>YaS e&&((match p with|none=>true|some q=>ltS q.key e.key)&&ixG (some e) l)
def ixR (l:List Entr):Bool:=decide (l.length≤64)&&ixG none l
def Ybi (l:List Entr) (i:Nat):Option Entr:=if i=0 then none else l[i-1]?
theorem Yco {l:List Entr} {i:Nat} {x:Entr} (h:l[i]?=some x):Ybi l (i+1)=some x:=by simp[Ybi,h]
theorem YaP {l:List Ver}:decide ((l.length:Int)=0)=decide (l=[]):=by cases l<;>simp;omega
def H203 (Pg:Nat→Option Fn):Prop:=Pg 203=some (.code F203)∧H7 Pg∧H170 Pg∧H192 Pg
theorem K203 (h:H203 Pg) (l:List Entr) (hl:Sm l):K' Pg 203 [Yl l]=some (.bool (ixR l)):=by
 obtain⟨h,h7,h170,h192⟩:=h
 have k170:=fun x=>K170 h170 x
 have k192:=fun x y=>K192 h192 x y
 have hlen:=hl.len
 refine K'_code h rfl ?_
 simp only[go_sem]
 unfold l203_0
 refine JiG (fun (i:Nat) S=>i≤l.length∧S.ρ 0=Yl l∧S.ρ 5=Yl l∧S.ρ 6=iz l.length∧S.ρ 7=iz i∧S.μ 4=none∧ixG (Ybi l i) (l.drop i)=ixG none l) (fun i=>l.length-i) 0 ?_ ?_
 ·simp[go_sem,Ybi]
 ·intro i S ⟨hi,h0,h5,h6,h7',m4,ho⟩
  simp only[go_sem,h0,h5,h6,h7',m4]
  refine JiH (fun h=>?_) (fun h=>?_)
  ·have h:=Yg h
   obtain⟨x,hx,hd⟩:=Jin h
   have k7:=K7 h7 x.chain (by have:=hl.at hx;omega)
   simp only[Ya] at k7
   have hinc:IntKind.i64.wrap ((i:Int)+1)=((i+1:Nat):Int):=Yi h (by omega)
   rw[hd] at ho
   simp only[ixG] at ho
   simp only[go_sem,h0,h5,h6,h7',m4,hx,Ya,k170,k7,YaP]
   cases c1:keyR x.key with
   |false=>
    simp only[YaS,c1,Bool.false_and] at ho
    simp only[go_sem,h0,h5,h6,h7',m4,hx,c1,ixR,←ho]
   |true=>
   cases c2:Yf x.chain with
   |false=>
    simp only[YaS,c1,c2,Bool.false_and,Bool.and_false] at ho
    simp only[go_sem,h0,h5,h6,h7',m4,hx,c1,c2,k7,ixR,←ho,Ya]
   |true=>
   cases c3:decide (x.chain=[]) with
   |true=>
    simp only[YaS,c1,c2,c3,Bool.false_and,Bool.and_false,Bool.not_true] at ho
    simp only[go_sem,h0,h5,h6,h7',m4,hx,c1,c2,c3,k7,YaP,ixR,←ho,Ya]
   |false=>
   simp only[YaS,c1,c2,c3,Bool.true_and,Bool.and_true,Bool.not_false] at ho
   rcases Nat.eq_zero_or_pos i with hz|hz
   ·have hgt:decide ((0:Int)<(i:Int))=false:=decide_eq_false (by omega)
    simp only[go_sem,hgt,h0,h5,h6,h7',m4,hx,c1,c2,c3,k7,YaP,Ya]
    exact⟨i+1,by omega,by omega,by rw[hinc],by rw[Yco hx];simpa [Ybi,hz] using ho⟩
   ·have hgt:decide ((0:Int)<(i:Int))=true:=decide_eq_true (by omega)
    have hdec:IntKind.i64.wrap ((i:Int)-1)=((i-1:Nat):Int):=YbJ hz (by omega)
    obtain⟨y,hy,-⟩:=Jin (l:=l) (i:=i-1) (by omega)
    have hp:Ybi l i=some y:=by simp[Ybi,Nat.ne_of_gt hz,hy]
    rw[hp] at ho
    simp only at ho
    simp only[go_sem,h0,h5,h6,h7',m4,hx,c1,c2,c3,k7,YaP,Ya,hgt,hdec,hy,k192]
    refine JiH (fun hc=>?_) (fun hc=>?_)
    ·have:ltS y.key x.key=false:=decide_eq_false (by have:=of_decide_eq_true hc;omega)
     rw[this] at ho
     simp only[Bool.false_and] at ho
     simp only[go_sem,h0,h5,h6,h7',m4,hx,ixR,←ho]
    ·have:ltS y.key x.key=true:=decide_eq_true (by have:=of_decide_eq_false hc;omega)
     rw[this] at ho
     simp only[Bool.true_and] at ho
     simp only[go_sem,h0,h5,h6,h7',m4,hx]
     exact⟨i+1,by omega,by omega,by rw[hinc],by rw[Yco hx];exact ho⟩
  ·have h:=Ym hi h
   subst h
   rw[List.drop_length] at ho
   simp only[ixG] at ho
   simp only[go_sem,h0,Yfu,ixR,←ho]
def H204 (Pg:Nat→Option Fn):Prop:=Pg 204=some (.code F204)∧H4 Pg∧H168 Pg∧H187 Pg
theorem K204 (h:H204 Pg) (l:List Entr) (hl:Sm l):K' Pg 204 [Yl l]=some (.bool (ixR l)):=by
 obtain⟨h,h4,h168,h187⟩:=h
 have k168:=fun x=>K168 h168 x
 refine K'_code h rfl ?_
 cases c0:decide (l.length≤64) with
 |false=>simp only[go_sem,Yfo,c0,ixR]
 |true=>
 have hlen:=of_decide_eq_true c0
 simp only[go_sem,Yfo,c0,ixR]
 unfold l204_0
 refine JiG (fun (i:Nat) S=>i≤l.length∧S.ρ 0=Yl l∧S.ρ 3=iz i∧ixG (Ybi l i) (l.drop i)=ixG none l) (fun i=>l.length-i) 0 ?_ ?_
 ·simp[go_sem,Ybi]
 ·intro i S ⟨hi,h0,h3,ho⟩
  simp only[go_sem,h0,h3]
  refine JiH (fun h=>?_) (fun h=>?_)
  ·have h:=Yg h
   obtain⟨x,hx,hd⟩:=Jin h
   have k4:=K4 h4 x.chain (by have:=hl.at hx;omega)
   simp only[Ya] at k4
   have hinc:IntKind.i64.wrap ((i:Int)+1)=((i+1:Nat):Int):=Yi h (by omega)
   rw[hd] at ho
   simp only[ixG] at ho
   simp only[go_sem,h0,h3,hx,Ya,k168,k4,YaP]
   cases c1:keyR x.key with
   |false=>
    simp only[YaS,c1,Bool.false_and] at ho
    simp only[go_sem,h0,h3,hx,c1,←ho]
   |true=>
   cases c3:decide (x.chain=[]) with
   |true=>
    simp only[YaS,c1,c3,Bool.false_and,Bool.and_false,Bool.not_true] at ho
    simp only[go_sem,h0,h3,hx,c1,c3,YaP,←ho,Ya]
   |false=>
   cases c2:Yf x.chain with
   |false=>
    simp only[YaS,c1,c2,Bool.false_and,Bool.and_false] at ho
    simp only[go_sem,h0,h3,hx,c1,c2,c3,k4,YaP,←ho,Ya]
   |true=>
   simp only[YaS,c1,c2,c3,Bool.true_and,Bool.and_true,Bool.not_false] at ho
   rcases Nat.eq_zero_or_pos i with hz|hz
   ·have hgt:decide ((0:Int)<(i:Int))=false:=decide_eq_false (by omega)
    simp only[go_sem,hgt,h0,h3,hx,c1,c2,c3,k4,YaP,Ya]
    exact⟨i+1,by omega,by omega,by rw[hinc],by rw[Yco hx];simpa [Ybi,hz] using ho⟩
   ·have hgt:decide ((0:Int)<(i:Int))=true:=decide_eq_true (by omega)
    have hdec:IntKind.i64.wrap ((i:Int)-1)=((i-1:Nat):Int):=YbJ hz (by omega)
    obtain⟨y,hy,-⟩:=Jin (l:=l) (i:=i-1) (by omega)
    have hp:Ybi l i=some y:=by simp[Ybi,Nat.ne_of_gt hz,hy]
    have k187:=K187 h187 y.key x.key (by have:=hl.at hy;omega) (by have:=hl.at hx;omega)
    rw[hp] at ho
    simp only at ho
    simp only[go_sem,h0,h3,hx,c1,c2,c3,k4,YaP,Ya,hgt,hdec,hy,k187,Ydt]
    cases hc:ltS y.key x.key with
    |false=>
     rw[hc] at ho
     simp only[ltS] at hc
     simp only[Bool.false_and] at ho
     simp only[go_sem,h0,h3,hx,hc,←ho]
    |true=>
     rw[hc] at ho
     simp only[ltS] at hc
     simp only[Bool.true_and] at ho
     simp only[go_sem,h0,h3,hx,hc]
     exact⟨i+1,by omega,by omega,by rw[hinc],by rw[Yco hx];exact ho⟩
  ·have h:=Ym hi h
   subst h
   rw[List.drop_length] at ho
   simp only[ixG] at ho
   simp only[go_sem,←ho]
def H202 (Pg:Nat→Option Fn):Prop:=Pg 202=some (.code F202)∧H8 Pg
theorem K202 (h:H202 Pg) (l:List Entr) (hl:Sm l):K' Pg 202 [Yl l,Yl l]=some (.bool true):=by
 obtain⟨h,h8⟩:=h
 have hlen:=hl.len
 refine K'_code h rfl ?_
 simp only[go_sem]
 unfold l202_0
 refine JiG (fun (i:Nat) S=>i≤l.length∧S.ρ 0=Yl l∧S.ρ 1=Yl l∧S.ρ 5=iz i) (fun i=>l.length-i) 0 ?_ ?_
 ·simp[go_sem]
 ·intro i S ⟨hi,h0,h1,h5⟩
  simp only[go_sem,h0,h1,h5]
  refine JiH (fun h=>?_) (fun h=>?_)
  ·have h:=Yg h
   obtain⟨x,hx,hd⟩:=Jin h
   have k8:=K8 h8 x.chain x.chain (by have:=hl.at hx;omega)
   simp only[Ya,decide_true] at k8
   simp only[go_sem,h0,h1,h5,hx,Ya,k8]
   exact⟨i+1,by omega,by omega,by rw[Yi h (by omega)]⟩
  ·simp only[go_sem]
theorem Ycz:∀{l:List Entr} {p:Option Entr},ixG p l=true→(∀q,p=some q→∀e∈l,ltS q.key e.key=true)∧l.Pairwise (fun a b=>ltS a.key b.key=true)∧∀e∈l,YaS e=true
 |[],_,_=>⟨fun _ _=>by simp,.nil,by simp⟩
 |e::l,p,h=>by
  simp only[ixG,Bool.and_eq_true] at h
  obtain⟨h1,h2,h3⟩:=h
  obtain⟨g1,g2,g3⟩:=Ycz h3
  have g1:=g1 e rfl
  refine⟨?_,List.pairwise_cons.2 ⟨g1,g2⟩,fun x hx=>?_⟩
  ·rintro q rfl x hx
   simp only at h2
   rcases List.mem_cons.1 hx with rfl|hx
   ·exact h2
   ·have:=g1 x hx
    rw[Ybd] at h2 this ⊢
    exact Yb1 (by omega) this
  ·rcases List.mem_cons.1 hx with rfl|hx
   ·exact h1
   ·exact g3 x hx
theorem YeE : ∀ {l : List Entr}, ixG none l = true ↔ l.Pairwise (fun a b => ltS a.key b.key = true) ∧ ∀ e ∈ l, YaS e = true := by
  intro l
  refine ⟨fun h => (Ycz h).2, fun ⟨h1, h2⟩ => ?_⟩
  suffices ∀ (l : List Entr) (p : Option Entr), l.Pairwise (fun a b => ltS a.key b.key = true) → (∀ e ∈ l, YaS e = true) → (∀ q, p = some q → ∀ e ∈ l, ltS q.key e.key = true) → ixG p l = true from this l none h1 h2 (fun _ h => by simp at h)
  intro l
  induction l with
  | nil => intros; rfl
  | cons e l ih =>
    intro p h1 h2 h3
    obtain ⟨g1, g2⟩ := List.pairwise_cons.1 h1
    simp only [ixG, Bool.and_eq_true]
    refine ⟨h2 e (by simp), ?_, ih (some e) g2 (fun x hx => h2 x (by simp [hx])) (fun q hq x hx => by obtain rfl : e = q := by simpa using hq
                                                                                                      exact g1 x hx)⟩
    cases p with
    | none => rfl
    | some q => exact h3 q rfl e (by simp)
theorem Yah {l:List Entr}:ixR l=true↔l.length≤64∧l.Pairwise (fun a b=>ltS a.key b.key=true)∧∀e∈l,YaS e=true:=by
 simp only[ixR,Bool.and_eq_true,decide_eq_true_eq,YeE]
theorem Yam {e:Entr}:YaS e=true↔keyR e.key=true∧e.chain≠[]∧Yf e.chain=true:=by simp[YaS]
def YeI (z n:Nat):Option (Nat×List (List V)×Fz)→Option V
 |some (z',rows,.live)=>if z'=z∧rows.length=n then some (.slice z rows) else none
 |_=>none
@[go_sem] theorem Yfv {z n:Nat} {rows:List (List V)}:YeI z n (some (z,rows,.live))=if rows.length=n then some (.slice z rows) else none:=by simp[YeI]
@[go_sem] theorem Yfy {A:Nat→Option (Nat×List (List V)×Fz)} {s z n:Nat}:Jbs A (some 0) 0 (.own s z n)=YeI z n (A s):=by
 unfold Jbs YeI
 rw[if_pos rfl]
 rfl
theorem Sm.take {l:List Entr} (h:Sm l) {n:Nat}:Sm (l.take n):=⟨by have:=h.1;simp;omega,fun e he=>h.2 e (List.mem_of_mem_take he)⟩
theorem Sm.drop {l:List Entr} (h:Sm l) {n:Nat}:Sm (l.drop n):=⟨by have:=h.1;simp;omega,fun e he=>h.2 e (List.mem_of_mem_drop he)⟩
theorem Yeq {κ:Nat→List V→Option V} {id:Nat} {b c:C} {S:St} {R:Ex→St→Prop} (h:Wp κ (.seq (.block id b) c) S R):Wp κ b S (Blk id (Cont κ c R)):=by
 rw[Je6,JcH] at h;exact h
structure Ans where
 err:Int
 at_:Stamp
 found:Bool
 val:List UInt8
 items:List (List UInt8×List UInt8)
 next:List UInt8
 more:Bool
 deriving DecidableEq
structure Done where
 client:Int
 req:Int
 ans:Ans
 deriving DecidableEq
@[go_sem] def Yd9 (p:List UInt8×List UInt8):List V:=[.str p.1,.str p.2]
@[go_sem] def Yx (l:List (List UInt8×List UInt8)):V:=.slice 2 (l.map Yd9)
@[go_sem] def Ych (a:Ans):List V:=[iz a.err,iz a.at_.wall,iz a.at_.tick,iz a.at_.node,.bool a.found,.str a.val,Yx a.items,.str a.next,.bool a.more]
@[go_sem] def Yt (d:Done):List V:=[iz d.client,iz d.req,iz d.ans.err,iz d.ans.at_.wall,iz d.ans.at_.tick,iz d.ans.at_.node,.bool d.ans.found,.str d.ans.val,Yx d.ans.items,.str d.ans.next,.bool d.ans.more]
@[go_sem] def Yh (l:List Done):V:=.slice 11 (l.map Yt)
def YB (n:Int):Bool:=decide (1≤n)&&decide (n≤1099511627776)
def H97 (Pg:Nat→Option Fn):Prop:=Pg 97=some (.code F97)
theorem K97 (h:H97 Pg) (n:Int):K' Pg 97 [iz n]=some (.bool (YB n)):=by
 refine K'_code h rfl ?_
 simp only[go_sem]
 refine JiF (fun h=>?_) (fun h=>?_)<;>simp only[go_sem,h,YB]
def H95 (Pg:Nat→Option Fn):Prop:=Pg 95=some (.code F95)
theorem K95 (h:H95 Pg) (n:Int):K' Pg 95 [iz n]=some (.bool (YB n)):=by
 refine K'_code h rfl ?_
 have e:decide ((0:Int)<n)=decide (1≤n):=decide_eq_decide.2 (by omega)
 simp only[go_sem,e]
 refine JiF (fun h=>?_) (fun h=>?_)<;>simp only[go_sem,h,YB]
def YaT (a:Ans):Bool:=decide (0≤a.err)&&(decide (a.err≤16)&&(Yb a.at_&&(decide (a.val.length≤16)&&(decide (a.items=[])&&(decide (a.next=[])&&!a.more)))))
theorem YdM {α:Type} [DecidableEq α] {l:List α}:decide ((l.length:Int)=0)=decide (l=[]):=by cases l<;>simp;omega
theorem Yfp {n:Nat}:decide ((n:Int)≤16)=decide (n≤16):=decide_eq_decide.2 (by omega)
def H98 (Pg:Nat→Option Fn):Prop:=Pg 98=some (.code F98)∧H28 Pg
theorem K98 (h:H98 Pg) (a:Ans):K' Pg 98 [.agg (Ych a)]=some (.bool (YaT a)):=by
 obtain⟨h,h28⟩:=h
 have k:=K28 h28 a.at_
 simp only[Yd] at k
 refine K'_code h rfl ?_
 simp only[go_sem,k,YdM,Yfp]
 repeat' (refine JiF (fun h=>?_) (fun h=>?_)<;>simp only[go_sem,h,k,YdM,Yfp,YaT])
def H96 (Pg:Nat→Option Fn):Prop:=Pg 96=some (.code F96)∧H24 Pg
theorem K96 (h:H96 Pg) (a:Ans):K' Pg 96 [.agg (Ych a)]=some (.bool (YaT a)):=by
 obtain⟨h,h24⟩:=h
 have k:=K24 h24 a.at_
 simp only[Yd] at k
 have e1:decide (a.err<0)=!decide (0≤a.err):=by by_cases h:0≤a.err<;>simp[h]<;>omega
 have e2:decide (16<a.err)=!decide (a.err≤16):=by by_cases h:a.err≤16<;>simp[h]<;>omega
 have e3:decide ((16:Int)<(a.val.length:Int))=!decide (a.val.length≤16):=by by_cases h:a.val.length≤16<;>simp[h]<;>omega
 have e4:decide ((0:Int)<(a.items.length:Int))=!decide (a.items=[]):=by rw[Ydy];cases a.items<;>simp
 have e5:decide ((0:Int)<(a.next.length:Int))=!decide (a.next=[]):=by rw[Ydy];cases a.next<;>simp
 refine K'_code h rfl ?_
 simp only[go_sem,k,e1,e2,e3,e4,e5,YaT]
 cases h1:decide (0≤a.err)<;>simp only[go_sem,h1,e1,e2,e3,e4,e5]
 cases h2:decide (a.err≤16)<;>simp only[go_sem,h1,h2,e1,e2,e3,e4,e5]
 cases h3:decide (a.val.length≤16)<;>simp only[go_sem,h1,h2,h3,e1,e2,e3,e4,e5]
 cases h4:decide (a.items=[])<;>simp only[go_sem,h1,h2,h3,h4,e1,e2,e3,e4,e5]
 cases h5:decide (a.next=[])<;>simp only[go_sem,h1,h2,h3,h4,h5,e1,e2,e3,e4,e5]
 cases h6:a.more<;>simp only[go_sem,h1,h2,h3,h4,h5,h6,e1,e2,e3,e4,e5,k]
def rowR (d:Done):Bool:=YB d.client&&(YB d.req&&YaT d.ans)
def rtR:Int→List Done→Bool
 |_,[]=>true
 |p,d::l=>decide (p<d.client)&&(rowR d&&rtR d.client l)
def Yn (t:List Done):Bool:=rtR 0 t&&decide (t.length≤8)
theorem Ydl {p:Int} {d:Done} {l:List Done}:rtR p (d::l)=(decide (p<d.client)&&(rowR d&&rtR d.client l)):=rfl
def YaH (t:List Done) (i:Nat):Int:=if i=0 then 0 else (t[i-1]?.map Done.client).getD 0
def H81 (Pg:Nat→Option Fn):Prop:=Pg 81=some (.code F81)∧H97 Pg∧H98 Pg
theorem K81 (h:H81 Pg) (t:List Done) (hl:t.length<2 ^ 60):K' Pg 81 [Yh t]=some (.bool (Yn t)):=by
 obtain⟨h,h97,h98⟩:=h
 have k97:=fun x=>K97 h97 x
 have k98:=fun x=>K98 h98 x
 simp only[Ych,Yx] at k98
 refine K'_code h rfl ?_
 simp only[go_sem]
 unfold l81_0
 refine JiG (fun (i:Nat) S=>i≤t.length∧S.ρ 0=Yh t∧S.μ 5=none∧S.ρ 3=iz (YaH t i)∧S.ρ 6=Yh t∧S.ρ 7=iz t.length∧S.ρ 8=iz i∧rtR (YaH t i) (t.drop i)=rtR 0 t) (fun i=>t.length-i) 0 ?_ ?_
 ·simp[go_sem,YaH]
 ·intro i S ⟨hi,h0,m5,h3,h6,h7,h8,ho⟩
  simp only[go_sem,h0,m5,h3,h6,h7,h8]
  refine JiH (fun h=>?_) (fun h=>?_)
  ·have h:=Yg h
   obtain⟨x,hx,hd⟩:=Jin h
   have hnext:YaH t (i+1)=x.client:=by simp[YaH,hx]
   rw[hd,Ydl] at ho
   have e1:decide (x.client≤YaH t i)=!decide (YaH t i<x.client):=by by_cases h:YaH t i<x.client<;>simp[h]<;>omega
   simp only[go_sem,h0,m5,h3,h6,h7,h8,hx,e1,k97,k98]
   cases c1:decide (YaH t i<x.client) with
   |false=>rw[c1] at ho;simp only[go_sem,c1,Yn,←ho]
   |true=>
   cases c2:YB x.client with
   |false=>simp only[rowR,c2,Bool.false_and,Bool.and_false] at ho;simp only[go_sem,c1,c2,Yn,←ho,h0,m5,h3,h6,h7,h8,hx,k97,k98]
   |true=>
   cases c3:YB x.req with
   |false=>simp only[rowR,c3,Bool.false_and,Bool.and_false] at ho;simp only[go_sem,c1,c2,c3,Yn,←ho,h0,m5,h3,h6,h7,h8,hx,k97,k98]
   |true=>
   cases c4:YaT x.ans with
   |false=>simp only[rowR,c4,Bool.false_and,Bool.and_false] at ho;simp only[go_sem,c1,c2,c3,c4,Yn,←ho,h0,m5,h3,h6,h7,h8,hx,k97,k98]
   |true=>
    simp only[rowR,c1,c2,c3,c4,Bool.true_and] at ho
    simp only[go_sem,c1,c2,c3,c4,h0,m5,h3,h6,h7,h8,hx,k97,k98]
    exact⟨i+1,by omega,by omega,by rw[hnext],by rw[Yi h hl],by rw[hnext];exact ho⟩
  ·have h:=Ym hi h
   subst h
   simp only[List.drop_length,rtR] at ho
   have e8:decide ((t.length:Int)≤8)=decide (t.length≤8):=decide_eq_decide.2 (by omega)
   simp only[go_sem,h0,Yn,←ho,e8]
def H80 (Pg:Nat→Option Fn):Prop:=Pg 80=some (.code F80)∧H95 Pg∧H96 Pg
theorem K80 (h:H80 Pg) (t:List Done) (hl:t.length<2 ^ 60):K' Pg 80 [Yh t]=some (.bool (Yn t)):=by
 obtain⟨h,h95,h96⟩:=h
 have k95:=fun x=>K95 h95 x
 have k96:=fun x=>K96 h96 x
 simp only[Ych,Yx] at k96
 refine K'_code h rfl ?_
 simp only[go_sem]
 refine JiH (fun hc=>?_) (fun hc=>?_)
 ·have hc:¬t.length≤8:=by have:=of_decide_eq_true hc;omega
  simp only[go_sem,Yn,hc]
 have hc:t.length≤8:=by have:=of_decide_eq_false hc;omega
 have hrt:Yn t=rtR 0 t:=by simp[Yn,hc]
 simp only[go_sem]
 unfold l80_0
 refine JiG (fun (i:Nat) S=>i≤t.length∧S.ρ 0=Yh t∧S.ρ 3=iz i∧rtR (YaH t i) (t.drop i)=rtR 0 t) (fun i=>t.length-i) 0 ?_ ?_
 ·simp[go_sem,YaH]
 ·intro i S ⟨hi,h0,h3,ho⟩
  simp only[go_sem,h0,h3]
  refine JiH (fun h=>?_) (fun h=>?_)
  ·have h:=Yg h
   obtain⟨x,hx,hd⟩:=Jin h
   have hnext:YaH t (i+1)=x.client:=by simp[YaH,hx]
   rw[hd,Ydl] at ho
   simp only[go_sem,h0,h3,hx,k95,k96]
   cases c2:YB x.client with
   |false=>simp only[rowR,c2,Bool.false_and,Bool.and_false] at ho;simp only[go_sem,c2,hrt,←ho,h0,h3,hx,k95,k96]
   |true=>
   cases c3:YB x.req with
   |false=>simp only[rowR,c3,Bool.false_and,Bool.and_false] at ho;simp only[go_sem,c2,c3,hrt,←ho,h0,h3,hx,k95,k96]
   |true=>
   cases c4:YaT x.ans with
   |false=>simp only[rowR,c4,Bool.false_and,Bool.and_false] at ho;simp only[go_sem,c2,c3,c4,hrt,←ho,h0,h3,hx,k95,k96]
   |true=>
    simp only[rowR,c2,c3,c4,Bool.true_and] at ho
    simp only[go_sem,c2,c3,c4,h0,h3,hx,k95,k96,Ydy]
    rcases Nat.eq_zero_or_pos i with hz|hz
    ·have hz':decide (i=0)=true:=by simp[hz]
     have hp:decide (YaH t i<x.client)=true:=by
      simp only[YB,Bool.and_eq_true,decide_eq_true_eq] at c2
      simp[YaH,hz];omega
     rw[hp,Bool.true_and] at ho
     simp only[go_sem,hz',h0,h3,hx]
     exact⟨i+1,by omega,by omega,by rw[Yi h hl],by rw[hnext];exact ho⟩
    ·have hz':decide (i=0)=false:=by simp;omega
     obtain⟨y,hy,-⟩:=Jin (l:=t) (i:=i-1) (by omega)
     have hp:YaH t i=y.client:=by simp[YaH,hy];omega
     have hdec:=YbJ hz (by omega)
     rw[hp] at ho
     have e1:decide (x.client≤y.client)=!decide (y.client<x.client):=by by_cases h:y.client<x.client<;>simp[h]<;>omega
     simp only[go_sem,hz',h0,h3,hx,hdec,hy,e1]
     cases c1:decide (y.client<x.client) with
     |false=>rw[c1] at ho;simp only[go_sem,hrt,←ho]
     |true=>
      rw[c1,Bool.true_and] at ho
      simp only[go_sem,h0,h3]
      exact⟨i+1,by omega,by omega,by rw[Yi h hl],by rw[hnext];exact ho⟩
  ·have h:=Ym hi h
   subst h
   simp only[List.drop_length,rtR] at ho
   simp only[go_sem,hrt,←ho]
def smallT (t:List Done):Bool:=decide (t.length≤40)&&t.all fun d=>decide (d.ans.items.length≤100)
def H78 (Pg:Nat→Option Fn):Prop:=Pg 78=some (.code F78)
theorem K78 (h:H78 Pg) (t:List Done):K' Pg 78 [Yh t]=some (.bool (smallT t)):=by
 refine K'_code h rfl ?_
 simp only[go_sem]
 refine JiH (fun hc=>?_) (fun hc=>?_)
 ·have hc:¬t.length≤40:=by have:=of_decide_eq_true hc;omega
  simp only[go_sem,smallT,hc]
 have hc:t.length≤40:=by have:=of_decide_eq_false hc;omega
 have hsm:smallT t=t.all fun d=>decide (d.ans.items.length≤100):=by simp[smallT,hc]
 simp only[go_sem]
 unfold l78_0
 refine JiG (fun (i:Nat) S=>i≤t.length∧S.ρ 0=Yh t∧S.ρ 3=iz i∧∀d∈t.take i,d.ans.items.length≤100) (fun i=>t.length-i) 0 ?_ ?_
 ·simp[go_sem]
 ·intro i S ⟨hi,h0,h3,ho⟩
  simp only[go_sem,h0,h3]
  refine JiH (fun h=>?_) (fun h=>?_)
  ·have h:=Yg h
   obtain⟨x,hx,hd⟩:=Jin h
   simp only[go_sem,h0,h3,hx]
   refine JiH (fun hc=>?_) (fun hc=>?_)
   ·have hc:¬x.ans.items.length≤100:=by have:=of_decide_eq_true hc;omega
    have:(t.all fun d=>decide (d.ans.items.length≤100))=false:=by
     simp only[List.all_eq_false]
     exact⟨x,List.mem_of_getElem? hx,by simpa using hc⟩
    simp only[go_sem,hsm,this]
   ·have hc:x.ans.items.length≤100:=by have:=of_decide_eq_false hc;omega
    simp only[go_sem,h0,h3]
    refine⟨i+1,by omega,by omega,by rw[Yi h (by omega)],fun d hd=>?_⟩
    rw[YA hx] at hd
    rcases List.mem_append.1 hd with hd|hd
    ·exact ho d hd
    ·have:d=x:=by simpa using hd
     rw[this];exact hc
  ·have h:=Ym hi h
   rw[Yao h] at ho
   have:(t.all fun d=>decide (d.ans.items.length≤100))=true:=by simpa using ho
   simp only[go_sem,hsm,this]
def H101 (Pg:Nat→Option Fn):Prop:=Pg 101=some (.code F101)
theorem K101 (h:H101 Pg) (a:Ans) (hl:a.items.length<2 ^ 60):K' Pg 101 [.agg (Ych a),.agg (Ych a)]=some (.bool true):=by
 refine K'_code h rfl ?_
 simp only[go_sem]
 unfold l101_0
 refine JiG (fun (i:Nat) S=>i≤a.items.length∧S.ρ 2=.lref 2 0∧S.ρ 3=.lref 3 0∧S.μ 2=some (Ych a,false)∧S.μ 3=some (Ych a,false)∧S.ρ 5=iz i) (fun i=>a.items.length-i) 0 ?_ ?_
 ·simp[go_sem]
 ·intro i S ⟨hi,h2,h3,m2,m3,h5⟩
  simp only[go_sem,h2,h3,m2,m3,h5]
  refine JiH (fun h=>?_) (fun h=>?_)
  ·have h:=Yg h
   obtain⟨x,hx,hd⟩:=Jin h
   simp only[go_sem,h2,h3,m2,m3,h5,hx]
   exact⟨i+1,by omega,by omega,by rw[Yi h hl]⟩
  ·simp only[go_sem,h2,h3,m2,m3]
def H86 (Pg:Nat→Option Fn):Prop:=Pg 86=some (.code F86)∧H101 Pg
theorem K86 (h:H86 Pg) (t:List Done) (hl:t.length<2 ^ 60) (ht:∀d∈t,d.ans.items.length<2 ^ 60):K' Pg 86 [Yh t,Yh t]=some (.bool true):=by
 obtain⟨h,h101⟩:=h
 refine K'_code h rfl ?_
 simp only[go_sem]
 unfold l86_0
 refine JiG (fun (i:Nat) S=>i≤t.length∧S.ρ 0=Yh t∧S.ρ 1=Yh t∧S.ρ 5=iz i) (fun i=>t.length-i) 0 ?_ ?_
 ·simp[go_sem]
 ·intro i S ⟨hi,h0,h1,h5⟩
  simp only[go_sem,h0,h1,h5]
  refine JiH (fun h=>?_) (fun h=>?_)
  ·have h:=Yg h
   obtain⟨x,hx,hd⟩:=Jin h
   have k101:=K101 h101 x.ans (ht x (List.mem_of_getElem? hx))
   simp only[Ych,Yx] at k101
   simp only[go_sem,h0,h1,h5,hx,k101]
   exact⟨i+1,by omega,by omega,by rw[Yi h hl]⟩
  ·simp only[go_sem]
structure Shd where
 id:Int
 epoch:Int
 span:Span
 phase:Int
 ents:List Entr
 mark:Stamp
 top:Stamp
 done:List Done
 hold:Int
 seen:Int
 move:Int
 closed:Int
@[go_sem] def YE (s:Shd):List V:=[iz s.id,iz s.epoch,.str s.span.lo,.str s.span.hi,iz s.phase,Yl s.ents,iz s.mark.wall,iz s.mark.tick,iz s.mark.node,iz s.top.wall,iz s.top.tick,iz s.top.node,Yh s.done,iz s.hold,iz s.seen,iz s.move,iz s.closed]
@[go_sem] def YbK (l:List Shd):V:=.slice 17 (l.map YE)
structure Cel where
 shards:List Shd
 top:Stamp
 dropped:Int
@[go_sem] def Y8 (c:Cel):List V:=[YbK c.shards,iz c.top.wall,iz c.top.tick,iz c.top.node,iz c.dropped]
structure Rq where
 client:Int
 req:Int
 kind:Int
 key:List UInt8
 value:List UInt8
 had:Bool
 old:List UInt8
 at_:Stamp
 hi:List UInt8
 limit:Int
def nou (n:Int):Bool:=decide (0≤n)&&decide (n≤1099511627776)
def shR0 (s:Shd):Bool:=YB s.id&&(YB s.epoch&&(nou s.hold&&(nou s.seen&&(nou s.move&&(nou s.closed&&(decide (1≤s.phase)&&(decide (s.phase≤3)&&(Yp s.span&&(ixR s.ents&&(Yb s.mark&&(Yb s.top&&Yn s.done)))))))))))
def shR (s:Shd):Bool:=shR0 s&&s.ents.all fun e=>Yab s.span e.key
def uptoE (s:Shd) (top:Stamp):Bool:=s.ents.all fun e=>match e.chain.getLast? with|some v=>decide (Yc v.at_ top≤0)|none=>true
def cgo (top:Stamp):Int→List Shd→Bool
 |_,[]=>true
 |p,s::l=>decide (p<s.id)&&(shR s&&(uptoE s top&&cgo top s.id l))
def Y0 (c:Cel):Bool:=decide (c.shards.length≤8)&&(Yb c.top&&(nou c.dropped&&cgo c.top 0 c.shards))
def SmS (s:Shd):Prop:=Sm s.ents∧s.done.length≤10000∧(∀d∈s.done,d.ans.items.length<2 ^ 60)∧s.span.lo.length≤10000∧s.span.hi.length≤10000
def SmC (c:Cel):Prop:=c.shards.length≤10000∧∀s∈c.shards,SmS s
end Sg
namespace Sg
def gN (D:Bool):Rd→Nat×Rd:=bif D then cu (tk 9) 0 else rd (tk 9) 0
def gT (D:Bool):Rd→List UInt8×Rd:=bif D then cu tkT [] else rd tkT []
def gF (D:Bool):Rd→Bool×Rd:=bif D then cu tkF false else rd tkF false
def gS (D:Bool):Rd→Stamp×Rd:=bif D then cu tkS zS else rd tkS zS
def gL (D:Bool) {α:Type} (R:Rd→α×Rd):Rd→List α×Rd:=bif D then lstD R else lstP R
theorem cN {D:Bool}:Cod (gN D) putB (fun n=>n<2 ^ 63):=by
 cases D
 ·exact codN
 ·exact Yat
theorem cT {D:Bool}:Cod (gT D) YH (fun t=>t.length<2 ^ 63):=by
 cases D
 ·exact Cod.rd YdV
 ·exact Cod.cu YdV
theorem cF {D:Bool}:Cod (gF D) YS (fun _=>True):=by
 have h:∀{s r:List UInt8} {b:Bool},tkF s=some (b,r)↔s=YS b++r∧True:=fun {s r b}=>by rw[YeO];simp
 cases D
 ·exact Cod.rd h
 ·exact Cod.cu h
theorem cS {D:Bool}:Cod (gS D) stB (fun s=>Yb s=true):=by
 cases D
 ·exact Cod.rd YdU
 ·exact Cod.cu YdU
theorem cL {D:Bool} {α:Type} {R:Rd→α×Rd} {W:α→List UInt8} {P:α→Prop} (h:Cod R W P) (hW:∀a,P a→1≤(W a).length):Cod (gL D R) (Yav W) (fun l=>l.length<2 ^ 63∧∀a∈l,P a):=by
 cases D
 ·exact h.lstP hW
 ·exact h.lstD
theorem YcH {t:List UInt8}:1≤(YH t).length:=by
 have:=YaI t.length
 simp only[YH,List.length_append];omega
def gV (D:Bool):Rd→Ver×Rd:=mapR (fun p:Stamp×Bool×List UInt8=>⟨p.1,p.2.1,p.2.2⟩) (pairR (gS D) (pairR (gF D) (gT D)))
def Yay (v:Ver):List UInt8:=stB v.at_++(YS v.gone++YH v.val)
def Yes (v:Ver):Prop:=(Yb v.at_=true∧True∧v.val.length<2 ^ 63)∧True
theorem cV {D:Bool}:Cod (gV D) Yay Yes:=by
 have h:=((cS (D:=D)).pair ((cF (D:=D)).pair (cT (D:=D)))).map (g:=fun p:Stamp×Bool×List UInt8=>(⟨p.1,p.2.1,p.2.2⟩:Ver)) (k:=fun v=>(v.at_,v.gone,v.val)) (fun a=>rfl)
 exact⟨fun hr=>⟨(h.get hr).1,(h.get hr).2.1,trivial⟩,fun hp=>h.put ⟨hp.1,rfl⟩,h.bad,h.len⟩
def gE (D:Bool):Rd→Entr×Rd:=mapR (fun p:List UInt8×List Ver=>⟨p.1,p.2⟩) (pairR (gT D) (gL D (gV D)))
def Yag (e:Entr):List UInt8:=YH e.key++Yav Yay e.chain
def Ydp (e:Entr):Prop:=e.key.length<2 ^ 63∧e.chain.length<2 ^ 63∧∀v∈e.chain,Yes v
theorem Yc8 (v:Ver) (h:Yes v):1≤(Yay v).length:=by
 have:=YcH (t:=v.val)
 simp only[Yay,List.length_append];omega
theorem cE {D:Bool}:Cod (gE D) Yag Ydp:=by
 have h:=((cT (D:=D)).pair (cL (D:=D) (cV (D:=D)) Yc8)).map (g:=fun p:List UInt8×List Ver=>(⟨p.1,p.2⟩:Entr)) (k:=fun v=>(v.key,v.chain)) (fun a=>rfl)
 exact⟨fun hr=>⟨(h.get hr).1,(h.get hr).2.1⟩,fun hp=>h.put ⟨hp,rfl⟩,h.bad,h.len⟩
def mkD (p:Nat×Nat×Nat×Stamp×Bool×List UInt8):Done:=⟨p.1,p.2.1,⟨p.2.2.1,p.2.2.2.1,p.2.2.2.2.1,p.2.2.2.2.2,[],[],false⟩⟩
def gD (D:Bool):Rd→Done×Rd:=mapR mkD (pairR (gN D) (pairR (gN D) (pairR (gN D) (pairR (gS D) (pairR (gF D) (gT D))))))
def YR (d:Done):List UInt8:=putB d.client.toNat++(putB d.req.toNat++(putB d.ans.err.toNat++(stB d.ans.at_++(YS d.ans.found++YH d.ans.val))))
def unD (d:Done):Nat×Nat×Nat×Stamp×Bool×List UInt8:=(d.client.toNat,d.req.toNat,d.ans.err.toNat,d.ans.at_,d.ans.found,d.ans.val)
def YdD (d:Done):Prop:=(d.client.toNat<2 ^ 63∧d.req.toNat<2 ^ 63∧d.ans.err.toNat<2 ^ 63∧Yb d.ans.at_=true∧True∧d.ans.val.length<2 ^ 63)∧mkD (unD d)=d
theorem cD {D:Bool}:Cod (gD D) YR YdD:=
 ((cN (D:=D)).pair ((cN (D:=D)).pair ((cN (D:=D)).pair ((cS (D:=D)).pair ((cF (D:=D)).pair (cT (D:=D))))))).map (g:=mkD) (k:=unD) (fun a=>rfl)
theorem Yc2 (e:Entr) (h:Ydp e):1≤(Yag e).length:=by
 have:=YcH (t:=e.key)
 simp only[Yag,List.length_append];omega
theorem Ycx (d:Done) (h:YdD d):1≤(YR d).length:=by
 have:=YaI d.client.toNat
 simp only[YR,List.length_append];omega
abbrev ShT:=Nat×Nat×Nat×Nat×Nat×Nat×Nat×List UInt8×List UInt8×Stamp×Stamp×List Entr×List Done
def mkS (p:ShT):Shd:=
 ⟨p.1,p.2.1,⟨p.2.2.2.2.2.2.2.1,p.2.2.2.2.2.2.2.2.1⟩,p.2.2.1,p.2.2.2.2.2.2.2.2.2.2.2.1,p.2.2.2.2.2.2.2.2.2.1,p.2.2.2.2.2.2.2.2.2.2.1,p.2.2.2.2.2.2.2.2.2.2.2.2,p.2.2.2.1,p.2.2.2.2.1,p.2.2.2.2.2.1,p.2.2.2.2.2.2.1⟩
def unS (s:Shd):ShT:=(s.id.toNat,s.epoch.toNat,s.phase.toNat,s.hold.toNat,s.seen.toNat,s.move.toNat,s.closed.toNat,s.span.lo,s.span.hi,s.mark,s.top,s.ents,s.done)
def gSh (D:Bool):Rd→Shd×Rd:=mapR mkS (pairR (gN D) (pairR (gN D) (pairR (gN D) (pairR (gN D) (pairR (gN D) (pairR (gN D) (pairR (gN D) (pairR (gT D) (pairR (gT D) (pairR (gS D) (pairR (gS D) (pairR (gL D (gE D)) (gL D (gD D))))))))))))))
def shB (s:Shd):List UInt8:=putB s.id.toNat++(putB s.epoch.toNat++(putB s.phase.toNat++(putB s.hold.toNat++(putB s.seen.toNat++(putB s.move.toNat++(putB s.closed.toNat++(YH s.span.lo++(YH s.span.hi++(stB s.mark++(stB s.top++(Yav Yag s.ents++Yav YR s.done)))))))))))
def ShV (s:Shd):Prop:=(s.id.toNat<2 ^ 63∧s.epoch.toNat<2 ^ 63∧s.phase.toNat<2 ^ 63∧s.hold.toNat<2 ^ 63∧s.seen.toNat<2 ^ 63∧s.move.toNat<2 ^ 63∧s.closed.toNat<2 ^ 63∧s.span.lo.length<2 ^ 63∧s.span.hi.length<2 ^ 63∧
 Yb s.mark=true∧Yb s.top=true∧(s.ents.length<2 ^ 63∧∀e∈s.ents,Ydp e)∧(s.done.length<2 ^ 63∧∀d∈s.done,YdD d))∧mkS (unS s)=s
theorem cSh {D:Bool}:Cod (gSh D) shB ShV:=
 ((cN (D:=D)).pair ((cN (D:=D)).pair ((cN (D:=D)).pair ((cN (D:=D)).pair ((cN (D:=D)).pair ((cN (D:=D)).pair ((cN (D:=D)).pair ((cT (D:=D)).pair ((cT (D:=D)).pair ((cS (D:=D)).pair ((cS (D:=D)).pair
  ((cL (D:=D) (cE (D:=D)) Yc2).pair (cL (D:=D) (cD (D:=D)) Ycx))))))))))))).map (g:=mkS) (k:=unS) (fun a=>rfl)
theorem Ydz (s:Shd) (h:ShV s):1≤(shB s).length:=by
 have:=YaI s.id.toNat
 simp only[shB,List.length_append];omega
def mkC (p:Stamp×Nat×List Shd):Cel:=⟨p.2.2,p.1,p.2.1⟩
def unC (c:Cel):Stamp×Nat×List Shd:=(c.top,c.dropped.toNat,c.shards)
def gC (D:Bool):Rd→Cel×Rd:=mapR mkC (pairR (gS D) (pairR (gN D) (gL D (gSh D))))
def cB (c:Cel):List UInt8:=stB c.top++(putB c.dropped.toNat++Yav shB c.shards)
def CV (c:Cel):Prop:=(Yb c.top=true∧c.dropped.toNat<2 ^ 63∧(c.shards.length<2 ^ 63∧∀s∈c.shards,ShV s))∧mkC (unC c)=c
theorem cC {D:Bool}:Cod (gC D) cB CV:=
 ((cS (D:=D)).pair ((cN (D:=D)).pair (cL (D:=D) (cSh (D:=D)) Ydz))).map (g:=mkC) (k:=unC) (fun a=>rfl)
end Sg
namespace Sg
open _root_.Go (IntKind BinOp UnOp)
variable {Pg : Nat → Option Fn}
def YbQ (l:List Shd):Prop:=l.Pairwise fun a b=>a.id<b.id
theorem YdG {top:Stamp}:∀{l:List Shd} {p:Int},cgo top p l=true↔YbQ l∧∀s∈l,p<s.id∧shR s=true∧uptoE s top=true
 |[],p=>by simp[cgo,YbQ]
 |s::l,p=>by
  simp only[cgo,Bool.and_eq_true,decide_eq_true_eq,YdG (l:=l),YbQ,List.pairwise_cons,List.mem_cons,forall_eq_or_imp]
  constructor
  ·rintro⟨h1,h2,h3,h4,h5⟩
   exact⟨⟨fun x hx=>(h5 x hx).1,h4⟩,⟨h1,h2,h3⟩,fun x hx=>⟨by have:=(h5 x hx).1;omega,(h5 x hx).2⟩⟩
  ·rintro⟨⟨h1,h2⟩,⟨h3,h4,h5⟩,h6⟩
   exact⟨h3,h4,h5,h2,fun x hx=>⟨h1 x hx,(h6 x hx).2⟩⟩
theorem Yc9 {c:Cel}:Y0 c=true↔c.shards.length≤8∧Yb c.top=true∧nou c.dropped=true∧YbQ c.shards∧∀s∈c.shards,0<s.id∧shR s=true∧uptoE s c.top=true:=by
 simp only[Y0,Bool.and_eq_true,decide_eq_true_eq,YdG]
end Sg
namespace Sg
theorem YbR:∀{l:List Ver} {p:Option Ver},chR p l=true→∀v∈l,Yv v=true
 |[],_,_,v,hv=>by simp at hv
 |a::l,p,h,v,hv=>by
  simp only[chR,Bool.and_eq_true] at h
  rcases List.mem_cons.1 hv with rfl|hv
  ·exact h.1.1
  ·exact YbR h.2 v hv
theorem YbF:∀{l:List Entr} {p:Option Entr},ixG p l=true→∀v∈l,YaS v=true
 |[],_,_,v,hv=>by simp at hv
 |a::l,p,h,v,hv=>by
  simp only[ixG,Bool.and_eq_true] at h
  rcases List.mem_cons.1 hv with rfl|hv
  ·exact h.1
  ·exact YbF h.2.2 v hv
theorem Ya9:∀{l:List Done} {p:Int},rtR p l=true→∀v∈l,rowR v=true
 |[],_,_,v,hv=>by simp at hv
 |a::l,p,h,v,hv=>by
  simp only[rtR,Bool.and_eq_true] at h
  rcases List.mem_cons.1 hv with rfl|hv
  ·exact h.2.1
  ·exact Ya9 h.2.2 v hv
theorem Yfi {v:Ver} (h:Yv v=true):Yes v:=by
 simp only[Yv,Bool.and_eq_true,decide_eq_true_eq] at h
 exact⟨⟨h.1.1,trivial,by omega⟩,trivial⟩
theorem Yea {e:Entr} (h:YaS e=true):Ydp e:=by
 simp only[YaS,Yf,Bool.and_eq_true,decide_eq_true_eq] at h
 obtain⟨h1,h2,h3,h4⟩:=h
 exact⟨by have:=(YG h1).1;omega,by omega,fun v hv=>Yfi (YbR h3 v hv)⟩
theorem YT {n:Int} (h:0≤n):((n.toNat:Nat):Int)=n:=by omega
theorem Yfa {d:Done} (h:rowR d=true):YdD d:=by
 simp only[rowR,YB,YaT,Bool.and_eq_true,decide_eq_true_eq,Bool.not_eq_true'] at h
 obtain⟨⟨a1,a2⟩,⟨b1,b2⟩,c1,c2,c3,c4,c5,c6,c7⟩:=h
 refine⟨⟨by omega,by omega,by omega,c3,trivial,by omega⟩,?_⟩
 obtain⟨cl,rq,⟨er,at_,fo,va,it,nx,mo⟩⟩:=d
 simp only at a1 b1 c1 c5 c6 c7
 subst c5;subst c6;subst c7
 simp only[mkD,unD,YT (show (0:Int)≤cl by omega),YT (show (0:Int)≤rq by omega),YT c1]
theorem Yc5 {s:Shd} (h:shR s=true):ShV s:=by
 simp only[shR,shR0,YB,nou,Yp,ixR,Yn,Bool.and_eq_true,Bool.or_eq_true,decide_eq_true_eq,List.all_eq_true] at h
 obtain⟨⟨⟨a1,a2⟩,⟨b1,b2⟩,⟨c1,c2⟩,⟨d1,d2⟩,⟨e1,e2⟩,⟨f1,f2⟩,g1,g2,⟨i1,i2⟩,⟨j1,j2⟩,k1,k2,l1,l2⟩,-⟩:=h
 refine⟨⟨by omega,by omega,by omega,by omega,by omega,by omega,by omega,?_,?_,k1,k2,⟨by omega,fun e he=>Yea (YbF j2 e he)⟩,⟨by omega,fun d hd=>Yfa (Ya9 l1 d hd)⟩⟩,?_⟩
 ·rcases i1 with i1|i1
  ·rw[i1];simp
  ·have:=(YG i1).1;omega
 ·rcases i2 with i2|i2
  ·rw[i2];simp
  ·have:=(YG i2.1).1;omega
 ·obtain⟨id,ep,⟨lo,hi⟩,ph,en,mk,tp,dn,ho,se,mv,cl⟩:=s
  simp only at a1 b1 c1 d1 e1 f1 g1
  simp only[mkS,unS,YT (show (0:Int)≤id by omega),YT (show (0:Int)≤ep by omega),YT c1,YT d1,YT e1,YT f1,YT (show (0:Int)≤ph by omega)]
theorem Ydr {c:Cel} (h:Y0 c=true):CV c:=by
 obtain⟨h1,h2,h3,h4,h5⟩:=Yc9.1 h
 simp only[nou,Bool.and_eq_true,decide_eq_true_eq] at h3
 refine⟨⟨h2,by omega,by omega,fun s hs=>Yc5 (h5 s hs).2.1⟩,?_⟩
 obtain⟨sh,tp,dr⟩:=c
 simp only at h3
 simp only[mkC,unC,YT h3.1]
def tkC (t:List UInt8):Option Cel:=if (gC false (t,false)).2=([],false)∧Y0 (gC false (t,false)).1=true then some (gC false (t,false)).1 else none
theorem Ycs {t:List UInt8} {c:Cel}:tkC t=some c↔t=cB c∧Y0 c=true:=by
 unfold tkC
 constructor
 ·intro h
  split at h
  ·rename_i hc
   simp only[Option.some.injEq] at h
   obtain⟨h1,h2⟩:=hc
   obtain⟨g1,g2⟩:=(cC (D:=false)).get (s:=t) (r:=[]) (a:=c) (Prod.ext h h1)
   rw[h] at h2
   exact⟨by rw[g1];simp,h2⟩
  ·cases h
 ·rintro⟨rfl,h⟩
  have:=(cC (D:=false)).put (r:=[]) (Ydr h)
  rw[List.append_nil] at this
  rw[this,if_pos ⟨rfl,h⟩]
theorem tkC_doc {t:List UInt8}:(if (gC true (t,false)).2.2=false∧Y0 (gC true (t,false)).1=true∧cB (gC true (t,false)).1=t then some (gC true (t,false)).1 else none)=tkC t:=by
 cases hq:tkC t with
 |some c=>
  obtain⟨rfl,h⟩:=Ycs.1 hq
  have:=(cC (D:=true)).put (r:=[]) (Ydr h)
  rw[List.append_nil] at this
  rw[this,if_pos ⟨rfl,h,rfl⟩]
 |none=>
  rw[if_neg]
  rintro⟨h1,h2,h3⟩
  rw[Ycs.2 ⟨h3.symm,h2⟩] at hq
  cases hq
end Sg
namespace Sg
open _root_.Go (IntKind BinOp UnOp)
variable {Pg : Nat → Option Fn}
def H466 (Pg:Nat→Option Fn):Prop:=Pg 466=some (.codeR F466 0)∧H465 Pg
theorem K466 (h:H466 Pg) (x:Rd) (hx:x.1.length<2 ^ 62):K' Pg 466 [.tuple (.lref 0 0::eRd x)]=some (.tuple [iz (rL x).1,.tuple (eRd (rL x).2)]):=by
 obtain⟨h,h465⟩:=h
 have k:=K465 h465 x hx
 have hr:=fun (S:St) (hm:S.μ 0=some (eRd x,false))=>rcall_rd (p:=20000) k hm
 unfold rL
 generalize rd (tk 9) 0 x=y at hr
 obtain⟨n,s,b⟩:=y
 simp only[go_sem] at hr
 refine Yba [.t 2] (ws:=[iz _]) h rfl rfl (YQ _) (YQ _) (Ybj _) fun S ⟨r0,r,hm,m0,a0⟩=>?_
 simp only[go_sem] at hm
 have c:decide (((s.length:Nat):Int)<(n:Int))=decide (s.length<n):=decide_eq_decide.2 (by omega)
 simp only
 by_cases h1:s.length<n
 ·have c1:decide (s.length<n)=true:=decide_eq_true h1
  rw[if_pos h1]
  simp only[F466,c466,go_sem,r0,hm,hr,c,c1]
  exact⟨_,rfl,fun _=>rfl⟩
 ·have c1:decide (s.length<n)=false:=decide_eq_false h1
  rw[if_neg h1]
  simp only[F466,c466,go_sem,r0,hm,hr,c,c1]
  exact⟨_,rfl,fun _=>rfl⟩
structure Place where
 span:Span
 shard:Int
 cell:Int
 epoch:Int
 deriving DecidableEq
@[go_sem] def ePl (p:Place):List V:=[.str p.span.lo,.str p.span.hi,iz p.shard,iz p.cell,iz p.epoch]
@[go_sem] def YC (l:List Place):V:=.slice 5 (l.map ePl)
def YZ:Place:=⟨⟨[],[]⟩,0,0,0⟩
@[go_sem] def eOP (o:Option Place):V:=.tuple [.agg (ePl (o.getD YZ)),.bool o.isSome]
def Yan (l:List Place) (k:List UInt8):Option Place:=l.find? fun p=>decide (k=[])||Yab p.span k
end Sg
namespace Sg
variable {Pg : Nat → Option Fn}
theorem Yar {T:Nat→Option Fn} (h:∀f x,T f=some x→Pg f=some x):∀n,Le (Jm T n) (Jm Pg n)
 |0=>fun f a r h=>by simp[Jm] at h
 |n+1=>fun f a r hr=>by
  rw[Jm] at hr ⊢
  split at hr
  ·simp at hr
  ·rename_i o p hT
   rw[h _ _ hT]
   exact hr
  ·rename_i F k hT
   rw[h _ _ hT]
   simp only
   split at hr<;>try (simp at hr;done)
   rename_i hl
   rw[if_pos hl]
   split at hr<;>try (simp at hr;done)
   simp only[Option.bind_eq_some_iff] at hr ⊢
   obtain⟨x,h0,y,h1,h2⟩:=hr
   exact⟨x,h0,y,Jr (Yar h n) (Nat.le_refl n) h1,h2⟩
  ·rename_i F hT
   rw[h _ _ hT]
   simp only
   split at hr<;>try (simp at hr;done)
   rename_i hl
   rw[if_pos hl]
   simp only[Option.bind_eq_some_iff] at hr ⊢
   obtain⟨x,h1,h2⟩:=hr
   exact⟨x,Jr (Yar h n) (Nat.le_refl n) h1,h2⟩
def YaF:List (Nat×Fn)→Nat→Option Fn
 |[],_=>none
 |a::l,n=>bif Nat.beq a.1 n then some a.2 else YaF l n
def isT:Option V→Bool
 |some (.bool true)=>true
 |_=>false
theorem Ydw:∀{x:Option V},isT x=true→x=some (.bool true)
 |some (.bool true),_=>rfl
 |none,h=>by simp[isT] at h
 |some (.bool false),h=>by simp[isT] at h
 |some (.int _ _),h=>by simp[isT] at h
 |some .undef,h=>by simp[isT] at h
theorem YaB:∀{l:List (Nat×Fn)},(∀a∈l,Pg a.1=some a.2)→∀f x,YaF l f=some x→Pg f=some x
 |[],_,f,x,h=>by simp[YaF] at h
 |a::l,ha,f,x,h=>by
  rw[YaF] at h
  cases q:Nat.beq a.1 f with
  |true=>
   rw[q,cond_true] at h
   rw[←Nat.eq_of_beq_eq_true q,←h]
   exact ha a (.head _)
  |false=>
   rw[q,cond_false] at h
   exact YaB (fun b hb=>ha b (.tail _ hb)) f x h
end Sg
namespace Sg
open _root_.Go (IntKind BinOp UnOp)
variable {Pg : Nat → Option Fn}
def eI1 (a:Int):List V:=[iz a]
def nilOr (s z n:Nat):V:=if n=0 then .nslice z else .own s z n
def YaM (z:Nat) (rows:List (List V)) (n:Nat):Option (Nat×List (List V)×Fz):=if n=0 then none else some (z,rows,.live)
@[go_sem] theorem Yas {s z n:Nat}:(nilOr s z n).cells=some [nilOr s z n]:=by unfold nilOr;split<;>rfl
def apQ (S:St) (s z n:Nat) (y:V) (a:Option (Nat×List (List V)×Fz)):Option (V×St):=if n=0 then Jfc S s z y a else apA S s z n y a
theorem YaQ {S:St} {s z n:Nat} {y:V}:appN S s z (nilOr s z n) y=apQ S s z n y (S.A s):=by
 unfold nilOr apQ
 split
 ·exact Jfe
 ·rw[Jff,Jha]
theorem Ybn {S:St} {s z n:Nat} {rows:List (List V)} {r:List V} (hr:rows.length=n) (hl:n+1≤lim) :
  apQ S s z n (.slice z [r]) (YaM z rows n)=some (nilOr s z (n+1),⟨S.ρ,S.μ,upd S.A s (YaM z (rows++[r]) (n+1))⟩):=by
 have e1:nilOr s z (n+1)=.own s z (n+1):=rfl
 have e2:YaM z (rows++[r]) (n+1)=some (z,rows++[r],.live):=rfl
 rw[e1,e2]
 unfold apQ YaM
 split
 ·rename_i h
  subst h
  have hr:rows=[]:=List.eq_nil_of_length_eq_zero hr
  subst hr
  have:1≤lim:=by simpa using hl
  simp[Jfc,V.rowsOf,this]
 ·rw[Jg9]
  simp[V.rowsOf,hr,hl]
theorem Yac {A:Nat→Option (Nat×List (List V)×Fz)} {s z n:Nat} {rows:List (List V)} (hA:A s=YaM z rows n) (hr:rows.length=n):toDC A (nilOr s z n)=some (.slice z rows):=by
 unfold nilOr
 split
 ·rename_i h
  subst h
  have hr:rows=[]:=List.eq_nil_of_length_eq_zero hr
  rw[hr,Je0]
 ·rename_i h
  have:A s=some (z,rows,.live):=by rw[hA,YaM,if_neg h]
  simp[toDC,this,hr]
theorem rep_one {α:Type} {R:Rd→α×Rd} {m j:Nat} {vs:List α} {y y':Rd} (hj:j<m) (h:YK R m y=(vs++(YK R (m-j) y').1,(YK R (m-j) y').2)) :
  YK R m y=((vs++[(R y').1])++(YK R (m-(j+1)) (R y').2).1,(YK R (m-(j+1)) (R y').2).2):=by
 rw[h,show m-j=(m-(j+1))+1 by omega]
 simp[YK]
theorem Ycp {α:Type} {R:Rd→α×Rd} {m:Nat} {vs:List α} {y y':Rd} (h:YK R m y=(vs++(YK R (m-m) y').1,(YK R (m-m) y').2)):YK R m y=(vs,y'):=by
 rw[h,Nat.sub_self];simp[YK]
theorem Yfh (h464:H464 Pg) (h493:H493 Pg) (h492:H492 Pg) {y:Rd} {m:Nat} {key:List UInt8} (hy:y.1.length≤2 ^ 20) (hm:m≤2 ^ 20) {S:St} {Q:Ex→St→Prop}
  (s0:S.ρ 0=.lref 0 0) (s4:S.ρ 4=.lref 4 0) (s49:S.ρ 49=iz m) (s50:S.ρ 50=iz 0) (n0:S.μ 0=some (eRd y,false)) (n4:S.μ 4=some ([.str key,.nslice 5],false)) (a62:S.A 62=none)
  (hq:∀S',(∀i,i≠50→i≠51→S'.ρ i=S.ρ i)→S'.μ 0=some (eRd (YK (gV false) m y).2,false)→S'.μ 4=some ([.str key,nilOr 62 5 m],false)→S'.A 62=YaM 5 ((YK (gV false) m y).1.map YI) m→(YK (gV false) m y).1.length=m→
   (∀i,i≠0→i≠4→S'.μ i=S.μ i)→(∀i,i≠62→S'.A i=S.A i)→Q .norm S'):Wp (K' Pg) l467_1 S (Blk 2 Q):=by
 unfold l467_1
 refine JiG (fun (j:Nat) S'=>j≤m∧(∀i,i≠50→i≠51→S'.ρ i=S.ρ i)∧S'.ρ 50=iz j∧(∀i,i≠0→i≠4→S'.μ i=S.μ i)∧(∀i,i≠62→S'.A i=S.A i)∧∃(vs:List Ver) (y':Rd),vs.length=j∧y'.1.length≤2 ^ 20∧
  YK (gV false) m y=(vs++(YK (gV false) (m-j) y').1,(YK (gV false) (m-j) y').2)∧S'.μ 0=some (eRd y',false)∧S'.μ 4=some ([.str key,nilOr 62 5 j],false)∧S'.A 62=YaM 5 (vs.map YI) j) (fun j=>m-j) 0 ?_ ?_
 ·simp only[JhC]
  exact⟨Nat.zero_le _,by intros;first|rfl|trivial,s50,by intros;first|rfl|trivial,by intros;first|rfl|trivial,[],y,rfl,hy,rfl,n0,n4,a62⟩
 ·intro j S' ⟨hj,hρ,t50,hμ,hA,vs,y',hvl,hyl,hrep,m0,m4,a62⟩
  have t0:S'.ρ 0=.lref 0 0:=(hρ 0 (by omega) (by omega)).trans s0
  have t4:S'.ρ 4=.lref 4 0:=(hρ 4 (by omega) (by omega)).trans s4
  have t49:S'.ρ 49=iz m:=(hρ 49 (by omega) (by omega)).trans s49
  cases c1:decide ((j:Int)<(m:Int)) with
  |false=>
   have hjm:j=m:=by have:=of_decide_eq_false c1;omega
   subst hjm
   have he:=Ycp hrep
   simp only[go_sem,t50,t49,c1]
   rw[he] at hq
   refine hq _ (fun i h1 h2=>?_) m0 m4 a62 hvl hμ hA
   show upd S'.ρ 51 _ i=_
   rw[Je2 (by simp;omega)]
   exact hρ i h1 h2
  |true=>
   have hlt:=Yg c1
   have hinc:IntKind.i64.wrap ((j:Int)+1)=((j+1:Nat):Int):=by rw[JiD (by omega) (by omega)];omega
   have hone:=rep_one hlt hrep
   have l1:(rd tkS zS y').2.1.length≤2 ^ 20:=Nat.le_trans ((cS (D:=false)).len y') hyl
   have l2:(rd tkF false (rd tkS zS y').2).2.1.length≤2 ^ 20:=Nat.le_trans ((cF (D:=false)).len _) l1
   have l3:(rd tkT [] (rd tkF false (rd tkS zS y').2).2).2.1.length≤2 ^ 20:=Nat.le_trans ((cT (D:=false)).len _) l2
   have k1:=K464 h464 y' (by omega)
   have k2:=K493 h493 (rd tkS zS y').2 (by omega)
   have k3:=K492 h492 (rd tkF false (rd tkS zS y').2).2 (by omega)
   have hR:gV false y'=(⟨(rd tkS zS y').1,(rd tkF false (rd tkS zS y').2).1,(rd tkT [] (rd tkF false (rd tkS zS y').2).2).1⟩,(rd tkT [] (rd tkF false (rd tkS zS y').2).2).2):=rfl
   rw[hR] at hone
   generalize rd tkS zS y'=p1 at *
   obtain⟨b1,x1⟩:=p1
   simp only at k2 k3 hone l2 l3 l1
   generalize rd tkF false x1=p2 at *
   obtain⟨b2,x2⟩:=p2
   simp only at k3 hone l3 l2
   generalize rd tkT [] x2=p3 at *
   obtain⟨b3,x3⟩:=p3
   simp only at hone l3
   have r1:=fun (S:St) (hm:S.μ 0=some (eRd y',false))=>rcall_rd (p:=21400) k1 hm
   have r2:=fun (S:St) (hm:S.μ 0=some (eRd x1,false))=>rcall_rd (p:=21500) k2 hm
   have r3:=fun (S:St) (hm:S.μ 0=some (eRd x2,false))=>rcall_rd (p:=21600) k3 hm
   have hil:(vs.map YI).length=j:=by simp[hvl]
   have ha:=fun S=>Ybn (S:=S) (s:=62) (z:=5) (r:=YI ⟨b1,b2,b3⟩) hil (by unfold lim;omega)
   simp only[go_sem,eSt] at r1 r2 r3 m0 ha
   simp only[go_sem,t0,t4,t50,t49,c1,m0,m4,a62,r1,r2,r3,YaQ,ha,hinc,JhC]
   refine⟨j+1,by omega,by omega,fun i h1 h2=>?_,rfl,fun i h1 h2=>?_,fun i h1=>?_,vs++[⟨b1,b2,b3⟩],x3,by simp[hvl],l3,hone,rfl,rfl,by rw[List.map_append];rfl⟩
   ·rw[Je2 (by simpa using h1),Je2 (by simpa using h2)];exact hρ i h1 h2
   ·rw[Je2 (by simpa using h2),Je2 (by simpa using h1),Je2 (by simpa using h1),Je2 (by simpa using h1)];exact hμ i h1 h2
   ·rw[Je2 (by simpa using h1)];exact hA i h1
def shP (s:Shd) (e d:V):List V:=[iz s.id,iz s.epoch,.str s.span.lo,.str s.span.hi,iz s.phase,e,iz s.mark.wall,iz s.mark.tick,iz s.mark.node,iz s.top.wall,iz s.top.tick,iz s.top.node,d,iz s.hold,iz s.seen,iz s.move,iz s.closed]
def zSh:List V:=[.int .i64 0,.int .i64 0,.str [],.str [],.int .i64 0,.slice 2 [],.int .i64 0,.int .i64 0,.int .i64 0,.int .i64 0,.int .i64 0,.int .i64 0,.slice 11 [],.int .i64 0,.int .i64 0,.int .i64 0,.int .i64 0]
theorem scrub_nil {Wa:List Nat} {s z n:Nat} (h:Wa.contains s=false):Jv Wa (nilOr s z n)=nilOr s z n:=by
 unfold nilOr;split
 ·rfl
 ·simp only[Jv,h,Bool.false_eq_true,if_false]
theorem Ya3 {S:St} {v:Nat} {Wv Wa:List Nat} {x:Shd} {s z n s' z' n':Nat} (hm:S.μ v=some (shP x (nilOr s z n) (nilOr s' z' n'),false)) (hv:Wv.contains v=false) (h:Wa.contains s=false) (h':Wa.contains s'=false) :
  (S.head [] [] Wv Wa).μ v=some (shP x (nilOr s z n) (nilOr s' z' n'),false):=by
 show (if Wv.contains v then none else (S.μ v).map _)=_
 rw[hv,hm]
 simp only[Bool.false_eq_true,if_false,Option.map_some]
 have:(shP x (nilOr s z n) (nilOr s' z' n')).map (Jv Wa)=shP x (nilOr s z n) (nilOr s' z' n'):=by
  simp only[shP,List.map_cons,List.map_nil,scrub_nil h,scrub_nil h']
  rfl
 rw[this]
 cases Wa.isEmpty<;>rfl
theorem Y5 {S:St} {Wv Wa:List Nat} {x:Nat} (h:Wa.contains x=false):(S.head [] [] Wv Wa).A x=S.A x:=by
 show (if Wa.contains x then none else S.A x)=S.A x
 rw[h];rfl
theorem YdK {S:St} {Wv Wa:List Nat} {x:Nat} (h:Wa.contains x=true):(S.head [] [] Wv Wa).A x=none:=by
 show (if Wa.contains x then none else S.A x)=none
 rw[h];rfl
theorem YcS {s z n:Nat}:(Jc (nilOr s z n)).all (fun t=>t == s)=true:=by
 unfold nilOr;split<;>simp[Jc]
structure E467 (S:St) (y:Rd) (sh:Shd) (m j:Nat) (vs:List Entr):Prop where
 r0:S.ρ 0=.lref 0 0
 r2:S.ρ 2=.lref 2 0
 r3:S.ρ 3=.lref 3 0
 m0:S.μ 0=some (eRd y,false)
 m2:S.μ 2=some (zSh,false)
 m3:S.μ 3=some (shP sh (nilOr 69 2 j) (nilOr 95 11 0),false)
 m5:S.μ 5=none
 a69:S.A 69=YaM 2 (vs.map YN) j
 a95:S.A 95=none
 vl:vs.length=j
theorem Ye1 (h464:H464 Pg) (h493:H493 Pg) (h492:H492 Pg) (h466:H466 Pg) {y:Rd} {m:Nat} {sh:Shd} (hy:y.1.length≤2 ^ 20) (hm:m≤2 ^ 20) {S:St} {Q:Ex→St→Prop}
  (hS:E467 S y sh m 0 []) (s42:S.ρ 42=iz m) (s43:S.ρ 43=iz 0) (n4:S.μ 4=none) (a62:S.A 62=none)
  (hq:∀S',E467 S' (YK (gE false) m y).2 sh m m (YK (gE false) m y).1→Q .norm S'):Wp (K' Pg) l467_0 S (Blk 0 Q):=by
 unfold l467_0
 refine JiG (fun (j:Nat) S'=>j≤m∧S'.ρ 42=iz m∧S'.ρ 43=iz j∧S'.μ 4=none∧S'.A 62=none∧∃(vs:List Entr) (y':Rd),y'.1.length≤2 ^ 20∧
  YK (gE false) m y=(vs++(YK (gE false) (m-j) y').1,(YK (gE false) (m-j) y').2)∧E467 S' y' sh m j vs) (fun j=>m-j) 0 ?_ ?_
 ·exact⟨Nat.zero_le _,Jir s42 rfl,Jir s43 rfl,Jip (.inl n4),YdK rfl,[],y,hy,rfl,Jir hS.r0 rfl,Jir hS.r2 rfl,Jir hS.r3 rfl,Jiq hS.m0 rfl rfl,Jiq hS.m2 rfl rfl,Ya3 hS.m3 rfl rfl rfl,Jip (.inl hS.m5),(Y5 rfl).trans hS.a69,(Y5 rfl).trans hS.a95,rfl⟩
 ·intro j S' ⟨hj,t42,t43,m4,a62,vs,y',hyl,hrep,hE⟩
  obtain⟨t0,t2,t3,m0,m2,m3,m5,a69,a95,hvl⟩:=hE
  cases c1:decide ((j:Int)<(m:Int)) with
  |false=>
   have hjm:j=m:=by have:=of_decide_eq_false c1;omega
   subst hjm
   have he:=Ycp hrep
   simp only[go_sem,t42,t43,c1]
   rw[he] at hq
   exact hq _ ⟨by simp only[go_sem,t0],by simp only[go_sem,t2],by simp only[go_sem,t3],m0,m2,m3,m5,a69,a95,hvl⟩
  |true=>
   have hlt:=Yg c1
   have hinc:IntKind.i64.wrap ((j:Int)+1)=((j+1:Nat):Int):=by rw[JiD (by omega) (by omega)];omega
   have hone:=rep_one hlt hrep
   have l1:(rd tkT [] y').2.1.length≤2 ^ 20:=Nat.le_trans ((cT (D:=false)).len y') hyl
   have k1:=K492 h492 y' (by omega)
   have k2:=K466 h466 (rd tkT [] y').2 (by omega)
   have hR:gE false y'=(⟨(rd tkT [] y').1,(YK (gV false) (rL (rd tkT [] y').2).1 (rL (rd tkT [] y').2).2).1⟩,(YK (gV false) (rL (rd tkT [] y').2).1 (rL (rd tkT [] y').2).2).2):=rfl
   rw[hR] at hone
   generalize rd tkT [] y'=p1 at *
   obtain⟨b1,x1⟩:=p1
   simp only at k2 hone l1
   have hl2:(rL x1).1≤2 ^ 20∧(rL x1).2.1.length≤2 ^ 20:=by
    have hc:=(codN).len x1
    unfold rL
    split
    ·exact⟨Nat.zero_le _,by simp only;omega⟩
    ·exact⟨by omega,by omega⟩
   generalize rL x1=p2 at *
   obtain⟨n2,x2⟩:=p2
   simp only at k2 hone hl2
   have r1:=fun (S:St) (hm:S.μ 0=some (eRd y',false))=>rcall_rd (p:=21200) k1 hm
   have r2:=fun (S:St) (hm:S.μ 0=some (eRd x1,false))=>rcall_rd (p:=21300) k2 hm
   simp only[go_sem] at r1 r2 m0
   simp only[go_sem,t0,t2,t3,t42,t43,c1,m0,m4,r1,r2]
   refine Yfh h464 h493 h492 (y:=x2) (m:=n2) (key:=b1) hl2.2 hl2.1 (by simp only[go_sem,t0]) (by simp only[go_sem]) (by simp only[go_sem]) (by simp only[go_sem]) (by simp only[go_sem]) (by simp only[go_sem]) a62 fun S2 q1 q2 q3 q4 q5 q6 q7=>?_
   have u0:S2.ρ 0=.lref 0 0:=by rw[q1 0 (by omega) (by omega)];simp only[go_sem,t0]
   have u2:S2.ρ 2=.lref 2 0:=by rw[q1 2 (by omega) (by omega)];simp only[go_sem,t2]
   have u3:S2.ρ 3=.lref 3 0:=by rw[q1 3 (by omega) (by omega)];simp only[go_sem,t3]
   have u4:S2.ρ 4=.lref 4 0:=by rw[q1 4 (by omega) (by omega)];simp only[go_sem]
   have u42:S2.ρ 42=iz m:=by rw[q1 42 (by omega) (by omega)];simp only[go_sem,t42]
   have u43:S2.ρ 43=iz j:=by rw[q1 43 (by omega) (by omega)];simp only[go_sem,t43]
   have v2:S2.μ 2=some (zSh,false):=by rw[q6 2 (by omega) (by omega)];simp only[go_sem,m2]
   have v3:S2.μ 3=some (shP sh (nilOr 69 2 j) (nilOr 95 11 0),false):=by rw[q6 3 (by omega) (by omega)];simp only[go_sem,m3]
   have v5:S2.μ 5=none:=by rw[q6 5 (by omega) (by omega)];simp only[go_sem,m5]
   have w69:S2.A 69=YaM 2 (vs.map YN) j:=(q7 69 (by omega)).trans a69
   have w95:S2.A 95=none:=(q7 95 (by omega)).trans a95
   generalize hz:YK (gV false) n2 x2=z at *
   obtain⟨z1,z2⟩:=z
   simp only at q2 q4 q5 hone
   have hch:=Yac q4 (by simp[q5])
   have hst:=YcS (s:=62) (z:=5) (n:=n2)
   have hil:(vs.map YN).length=j:=by simp[hvl]
   have ha:=fun S=>Ybn (S:=S) (s:=69) (z:=2) (r:=YN ⟨b1,z1⟩) hil (by unfold lim;omega)
   simp only[go_sem,Ya] at ha
   simp only[shP] at v3
   simp only[go_sem,u0,u2,u3,u4,u42,u43,q2,q3,v3,w69,hch,hst,YaQ,ha,hinc]
   have hz2:z2.1.length≤2 ^ 20:=by
    have:=Yby (cV (D:=false)) (k:=n2) (x:=x2)
    rw[hz] at this
    exact Nat.le_trans this hl2.2
   refine⟨j+1,by omega,by omega,rfl,vs++[⟨b1,z1⟩],z2,hz2,hone,Jir (by simp only[go_sem,u0]) rfl,Jir (by simp only[go_sem,u2]) rfl,Jir (by simp only[go_sem,u3]) rfl,Jiq (by simp only[go_sem,q2]) rfl rfl,Jiq (by simp only[go_sem,v2,zSh]) rfl rfl,
    Ya3 (by simp only[go_sem];rfl) rfl rfl rfl,Jip (.inl (by simp only[go_sem,v5])),(Y5 rfl).trans (by simp only[go_sem,List.map_append];rfl),(Y5 rfl).trans (by simp only[go_sem,w95]),by simp[hvl]⟩
structure P467 (S:St) (y:Rd) (sh:Shd) (es:List Entr) (ds:List Done) (j:Nat):Prop where
 r0:S.ρ 0=.lref 0 0
 r2:S.ρ 2=.lref 2 0
 r3:S.ρ 3=.lref 3 0
 m0:S.μ 0=some (eRd y,false)
 m2:S.μ 2=some (zSh,false)
 m3:S.μ 3=some (shP sh (nilOr 69 2 es.length) (nilOr 95 11 j),false)
 a69:S.A 69=YaM 2 (es.map YN) es.length
 a95:S.A 95=YaM 11 (ds.map Yt) j
 vl:ds.length=j
theorem YeB (h464:H464 Pg) (h493:H493 Pg) (h492:H492 Pg) (h465:H465 Pg) {y:Rd} {m:Nat} {sh:Shd} {es:List Entr} (hy:y.1.length≤2 ^ 20) (hm:m≤2 ^ 20) {S:St} {Q:Ex→St→Prop}
  (hS:P467 S y sh es [] 0) (s73:S.ρ 73=iz m) (s74:S.ρ 74=iz 0) (n5:S.μ 5=none)
  (hq:∀S',P467 S' (YK (gD false) m y).2 sh es (YK (gD false) m y).1 m→Q .norm S'):Wp (K' Pg) l467_2 S (Blk 4 Q):=by
 unfold l467_2
 refine JiG (fun (j:Nat) S'=>j≤m∧S'.ρ 73=iz m∧S'.ρ 74=iz j∧S'.μ 5=none∧∃(vs:List Done) (y':Rd),y'.1.length≤2 ^ 20∧
  YK (gD false) m y=(vs++(YK (gD false) (m-j) y').1,(YK (gD false) (m-j) y').2)∧P467 S' y' sh es vs j) (fun j=>m-j) 0 ?_ ?_
 ·exact⟨Nat.zero_le _,Jir s73 rfl,Jir s74 rfl,Jip (.inl n5),[],y,hy,rfl,Jir hS.r0 rfl,Jir hS.r2 rfl,Jir hS.r3 rfl,Jiq hS.m0 rfl rfl,Jiq hS.m2 rfl rfl,Ya3 hS.m3 rfl rfl rfl,(Y5 rfl).trans hS.a69,(Y5 rfl).trans hS.a95,rfl⟩
 ·intro j S' ⟨hj,t73,t74,m5,vs,y',hyl,hrep,hE⟩
  obtain⟨t0,t2,t3,m0,m2,m3,a69,a95,hvl⟩:=hE
  cases c1:decide ((j:Int)<(m:Int)) with
  |false=>
   have hjm:j=m:=by have:=of_decide_eq_false c1;omega
   subst hjm
   have he:=Ycp hrep
   simp only[go_sem,t73,t74,c1]
   rw[he] at hq
   exact hq _ ⟨by simp only[go_sem,t0],by simp only[go_sem,t2],by simp only[go_sem,t3],m0,m2,m3,a69,a95,hvl⟩
  |true=>
   have hlt:=Yg c1
   have hinc:IntKind.i64.wrap ((j:Int)+1)=((j+1:Nat):Int):=by rw[JiD (by omega) (by omega)];omega
   have hone:=rep_one hlt hrep
   have le:∀{α:Type} {R:Rd→α×Rd} {W:α→List UInt8} {P:α→Prop},Cod R W P→∀{x:Rd},x.1.length≤2 ^ 20→(R x).2.1.length≤2 ^ 20:=fun h x hx=>Nat.le_trans (h.len x) hx
   have k1:=K465 h465 y' (by omega)
   have hR:gD false y'=(mkD ((rd (tk 9) 0 y').1,(rd (tk 9) 0 (rd (tk 9) 0 y').2).1,(rd (tk 9) 0 (rd (tk 9) 0 (rd (tk 9) 0 y').2).2).1,(rd tkS zS (rd (tk 9) 0 (rd (tk 9) 0 (rd (tk 9) 0 y').2).2).2).1,
     (rd tkF false (rd tkS zS (rd (tk 9) 0 (rd (tk 9) 0 (rd (tk 9) 0 y').2).2).2).2).1,(rd tkT [] (rd tkF false (rd tkS zS (rd (tk 9) 0 (rd (tk 9) 0 (rd (tk 9) 0 y').2).2).2).2).2).1),
     (rd tkT [] (rd tkF false (rd tkS zS (rd (tk 9) 0 (rd (tk 9) 0 (rd (tk 9) 0 y').2).2).2).2).2).2):=rfl
   rw[hR] at hone
   have l1:=le codN hyl
   generalize rd (tk 9) 0 y'=p1 at *
   obtain⟨b1,x1⟩:=p1
   simp only at hone l1
   have k2:=K465 h465 x1 (by omega)
   have l2:=le codN l1
   generalize rd (tk 9) 0 x1=p2 at *
   obtain⟨b2,x2⟩:=p2
   simp only at hone l2
   have k3:=K465 h465 x2 (by omega)
   have l3:=le codN l2
   generalize rd (tk 9) 0 x2=p3 at *
   obtain⟨b3,x3⟩:=p3
   simp only at hone l3
   have k4:=K464 h464 x3 (by omega)
   have l4:=le (cS (D:=false)) l3
   change (rd tkS zS x3).2.1.length≤2 ^ 20 at l4
   generalize rd tkS zS x3=p4 at *
   obtain⟨b4,x4⟩:=p4
   simp only at hone l4
   have k5:=K493 h493 x4 (by omega)
   have l5:=le (cF (D:=false)) l4
   change (rd tkF false x4).2.1.length≤2 ^ 20 at l5
   generalize rd tkF false x4=p5 at *
   obtain⟨b5,x5⟩:=p5
   simp only at hone l5
   have k6:=K492 h492 x5 (by omega)
   have l6:=le (cT (D:=false)) l5
   change (rd tkT [] x5).2.1.length≤2 ^ 20 at l6
   generalize rd tkT [] x5=p6 at *
   obtain⟨b6,x6⟩:=p6
   simp only at hone l6
   have r1:=fun (S:St) (hm:S.μ 0=some (eRd y',false))=>rcall_rd (p:=21800) k1 hm
   have r2:=fun (S:St) (hm:S.μ 0=some (eRd x1,false))=>rcall_rd (p:=21900) k2 hm
   have r3:=fun (S:St) (hm:S.μ 0=some (eRd x2,false))=>rcall_rd (p:=22000) k3 hm
   have r4:=fun (S:St) (hm:S.μ 0=some (eRd x3,false))=>rcall_rd (p:=22100) k4 hm
   have r5:=fun (S:St) (hm:S.μ 0=some (eRd x4,false))=>rcall_rd (p:=22200) k5 hm
   have r6:=fun (S:St) (hm:S.μ 0=some (eRd x5,false))=>rcall_rd (p:=22300) k6 hm
   have hil:(vs.map Yt).length=j:=by simp[hvl]
   have ha:=fun S=>Ybn (S:=S) (s:=95) (z:=11) (r:=Yt (mkD (b1,b2,b3,b4,b5,b6))) hil (by unfold lim;omega)
   have v3:=m3
   simp only[shP] at v3
   simp only[go_sem,eSt,mkD,List.map_nil] at r1 r2 r3 r4 r5 r6 m0 ha
   simp only[go_sem,t0,t2,t3,t73,t74,c1,m0,m5,v3,a95,r1,r2,r3,r4,r5,r6,YaQ,ha,hinc]
   refine⟨j+1,by omega,by omega,rfl,vs++[mkD (b1,b2,b3,b4,b5,b6)],x6,l6,hone,Jir (by simp only[go_sem,t0]) rfl,Jir (by simp only[go_sem,t2]) rfl,Jir (by simp only[go_sem,t3]) rfl,Jiq (by simp only[go_sem]) rfl rfl,Jiq (by simp only[go_sem,m2,zSh]) rfl rfl,
    Ya3 (by simp only[go_sem];rfl) rfl rfl rfl,(Y5 rfl).trans (by simp only[go_sem,a69]),(Y5 rfl).trans (by simp only[go_sem,List.map_append];rfl),by simp[hvl]⟩
theorem Yeg {x:Rd} (hx:x.1.length≤2 ^ 20):(rL x).1≤2 ^ 20∧(rL x).2.1.length≤2 ^ 20:=by
 have hc:=(codN).len x
 unfold rL
 split
 ·exact⟨Nat.zero_le _,by simp only;omega⟩
 ·exact⟨by omega,by omega⟩
def H467 (Pg:Nat→Option Fn):Prop:=Pg 467=some (.codeR F467 0)∧H464 Pg∧H493 Pg∧H492 Pg∧H465 Pg∧H466 Pg
set_option maxHeartbeats 2000000 in
theorem K467 (h:H467 Pg) (x:Rd) (hx:x.1.length≤2 ^ 20):K' Pg 467 [.tuple (.lref 0 0::eRd x)]=some (.tuple [.agg (YE (gSh false x).1),.tuple (eRd (gSh false x).2)]):=by
 obtain⟨h,h464,h493,h492,h465,h466⟩:=h
 have le:∀{α:Type} {R:Rd→α×Rd} {W:α→List UInt8} {P:α→Prop},Cod R W P→∀{x:Rd},x.1.length≤2 ^ 20→(R x).2.1.length≤2 ^ 20:=fun h x hx=>Nat.le_trans (h.len x) hx
 have hR:∀{a1 a2 a3 a4 a5 a6 a7:Nat} {b1 b2:List UInt8} {c1 c2:Stamp} {x1 x2 x3 x4 x5 x6 x7 x8 x9 x10 x11:Rd},rd (tk 9) 0 x=(a1,x1)→rd (tk 9) 0 x1=(a2,x2)→rd (tk 9) 0 x2=(a3,x3)→rd (tk 9) 0 x3=(a4,x4)→rd (tk 9) 0 x4=(a5,x5)→rd (tk 9) 0 x5=(a6,x6)→rd (tk 9) 0 x6=(a7,x7)→
   rd tkT [] x7=(b1,x8)→rd tkT [] x8=(b2,x9)→rd tkS zS x9=(c1,x10)→rd tkS zS x10=(c2,x11)→
   gSh false x=(mkS (a1,a2,a3,a4,a5,a6,a7,b1,b2,c1,c2,(YK (gE false) (rL x11).1 (rL x11).2).1,(YK (gD false) (rL (YK (gE false) (rL x11).1 (rL x11).2).2).1 (rL (YK (gE false) (rL x11).1 (rL x11).2).2).2).1),(YK (gD false) (rL (YK (gE false) (rL x11).1 (rL x11).2).2).1 (rL (YK (gE false) (rL x11).1 (rL x11).2).2).2).2):=by
  intro a1 a2 a3 a4 a5 a6 a7 b1 b2 c1 c2 x1 x2 x3 x4 x5 x6 x7 x8 x9 x10 x11 e1 e2 e3 e4 e5 e6 e7 e8 e9 e10 e11
  have d1:gN false=rd (tk 9) 0:=rfl
  have d2:gT false=rd tkT []:=rfl
  have d3:gS false=rd tkS zS:=rfl
  simp only[gSh,mapR,pairR,d1,d2,d3,e1,e2,e3,e4,e5,e6,e7,e8,e9,e10,e11]
  rfl
 have k1:=K465 h465 x (by omega)
 have l1:(rd (tk 9) 0 x).2.1.length≤2 ^ 20:=le codN hx
 cases e1:rd (tk 9) 0 x with
 |mk a1 x1=>
 rw[e1] at k1 l1
 simp only at k1 l1
 have k2:=K465 h465 x1 (by omega)
 have l2:(rd (tk 9) 0 x1).2.1.length≤2 ^ 20:=le codN l1
 cases e2:rd (tk 9) 0 x1 with
 |mk a2 x2=>
 rw[e2] at k2 l2
 simp only at k2 l2
 have k3:=K465 h465 x2 (by omega)
 have l3:(rd (tk 9) 0 x2).2.1.length≤2 ^ 20:=le codN l2
 cases e3:rd (tk 9) 0 x2 with
 |mk a3 x3=>
 rw[e3] at k3 l3
 simp only at k3 l3
 have k4:=K465 h465 x3 (by omega)
 have l4:(rd (tk 9) 0 x3).2.1.length≤2 ^ 20:=le codN l3
 cases e4:rd (tk 9) 0 x3 with
 |mk a4 x4=>
 rw[e4] at k4 l4
 simp only at k4 l4
 have k5:=K465 h465 x4 (by omega)
 have l5:(rd (tk 9) 0 x4).2.1.length≤2 ^ 20:=le codN l4
 cases e5:rd (tk 9) 0 x4 with
 |mk a5 x5=>
 rw[e5] at k5 l5
 simp only at k5 l5
 have k6:=K465 h465 x5 (by omega)
 have l6:(rd (tk 9) 0 x5).2.1.length≤2 ^ 20:=le codN l5
 cases e6:rd (tk 9) 0 x5 with
 |mk a6 x6=>
 rw[e6] at k6 l6
 simp only at k6 l6
 have k7:=K465 h465 x6 (by omega)
 have l7:(rd (tk 9) 0 x6).2.1.length≤2 ^ 20:=le codN l6
 cases e7:rd (tk 9) 0 x6 with
 |mk a7 x7=>
 rw[e7] at k7 l7
 simp only at k7 l7
 have k8:=K492 h492 x7 (by omega)
 have l8:(rd tkT [] x7).2.1.length≤2 ^ 20:=le (cT (D:=false)) l7
 cases e8:rd tkT [] x7 with
 |mk b1 x8=>
 rw[e8] at k8 l8
 simp only at k8 l8
 have k9:=K492 h492 x8 (by omega)
 have l9:(rd tkT [] x8).2.1.length≤2 ^ 20:=le (cT (D:=false)) l8
 cases e9:rd tkT [] x8 with
 |mk b2 x9=>
 rw[e9] at k9 l9
 simp only at k9 l9
 have k10:=K464 h464 x9 (by omega)
 have l10:(rd tkS zS x9).2.1.length≤2 ^ 20:=le (cS (D:=false)) l9
 cases e10:rd tkS zS x9 with
 |mk c1 x10=>
 rw[e10] at k10 l10
 simp only at k10 l10
 have k11:=K464 h464 x10 (by omega)
 have l11:(rd tkS zS x10).2.1.length≤2 ^ 20:=le (cS (D:=false)) l10
 cases e11:rd tkS zS x10 with
 |mk c2 x11=>
 rw[e11] at k11 l11
 simp only at k11 l11
 rw[hR e1 e2 e3 e4 e5 e6 e7 e8 e9 e10 e11]
 have kL:=K466 h466 x11 (by omega)
 have lL:=Yeg l11
 generalize rL x11=pL at *
 obtain⟨m,y⟩:=pL
 simp only at kL lL ⊢
 have lE:=Nat.le_trans (Yby (cE (D:=false)) (k:=m) (x:=y)) lL.2
 generalize hE:YK (gE false) m y=pE at *
 obtain⟨es,y2⟩:=pE
 simp only at lE ⊢
 have kM:=K466 h466 y2 (by omega)
 have lM:=Yeg lE
 generalize rL y2=pM at *
 obtain⟨m2,y3⟩:=pM
 simp only at kM lM ⊢
 generalize hD:YK (gD false) m2 y3=pD at *
 obtain⟨ds,y4⟩:=pD
 simp only
 refine YcV [.cell 2 (some 17)] (ws:=[.agg _]) h rfl rfl (YQ _) (YQ _) (Ybj _) fun S ⟨r0,r,hm,m0,a0⟩=>?_
 have n2:=m0 2 rfl
 have n3:=m0 3 rfl
 have n4:=m0 4 rfl
 have n5:=m0 5 rfl
 have r1:=fun (S:St) (hm:S.μ 0=some (eRd x,false))=>rcall_rd (p:=20000) k1 hm
 have r2:=fun (S:St) (hm:S.μ 0=some (eRd x1,false))=>rcall_rd (p:=20100) k2 hm
 have r3:=fun (S:St) (hm:S.μ 0=some (eRd x2,false))=>rcall_rd (p:=20200) k3 hm
 have r4:=fun (S:St) (hm:S.μ 0=some (eRd x3,false))=>rcall_rd (p:=20300) k4 hm
 have r5:=fun (S:St) (hm:S.μ 0=some (eRd x4,false))=>rcall_rd (p:=20400) k5 hm
 have r6:=fun (S:St) (hm:S.μ 0=some (eRd x5,false))=>rcall_rd (p:=20500) k6 hm
 have r7:=fun (S:St) (hm:S.μ 0=some (eRd x6,false))=>rcall_rd (p:=20600) k7 hm
 have r8:=fun (S:St) (hm:S.μ 0=some (eRd x7,false))=>rcall_rd (p:=20700) k8 hm
 have r9:=fun (S:St) (hm:S.μ 0=some (eRd x8,false))=>rcall_rd (p:=20800) k9 hm
 have r10:=fun (S:St) (hm:S.μ 0=some (eRd x9,false))=>rcall_rd (p:=20900) k10 hm
 have r11:=fun (S:St) (hm:S.μ 0=some (eRd x10,false))=>rcall_rd (p:=21000) k11 hm
 have rA:=fun (S:St) (hm:S.μ 0=some (eRd x11,false))=>rcall_rd (p:=21100) kL hm
 have rB:=fun (S:St) (hm:S.μ 0=some (eRd y2,false))=>rcall_rd (p:=21700) kM hm
 simp only[go_sem,eSt] at hm r1 r2 r3 r4 r5 r6 r7 r8 r9 r10 r11 rA rB
 simp only[F467,c467,go_sem,r0,hm,n2,n3,r1,r2,r3,r4,r5,r6,r7,r8,r9,r10,r11,rA]
 refine Ye1 h464 h493 h492 h466 (y:=y) (m:=m) (sh:=mkS (a1,a2,a3,a4,a5,a6,a7,b1,b2,c1,c2,[],[])) lL.2 lL.1 ⟨by simp only[go_sem,r0],by simp only[go_sem],by simp only[go_sem],by simp only[go_sem],by simp only[go_sem,zSh],by simp only[go_sem];rfl,by simp only[go_sem,n5],a0 69,a0 95,rfl⟩ (by simp only[go_sem]) (by simp only[go_sem]) (by simp only[go_sem,n4]) (a0 62) fun S1 hE1=>?_
 rw[hE] at hE1
 obtain⟨t0,t2,t3,u0,u2,u3,u5,w69,w95,hvl⟩:=hE1
 simp only at hvl w69 u0
 simp only[go_sem] at u0
 simp only[go_sem,t0,t2,t3,u0,rB]
 refine YeB h464 h493 h492 h465 (y:=y3) (m:=m2) (sh:=mkS (a1,a2,a3,a4,a5,a6,a7,b1,b2,c1,c2,[],[])) (es:=es) lM.2 lM.1 ⟨by simp only[go_sem,t0],by simp only[go_sem,t2],by simp only[go_sem,t3],by simp only[go_sem],by simp only[go_sem,u2],by simp only[go_sem,u3,hvl],by simp only[go_sem,w69,hvl],by simp only[go_sem,w95];rfl,rfl⟩ (by simp only[go_sem]) (by simp only[go_sem]) (by simp only[go_sem,u5]) fun S2 hD1=>?_
 rw[hD] at hD1
 obtain⟨q0,q2,q3,v0,v2,v3,z69,z95,hdl⟩:=hD1
 simp only at hdl z95 v0
 have hc1:=Yac z69 (by simp)
 have hc2:=Yac z95 (by simp[hdl])
 simp only[shP,mkS] at v3
 simp only[zSh] at v2
 simp only[go_sem,q0,q2,q3,v2,v3,Yas]
 refine⟨v0,_,rfl,?_⟩
 simp only[go_sem,hc1,hc2,mkS]
theorem YaV {n:Int}:decide (n<1)=!decide (1≤n):=by by_cases h:1≤n<;>simp[h]<;>omega
theorem Ydv {n:Int}:decide (3<n)=!decide (n≤3):=by by_cases h:n≤3<;>simp[h]<;>omega
def rgB (m n:Int):Bool:=!(decide (n<m)||decide (1099511627776<n))
theorem rg1 (n:Int):rgB 1 n=YB n:=by
 simp only[rgB,YB];by_cases h:1≤n<;>by_cases h2:n≤1099511627776<;>simp[h,h2]<;>omega
theorem rg0 (n:Int):rgB 0 n=nou n:=by
 simp only[rgB,nou];by_cases h:0≤n<;>by_cases h2:n≤1099511627776<;>simp[h,h2]<;>omega
def H313 (Pg:Nat→Option Fn):Prop:=Pg 313=some (.code F313)
theorem K313 (h:H313 Pg) (n m:Int):K' Pg 313 [iz n,.cptr [iz m] 0]=some (.bool (decide (n<m)||decide (1099511627776<n))):=by
 refine K'_code h rfl ?_
 cases c:decide (n<m)<;>simp only[go_sem,c,Bool.true_or,Bool.false_or]
def H284 (Pg:Nat→Option Fn):Prop:=Pg 284=some (.code F284)∧H67 Pg∧H313 Pg
theorem K284 (h:H284 Pg) (m:Int) (l:List Int) (hl:l.length<2 ^ 60):K' Pg 284 [iz m,Ye l]=some (.bool (!(l.any fun n=>decide (n<m)||decide (1099511627776<n)))):=by
 obtain⟨h,h67,h313⟩:=h
 have k:=K67 h67 l 313 [.cptr [iz m] 0] (fun n=>decide (n<m)||decide (1099511627776<n)) hl rfl (fun n _=>K313 h313 n m)
 simp only[Ye] at k
 refine K'_code h rfl ?_
 simp only[go_sem,Ye,k]
theorem K284a (h:H284 Pg) (m a:Int):K' Pg 284 [iz m,.slice 1 [[iz a]]]=some (.bool (rgB m a)):=by
 have:=K284 h m [a] (by simp)
 simpa [Ye,rgB] using this
theorem K284b (h:H284 Pg) (m a b:Int):K' Pg 284 [iz m,.slice 1 [[iz a],[iz b]]]=some (.bool (rgB m a&&rgB m b)):=by
 have:=K284 h m [a,b] (by simp)
 simpa [Ye,rgB,Bool.and_assoc] using this
theorem K284d (h:H284 Pg) (m a b c d:Int):K' Pg 284 [iz m,.slice 1 [[iz a],[iz b],[iz c],[iz d]]]=some (.bool (rgB m a&&(rgB m b&&(rgB m c&&rgB m d)))):=by
 have:=K284 h m [a,b,c,d] (by simp)
 simpa [Ye,rgB,Bool.and_assoc] using this
def H298 (Pg:Nat→Option Fn):Prop:=Pg 298=some (.code F298)∧H171 Pg
theorem K298 (h:H298 Pg) (e:Entr) (s:Shd):K' Pg 298 [.agg (YN e),.cptr (YE s) 0]=some (.bool (!Yab s.span e.key)):=by
 obtain⟨h,h171⟩:=h
 have k:=K171 h171 s.span e.key
 simp only[YD] at k
 refine K'_code h rfl ?_
 simp only[go_sem,Ya,k]
def YcJ:List Entr→(Entr→Bool)→Nat→Int
 |[],_,_=>-1
 |a::l,p,i=>if p a then i else YcJ l p (i+1)
theorem Ydd:∀{l:List Entr} {p:Entr→Bool} {i:Nat},decide (0≤YcJ l p i)=l.any p
 |[],p,i=>by simp[YcJ]
 |a::l,p,i=>by
  simp only[YcJ]
  split
  ·rename_i h;simp[h]
  ·rename_i h;rw[Ydd];simp[h]
def H315 (Pg:Nat→Option Fn):Prop:=Pg 315=some (.code F315)
theorem K315 (h:H315 Pg) (l:List Entr) (g:Nat) (cap:List V) (p:Entr→Bool) (hl:l.length<2 ^ 60) (hg:∀x∈l,K' Pg g (.agg (YN x)::cap)=some (.bool (p x))) :
  K' Pg 315 [Yl l,.func g cap]=some (iz (YcJ l p 0)):=by
 refine K'_code h rfl ?_
 simp only[YN,Ya] at hg
 simp only[go_sem]
 unfold l315_0
 refine JiG (fun (i:Nat) S=>i≤l.length∧S.ρ 0=Yl l∧S.ρ 1=.func g cap∧S.ρ 7=iz l.length∧S.ρ 8=iz i∧YcJ (l.drop i) p i=YcJ l p 0) (fun i=>l.length-i) 0 ?_ ?_
 ·simp[go_sem]
 ·intro i S ⟨hi,h0,h1,h7,h8,ho⟩
  simp only[go_sem,h0,h1,h7,h8]
  refine JiH (fun h=>?_) (fun h=>?_)
  ·have h:=Yg h
   obtain⟨x,hx,hd⟩:=Jin h
   rw[hd] at ho
   have hgx:=hg x (List.mem_of_getElem? hx)
   simp only[go_sem,Ya,h0,h1,h7,h8,hx,hgx]
   refine JiH (fun hc=>?_) (fun hc=>?_)
   ·simp only[YcJ,hc,if_true] at ho
    simp only[go_sem,←ho]
   ·simp only[YcJ,hc,Bool.false_eq_true,if_false] at ho
    simp only[go_sem,h0,h1,h7,h8]
    exact⟨i+1,by omega,by omega,by rw[Yi h hl],ho⟩
  ·have h:=Ym hi h
   subst h
   simp only[List.drop_length,YcJ] at ho
   simp only[go_sem,←ho]
def H299 (Pg:Nat→Option Fn):Prop:=Pg 299=some (.code F299)∧H315 Pg
theorem K299 (h:H299 Pg) (l:List Entr) (g:Nat) (cap:List V) (p:Entr→Bool) (hl:l.length<2 ^ 60) (hg:∀x∈l,K' Pg g (.agg (YN x)::cap)=some (.bool (p x))) :
  K' Pg 299 [Yl l,.func g cap]=some (.bool (l.any p)):=by
 obtain⟨h,h315⟩:=h
 have k:=K315 h315 l g cap p hl hg
 simp only[Yl] at k
 refine K'_code h rfl ?_
 simp only[go_sem,k,Ydd]
theorem Yeu {α:Type} {l:List α} {p:α→Bool}:(!(l.any fun x=>!p x))=l.all p:=by
 induction l with
 |nil=>rfl
 |cons a l ih=>simp only[List.any_cons,List.all_cons,←ih];cases p a<;>simp
def H244 (Pg:Nat→Option Fn):Prop:=Pg 244=some (.code F244)∧H28 Pg∧H81 Pg∧H186 Pg∧H203 Pg∧H284 Pg∧H298 Pg∧H299 Pg
theorem K244 (h:H244 Pg) (s:Shd) (hs:SmS s):K' Pg 244 [.agg (YE s)]=some (.bool (shR s)):=by
 obtain⟨h,h28,h81,h186,h203,h284,h298,h299⟩:=h
 have hlen:=hs.1.len
 have a1:=K284b h284 1 s.id s.epoch
 have a2:=K284d h284 0 s.hold s.seen s.move s.closed
 have k186:=K186 h186 s.span
 have k203:=K203 h203 s.ents hs.1
 have kmark:=K28 h28 s.mark
 have ktop:=K28 h28 s.top
 have k81:=K81 h81 s.done (by have:=hs.2.1;omega)
 have k299:=K299 h299 s.ents 298 [.cptr (YE s) 0] (fun e=>!Yab s.span e.key) (by omega) (fun e _=>K298 h298 e s)
 simp only[rg1] at a1
 simp only[rg0] at a2
 simp only[YE,YD,Yd,Yl,Yh] at k186 k203 kmark ktop k81 k299
 clear hs hlen h28 h81 h186 h203 h284 h298 h299
 refine K'_code h rfl ?_
 clear h
 cases c1:YB s.id with
 |false=>simp only[go_sem,shR,shR0, *]
 |true=>
 cases c2:YB s.epoch with
 |false=>simp only[go_sem,shR,shR0, *]
 |true=>
 cases c3:nou s.hold with
 |false=>simp only[go_sem,shR,shR0, *]
 |true=>
 cases c4:nou s.seen with
 |false=>simp only[go_sem,shR,shR0, *]
 |true=>
 cases c5:nou s.move with
 |false=>simp only[go_sem,shR,shR0, *]
 |true=>
 cases c6:nou s.closed with
 |false=>simp only[go_sem,shR,shR0, *]
 |true=>
 cases c7:decide (1≤s.phase) with
 |false=>simp only[go_sem,shR,shR0,YaV, *]
 |true=>
 cases c8:decide (s.phase≤3) with
 |false=>simp only[go_sem,shR,shR0,YaV,Ydv, *]
 |true=>
 cases c9:Yp s.span with
 |false=>simp only[go_sem,shR,shR0,YaV,Ydv, *]
 |true=>
 cases c10:ixR s.ents with
 |false=>simp only[go_sem,shR,shR0,YaV,Ydv, *]
 |true=>
 cases c11:Yb s.mark with
 |false=>simp only[go_sem,shR,shR0,YaV,Ydv, *]
 |true=>
 cases c12:Yb s.top with
 |false=>simp only[go_sem,shR,shR0,YaV,Ydv, *]
 |true=>
 cases c13:Yn s.done with
 |false=>simp only[go_sem,shR,shR0,YaV,Ydv, *]
 |true=>
 simp only[go_sem,shR,shR0,YaV,Ydv,Yeu, *]
def H292 (Pg:Nat→Option Fn):Prop:=Pg 292=some (.code F292)
theorem Yef {n:Int}:decide (0<n)=decide (1≤n):=decide_eq_decide.2 (by omega)
theorem K292 (h:H292 Pg) (n:Int):K' Pg 292 [iz n]=some (.bool (YB n)):=by
 refine K'_code h rfl ?_
 simp only[go_sem,Yef]
 cases c1:decide (1≤n)<;>simp only[go_sem,c1,YB]
def H293 (Pg:Nat→Option Fn):Prop:=Pg 293=some (.code F293)∧H292 Pg
theorem K293 (h:H293 Pg) (n:Int):K' Pg 293 [iz n]=some (.bool (nou n)):=by
 obtain⟨h,h292⟩:=h
 have k:=K292 h292 n
 have e:nou n=(decide (n=0)||YB n):=by
  simp only[nou,YB]
  by_cases h1:n=0<;>by_cases h2:0≤n<;>by_cases h3:n≤1099511627776<;>by_cases h4:1≤n<;>simp[h1,h2,h3,h4]<;>omega
 refine K'_code h rfl ?_
 rw[e]
 cases c1:decide (n=0)<;>simp only[go_sem,c1,k,Bool.true_or,Bool.false_or]
def H245 (Pg:Nat→Option Fn):Prop:=Pg 245=some (.code F245)∧H24 Pg∧H80 Pg∧H142 Pg∧H167 Pg∧H204 Pg∧H292 Pg∧H293 Pg
theorem K245 (h:H245 Pg) (s:Shd) (hs:SmS s):K' Pg 245 [.agg (YE s)]=some (.bool (shR s)):=by
 obtain⟨h,h24,h80,h142,h167,h204,h292,h293⟩:=h
 have hlen:=hs.1.len
 have k292:=fun n=>K292 h292 n
 have k293:=fun n=>K293 h293 n
 have k167:=K167 h167 s.span
 have k204:=K204 h204 s.ents hs.1
 have kmark:=K24 h24 s.mark
 have ktop:=K24 h24 s.top
 have k80:=K80 h80 s.done (by have:=hs.2.1;omega)
 have k142:=fun k=>K142 h142 s.span k
 simp only[YD,Yd,Yl,Yh] at k167 k204 kmark ktop k80 k142
 clear hs h24 h80 h142 h167 h204 h292 h293
 refine K'_code h rfl ?_
 clear h
 cases c1:YB s.id with
 |false=>simp only[go_sem,shR,shR0, *]
 |true=>
 cases c2:YB s.epoch with
 |false=>simp only[go_sem,shR,shR0, *]
 |true=>
 cases c3:nou s.hold with
 |false=>simp only[go_sem,shR,shR0, *]
 |true=>
 cases c4:nou s.seen with
 |false=>simp only[go_sem,shR,shR0, *]
 |true=>
 cases c5:nou s.move with
 |false=>simp only[go_sem,shR,shR0, *]
 |true=>
 cases c6:nou s.closed with
 |false=>simp only[go_sem,shR,shR0, *]
 |true=>
 cases p1:decide (1≤s.phase) with
 |false=>
  have q1:decide (s.phase=1)=false:=decide_eq_false (by have:=of_decide_eq_false p1;omega)
  have q2:decide (s.phase=2)=false:=decide_eq_false (by have:=of_decide_eq_false p1;omega)
  have q3:decide (s.phase=3)=false:=decide_eq_false (by have:=of_decide_eq_false p1;omega)
  simp only[go_sem,shR,shR0, *]
 |true=>
 cases p2:decide (s.phase≤3) with
 |false=>
  have q1:decide (s.phase=1)=false:=decide_eq_false (by have:=of_decide_eq_false p2;omega)
  have q2:decide (s.phase=2)=false:=decide_eq_false (by have:=of_decide_eq_false p2;omega)
  have q3:decide (s.phase=3)=false:=decide_eq_false (by have:=of_decide_eq_false p2;omega)
  simp only[go_sem,shR,shR0, *]
 |true=>
 have fin:∀S:St,S.ρ 1=.lref 1 0→S.μ 1=some (YE s,false)→S.ρ 3=iz 0→shR0 s=true→Wp (K' Pg) (.seq (.block 0 l245_0) (.seq (.region false r245_10) .ret)) S (fun ex S=>(ex=.norm∨ex=.ret)∧JaE F245 S=some (.bool (shR s))):=by
  intro S g1 m1 g3 hr
  have e:shR s=s.ents.all fun e=>Yab s.span e.key:=by simp[shR,hr]
  rw[e]
  simp only[go_sem,g1,m1,g3]
  unfold l245_0
  refine JiG (fun (i:Nat) S=>i≤s.ents.length∧S.ρ 1=.lref 1 0∧S.μ 1=some (YE s,false)∧S.ρ 3=iz i∧((s.ents.drop i).all fun e=>Yab s.span e.key)=s.ents.all fun e=>Yab s.span e.key) (fun i=>s.ents.length-i) 0 ?_ ?_
  ·simp[go_sem,g1,m1,g3]
  ·intro i S ⟨hi,g1,m1,g3,ho⟩
   simp only[go_sem,g1,m1,g3]
   refine JiH (fun h=>?_) (fun h=>?_)
   ·have h:=Yg h
    obtain⟨x,hx,hd⟩:=Jin h
    rw[hd,List.all_cons] at ho
    simp only[go_sem,g1,m1,g3,hx,Ya,k142]
    cases c:Yab s.span x.key with
    |false=>
     rw[c,Bool.false_and] at ho
     simp only[go_sem,←ho]
    |true=>
     rw[c,Bool.true_and] at ho
     simp only[go_sem,g1,m1,g3]
     exact⟨i+1,by omega,by omega,by rw[Yi h (by omega)],ho⟩
   ·have h:=Ym hi h
    subst h
    rw[List.drop_length,List.all_nil] at ho
    simp only[go_sem,←ho]
 have hq:∀b,(decide (s.phase=1)=true∨(decide (s.phase=1)=false∧decide (s.phase=2)=true)∨(decide (s.phase=1)=false∧decide (s.phase=2)=false∧decide (s.phase=3)=true))∨b=true:=fun b=>by
  have:=of_decide_eq_true p1
  have:=of_decide_eq_true p2
  left
  by_cases h1:s.phase=1
  ·left;simp[h1]
  ·by_cases h2:s.phase=2
   ·right;left;simp[h2]
   ·right;right;have:s.phase=3:=by omega
    simp[this]
 have hq:=(hq false).resolve_right (by simp)
 rcases hq with q1|⟨q1,q2⟩|⟨q1,q2,q3⟩
 all_goals
  cases c9:Yp s.span with
  |false=>simp only[go_sem,shR,shR0, *]
  |true=>
  cases c10:ixR s.ents with
  |false=>simp only[go_sem,shR,shR0, *]
  |true=>
  cases c11:Yb s.mark with
  |false=>simp only[go_sem,shR,shR0, *]
  |true=>
  cases c12:Yb s.top with
  |false=>simp only[go_sem,shR,shR0, *]
  |true=>
  cases c13:Yn s.done with
  |false=>simp only[go_sem,shR,shR0, *]
  |true=>
  have hr:shR0 s=true:=by simp only[shR0,Bool.and_self, *]
  simp only[go_sem, *,-fin,-hr]
  exact Yeq (fin _ (by simp only[go_sem]) (by simp only[go_sem]) (by simp only[go_sem]) hr)
def H316 (Pg:Nat→Option Fn):Prop:=Pg 316=some (.code F316)∧H15 Pg
theorem K316 (h:H316 Pg) (e:Entr) (t:Stamp) (v:Ver) (hv:e.chain.getLast?=some v) (hl:e.chain.length≤10000):K' Pg 316 [.agg (YN e),.cptr (Yd t) 0]=some (.bool (decide (0<Yc v.at_ t))):=by
 obtain⟨h,h15⟩:=h
 have k15:=K15 h15 v.at_ t
 have hpos:0<e.chain.length:=List.length_pos_iff.2 fun e0=>by rw[e0] at hv;simp at hv
 have hx:e.chain[e.chain.length-1]?=some v:=by rw[←List.getLast?_eq_getElem?];exact hv
 have hdec:IntKind.i64.wrap ((e.chain.length:Int)-1)=((e.chain.length-1:Nat):Int):=YbJ hpos (by omega)
 simp only[Yd] at k15
 refine K'_code h rfl ?_
 simp only[go_sem,Ya,hdec,hx,k15]
def Ycg (t:Stamp) (e:Entr):Bool:=match e.chain.getLast? with|some v=>decide (0<Yc v.at_ t)|none=>false
theorem YcU {s:Shd} {t:Stamp}:uptoE s t=!(s.ents.any (Ycg t)):=by
 rw[List.not_any_eq_all_not]
 simp only[uptoE]
 congr 1
 funext e
 unfold Ycg
 cases e.chain.getLast? with
 |none=>rfl
 |some v=>by_cases h:Yc v.at_ t≤0<;>simp[h]<;>omega
def H301 (Pg:Nat→Option Fn):Prop:=Pg 301=some (.code F301)∧H299 Pg∧H316 Pg
theorem K301 (h:H301 Pg) (s:Shd) (t:Stamp) (hs:Sm s.ents) (hn:∀e∈s.ents,e.chain≠[]):K' Pg 301 [.agg (YE s),.agg (Yd t)]=some (.bool (uptoE s t)):=by
 obtain⟨h,h299,h316⟩:=h
 have hlen:=hs.len
 have k:=K299 h299 s.ents 316 [.cptr (Yd t) 0] (Ycg t) (by omega) (fun e he=>by
  cases hv:e.chain.getLast? with
  |none=>exact absurd (List.getLast?_eq_none_iff.1 hv) (hn e he)
  |some v=>rw[K316 h316 e t v hv (hs.2 e he).1];simp only[Ycg,hv])
 simp only[Yl,Yd] at k
 refine K'_code h rfl ?_
 simp only[go_sem,k,YcU]
theorem Ydn {s:Shd} (h:shR s=true):ixR s.ents=true∧∀e∈s.ents,e.chain≠[]:=by
 simp only[shR,shR0,Bool.and_eq_true] at h
 exact⟨h.1.2.2.2.2.2.2.2.2.2.1,fun e he=>(Yam.1 ((Yah.1 h.1.2.2.2.2.2.2.2.2.2.1).2.2 e he)).2.1⟩
theorem Yek {s:Shd} (h:shR s=true):1≤s.id∧s.id≤1099511627776:=by
 simp only[shR,shR0,Bool.and_eq_true,YB,decide_eq_true_eq] at h
 exact h.1.1
def Ybg (l:List Shd) (i:Nat):Int:=if i=0 then 0 else (l[i-1]?.map Shd.id).getD 0
theorem Ycl {l:List Shd} {i:Nat} {x:Shd} (h:l[i]?=some x):Ybg l (i+1)=x.id:=by simp[Ybg,h]
def H249 (Pg:Nat→Option Fn):Prop:=Pg 249=some (.code F249)∧H28 Pg∧H244 Pg∧H284 Pg∧H301 Pg
theorem le8 {n:Nat}:decide ((n:Int)≤8)=decide (n≤8):=led (b:=8)
theorem gt8 {n:Nat}:decide ((8:Int)<(n:Int))=!decide (n≤8):=gtd (a:=8)
theorem Yb8 {a b:Int}:decide (a≤b)=!decide (b<a):=by by_cases h:b<a<;>simp[h]<;>omega
theorem K249 (h:H249 Pg) (c:Cel) (hc:SmC c):K' Pg 249 [.agg (Y8 c)]=some (.bool (Y0 c)):=by
 obtain⟨h,h28,h244,h284,h301⟩:=h
 have hlen:=hc.1
 have k28:=K28 h28 c.top
 have k284:=K284a h284 0 c.dropped
 simp only[rg0] at k284
 simp only[Yd] at k28
 refine K'_code h rfl ?_
 simp only[go_sem]
 unfold l249_0
 refine JiG (fun (i:Nat) S=>i≤c.shards.length∧S.ρ 1=.lref 1 0∧S.μ 1=some (Y8 c,false)∧S.ρ 3=iz (Ybg c.shards i)∧S.μ 5=none∧S.ρ 7=YbK c.shards∧S.ρ 8=iz c.shards.length∧S.ρ 9=iz i∧cgo c.top (Ybg c.shards i) (c.shards.drop i)=cgo c.top 0 c.shards) (fun i=>c.shards.length-i) 0 ?_ ?_
 ·simp[go_sem,Ybg]
 ·intro i S ⟨hi,h1,m1,h3,m5,h7,h8,h9,ho⟩
  simp only[go_sem,h1,m1,h3,m5,h7,h8,h9]
  refine JiH (fun h=>?_) (fun h=>?_)
  ·have h:=Yg h
   obtain⟨x,hx,hd⟩:=Jin h
   have hxs:=hc.2 x (List.mem_of_getElem? hx)
   have k244:=K244 h244 x hxs
   have hinc:IntKind.i64.wrap ((i:Int)+1)=((i+1:Nat):Int):=Yi h (by omega)
   rw[hd] at ho
   simp only[cgo] at ho
   simp only[YE,Yl,Yh] at k244
   simp only[go_sem,h1,m1,h3,m5,h7,h8,h9,hx,Yb8]
   cases c1:decide (Ybg c.shards i<x.id) with
   |false=>
    simp only[c1,Bool.false_and] at ho
    simp only[go_sem,h1,m1,h3,m5,h7,h8,h9,hx,Yb8,c1,Y0,←ho]
   |true=>
   cases c2:shR x with
   |false=>
    simp only[c1,c2,Bool.false_and,Bool.and_false] at ho
    simp only[go_sem,h1,m1,h3,m5,h7,h8,h9,hx,Yb8,c1,c2,k244,Y0,←ho]
   |true=>
   have k301:=K301 h301 x c.top hxs.1 (Ydn c2).2
   simp only[YE,Yl,Yh,Yd] at k301
   cases c3:uptoE x c.top with
   |false=>
    simp only[c1,c2,c3,Bool.false_and,Bool.and_false] at ho
    simp only[go_sem,h1,m1,h3,m5,h7,h8,h9,hx,Yb8,c1,c2,c3,k244,k301,Y0,←ho]
   |true=>
   simp only[c1,c2,c3,Bool.true_and] at ho
   simp only[go_sem,h1,m1,h3,m5,h7,h8,h9,hx,Yb8,c1,c2,c3,k244,k301]
   exact⟨i+1,by omega,by omega,by rw[Ycl hx],by rw[hinc],by rw[Ycl hx];exact ho⟩
  ·have h:=Ym hi h
   subst h
   rw[List.drop_length] at ho
   simp only[cgo] at ho
   simp only[go_sem,h1,m1,le8]
   cases c1:decide (c.shards.length≤8) with
   |false=>simp only[go_sem,h1,m1,c1,Y0]
   |true=>
   cases c2:Yb c.top with
   |false=>simp only[go_sem,h1,m1,c1,c2,k28,Y0]
   |true=>simp only[go_sem,h1,m1,c1,c2,k28,k284,Y0,←ho]
theorem Yds {c:List Ver} {v:Ver} {t:Stamp} (hr:Yf c=true) (hv:c.getLast?=some v):(c.any fun x=>before t x.at_)=decide (0<Yc v.at_ t):=by
 have hc:=(YP hr).1
 have hx:c[c.length-1]?=some v:=by rw[←List.getLast?_eq_getElem?];exact hv
 have hlt:∀{a b:Stamp},before a b=decide (0<Yc b a):=fun {a b}=>by
  simp only[before]
  refine decide_eq_decide.2 ?_
  have:=@YbS a b
  constructor
  ·intro h;rcases Int.lt_trichotomy (Yc b a) 0 with q|q|q
   ·have:=this.2 (by omega);omega
   ·have:=this.2 (by omega);omega
   ·exact q
  ·intro h
   rcases Int.lt_trichotomy (Yc a b) 0 with q|q|q
   ·exact q
   ·have:=this.1 (by omega);omega
   ·have:=this.1 (by omega);omega
 cases q:decide (0<Yc v.at_ t) with
 |true=>exact List.any_eq_true.2 ⟨v,List.mem_of_getElem? hx,by rw[hlt];exact q⟩
 |false=>
  refine List.any_eq_false.2 fun y hy=>?_
  obtain⟨i,hi⟩:=List.mem_iff_getElem?.1 hy
  have hil:=(List.getElem?_eq_some_iff.1 hi).1
  rw[hlt]
  have hq:=of_decide_eq_false q
  by_cases e:i=c.length-1
  ·subst e
   rw[hx] at hi
   obtain rfl:v=y:=by simpa using hi
   simpa using hq
  ·have hlt2:=YbE hc (show i<c.length-1 by omega) hi hx
   have h1:=Y4.1 hlt2
   have h2:¬0<Yc y.at_ t:=fun h3=>by
    have h3:=YbL.1 h3
    have h4:¬0<Yc v.at_ t:=hq
    rw[YbL] at h4
    omega
   simpa using h2
def H300 (Pg:Nat→Option Fn):Prop:=Pg 300=some (.code F300)∧H6 Pg
theorem K300 (h:H300 Pg) (s:Shd) (t:Stamp) (hs:Sm s.ents) (hr:ixR s.ents=true):K' Pg 300 [.agg (YE s),.agg (Yd t)]=some (.bool (uptoE s t)):=by
 obtain⟨h,h6⟩:=h
 have hlen:=hs.len
 have k6:=fun x=>K6 h6 t x
 simp only[Yd] at k6
 have he:∀e∈s.ents,(e.chain.any fun x=>before t x.at_)=Ycg t e:=fun e he=>by
  obtain⟨-,hn,hc⟩:=Yam.1 ((Yah.1 hr).2.2 e he)
  cases hv:e.chain.getLast? with
  |none=>exact absurd (List.getLast?_eq_none_iff.1 hv) hn
  |some v=>rw[Yds hc hv];simp only[Ycg,hv]
 refine K'_code h rfl ?_
 rw[YcU]
 simp only[go_sem]
 unfold l300_0
 refine JiG (fun (i:Nat) S=>i≤s.ents.length∧S.ρ 2=.lref 2 0∧S.μ 2=some (YE s,false)∧S.ρ 3=.lref 3 0∧S.μ 3=some (Yd t,false)∧S.ρ 5=iz i∧(s.ents.drop i).any (Ycg t)=s.ents.any (Ycg t)) (fun i=>s.ents.length-i) 0 ?_ ?_
 ·simp[go_sem]
 ·intro i S ⟨hi,h2,m2,h3,m3,h5,ho⟩
  simp only[go_sem,h2,m2,h3,m3,h5]
  refine JiH (fun h=>?_) (fun h=>?_)
  ·have h:=Yg h
   obtain⟨x,hx,hd⟩:=Jin h
   have hinc:IntKind.i64.wrap ((i:Int)+1)=((i+1:Nat):Int):=Yi h (by omega)
   have hxl:=(hs.at hx).1
   rw[hd,List.any_cons,←he x (List.mem_of_getElem? hx)] at ho
   simp only[go_sem,h2,m2,h3,m3,h5]
   unfold l300_1
   refine JiG (fun (j:Nat) S=>j≤x.chain.length∧S.ρ 2=.lref 2 0∧S.μ 2=some (YE s,false)∧S.ρ 3=.lref 3 0∧S.μ 3=some (Yd t,false)∧S.ρ 5=iz i∧S.ρ 6=iz j∧((x.chain.drop j).any fun y=>before t y.at_)=x.chain.any fun y=>before t y.at_) (fun j=>x.chain.length-j) 0 ?_ ?_
   ·simp[go_sem,h2,m2,h3,m3,h5]
   ·intro j S ⟨hj,h2,m2,h3,m3,h5,h6',hw⟩
    simp only[go_sem,h2,m2,h3,m3,h5,h6',hx,Ya]
    refine JiH (fun h'=>?_) (fun h'=>?_)
    ·have h':=Yg h'
     obtain⟨y,hy,hd'⟩:=Jin h'
     rw[hd',List.any_cons] at hw
     simp only[go_sem,h2,m2,h3,m3,h5,h6',hx,hy,Ya,k6]
     cases q:before t y.at_ with
     |true=>
      rw[q,Bool.true_or] at hw
      rw[←hw,Bool.true_or] at ho
      simp only[go_sem,←ho]
     |false=>
      rw[q,Bool.false_or] at hw
      simp only[go_sem,h2,m2,h3,m3,h5,h6']
      exact⟨j+1,by omega,by omega,by rw[Yi h' (by omega)],hw⟩
    ·have h':=Ym hj h'
     subst h'
     rw[List.drop_length,List.any_nil] at hw
     rw[←hw,Bool.false_or] at ho
     simp only[go_sem,h2,m2,h3,m3,h5,h6',hinc]
     exact⟨i+1,by omega,by omega,rfl,ho⟩
  ·have h:=Ym hi h
   subst h
   rw[List.drop_length,List.any_nil] at ho
   simp only[go_sem,←ho]
def H246 (Pg:Nat→Option Fn):Prop:=Pg 246=some (.code F246)∧H24 Pg∧H245 Pg∧H293 Pg∧H300 Pg
theorem K246 (h:H246 Pg) (c:Cel) (hc:SmC c):K' Pg 246 [.agg (Y8 c)]=some (.bool (Y0 c)):=by
 obtain⟨h,h24,h245,h293,h300⟩:=h
 have k24:=K24 h24 c.top
 have k293:=K293 h293 c.dropped
 simp only[Yd] at k24
 refine K'_code h rfl ?_
 cases c1:decide (c.shards.length≤8) with
 |false=>simp only[go_sem,gt8,c1,Y0]
 |true=>
 cases c2:Yb c.top with
 |false=>simp only[go_sem,gt8,c1,c2,k24,Y0]
 |true=>
 cases c3:nou c.dropped with
 |false=>simp only[go_sem,gt8,c1,c2,c3,k24,k293,Y0]
 |true=>
 have hlen:=of_decide_eq_true c1
 have e:Y0 c=cgo c.top 0 c.shards:=by simp only[Y0,c1,c2,c3,Bool.true_and]
 rw[e]
 simp only[go_sem,gt8,c1,c2,c3,k24,k293]
 unfold l246_0
 refine JiG (fun (i:Nat) S=>i≤c.shards.length∧S.ρ 1=.lref 1 0∧S.μ 1=some (Y8 c,false)∧S.ρ 3=iz i∧cgo c.top (Ybg c.shards i) (c.shards.drop i)=cgo c.top 0 c.shards) (fun i=>c.shards.length-i) 0 ?_ ?_
 ·simp[go_sem,Ybg]
 ·intro i S ⟨hi,h1,m1,h3,ho⟩
  simp only[go_sem,h1,m1,h3]
  refine JiH (fun h=>?_) (fun h=>?_)
  ·have h:=Yg h
   obtain⟨x,hx,hd⟩:=Jin h
   have hxs:=hc.2 x (List.mem_of_getElem? hx)
   have k245:=K245 h245 x hxs
   have hinc:IntKind.i64.wrap ((i:Int)+1)=((i+1:Nat):Int):=Yi h (by omega)
   rw[hd] at ho
   simp only[cgo] at ho
   simp only[YE,Yl,Yh] at k245
   simp only[go_sem,h1,m1,h3,hx,k245]
   cases p2:shR x with
   |false=>
    simp only[p2,Bool.false_and,Bool.and_false] at ho
    simp only[go_sem,h1,m1,h3,hx,p2,←ho]
   |true=>
   have k300:=K300 h300 x c.top hxs.1 (Ydn p2).1
   simp only[YE,Yl,Yh,Yd] at k300
   cases p3:uptoE x c.top with
   |false=>
    simp only[p2,p3,Bool.false_and,Bool.and_false] at ho
    simp only[go_sem,h1,m1,h3,hx,p2,p3,k300,←ho]
   |true=>
   simp only[p2,p3,Bool.true_and] at ho
   rcases Nat.eq_zero_or_pos i with hz|hz
   ·have hgt:decide ((0:Int)<(i:Int))=false:=decide_eq_false (by omega)
    have hl:decide (Ybg c.shards i<x.id)=true:=decide_eq_true (by
     have:=(Yek p2).1
     simp[Ybg,hz];omega)
    rw[hl,Bool.true_and] at ho
    simp only[go_sem,h1,m1,h3,hx,p2,p3,k300,hgt]
    exact⟨i+1,by omega,by omega,by rw[hinc],by rw[Ycl hx];exact ho⟩
   ·have hgt:decide ((0:Int)<(i:Int))=true:=decide_eq_true (by omega)
    have hdec:IntKind.i64.wrap ((i:Int)-1)=((i-1:Nat):Int):=YbJ hz (by omega)
    obtain⟨y,hy,-⟩:=Jin (l:=c.shards) (i:=i-1) (by omega)
    have hp:Ybg c.shards i=y.id:=by simp[Ybg,Nat.ne_of_gt hz,hy]
    rw[hp] at ho
    simp only[go_sem,h1,m1,h3,hx,p2,p3,k300,hgt,hdec,hy,Yb8]
    cases q:decide (y.id<x.id) with
    |false=>
     rw[q,Bool.false_and] at ho
     simp only[go_sem,←ho]
    |true=>
     rw[q,Bool.true_and] at ho
     simp only[go_sem,h1,m1,h3]
     exact⟨i+1,by omega,by omega,by rw[hinc],by rw[Ycl hx];exact ho⟩
  ·have h:=Ym hi h
   subst h
   rw[List.drop_length] at ho
   simp only[cgo] at ho
   simp only[go_sem,←ho]
theorem Ycn {α:Type} {W:α→List UInt8} {P:α→Prop} (hW:∀a,P a→1≤(W a).length) {l:List α} (hl:∀a∈l,P a):l.length≤(Yav W l).length∧∀a∈l,(W a).length≤(Yav W l).length:=by
 have h1:=Ybr hW hl
 refine⟨by simp only[Yav,List.length_append];omega,fun a ha=>?_⟩
 have:(W a).length≤(l.flatMap W).length:=by
  clear h1 hl
  induction l with
  |nil=>simp at ha
  |cons b l ih=>
   simp only[List.flatMap_cons,List.length_append]
   rcases List.mem_cons.1 ha with rfl|ha
   ·omega
   ·have:=ih ha;omega
 simp only[Yav,List.length_append];omega
theorem YcG {t:List UInt8}:t.length≤(YH t).length:=by simp[YH]
theorem YeC {e:Entr} (h:Ydp e):e.key.length≤(Yag e).length∧e.chain.length≤(Yag e).length:=by
 have h1:=YcG (t:=e.key)
 have h2:=(Ycn Yc8 h.2.2).1
 simp only[Yag,List.length_append];omega
theorem YdA {s:Shd} (h:ShV s) (hl:(shB s).length≤10000):SmS s:=by
 obtain⟨⟨a1,a2,a3,a4,a5,a6,a7,a8,a9,a10,a11,⟨a12,a13⟩,⟨a14,a15⟩⟩,-⟩:=h
 obtain⟨e1,e2⟩:=Ycn Yc2 a13
 obtain⟨d1,d2⟩:=Ycn Ycx a15
 have t1:=YcG (t:=s.span.lo)
 have t2:=YcG (t:=s.span.hi)
 simp only[shB,List.length_append] at hl
 refine⟨⟨by omega,fun e he=>?_⟩,by omega,fun d hd=>?_,by omega,by omega⟩
 ·have:=e2 e he
  have:=YeC (a13 e he)
  omega
 ·have:=(a15 d hd).2
  rw[←this];simp[mkD]
theorem Yd4 {c:Cel} (h:CV c) (hl:(cB c).length≤10000):SmC c:=by
 obtain⟨⟨a1,a2,a3,a4⟩,-⟩:=h
 obtain⟨e1,e2⟩:=Ycn Ydz a4
 simp only[cB,List.length_append] at hl
 exact⟨by omega,fun s hs=>YdA (a4 s hs) (by have:=e2 s hs;omega)⟩
def clP (t:Stamp) (d:Int) (e:V):List V:=[e,iz t.wall,iz t.tick,iz t.node,iz d]
structure C428 (S:St) (y:Rd) (t:Stamp) (d:Int) (vs:List Shd) (j:Nat):Prop where
 r2:S.ρ 2=.lref 2 0
 r4:S.ρ 4=.lref 8 0
 r5:S.ρ 5=.lref 5 0
 m8:S.μ 8=some (eRd y,false)
 m2:S.μ 2=some ([.slice 17 [],.int .i64 0,.int .i64 0,.int .i64 0,.int .i64 0],false)
 m5:S.μ 5=some (clP t d (nilOr 23 17 j),false)
 a23:S.A 23=YaM 17 (vs.map YE) j
 vl:vs.length=j
theorem Yfd (h467:H467 Pg) {y:Rd} {m:Nat} {t:Stamp} {d:Int} (hy:y.1.length≤2 ^ 20) (hm:m≤2 ^ 20) {S:St} {Q:Ex→St→Prop} (hS:C428 S y t d [] 0) (s15:S.ρ 15=iz m) (s16:S.ρ 16=iz 0)
  (hq:∀S',C428 S' (YK (gSh false) m y).2 t d (YK (gSh false) m y).1 m→Q .norm S'):Wp (K' Pg) l428_0 S (Blk 0 Q):=by
 unfold l428_0
 refine JiG (fun (j:Nat) S'=>j≤m∧S'.ρ 15=iz m∧S'.ρ 16=iz j∧∃(vs:List Shd) (y':Rd),y'.1.length≤2 ^ 20∧
  YK (gSh false) m y=(vs++(YK (gSh false) (m-j) y').1,(YK (gSh false) (m-j) y').2)∧C428 S' y' t d vs j) (fun j=>m-j) 0 ?_ ?_
 ·simp only[JhC]
  exact⟨Nat.zero_le _,s15,s16,[],y,hy,rfl,hS⟩
 ·intro j S' ⟨hj,t15,t16,vs,y',hyl,hrep,hE⟩
  obtain⟨t2,t4,t5,m8,m2,m5,a23,hvl⟩:=hE
  cases c1:decide ((j:Int)<(m:Int)) with
  |false=>
   have hjm:j=m:=by have:=of_decide_eq_false c1;omega
   subst hjm
   have he:=Ycp hrep
   simp only[go_sem,t15,t16,c1]
   rw[he] at hq
   exact hq _ ⟨by simp only[go_sem,t2],by simp only[go_sem,t4],by simp only[go_sem,t5],m8,m2,m5,a23,hvl⟩
  |true=>
   have hlt:=Yg c1
   have hinc:IntKind.i64.wrap ((j:Int)+1)=((j+1:Nat):Int):=by rw[JiD (by omega) (by omega)];omega
   have hone:=rep_one hlt hrep
   have k1:=K467 h467 y' hyl
   have l1:=Nat.le_trans ((cSh (D:=false)).len y') hyl
   generalize gSh false y'=p1 at *
   obtain⟨b1,x1⟩:=p1
   simp only at hone l1
   have r1:=fun (S:St) (hm:S.μ 8=some (eRd y',false))=>rcall_rd (p:=20300) k1 hm
   have hil:(vs.map YE).length=j:=by simp[hvl]
   have ha:=fun S=>Ybn (S:=S) (s:=23) (z:=17) (r:=YE b1) hil (by unfold lim;omega)
   have v5:=m5
   simp only[clP] at v5
   simp only[go_sem] at r1 m8 ha
   simp only[go_sem,t2,t4,t5,t15,t16,c1,m8,v5,a23,r1,YaQ,ha,hinc,JhC]
   exact⟨j+1,by omega,by omega,rfl,vs++[b1],x1,l1,hone,by simp only[go_sem,t2],by simp only[go_sem,t4],by simp only[go_sem,t5],by simp only[go_sem],by simp only[go_sem,m2],by simp only[go_sem]<;>rfl,by simp only[go_sem,List.map_append]<;>rfl,by simp[hvl]⟩
def YcI (o:Option Cel):V:=match o with
 |some c=>.tuple [.agg (Y8 c),iz 0]
 |none=>.tuple [.agg [.slice 17 [],iz 0,iz 0,iz 0,iz 0],iz 3]
def H428 (Pg:Nat→Option Fn):Prop:=Pg 428=some (.code F428)∧H464 Pg∧H465 Pg∧H466 Pg∧H467 Pg∧H249 Pg
set_option maxHeartbeats 2000000 in
theorem K428g (h:H428 Pg) (t:List UInt8) (ht:t.length≤2 ^ 20) (hts:∀c,CV c→cB c=t→SmC c):K' Pg 428 [.str t]=some (YcI (tkC t)):=by
 obtain⟨h,h464,h465,h466,h467,h249⟩:=h
 have hR:∀{a:Stamp} {n:Nat} {x1 x2:Rd},rd tkS zS (t,false)=(a,x1)→rd (tk 9) 0 x1=(n,x2)→
   gC false (t,false)=(mkC (a,n,(YK (gSh false) (rL x2).1 (rL x2).2).1),(YK (gSh false) (rL x2).1 (rL x2).2).2):=by
  intro a n x1 x2 e1 e2
  have d1:gN false=rd (tk 9) 0:=rfl
  have d3:gS false=rd tkS zS:=rfl
  simp only[gC,mapR,pairR,d1,d3,e1,e2]
  rfl
 have k1:=K464 h464 (t,false) (by simp only;omega)
 have l1:=(cS (D:=false)).len (t,false)
 change (rd tkS zS (t,false)).2.1.length≤t.length at l1
 cases e1:rd tkS zS (t,false) with
 |mk a x1=>
 rw[e1] at k1 l1
 simp only at k1 l1
 have k2:=K465 h465 x1 (by omega)
 have l2:=codN.len x1
 cases e2:rd (tk 9) 0 x1 with
 |mk n x2=>
 rw[e2] at k2 l2
 simp only at k2 l2
 have k3:=K466 h466 x2 (by omega)
 have l3:=Yeg (x:=x2) (by omega)
 have hg:=hR e1 e2
 generalize rL x2=pL at *
 obtain⟨m,y⟩:=pL
 simp only at k3 l3 hg
 generalize hD:YK (gSh false) m y=pD at *
 obtain⟨sh,u,b⟩:=pD
 simp only at hg
 have hsm:b=false→u=[]→SmC (mkC (a,n,sh)):=fun hb hu=>by
  subst hb;subst hu
  obtain⟨g1,g2⟩:=(cC (D:=false)).get hg
  exact hts _ g2 (by rw[List.append_nil] at g1;exact g1.symm)
 refine K'_code h rfl ?_
 have r1:=fun (S:St) (hm:S.μ 8=some (eRd (t,false),false))=>rcall_rd (p:=20000) k1 hm
 have r2:=fun (S:St) (hm:S.μ 8=some (eRd x1,false))=>rcall_rd (p:=20100) k2 hm
 have r3:=fun (S:St) (hm:S.μ 8=some (eRd x2,false))=>rcall_rd (p:=20200) k3 hm
 simp only[go_sem,eSt] at r1 r2 r3
 simp only[F428,c428,go_sem,r1,r2,r3]
 refine Yfd h467 (y:=y) (m:=m) (t:=a) (d:=n) l3.2 l3.1 ⟨by simp only[go_sem],by simp only[go_sem],by simp only[go_sem],by simp only[go_sem],by simp only[go_sem],by simp only[go_sem]<;>rfl,rfl,rfl⟩ (by simp only[go_sem]) (by simp only[go_sem]) fun S1 hE1=>?_
 rw[hD] at hE1
 obtain⟨t2,t4,t5,m8,m2,m5,a23,hvl⟩:=hE1
 simp only at m8 a23 hvl
 have hc1:=Yac a23 (by simp[hvl])
 simp only[clP] at m5
 simp only[go_sem] at m8
 have e0:tkC t=if (b=false∧u=[])∧Y0 (mkC (a,n,sh))=true then some (mkC (a,n,sh)) else none:=by
  unfold tkC
  rw[hg]
  simp only[Prod.mk.injEq,and_comm]
 rw[e0]
 cases b with
 |true=>
  rw[if_neg (by simp)]
  simp only[go_sem,t2,t4,t5,m8,m2,m5,YcI]
 |false=>
  cases c2:decide (u=[]) with
  |false=>
   rw[if_neg (by simp[of_decide_eq_false c2])]
   simp only[go_sem,t2,t4,t5,m8,m2,m5,c2,YcI]
  |true=>
   have hu:=of_decide_eq_true c2
   have k249:=K249 h249 (mkC (a,n,sh)) (hsm rfl hu)
   cases c3:Y0 (mkC (a,n,sh)) with
   |false=>
    rw[c3] at k249
    rw[if_neg (by simp)]
    simp only[go_sem,mkC] at k249
    simp only[go_sem,t2,t4,t5,m8,m2,m5,c2,hc1,k249,Yas,YcI]
   |true=>
    rw[c3] at k249
    rw[if_pos ⟨⟨rfl,hu⟩,rfl⟩]
    simp only[go_sem,mkC] at k249
    simp only[go_sem,t2,t4,t5,m8,m2,m5,c2,hc1,k249,Yas,YcI,mkC]
theorem K428 (h:H428 Pg) (t:List UInt8) (ht:t.length≤10000):K' Pg 428 [.str t]=some (YcI (tkC t)):=
 K428g h t (by omega) fun c hc e=>Yd4 hc (by rw[e];exact ht)
theorem repD_one {α:Type} {R:Rd→α×Rd} {m j:Nat} {vs:List α} {y y':Rd} (hj:j<m) (hn:y'.2=false) (h:YL R m y=(vs++(YL R (m-j) y').1,(YL R (m-j) y').2)) :
  YL R m y=((vs++[(R y').1])++(YL R (m-(j+1)) (R y').2).1,(YL R (m-(j+1)) (R y').2).2):=by
 rw[h,show m-j=(m-(j+1))+1 by omega]
 simp[YL,hn]
theorem Yb3 {α:Type} {R:Rd→α×Rd} {m j:Nat} {vs:List α} {y y':Rd} (h:YL R m y=(vs++(YL R (m-j) y').1,(YL R (m-j) y').2)) (hs:m≤j∨y'.2=true):YL R m y=(vs,y'):=by
 rw[h]
 rcases hs with hs|hs
 ·rw[show m-j=0 by omega];simp[YL]
 ·obtain⟨s,b⟩:=y'
  simp only at hs
  subst hs
  rw[Ya7];simp
theorem YbZ {S:St} {Wv:List Nat} {v:Nat} (hv:Wv.contains v=false):(S.head [] [] Wv []).μ v=S.μ v:=by
 show (if Wv.contains v then none else (S.μ v).map _)=_
 rw[hv]
 cases S.μ v<;>rfl
structure B436 (S:St) (y:Rd) (sh:Shd) (es:List Entr) (ds:List Done):Prop where
 r0:S.ρ 0=.lref 0 0
 r2:S.ρ 2=.lref 2 0
 r3:S.ρ 3=.lref 3 0
 m0:S.μ 0=some (eRd y,false)
 m2:S.μ 2=some (zSh,false)
 m3:S.μ 3=some (shP sh (nilOr 97 2 es.length) (nilOr 139 11 ds.length),false)
 m11:S.μ 11=none
 a97:S.A 97=YaM 2 (es.map YN) es.length
 a139:S.A 139=YaM 11 (ds.map Yt) ds.length
theorem B436.head {S:St} {y:Rd} {sh:Shd} {es:List Entr} {ds:List Done} {Wv Wa:List Nat} (h:B436 S y sh es ds) (h0:Wv.contains 0=false) (h2:Wv.contains 2=false) (h3:Wv.contains 3=false) (h97:Wa.contains 97=false) (h139:Wa.contains 139=false) :
  B436 (S.head [] [] Wv Wa) y sh es ds:=
 ⟨Jir h.r0 (by simp only[stay,h0];rfl),Jir h.r2 (by simp only[stay,h2];rfl),Jir h.r3 (by simp only[stay,h3];rfl),Jiq h.m0 rfl h0,Jiq h.m2 rfl h2,Ya3 h.m3 h3 h97 h139,Jip (.inl h.m11),(Y5 h97).trans h.a97,(Y5 h139).trans h.a139⟩
structure V436 (S:St) (M I m j:Nat) (key:List UInt8) (vs:List Ver):Prop where
 r4:S.ρ 4=iz M
 r5:S.ρ 5=iz I
 r6:S.ρ 6=.lref 6 0
 r7:S.ρ 7=iz m
 r8:S.ρ 8=iz j
 m6:S.μ 6=some ([.str key,nilOr 91 5 vs.length],false)
 m9:S.μ 9=none
 a91:S.A 91=YaM 5 (vs.map YI) vs.length
 vl:vs.length=j
theorem Yff (h434:H434 Pg) (h472:H472 Pg) (h471:H471 Pg) {y:Rd} {M I m:Nat} {key:List UInt8} {sh:Shd} {es:List Entr} {ds:List Done} (hy:y.1.length≤2 ^ 21) {S:St} {Q:Ex→St→Prop}
  (hB:B436 S y sh es ds) (hV:V436 S M I m 0 key [])
  (hm:(YL (gV true) m y).1.length≤2 ^ 21)
  (hq:∀S' j,B436 S' (YL (gV true) m y).2 sh es ds→V436 S' M I m j key (YL (gV true) m y).1→Q .norm S'):Wp (K' Pg) l436_1 S (Blk 2 Q):=by
 unfold l436_1
 refine JiG (fun (j:Nat) S'=>j≤m∧∃(vs:List Ver) (y':Rd),y'.1.length≤2 ^ 21∧
  YL (gV true) m y=(vs++(YL (gV true) (m-j) y').1,(YL (gV true) (m-j) y').2)∧B436 S' y' sh es ds∧V436 S' M I m j key vs) (fun j=>m-j) 0 ?_ ?_
 ·exact⟨Nat.zero_le _,[],y,hy,rfl,hB.head rfl rfl rfl rfl rfl,Jir hV.r4 rfl,Jir hV.r5 rfl,Jir hV.r6 rfl,Jir hV.r7 rfl,Jir hV.r8 rfl,(YbZ rfl).trans hV.m6,Jip (.inr rfl),(Y5 rfl).trans hV.a91,rfl⟩
 ·intro j S' ⟨hj,vs,y',hyl,hrep,hB,hV⟩
  obtain⟨t0,t2,t3,m0,m2,m3,m11,a97,a139⟩:=hB
  obtain⟨t4,t5,t6,t7,t8,m6,m9,a91,hvl⟩:=hV
  obtain⟨u,b⟩:=y'
  simp only[go_sem] at m0
  have fin:(m≤j∨b=true)→∀(ρ':Nat→V),(∀i,i≠75→ρ' i=S'.ρ i)→Q .norm ⟨ρ',S'.μ,S'.A⟩:=fun hs ρ' hρ=>by
   have he:=Yb3 hrep hs
   rw[he] at hq
   exact hq _ j ⟨(hρ 0 (by omega)).trans t0,(hρ 2 (by omega)).trans t2,(hρ 3 (by omega)).trans t3,m0,m2,m3,m11,a97,a139⟩ ⟨(hρ 4 (by omega)).trans t4,(hρ 5 (by omega)).trans t5,(hρ 6 (by omega)).trans t6,(hρ 7 (by omega)).trans t7,(hρ 8 (by omega)).trans t8,m6,m9,a91,hvl⟩
  cases c1:decide ((j:Int)<(m:Int)) with
  |false=>
   have hjm:m≤j:=by have:=of_decide_eq_false c1;omega
   simp only[go_sem,t7,t8,c1]
   exact fin (.inl hjm) _ fun i hi=>Je2 (by simpa using hi)
  |true=>
   cases b with
   |true=>
    simp only[go_sem,t0,t7,t8,m0,c1]
    exact fin (.inr rfl) _ fun i hi=>Je2 (by simpa using hi)
   |false=>
    have hlt:=Yg c1
    have hone:=repD_one hlt rfl hrep
    have hjl:j+1≤2 ^ 21:=by
     have:=congrArg (fun p=>p.1.length) hone
     simp only[List.length_append,List.length_singleton] at this
     omega
    have hinc:IntKind.i64.wrap ((j:Int)+1)=((j+1:Nat):Int):=by rw[JiD (by omega) (by omega)];omega
    have k1:=K434 h434 (u,false) (by simp only at hyl ⊢;omega)
    have l1:(cu tkS zS (u,false)).2.1.length≤2 ^ 21:=Nat.le_trans ((cS (D:=true)).len (u,false)) hyl
    have hR:gV true (u,false)=(⟨(cu tkS zS (u,false)).1,(cu tkF false (cu tkS zS (u,false)).2).1,(cu tkT [] (cu tkF false (cu tkS zS (u,false)).2).2).1⟩,(cu tkT [] (cu tkF false (cu tkS zS (u,false)).2).2).2):=rfl
    rw[hR] at hone
    generalize cu tkS zS (u,false)=p1 at *
    obtain⟨b1,x1⟩:=p1
    simp only at hone l1
    have k2:=K472 h472 x1 (by omega)
    have l2:(cu tkF false x1).2.1.length≤2 ^ 21:=Nat.le_trans ((cF (D:=true)).len x1) l1
    generalize cu tkF false x1=p2 at *
    obtain⟨b2,x2⟩:=p2
    simp only at hone l2
    have k3:=K471 h471 x2 (by omega)
    have l3:(cu tkT [] x2).2.1.length≤2 ^ 21:=Nat.le_trans ((cT (D:=true)).len x2) l2
    generalize cu tkT [] x2=p3 at *
    obtain⟨b3,x3⟩:=p3
    simp only at hone l3
    have r1:=fun (S:St) (hm:S.μ 0=some (eRd (u,false),false))=>rcall_rd (p:=21400) k1 hm
    have r2:=fun (S:St) (hm:S.μ 0=some (eRd x1,false))=>rcall_rd (p:=21500) k2 hm
    have r3:=fun (S:St) (hm:S.μ 0=some (eRd x2,false))=>rcall_rd (p:=21600) k3 hm
    have ha:=fun S=>Ybn (S:=S) (s:=91) (z:=5) (n:=vs.length) (rows:=vs.map YI) (r:=YI ⟨b1,b2,b3⟩) (by simp) (by unfold lim;omega)
    simp only[go_sem,eSt] at r1 r2 r3 ha
    simp only[go_sem,t0,t6,t7,t8,c1,m0,m6,m9,a91,r1,r2,r3,YaQ,ha,hinc]
    refine⟨j+1,by omega,by omega,vs++[⟨b1,b2,b3⟩],x3,l3,hone,B436.head ⟨by simp only[go_sem,t0],by simp only[go_sem,t2],by simp only[go_sem,t3],by simp only[go_sem],by simp only[go_sem,m2],by simp only[go_sem,m3],by simp only[go_sem,m11],by simp only[go_sem,a97],by simp only[go_sem,a139]⟩ rfl rfl rfl rfl rfl,
     Jir (by simp only[go_sem,t4]) rfl,Jir (by simp only[go_sem,t5]) rfl,Jir (by simp only[go_sem,t6]) rfl,Jir (by simp only[go_sem,t7]) rfl,Jir (by simp only[go_sem]) rfl,(YbZ rfl).trans (by simp only[go_sem,List.length_append]<;>rfl),Jip (.inr rfl),(Y5 rfl).trans (by simp only[go_sem,List.map_append,List.length_append]<;>rfl),by simp[hvl]⟩
theorem Ybx {α:Type} {R:Rd→α×Rd} {W:α→List UInt8} {P:α→Prop} (h:Cod R W P) (hW:∀a,P a→1≤(W a).length):∀{k:Nat} {x:Rd},(YL R k x).1.length≤x.1.length+1
 |0,x=>by simp[YL]
 |k+1,(s,true)=>by rw[Ya7];simp
 |k+1,(s,false)=>by
  have e:YL R (k+1) (s,false)=((R (s,false)).1::(YL R k (R (s,false)).2).1,(YL R k (R (s,false)).2).2):=rfl
  rw[e]
  simp only[List.length_cons]
  cases hq:R (s,false) with
  |mk a y=>
   obtain⟨r,b⟩:=y
   cases b with
   |true=>simp only[Ya7,List.length_nil];omega
   |false=>
    obtain⟨g1,g2⟩:=h.get hq
    have h1:=hW a g2
    have h2:=Ybx h hW (k:=k) (x:=(r,false))
    have h3:=congrArg List.length g1
    simp only[List.length_append] at h3
    simp only at h2 ⊢
    omega
theorem YeZ (h434:H434 Pg) (h472:H472 Pg) (h471:H471 Pg) (h435:H435 Pg) {y:Rd} {m:Nat} {sh:Shd} {ds:List Done} (hy:y.1.length≤2 ^ 20) {S:St} {Q:Ex→St→Prop}
  (hB:B436 S y sh [] ds) (s4:S.ρ 4=iz m) (s5:S.ρ 5=iz 0) (n6:S.μ 6=none) (n9:S.μ 9=none) (a91:S.A 91=none)
  (hq:∀S',B436 S' (YL (gE true) m y).2 sh (YL (gE true) m y).1 ds→Q .norm S'):Wp (K' Pg) l436_0 S (Blk 0 Q):=by
 have hcnt:=Ybx (cE (D:=true)) Yc2 (k:=m) (x:=y)
 unfold l436_0
 refine JiG (fun (j:Nat) S'=>j≤m∧S'.ρ 4=iz m∧S'.ρ 5=iz j∧S'.μ 6=none∧S'.μ 9=none∧S'.A 91=none∧∃(vs:List Entr) (y':Rd),vs.length=j∧y'.1.length≤2 ^ 20∧
  YL (gE true) m y=(vs++(YL (gE true) (m-j) y').1,(YL (gE true) (m-j) y').2)∧B436 S' y' sh vs ds) (fun j=>m-j) 0 ?_ ?_
 ·exact⟨Nat.zero_le _,Jir s4 rfl,Jir s5 rfl,Jip (.inl n6),Jip (.inl n9),YdK rfl,[],y,rfl,hy,rfl,hB.head rfl rfl rfl rfl rfl⟩
 ·intro j S' ⟨hj,t4,t5,m6,m9,a91,vs,y',hvl,hyl,hrep,hB⟩
  obtain⟨t0,t2,t3,m0,m2,m3,m11,a97,a139⟩:=hB
  obtain⟨u,b⟩:=y'
  simp only[go_sem] at m0
  have fin:(m≤j∨b=true)→∀(ρ':Nat→V),(∀i,i≠58→ρ' i=S'.ρ i)→Q .norm ⟨ρ',S'.μ,S'.A⟩:=fun hs ρ' hρ=>by
   have he:=Yb3 hrep hs
   rw[he] at hq
   exact hq _ ⟨(hρ 0 (by omega)).trans t0,(hρ 2 (by omega)).trans t2,(hρ 3 (by omega)).trans t3,m0,m2,m3,m11,a97,a139⟩
  cases c1:decide ((j:Int)<(m:Int)) with
  |false=>
   have hjm:m≤j:=by have:=of_decide_eq_false c1;omega
   simp only[go_sem,t4,t5,c1]
   exact fin (.inl hjm) _ fun i hi=>Je2 (by simpa using hi)
  |true=>
   cases b with
   |true=>
    simp only[go_sem,t0,t4,t5,m0,c1]
    exact fin (.inr rfl) _ fun i hi=>Je2 (by simpa using hi)
   |false=>
    have hlt:=Yg c1
    have hone:=repD_one hlt rfl hrep
    have hjl:vs.length+1≤2 ^ 21:=by
     have:=congrArg (fun p=>p.1.length) hone
     simp only[List.length_append,List.length_singleton] at this
     omega
    have hinc:IntKind.i64.wrap ((j:Int)+1)=((j+1:Nat):Int):=by rw[JiD (by omega) (by omega)];omega
    have k1:=K471 h471 (u,false) (by simp only at hyl ⊢;omega)
    have l1:(cu tkT [] (u,false)).2.1.length≤2 ^ 20:=Nat.le_trans ((cT (D:=true)).len (u,false)) hyl
    have hR:gE true (u,false)=(⟨(cu tkT [] (u,false)).1,(YL (gV true) (cu (tk 9) 0 (cu tkT [] (u,false)).2).1 (cu (tk 9) 0 (cu tkT [] (u,false)).2).2).1⟩,(YL (gV true) (cu (tk 9) 0 (cu tkT [] (u,false)).2).1 (cu (tk 9) 0 (cu tkT [] (u,false)).2).2).2):=rfl
    rw[hR] at hone
    generalize cu tkT [] (u,false)=p1 at *
    obtain⟨b1,x1⟩:=p1
    simp only at hone l1
    have k2:=K435 h435 x1 (by omega)
    have l2:(cu (tk 9) 0 x1).2.1.length≤2 ^ 20:=Nat.le_trans (Yat.len x1) l1
    generalize cu (tk 9) 0 x1=p2 at *
    obtain⟨n2,x2⟩:=p2
    simp only at hone l2
    have r1:=fun (S:St) (hm:S.μ 0=some (eRd (u,false),false))=>rcall_rd (p:=21200) k1 hm
    have r2:=fun (S:St) (hm:S.μ 0=some (eRd x1,false))=>rcall_rd (p:=21300) k2 hm
    have hc2:=Ybx (cV (D:=true)) Yc8 (k:=n2) (x:=x2)
    have lz:=Nat.le_trans (Yb4 (cV (D:=true)) (k:=n2) (x:=x2)) l2
    simp only[go_sem] at r1 r2
    simp only[go_sem,t0,t3,t4,t5,c1,m0,m6,r1,r2]
    refine Yff h434 h472 h471 (y:=x2) (M:=m) (I:=j) (m:=n2) (key:=b1) (sh:=sh) (es:=vs) (ds:=ds) (by omega) ⟨by simp only[go_sem,t0],by simp only[go_sem,t2],by simp only[go_sem,t3],by simp only[go_sem],by simp only[go_sem,m2],by simp only[go_sem,m3],by simp only[go_sem,m11],by simp only[go_sem,a97],by simp only[go_sem,a139]⟩
     ⟨by simp only[go_sem,t4],by simp only[go_sem,t5],by simp only[go_sem],by simp only[go_sem],by simp only[go_sem],by simp only[go_sem]<;>rfl,by simp only[go_sem,m9],a91,rfl⟩ (by omega) fun S2 j2 hB2 hV2=>?_
    generalize hz:YL (gV true) n2 x2=z at *
    obtain⟨z1,z2⟩:=z
    simp only at hB2 hV2 hone hc2 lz
    obtain⟨u0,u2,u3,v0,v2,v3,v11,w97,w139⟩:=hB2
    obtain⟨u4,u5,u6,u7,u8,v6,v9,w91,hzl⟩:=hV2
    have hch:=Yac w91 (by simp)
    have hst:=YcS (s:=91) (z:=5) (n:=z1.length)
    have ha:=fun S=>Ybn (S:=S) (s:=97) (z:=2) (n:=vs.length) (rows:=vs.map YN) (r:=YN ⟨b1,z1⟩) (by simp) (by unfold lim;omega)
    simp only[go_sem,Ya] at ha
    have v3':=v3
    simp only[shP] at v3'
    simp only[go_sem,u0,u2,u3,u4,u5,u6,v0,v3',v6,w97,hch,hst,YaQ,ha,hinc]
    refine⟨j+1,by omega,by omega,rfl,vs++[⟨b1,z1⟩],z2,by simp[hvl],lz,hone,?_⟩
    refine B436.head ?_ rfl rfl rfl rfl rfl
    exact⟨by simp only[go_sem,u0],by simp only[go_sem,u2],by simp only[go_sem,u3],by simp only[go_sem,v0],by simp only[go_sem,v2],by simp only[go_sem,List.length_append]<;>rfl,by simp only[go_sem,v11],by simp only[go_sem,List.map_append,List.length_append]<;>rfl,by simp only[go_sem,w139]⟩
theorem Ye3 {S:St} {y:Rd} {sh:Shd} {es:List Entr} {ds:List Done} (r0:S.ρ 0=.lref 0 0) (r2:S.ρ 2=.lref 2 0) (r3:S.ρ 3=.lref 3 0) (m0:S.μ 0=some (eRd y,false)) (m2:S.μ 2=some (zSh,false))
  (m3:S.μ 3=some (shP sh (nilOr 97 2 es.length) (nilOr 139 11 ds.length),false)) (a97:S.A 97=YaM 2 (es.map YN) es.length) (a139:S.A 139=YaM 11 (ds.map Yt) ds.length):B436 (S.head [] [] [11] []) y sh es ds:=
 ⟨Jir r0 rfl,Jir r2 rfl,Jir r3 rfl,Jiq m0 rfl rfl,Jiq m2 rfl rfl,Ya3 m3 rfl rfl rfl,Jip (.inr rfl),(Y5 rfl).trans a97,(Y5 rfl).trans a139⟩
theorem Yez (h434:H434 Pg) (h472:H472 Pg) (h471:H471 Pg) (h435:H435 Pg) {y:Rd} {m:Nat} {sh:Shd} {es:List Entr} (hy:y.1.length≤2 ^ 20) {S:St} {Q:Ex→St→Prop}
  (hB:B436 S y sh es []) (s4:S.ρ 4=iz m) (s10:S.ρ 10=iz 0)
  (hq:∀S',B436 S' (YL (gD true) m y).2 sh es (YL (gD true) m y).1→Q .norm S'):Wp (K' Pg) l436_2 S (Blk 4 Q):=by
 have hcnt:=Ybx (cD (D:=true)) Ycx (k:=m) (x:=y)
 unfold l436_2
 refine JiG (fun (j:Nat) S'=>j≤m∧S'.ρ 4=iz m∧S'.ρ 10=iz j∧∃(vs:List Done) (y':Rd),vs.length=j∧y'.1.length≤2 ^ 20∧
  YL (gD true) m y=(vs++(YL (gD true) (m-j) y').1,(YL (gD true) (m-j) y').2)∧B436 S' y' sh es vs) (fun j=>m-j) 0 ?_ ?_
 ·exact⟨Nat.zero_le _,Jir s4 rfl,Jir s10 rfl,[],y,rfl,hy,rfl,hB.head rfl rfl rfl rfl rfl⟩
 ·intro j S' ⟨hj,t4,t10,vs,y',hvl,hyl,hrep,hB⟩
  obtain⟨t0,t2,t3,m0,m2,m3,m11,a97,a139⟩:=hB
  obtain⟨u,b⟩:=y'
  simp only[go_sem] at m0
  have fin:(m≤j∨b=true)→∀(ρ':Nat→V),(∀i,i≠110→ρ' i=S'.ρ i)→Q .norm ⟨ρ',S'.μ,S'.A⟩:=fun hs ρ' hρ=>by
   have he:=Yb3 hrep hs
   rw[he] at hq
   exact hq _ ⟨(hρ 0 (by omega)).trans t0,(hρ 2 (by omega)).trans t2,(hρ 3 (by omega)).trans t3,m0,m2,m3,m11,a97,a139⟩
  cases c1:decide ((j:Int)<(m:Int)) with
  |false=>
   have hjm:m≤j:=by have:=of_decide_eq_false c1;omega
   simp only[go_sem,t4,t10,c1]
   exact fin (.inl hjm) _ fun i hi=>Je2 (by simpa using hi)
  |true=>
   cases b with
   |true=>
    simp only[go_sem,t0,t4,t10,m0,c1]
    exact fin (.inr rfl) _ fun i hi=>Je2 (by simpa using hi)
   |false=>
    have hlt:=Yg c1
    have hone:=repD_one hlt rfl hrep
    have hjl:vs.length+1≤2 ^ 21:=by
     have:=congrArg (fun p=>p.1.length) hone
     simp only[List.length_append,List.length_singleton] at this
     omega
    have hinc:IntKind.i64.wrap ((j:Int)+1)=((j+1:Nat):Int):=by rw[JiD (by omega) (by omega)];omega
    have le:∀{α:Type} {R:Rd→α×Rd} {W:α→List UInt8} {P:α→Prop},Cod R W P→∀{x:Rd},x.1.length≤2 ^ 20→(R x).2.1.length≤2 ^ 20:=fun h x hx=>Nat.le_trans (h.len x) hx
    generalize hy':((u,false):Rd)=y' at *
    have hyl':y'.1.length≤2 ^ 20:=hyl
    have k1:=K435 h435 y' (by omega)
    have hR:gD true y'=(mkD ((cu (tk 9) 0 y').1,(cu (tk 9) 0 (cu (tk 9) 0 y').2).1,(cu (tk 9) 0 (cu (tk 9) 0 (cu (tk 9) 0 y').2).2).1,(cu tkS zS (cu (tk 9) 0 (cu (tk 9) 0 (cu (tk 9) 0 y').2).2).2).1,
      (cu tkF false (cu tkS zS (cu (tk 9) 0 (cu (tk 9) 0 (cu (tk 9) 0 y').2).2).2).2).1,(cu tkT [] (cu tkF false (cu tkS zS (cu (tk 9) 0 (cu (tk 9) 0 (cu (tk 9) 0 y').2).2).2).2).2).1),
      (cu tkT [] (cu tkF false (cu tkS zS (cu (tk 9) 0 (cu (tk 9) 0 (cu (tk 9) 0 y').2).2).2).2).2).2):=rfl
    rw[hR] at hone
    have l1:=le Yat hyl'
    generalize cu (tk 9) 0 y'=p1 at *
    obtain⟨b1,x1⟩:=p1
    simp only at hone l1
    have k2:=K435 h435 x1 (by omega)
    have l2:=le Yat l1
    generalize cu (tk 9) 0 x1=p2 at *
    obtain⟨b2,x2⟩:=p2
    simp only at hone l2
    have k3:=K435 h435 x2 (by omega)
    have l3:=le Yat l2
    generalize cu (tk 9) 0 x2=p3 at *
    obtain⟨b3,x3⟩:=p3
    simp only at hone l3
    have k4:=K434 h434 x3 (by omega)
    have l4:=le (cS (D:=true)) l3
    change (cu tkS zS x3).2.1.length≤2 ^ 20 at l4
    generalize cu tkS zS x3=p4 at *
    obtain⟨b4,x4⟩:=p4
    simp only at hone l4
    have k5:=K472 h472 x4 (by omega)
    have l5:=le (cF (D:=true)) l4
    change (cu tkF false x4).2.1.length≤2 ^ 20 at l5
    generalize cu tkF false x4=p5 at *
    obtain⟨b5,x5⟩:=p5
    simp only at hone l5
    have k6:=K471 h471 x5 (by omega)
    have l6:=le (cT (D:=true)) l5
    change (cu tkT [] x5).2.1.length≤2 ^ 20 at l6
    generalize cu tkT [] x5=p6 at *
    obtain⟨b6,x6⟩:=p6
    simp only at hone l6
    have r1:=fun (S:St) (hm:S.μ 0=some (eRd y',false))=>rcall_rd (p:=21800) k1 hm
    have r2:=fun (S:St) (hm:S.μ 0=some (eRd x1,false))=>rcall_rd (p:=21900) k2 hm
    have r3:=fun (S:St) (hm:S.μ 0=some (eRd x2,false))=>rcall_rd (p:=22000) k3 hm
    have r4:=fun (S:St) (hm:S.μ 0=some (eRd x3,false))=>rcall_rd (p:=22100) k4 hm
    have r5:=fun (S:St) (hm:S.μ 0=some (eRd x4,false))=>rcall_rd (p:=22200) k5 hm
    have r6:=fun (S:St) (hm:S.μ 0=some (eRd x5,false))=>rcall_rd (p:=22300) k6 hm
    have ha:=fun S=>Ybn (S:=S) (s:=139) (z:=11) (n:=vs.length) (rows:=vs.map Yt) (r:=Yt (mkD (b1,b2,b3,b4,b5,b6))) (by simp) (by unfold lim;omega)
    have v3:=m3
    simp only[shP] at v3
    subst hy'
    simp only[go_sem,eSt,mkD,List.map_nil] at r1 r2 r3 r4 r5 r6 ha
    simp only[go_sem,t0,t3,t4,t10,c1,m0,m11,v3,a139,r1,r2,r3,r4,r5,r6,YaQ,ha,hinc]
    refine⟨j+1,by omega,by omega,rfl,vs++[mkD (b1,b2,b3,b4,b5,b6)],x6,by simp[hvl],l6,hone,?_⟩
    exact Ye3 (by simp only[go_sem,t0]) (by simp only[go_sem,t2]) (by simp only[go_sem,t3]) (by simp only[go_sem]) (by simp only[go_sem,m2]) (by simp only[go_sem,List.length_append]<;>rfl) (by simp only[go_sem,a97]) (by simp only[go_sem,List.map_append,List.length_append]<;>rfl)
def H436 (Pg:Nat→Option Fn):Prop:=Pg 436=some (.codeR F436 0)∧H434 Pg∧H472 Pg∧H471 Pg∧H435 Pg
set_option maxHeartbeats 2000000 in
theorem K436 (h:H436 Pg) (x:Rd) (hx:x.1.length≤2 ^ 20):K' Pg 436 [.tuple (.lref 0 0::eRd x)]=some (.tuple [.agg (YE (gSh true x).1),.tuple (eRd (gSh true x).2)]):=by
 obtain⟨h,h434,h472,h471,h435⟩:=h
 have le:∀{α:Type} {R:Rd→α×Rd} {W:α→List UInt8} {P:α→Prop},Cod R W P→∀{x:Rd},x.1.length≤2 ^ 20→(R x).2.1.length≤2 ^ 20:=fun h x hx=>Nat.le_trans (h.len x) hx
 have hR:∀{a1 a2 a3 a4 a5 a6 a7:Nat} {b1 b2:List UInt8} {c1 c2:Stamp} {x1 x2 x3 x4 x5 x6 x7 x8 x9 x10 x11:Rd},cu (tk 9) 0 x=(a1,x1)→cu (tk 9) 0 x1=(a2,x2)→cu (tk 9) 0 x2=(a3,x3)→cu (tk 9) 0 x3=(a4,x4)→cu (tk 9) 0 x4=(a5,x5)→cu (tk 9) 0 x5=(a6,x6)→cu (tk 9) 0 x6=(a7,x7)→
   cu tkT [] x7=(b1,x8)→cu tkT [] x8=(b2,x9)→cu tkS zS x9=(c1,x10)→cu tkS zS x10=(c2,x11)→
   gSh true x=(mkS (a1,a2,a3,a4,a5,a6,a7,b1,b2,c1,c2,(lstD (gE true) x11).1,(lstD (gD true) (lstD (gE true) x11).2).1),(lstD (gD true) (lstD (gE true) x11).2).2):=by
  intro a1 a2 a3 a4 a5 a6 a7 b1 b2 c1 c2 x1 x2 x3 x4 x5 x6 x7 x8 x9 x10 x11 e1 e2 e3 e4 e5 e6 e7 e8 e9 e10 e11
  have d1:gN true=cu (tk 9) 0:=rfl
  have d2:gT true=cu tkT []:=rfl
  have d3:gS true=cu tkS zS:=rfl
  simp only[gSh,mapR,pairR,d1,d2,d3,e1,e2,e3,e4,e5,e6,e7,e8,e9,e10,e11]
  rfl
 have k1:=K435 h435 x (by omega)
 have l1:(cu (tk 9) 0 x).2.1.length≤2 ^ 20:=le Yat hx
 cases e1:cu (tk 9) 0 x with
 |mk a1 x1=>
 rw[e1] at k1 l1
 simp only at k1 l1
 have k2:=K435 h435 x1 (by omega)
 have l2:(cu (tk 9) 0 x1).2.1.length≤2 ^ 20:=le Yat l1
 cases e2:cu (tk 9) 0 x1 with
 |mk a2 x2=>
 rw[e2] at k2 l2
 simp only at k2 l2
 have k3:=K435 h435 x2 (by omega)
 have l3:(cu (tk 9) 0 x2).2.1.length≤2 ^ 20:=le Yat l2
 cases e3:cu (tk 9) 0 x2 with
 |mk a3 x3=>
 rw[e3] at k3 l3
 simp only at k3 l3
 have k4:=K435 h435 x3 (by omega)
 have l4:(cu (tk 9) 0 x3).2.1.length≤2 ^ 20:=le Yat l3
 cases e4:cu (tk 9) 0 x3 with
 |mk a4 x4=>
 rw[e4] at k4 l4
 simp only at k4 l4
 have k5:=K435 h435 x4 (by omega)
 have l5:(cu (tk 9) 0 x4).2.1.length≤2 ^ 20:=le Yat l4
 cases e5:cu (tk 9) 0 x4 with
 |mk a5 x5=>
 rw[e5] at k5 l5
 simp only at k5 l5
 have k6:=K435 h435 x5 (by omega)
 have l6:(cu (tk 9) 0 x5).2.1.length≤2 ^ 20:=le Yat l5
 cases e6:cu (tk 9) 0 x5 with
 |mk a6 x6=>
 rw[e6] at k6 l6
 simp only at k6 l6
 have k7:=K435 h435 x6 (by omega)
 have l7:(cu (tk 9) 0 x6).2.1.length≤2 ^ 20:=le Yat l6
 cases e7:cu (tk 9) 0 x6 with
 |mk a7 x7=>
 rw[e7] at k7 l7
 simp only at k7 l7
 have k8:=K471 h471 x7 (by omega)
 have l8:(cu tkT [] x7).2.1.length≤2 ^ 20:=le (cT (D:=true)) l7
 cases e8:cu tkT [] x7 with
 |mk b1 x8=>
 rw[e8] at k8 l8
 simp only at k8 l8
 have k9:=K471 h471 x8 (by omega)
 have l9:(cu tkT [] x8).2.1.length≤2 ^ 20:=le (cT (D:=true)) l8
 cases e9:cu tkT [] x8 with
 |mk b2 x9=>
 rw[e9] at k9 l9
 simp only at k9 l9
 have k10:=K434 h434 x9 (by omega)
 have l10:(cu tkS zS x9).2.1.length≤2 ^ 20:=le (cS (D:=true)) l9
 cases e10:cu tkS zS x9 with
 |mk c1 x10=>
 rw[e10] at k10 l10
 simp only at k10 l10
 have k11:=K434 h434 x10 (by omega)
 have l11:(cu tkS zS x10).2.1.length≤2 ^ 20:=le (cS (D:=true)) l10
 cases e11:cu tkS zS x10 with
 |mk c2 x11=>
 rw[e11] at k11 l11
 simp only at k11 l11
 rw[hR e1 e2 e3 e4 e5 e6 e7 e8 e9 e10 e11]
 unfold lstD
 have kL:=K435 h435 x11 (by omega)
 have lL:=le Yat l11
 generalize cu (tk 9) 0 x11=pL at *
 obtain⟨m,y⟩:=pL
 simp only at kL lL ⊢
 have lE:=Nat.le_trans (Yb4 (cE (D:=true)) (k:=m) (x:=y)) lL
 generalize hE:YL (gE true) m y=pE at *
 obtain⟨es,y2⟩:=pE
 simp only at lE ⊢
 have kM:=K435 h435 y2 (by omega)
 have lM:=le Yat lE
 generalize cu (tk 9) 0 y2=pM at *
 obtain⟨m2,y3⟩:=pM
 simp only at kM lM ⊢
 generalize hD:YL (gD true) m2 y3=pD at *
 obtain⟨ds,y4⟩:=pD
 simp only
 refine YcV [.cell 2 (some 17)] (ws:=[.agg _]) h rfl rfl (YQ _) (YQ _) (Ybj _) fun S ⟨r0,r,hm,m0,a0⟩=>?_
 have n2:=m0 2 rfl
 have n3:=m0 3 rfl
 have n6:=m0 6 rfl
 have n9:=m0 9 rfl
 have n11:=m0 11 rfl
 have r1:=fun (S:St) (hm:S.μ 0=some (eRd x,false))=>rcall_rd (p:=20000) k1 hm
 have r2:=fun (S:St) (hm:S.μ 0=some (eRd x1,false))=>rcall_rd (p:=20100) k2 hm
 have r3:=fun (S:St) (hm:S.μ 0=some (eRd x2,false))=>rcall_rd (p:=20200) k3 hm
 have r4:=fun (S:St) (hm:S.μ 0=some (eRd x3,false))=>rcall_rd (p:=20300) k4 hm
 have r5:=fun (S:St) (hm:S.μ 0=some (eRd x4,false))=>rcall_rd (p:=20400) k5 hm
 have r6:=fun (S:St) (hm:S.μ 0=some (eRd x5,false))=>rcall_rd (p:=20500) k6 hm
 have r7:=fun (S:St) (hm:S.μ 0=some (eRd x6,false))=>rcall_rd (p:=20600) k7 hm
 have r8:=fun (S:St) (hm:S.μ 0=some (eRd x7,false))=>rcall_rd (p:=20700) k8 hm
 have r9:=fun (S:St) (hm:S.μ 0=some (eRd x8,false))=>rcall_rd (p:=20800) k9 hm
 have r10:=fun (S:St) (hm:S.μ 0=some (eRd x9,false))=>rcall_rd (p:=20900) k10 hm
 have r11:=fun (S:St) (hm:S.μ 0=some (eRd x10,false))=>rcall_rd (p:=21000) k11 hm
 have rA:=fun (S:St) (hm:S.μ 0=some (eRd x11,false))=>rcall_rd (p:=21100) kL hm
 have rB:=fun (S:St) (hm:S.μ 0=some (eRd y2,false))=>rcall_rd (p:=21700) kM hm
 simp only[go_sem,eSt] at hm r1 r2 r3 r4 r5 r6 r7 r8 r9 r10 r11 rA rB
 simp only[F436,c436,go_sem,r0,hm,n2,n3,r1,r2,r3,r4,r5,r6,r7,r8,r9,r10,r11,rA]
 refine YeZ h434 h472 h471 h435 (y:=y) (m:=m) (sh:=mkS (a1,a2,a3,a4,a5,a6,a7,b1,b2,c1,c2,[],[])) (ds:=[]) lL ⟨by simp only[go_sem,r0],by simp only[go_sem],by simp only[go_sem],by simp only[go_sem],by simp only[go_sem,zSh],by simp only[go_sem]<;>rfl,by simp only[go_sem,n11],a0 97,a0 139⟩ (by simp only[go_sem]) (by simp only[go_sem]) (by simp only[go_sem,n6]) (by simp only[go_sem,n9]) (a0 91) fun S1 hE1=>?_
 rw[hE] at hE1
 obtain⟨t0,t2,t3,u0,u2,u3,u11,w97,w139⟩:=hE1
 simp only at w97 u0 u3
 simp only[go_sem] at u0
 simp only[go_sem,t0,t2,t3,u0,rB]
 refine Yez h434 h472 h471 h435 (y:=y3) (m:=m2) (sh:=mkS (a1,a2,a3,a4,a5,a6,a7,b1,b2,c1,c2,[],[])) (es:=es) lM ⟨by simp only[go_sem,t0],by simp only[go_sem,t2],by simp only[go_sem,t3],by simp only[go_sem],by simp only[go_sem,u2],by simp only[go_sem,u3],by simp only[go_sem,u11],by simp only[go_sem,w97],by simp only[go_sem,w139]⟩ (by simp only[go_sem]) (by simp only[go_sem]) fun S2 hD1=>?_
 rw[hD] at hD1
 obtain⟨q0,q2,q3,v0,v2,v3,v11,z97,z139⟩:=hD1
 simp only at z139 v0 v3
 have hc1:=Yac z97 (by simp)
 have hc2:=Yac z139 (by simp)
 simp only[shP,mkS] at v3
 simp only[zSh] at v2
 simp only[go_sem,q0,q2,q3,v2,v3,Yas]
 refine⟨v0,_,rfl,?_⟩
 simp only[go_sem,hc1,hc2,mkS]
structure HW (S:St) (v:Nat) (b:List UInt8) (a:Nat):Prop where
 m:S.μ v=some ([.own a 1 b.length],false)
 a:S.A a=some (1,b.map rowB,.live)
theorem HW.head {S:St} {v:Nat} {b:List UInt8} {a h1:Nat} {Wv Wa:List Nat} (hT:HW S v b a) (hv:Wv.contains v=false) (hw:Wa.contains h1=false) :
  HW (S.head [] [v,0,h1] Wv Wa) v b h1∧(∀x,Wa.contains x=true→(S.head [] [v,0,h1] Wv Wa).A x=none)∧(∀x,x≠a→x≠h1→S.A x=none→(S.head [] [v,0,h1] Wv Wa).A x=none):=by
 have e1:S.swp1 v 0 h1=S.ren a h1:=by rw[JgN,hT.m,Jh3];rfl
 have eh:S.head [] [v,0,h1] Wv Wa=(S.ren a h1).scrub [] Wv Wa:=by rw[Jio,e1];rfl
 rw[eh]
 refine⟨⟨?_,?_⟩,fun x hx=>?_,fun x h2 h3 h0=>?_⟩
 ·show (if Wv.contains v then none else ((S.μ v).map _).map _)=_
  rw[hv,hT.m]
  have:swp a h1 a=h1:=Jh5
  simp only[Bool.false_eq_true,if_false,Option.map_some,List.map_cons,List.map_nil,JT,this,Jv,hw]
  cases Wa.isEmpty<;>rfl
 ·show (if Wa.contains h1 then none else S.A (swp a h1 h1))=_
  rw[hw,Jh7];exact hT.a
 ·show (if Wa.contains x then none else _)=_
  rw[hx];rfl
 ·show (if Wa.contains x then none else S.A (swp a h1 x))=_
  split
  ·rfl
  ·rw[Yae h2 h3];exact h0
theorem YbX {α:Type} {W:α→List UInt8} {l:List α} {i:Nat}:((l.take i).flatMap W).length≤(l.flatMap W).length:=by
 conv=>rhs;rw[←List.take_append_drop i l]
 simp only[List.flatMap_append,List.length_append];omega
def EntW (e:Entr):Prop:=Ydp e∧e.key.length≤2 ^ 20∧(∀v∈e.chain,v.val.length≤2 ^ 20)∧e.chain.length<2 ^ 60
def DonW (d:Done):Prop:=(0≤d.client∧d.client<2 ^ 63)∧(0≤d.req∧d.req<2 ^ 63)∧(0≤d.ans.err∧d.ans.err<2 ^ 63)∧Yb d.ans.at_=true∧d.ans.val.length≤2 ^ 20
def ShdW (s:Shd):Prop:=(∀n∈[s.id,s.epoch,s.phase,s.hold,s.seen,s.move,s.closed],0≤n∧n<2 ^ 63)∧s.span.lo.length≤2 ^ 20∧s.span.hi.length≤2 ^ 20∧Yb s.mark=true∧Yb s.top=true∧
 (∀e∈s.ents,EntW e)∧s.ents.length<2 ^ 60∧(∀d∈s.done,DonW d)∧s.done.length<2 ^ 60
theorem YbN {n:Nat} (h:n<128):(putB n).length≤1:=(Ya6 0 n).2 (by simpa using h)
theorem Ye8 {n:Nat} (h:n<2 ^ 21):(putB n).length≤3:=(Ya6 2 n).2 (by simpa using h)
theorem Ye7 {n:Nat} (h:n<2 ^ 14):(putB n).length≤2:=(Ya6 1 n).2 (by simpa using h)
theorem YaX {n:Nat} (h:n<2 ^ 42):(putB n).length≤6:=(Ya6 5 n).2 (by simpa using h)
theorem YbW {α:Type} {W:α→List UInt8} {k:Nat}:∀{l:List α},(∀a∈l,(W a).length≤k)→(l.flatMap W).length≤k*l.length
 |[],_=>by simp
 |a::l,h=>by
  have h1:=h a (List.mem_cons_self ..)
  have h2:=YbW (l:=l) fun b hb=>h b (List.mem_cons_of_mem _ hb)
  simp only[List.flatMap_cons,List.length_append,List.length_cons,Nat.mul_succ];omega
theorem YcF {s:Stamp} (h:Yb s=true):(stB s).length≤11:=by
 simp only[Yb,YbB,Bool.and_eq_true,decide_eq_true_eq] at h
 have h1:=YaX (n:=s.wall.toNat) (by omega)
 have h2:=Ye8 (n:=s.tick.toNat) (by omega)
 have h3:=Ye7 (n:=s.node.toNat) (by omega)
 simp only[stB,List.length_append];omega
theorem YbA {t:List UInt8} (h:t.length≤16):(YH t).length≤17:=by
 have:=YbN (n:=t.length) (by omega)
 simp only[YH,List.length_append];omega
theorem Ydc {x:Bool}:(YS x).length=1:=by simp[YS]
theorem YeR {v:Ver} (h:Yv v=true):(Yay v).length≤29:=by
 simp only[Yv,Bool.and_eq_true,decide_eq_true_eq] at h
 have h1:=YcF h.1.1
 have h2:=YbA h.1.2
 have h3:=Ydc (x:=v.gone)
 simp only[Yay,List.length_append];omega
theorem YeD {e:Entr} (h:YaS e=true):(Yag e).length≤1874:=by
 simp only[YaS,Yf,Bool.and_eq_true,decide_eq_true_eq] at h
 obtain⟨h1,h2,h3,h4⟩:=h
 have k1:=YbA (YG h1).1
 have k2:=YbN (n:=e.chain.length) (by omega)
 have k3:=YbW (W:=Yay) (l:=e.chain) (k:=29) fun v hv=>YeR (YbR h3 v hv)
 simp only[Yag,Yav,List.length_append];omega
theorem YdQ {d:Done} (h:rowR d=true):(0≤d.client∧d.client≤1099511627776)∧(0≤d.req∧d.req≤1099511627776)∧(0≤d.ans.err∧d.ans.err<128)∧Yb d.ans.at_=true∧d.ans.val.length≤16:=by
 simp only[rowR,YB,YaT,Bool.and_eq_true,decide_eq_true_eq,Bool.not_eq_true'] at h
 obtain⟨⟨h1,h2⟩,⟨h3,h4⟩,c1,c2,c3,c4,c5,c6,c7⟩:=h
 exact⟨⟨by omega,by omega⟩,⟨by omega,by omega⟩,⟨by omega,by omega⟩,c3,c4⟩
theorem Yd8 {d:Done} (h:rowR d=true):(YR d).length≤42:=by
 obtain⟨h1,h2,h3,h4,h5⟩:=YdQ h
 have k1:=YaX (n:=d.client.toNat) (by omega)
 have k2:=YaX (n:=d.req.toNat) (by omega)
 have k3:=YbN (n:=d.ans.err.toNat) (by omega)
 have k4:=YcF h4
 have k5:=YbA h5
 have k6:=Ydc (x:=d.ans.found)
 simp only[YR,List.length_append];omega
theorem YcC {n:Int} (h:nou n=true):0≤n∧n≤1099511627776:=by simpa [nou] using h
theorem Ydo {s:Shd} (hr:shR s=true):ShdW s∧(shB s).length≤121000:=by
 simp only[shR,shR0,YB,Yp,ixR,Yn,Bool.and_eq_true,Bool.or_eq_true,decide_eq_true_eq,List.all_eq_true] at hr
 obtain⟨⟨⟨a1,a2⟩,⟨b1,b2⟩,c1,d1,e1,f1,g1,g2,⟨i1,i2⟩,⟨j1,j2⟩,k1,k2,l1,l2⟩,-⟩:=hr
 have c1:=YcC c1
 have d1:=YcC d1
 have e1:=YcC e1
 have f1:=YcC f1
 have lo:s.span.lo.length≤16:=by
  rcases i1 with i1|i1
  ·rw[i1];simp
  ·exact (YG i1).1
 have hi:s.span.hi.length≤16:=by
  rcases i2 with i2|i2
  ·rw[i2];simp
  ·exact (YG i2.1).1
 have q1:=YaX (n:=s.id.toNat) (by omega)
 have q2:=YaX (n:=s.epoch.toNat) (by omega)
 have q3:=YbN (n:=s.phase.toNat) (by omega)
 have q4:=YaX (n:=s.hold.toNat) (by omega)
 have q5:=YaX (n:=s.seen.toNat) (by omega)
 have q6:=YaX (n:=s.move.toNat) (by omega)
 have q7:=YaX (n:=s.closed.toNat) (by omega)
 have q8:=YbA lo
 have q9:=YbA hi
 have q10:=YcF k1
 have q11:=YcF k2
 have q12:=YbN (n:=s.ents.length) (by omega)
 have q13:=YbN (n:=s.done.length) (by omega)
 have q14:=YbW (W:=Yag) (l:=s.ents) (k:=1874) fun e he=>YeD (YbF j2 e he)
 have q15:=YbW (W:=YR) (l:=s.done) (k:=42) fun d hd=>Yd8 (Ya9 l1 d hd)
 refine⟨⟨?_,by omega,by omega,k1,k2,fun e he=>?_,by omega,fun d hd=>?_,by omega⟩,?_⟩
 ·intro n hn
  simp only[List.mem_cons,List.not_mem_nil,or_false] at hn
  rcases hn with rfl|rfl|rfl|rfl|rfl|rfl|rfl<;>omega
 ·have h0:=YbF j2 e he
  have h1:=h0
  simp only[YaS,Yf,Bool.and_eq_true,decide_eq_true_eq] at h1
  refine⟨Yea h0,by have:=(YG h1.1).1;omega,fun v hv=>?_,by omega⟩
  have:=YbR h1.2.2.1 v hv
  simp only[Yv,Bool.and_eq_true,decide_eq_true_eq] at this
  omega
 ·obtain⟨h1,h2,h3,h4,h5⟩:=YdQ (Ya9 l1 d hd)
  exact⟨by omega,by omega,by omega,h4,by omega⟩
 ·simp only[shB,Yav,List.length_append];omega
theorem YdF {top:Stamp}:∀{l:List Shd} {p:Int},cgo top p l=true→∀s∈l,shR s=true
 |[],_,_,s,hs=>by cases hs
 |x::l,p,h,s,hs=>by
  simp only[cgo,Bool.and_eq_true] at h
  rcases List.mem_cons.1 hs with rfl|hs
  ·exact h.2.1
  ·exact YdF h.2.2.2 s hs
theorem YdE {c:Cel} (h:Y0 c=true):c.shards.length≤8∧Yb c.top=true∧(0≤c.dropped∧c.dropped≤1099511627776)∧∀s∈c.shards,shR s=true:=by
 simp only[Y0,Bool.and_eq_true,decide_eq_true_eq] at h
 exact⟨h.1,h.2.1,YcC h.2.2.1,YdF h.2.2.2⟩
theorem YcX {c:Cel} (h:Y0 c=true):(cB c).length≤968030:=by
 obtain⟨h1,h2,h3,h4⟩:=YdE h
 have k1:=YcF h2
 have k2:=YaX (n:=c.dropped.toNat) (by omega)
 have k3:=YbN (n:=c.shards.length) (by omega)
 have k4:=YbW (W:=shB) (l:=c.shards) (k:=121000) fun s hs=>(Ydo (h4 s hs)).2
 simp only[cB,Yav,List.length_append];omega
theorem Yd2 {s:Shd} (hr:shR s=true):SmS s:=by
 have h0:=hr
 simp only[shR,shR0,YB,Yp,ixR,Yn,Bool.and_eq_true,Bool.or_eq_true,decide_eq_true_eq,List.all_eq_true] at hr
 obtain⟨⟨⟨a1,a2⟩,⟨b1,b2⟩,c1,d1,e1,f1,g1,g2,⟨i1,i2⟩,⟨j1,j2⟩,k1,k2,l1,l2⟩,-⟩:=hr
 have lo:s.span.lo.length≤16:=by
  rcases i1 with i1|i1
  ·rw[i1];simp
  ·exact (YG i1).1
 have hi:s.span.hi.length≤16:=by
  rcases i2 with i2|i2
  ·rw[i2];simp
  ·exact (YG i2.1).1
 refine⟨⟨by omega,fun e he=>?_⟩,by omega,fun d hd=>?_,by omega,by omega⟩
 ·have h1:=YbF j2 e he
  simp only[YaS,Yf,Bool.and_eq_true,decide_eq_true_eq] at h1
  have:=(YG h1.1).1
  omega
 ·have:=Ya9 l1 d hd
  simp only[rowR,YB,YaT,Bool.and_eq_true,decide_eq_true_eq,Bool.not_eq_true'] at this
  obtain⟨-,-,-,-,-,-,c5,-,-⟩:=this
  rw[c5];simp
theorem YbD {c:Cel} (h:Y0 c=true):SmC c:=by
 obtain⟨h1,h2,h3,h4⟩:=YdE h
 exact⟨by omega,fun s hs=>Yd2 (h4 s hs)⟩
theorem K487i (h:H487 Pg) (n:Int) (h0:0≤n) (h1:n<2 ^ 63):K' Pg 487 [iz n]=some (.tuple [.str (putB n.toNat),iz 0]):=by
 have:=K487 h n.toNat (by omega)
 rw[show ((n.toNat:Nat):Int)=n by omega] at this
 exact this
def H460 (Pg:Nat→Option Fn):Prop:=Pg 460=some (.code F460)∧H487 Pg
theorem K460 (h:H460 Pg) (n:Int) (h0:0≤n) (h1:n<2 ^ 63):K' Pg 460 [iz n]=some (.str (putB n.toNat)):=by
 obtain⟨h,h487⟩:=h
 have k:=K487i h487 n h0 h1
 refine K'_code h rfl ?_
 simp only[F460,c460,go_sem,k]
def H503 (Pg:Nat→Option Fn):Prop:=Pg 503=some (.code F503)∧H487 Pg
theorem K503 (h:H503 Pg) (t:List UInt8) (ht:t.length<2 ^ 61):K' Pg 503 [.str t]=some (.str (YH t)):=by
 obtain⟨h,h487⟩:=h
 have k:=K487 h487 t.length (by omega)
 have hl:(putB t.length).length+t.length≤4611686018427387904:=by have:=YY.2 (show t.length<2 ^ 63 by omega);omega
 refine K'_code h rfl ?_
 simp only[F503,c503,go_sem,k,hl,YH]
def H488 (Pg:Nat→Option Fn):Prop:=Pg 488=some (.code F488)∧H503 Pg
theorem K488 (h:H488 Pg) (t:List UInt8) (ht:t.length<2 ^ 61):K' Pg 488 [.str t]=some (.str (YH t)):=by
 obtain⟨h,h503⟩:=h
 have k:=K503 h503 t ht
 refine K'_code h rfl ?_
 simp only[F488,c488,go_sem,k]
def H504 (Pg:Nat→Option Fn):Prop:=Pg 504=some (.code F504)
theorem K504 (h:H504 Pg) (b:Bool):K' Pg 504 [.bool b]=some (.str (YS b)):=by
 refine K'_code h rfl ?_
 cases b<;>simp only[F504,c504,go_sem,YS]<;>rfl
def H489 (Pg:Nat→Option Fn):Prop:=Pg 489=some (.code F489)∧H504 Pg
theorem K489 (h:H489 Pg) (b:Bool):K' Pg 489 [.bool b]=some (.str (YS b)):=by
 obtain⟨h,h504⟩:=h
 have k:=K504 h504 b
 refine K'_code h rfl ?_
 simp only[F489,c489,go_sem,k]
def H459 (Pg:Nat→Option Fn):Prop:=Pg 459=some (.code F459)∧H486 Pg
theorem K459 (h:H459 Pg) (s:Stamp) (hs:Yb s=true):K' Pg 459 [.agg (Yd s)]=some (.str (stB s)):=by
 obtain⟨h,h486⟩:=h
 have k:=K486 h486 s hs
 simp only[go_sem] at k
 refine K'_code h rfl ?_
 simp only[F459,c459,go_sem,k]
theorem Yb6 {α:Type} {W:α→List UInt8} {l:List α} {j:Nat}:((l.take j).flatMap W).length≤(l.flatMap W).length:=by
 conv=>rhs;rw[←List.take_append_drop j l]
 simp only[List.flatMap_append,List.length_append];omega
theorem Yb5 {α:Type} {W:α→List UInt8} {l:List α} {j:Nat} {x:α} (h:l[j]?=some x):(l.take (j+1)).flatMap W=(l.take j).flatMap W++W x:=by
 rw[List.take_add_one,h];simp
theorem Yfg (h459:H459 Pg) (h489:H489 Pg) (h488:H488 Pg) {sh:Shd} {key g:List UInt8} {chain:List Ver} {I:Nat} (hc:∀v∈chain,Yb v.at_=true∧v.val.length≤2 ^ 20) (hn:chain.length≤2 ^ 20) (hg:g.length+(chain.flatMap Yay).length≤2 ^ 40)
  {S:St} {Q:Ex→St→Prop} (s1:S.ρ 1=.lref 1 0) (s3:S.ρ 3=.str g) (s4:S.ρ 4=iz I) (s5:S.ρ 5=.lref 5 0) (s6:S.ρ 6=iz 0) (n1:S.μ 1=some (YE sh,false)) (n5:S.μ 5=some ([.str key,Ya chain],false)) (n8:S.μ 8=none)
  (hq:∀S',S'.ρ 1=.lref 1 0→S'.ρ 3=.str (g++chain.flatMap Yay)→S'.ρ 4=iz I→S'.μ 1=some (YE sh,false)→S'.μ 8=none→Q .norm S'):Wp (K' Pg) l461_1 S (Blk 2 Q):=by
 unfold l461_1
 refine JiG (fun (j:Nat) S'=>j≤chain.length∧S'.ρ 1=.lref 1 0∧S'.ρ 3=.str (g++(chain.take j).flatMap Yay)∧S'.ρ 4=iz I∧S'.ρ 5=.lref 5 0∧S'.ρ 6=iz j∧S'.μ 1=some (YE sh,false)∧S'.μ 5=some ([.str key,Ya chain],false)∧S'.μ 8=none) (fun j=>chain.length-j) 0 ?_ ?_
 ·simp only[JhC]
  exact⟨Nat.zero_le _,s1,by rw[s3];simp,s4,s5,s6,n1,n5,n8⟩
 ·intro j S' ⟨hj,t1,t3,t4,t5,t6,m1,m5,m8⟩
  simp only[Ya] at m5
  cases c1:decide ((j:Int)<(chain.length:Int)) with
  |false=>
   have hjm:j=chain.length:=by have:=of_decide_eq_false c1;omega
   subst hjm
   rw[List.take_length] at t3
   simp only[go_sem,t5,t6,m5,c1,List.length_map]
   exact hq _ (by simp only[go_sem,t1]) (by simp only[go_sem,t3]) (by simp only[go_sem,t4]) m1 m8
  |true=>
   have hlt:=Yg c1
   obtain⟨v,hv,-⟩:=Jin hlt
   obtain⟨v1,v2⟩:=hc v (List.mem_of_getElem? hv)
   have hinc:IntKind.i64.wrap ((j:Int)+1)=((j+1:Nat):Int):=by rw[JiD (by omega) (by omega)];omega
   have k1:=K459 h459 v.at_ v1
   have k2:=K489 h489 v.gone
   have k3:=K488 h488 v.val (by omega)
   have hsn:=Yb5 (W:=Yay) hv
   have hle:=Yb6 (W:=Yay) (l:=chain) (j:=j+1)
   rw[hsn,List.length_append] at hle
   simp only[Yay,List.length_append] at hle
   generalize hG:g++(chain.take j).flatMap Yay=G at *
   have hGl:G.length=g.length+((chain.take j).flatMap Yay).length:=by rw[←hG,List.length_append]
   have b1:G.length+(stB v.at_).length≤4611686018427387904:=by omega
   have b2:G.length+(stB v.at_).length+(YS v.gone).length≤4611686018427387904:=by omega
   have b3:G.length+(stB v.at_).length+(YS v.gone).length+(YH v.val).length≤4611686018427387904:=by omega
   simp only[go_sem] at k1
   simp only[go_sem,t1,t3,t4,t5,t6,m5,c1,hv,hlt,k1,k2,k3,hinc,b1,b2,b3,List.length_map,List.length_append,JhC]
   refine⟨j+1,by omega,by omega,by rw[hsn,←List.append_assoc,hG];simp[Yay],rfl,m1,rfl,m8⟩
theorem Ye0 (h459:H459 Pg) (h489:H489 Pg) (h488:H488 Pg) (h460:H460 Pg) {sh:Shd} {g:List UInt8} (hc:∀e∈sh.ents,e.key.length≤2 ^ 20∧e.chain.length≤2 ^ 20∧∀v∈e.chain,Yb v.at_=true∧v.val.length≤2 ^ 20) (hn:sh.ents.length≤2 ^ 20) (hg:g.length+(sh.ents.flatMap Yag).length≤2 ^ 40)
  {S:St} {Q:Ex→St→Prop} (s1:S.ρ 1=.lref 1 0) (s3:S.ρ 3=.str g) (s4:S.ρ 4=iz 0) (n1:S.μ 1=some (YE sh,false)) (n5:S.μ 5=none) (n8:S.μ 8=none)
  (hq:∀S',S'.ρ 1=.lref 1 0→S'.ρ 3=.str (g++sh.ents.flatMap Yag)→S'.μ 1=some (YE sh,false)→S'.μ 8=none→Q .norm S'):Wp (K' Pg) l461_0 S (Blk 0 Q):=by
 unfold l461_0
 refine JiG (fun (j:Nat) S'=>j≤sh.ents.length∧S'.ρ 1=.lref 1 0∧S'.ρ 3=.str (g++(sh.ents.take j).flatMap Yag)∧S'.ρ 4=iz j∧S'.μ 1=some (YE sh,false)∧S'.μ 5=none∧S'.μ 8=none) (fun j=>sh.ents.length-j) 0 ?_ ?_
 ·exact⟨Nat.zero_le _,Jir s1 rfl,Jir (by rw[s3];simp) rfl,Jir s4 rfl,(YbZ rfl).trans n1,Jip (.inr rfl),Jip (.inl n8)⟩
 ·intro j S' ⟨hj,t1,t3,t4,m1,m5,m8⟩
  have m1':=m1
  simp only[go_sem] at m1'
  cases c1:decide ((j:Int)<(sh.ents.length:Int)) with
  |false=>
   have hjm:j=sh.ents.length:=by have:=of_decide_eq_false c1;omega
   rw[hjm,List.take_length] at t3
   simp only[go_sem,t1,t4,m1',c1,List.length_map]
   exact hq _ (by simp only[go_sem,t1]) (by simp only[go_sem,t3]) m1 m8
  |true=>
   have hlt:=Yg c1
   obtain⟨e,he,-⟩:=Jin hlt
   obtain⟨v1,v2,v3⟩:=hc e (List.mem_of_getElem? he)
   have hinc:IntKind.i64.wrap ((j:Int)+1)=((j+1:Nat):Int):=by rw[JiD (by omega) (by omega)];omega
   have k1:=K488 h488 e.key (by omega)
   have k2:=K460 h460 e.chain.length (by omega) (by omega)
   have hto:((e.chain.length:Int)).toNat=e.chain.length:=by omega
   rw[hto] at k2
   have hsn:=Yb5 (W:=Yag) he
   have hle:=Yb6 (W:=Yag) (l:=sh.ents) (j:=j+1)
   rw[hsn,List.length_append] at hle
   simp only[Yag,Yav,List.length_append] at hle
   generalize hG:g++(sh.ents.take j).flatMap Yag=G at *
   have hGl:G.length=g.length+((sh.ents.take j).flatMap Yag).length:=by rw[←hG,List.length_append]
   have b1:G.length+(YH e.key).length≤4611686018427387904:=by omega
   have b2:G.length+(YH e.key).length+(putB e.chain.length).length≤4611686018427387904:=by omega
   simp only[go_sem,Ya,t1,t3,t4,m1',m5,c1,he,hlt,k1,k2,b1,b2,List.length_map,List.length_append]
   refine Yfg h459 h489 h488 (sh:=sh) (key:=e.key) (g:=G++YH e.key++putB e.chain.length) (chain:=e.chain) (I:=j) v3 v2 (by simp only[List.length_append];omega) (by simp only[go_sem,t1]) (by simp only[go_sem]) (by simp only[go_sem,t4]) (by simp only[go_sem]) (by simp only[go_sem]) (by simp only[go_sem,m1']) (by simp only[go_sem,Ya]) (by simp only[go_sem,m8]) fun S2 u1 u3 u4 w1 w8=>?_
   have w1':=w1
   have hfin:g++(sh.ents.take (j+1)).flatMap Yag=G++YH e.key++putB e.chain.length++e.chain.flatMap Yay:=by rw[hsn,←List.append_assoc,hG];simp[Yag,Yav]
   simp only[go_sem,u4,hinc,u1,u3,w1',w8,Option.map_some,Option.map_none]
   exact⟨j+1,by omega,by omega,by rw[hfin],rfl⟩
theorem YeA (h459:H459 Pg) (h489:H489 Pg) (h488:H488 Pg) (h460:H460 Pg) {sh:Shd} {g:List UInt8} (hc:∀d∈sh.done,rowR d=true) (hn:sh.done.length≤2 ^ 20) (hg:g.length+(sh.done.flatMap YR).length≤2 ^ 40)
  {S:St} {Q:Ex→St→Prop} (s1:S.ρ 1=.lref 1 0) (s3:S.ρ 3=.str g) (s7:S.ρ 7=iz 0) (n1:S.μ 1=some (YE sh,false)) (n8:S.μ 8=none)
  (hq:∀S',S'.ρ 3=.str (g++sh.done.flatMap YR)→Q .norm S'):Wp (K' Pg) l461_2 S (Blk 4 Q):=by
 unfold l461_2
 refine JiG (fun (j:Nat) S'=>j≤sh.done.length∧S'.ρ 1=.lref 1 0∧S'.ρ 3=.str (g++(sh.done.take j).flatMap YR)∧S'.ρ 7=iz j∧S'.μ 1=some (YE sh,false)∧S'.μ 8=none) (fun j=>sh.done.length-j) 0 ?_ ?_
 ·exact⟨Nat.zero_le _,Jir s1 rfl,Jir (by rw[s3];simp) rfl,Jir s7 rfl,(YbZ rfl).trans n1,Jip (.inr rfl)⟩
 ·intro j S' ⟨hj,t1,t3,t7,m1,m8⟩
  have m1':=m1
  simp only[go_sem] at m1'
  cases c1:decide ((j:Int)<(sh.done.length:Int)) with
  |false=>
   have hjm:j=sh.done.length:=by have:=of_decide_eq_false c1;omega
   rw[hjm,List.take_length] at t3
   simp only[go_sem,t1,t7,m1',c1,List.length_map]
   exact hq _ (by simp only[go_sem,t3])
  |true=>
   have hlt:=Yg c1
   obtain⟨d,he,-⟩:=Jin hlt
   have hr:=hc d (List.mem_of_getElem? he)
   simp only[rowR,YB,YaT,Bool.and_eq_true,decide_eq_true_eq,Bool.not_eq_true'] at hr
   obtain⟨⟨a1,a2⟩,⟨a3,a4⟩,a5,a6,a7,a8,-⟩:=hr
   have hinc:IntKind.i64.wrap ((j:Int)+1)=((j+1:Nat):Int):=by rw[JiD (by omega) (by omega)];omega
   have k1:=K460 h460 d.client (by omega) (by omega)
   have k2:=K460 h460 d.req (by omega) (by omega)
   have k3:=K460 h460 d.ans.err a5 (by omega)
   have k4:=K459 h459 d.ans.at_ a7
   have k5:=K489 h489 d.ans.found
   have k6:=K488 h488 d.ans.val (by omega)
   have hsn:=Yb5 (W:=YR) he
   have hle:=Yb6 (W:=YR) (l:=sh.done) (j:=j+1)
   rw[hsn,List.length_append] at hle
   simp only[YR,List.length_append] at hle
   generalize hG:g++(sh.done.take j).flatMap YR=G at *
   have hGl:G.length=g.length+((sh.done.take j).flatMap YR).length:=by rw[←hG,List.length_append]
   have b1:G.length+(putB d.client.toNat).length≤4611686018427387904:=by omega
   have b2:G.length+(putB d.client.toNat).length+(putB d.req.toNat).length≤4611686018427387904:=by omega
   have b3:G.length+(putB d.client.toNat).length+(putB d.req.toNat).length+(putB d.ans.err.toNat).length≤4611686018427387904:=by omega
   have b4:G.length+(putB d.client.toNat).length+(putB d.req.toNat).length+(putB d.ans.err.toNat).length+(stB d.ans.at_).length≤4611686018427387904:=by omega
   have b5:G.length+(putB d.client.toNat).length+(putB d.req.toNat).length+(putB d.ans.err.toNat).length+(stB d.ans.at_).length+(YS d.ans.found).length≤4611686018427387904:=by omega
   have b6:G.length+(putB d.client.toNat).length+(putB d.req.toNat).length+(putB d.ans.err.toNat).length+(stB d.ans.at_).length+(YS d.ans.found).length+(YH d.ans.val).length≤4611686018427387904:=by omega
   have hfin:g++(sh.done.take (j+1)).flatMap YR=G++putB d.client.toNat++putB d.req.toNat++putB d.ans.err.toNat++stB d.ans.at_++YS d.ans.found++YH d.ans.val:=by rw[hsn,←List.append_assoc,hG];simp[YR]
   simp only[go_sem] at k4
   simp only[go_sem,t1,t3,t7,m1',m8,c1,he,hlt,k1,k2,k3,k4,k5,k6,b1,b2,b3,b4,b5,b6,hinc,List.length_map,List.length_append,Option.map_some,Option.map_none]
   exact⟨j+1,by omega,by omega,by rw[hfin],rfl⟩
def H461 (Pg:Nat→Option Fn):Prop:=Pg 461=some (.code F461)∧H459 Pg∧H489 Pg∧H488 Pg∧H460 Pg
set_option maxHeartbeats 1000000 in
theorem K461 (h:H461 Pg) (s:Shd) (hr:shR s=true) (hb:(shB s).length≤2 ^ 40):K' Pg 461 [.agg (YE s)]=some (.str (shB s)):=by
 obtain⟨h,h459,h489,h488,h460⟩:=h
 have hv:=Yc5 hr
 simp only[shR,shR0,YB,nou,Yp,ixR,Yn,Bool.and_eq_true,Bool.or_eq_true,decide_eq_true_eq,List.all_eq_true] at hr
 obtain⟨⟨⟨a1,a2⟩,⟨b1,b2⟩,⟨c1,c2⟩,⟨d1,d2⟩,⟨e1,e2⟩,⟨f1,f2⟩,g1,g2,⟨i1,i2⟩,⟨j1,j2⟩,k1,k2,l1,l2⟩,-⟩:=hr
 have lo:s.span.lo.length≤16:=by
  rcases i1 with i1|i1
  ·rw[i1];simp
  ·exact (YG i1).1
 have hi:s.span.hi.length≤16:=by
  rcases i2 with i2|i2
  ·rw[i2];simp
  ·exact (YG i2.1).1
 have hents:∀e∈s.ents,e.key.length≤2 ^ 20∧e.chain.length≤2 ^ 20∧∀v∈e.chain,Yb v.at_=true∧v.val.length≤2 ^ 20:=fun e he=>by
  have:=YbF j2 e he
  simp only[YaS,Yf,Bool.and_eq_true,decide_eq_true_eq] at this
  obtain⟨h1,h2,h3,h4⟩:=this
  refine⟨by have:=(YG h1).1;omega,by omega,fun v hv=>?_⟩
  have:=YbR h3 v hv
  simp only[Yv,Bool.and_eq_true,decide_eq_true_eq] at this
  exact⟨this.1.1,by omega⟩
 have q1:=K460 h460 s.id (by omega) (by omega)
 have q2:=K460 h460 s.epoch (by omega) (by omega)
 have q3:=K460 h460 s.phase (by omega) (by omega)
 have q4:=K460 h460 s.hold (by omega) (by omega)
 have q5:=K460 h460 s.seen (by omega) (by omega)
 have q6:=K460 h460 s.move (by omega) (by omega)
 have q7:=K460 h460 s.closed (by omega) (by omega)
 have q8:=K488 h488 s.span.lo (by omega)
 have q9:=K488 h488 s.span.hi (by omega)
 have q10:=K459 h459 s.mark k1
 have q11:=K459 h459 s.top k2
 have q12:=K460 h460 s.ents.length (by omega) (by omega)
 have q13:=K460 h460 s.done.length (by omega) (by omega)
 rw[show ((s.ents.length:Int)).toNat=s.ents.length by omega] at q12
 rw[show ((s.done.length:Int)).toNat=s.done.length by omega] at q13
 simp only[go_sem] at q10 q11
 have hb':=hb
 simp only[shB,Yav,List.length_append] at hb'
 have w1:(putB s.id.toNat).length+(putB s.epoch.toNat).length≤4611686018427387904:=by omega
 have w2:(putB s.id.toNat).length+(putB s.epoch.toNat).length+(putB s.phase.toNat).length≤4611686018427387904:=by omega
 have w3:(putB s.id.toNat).length+(putB s.epoch.toNat).length+(putB s.phase.toNat).length+(putB s.hold.toNat).length≤4611686018427387904:=by omega
 have w4:(putB s.id.toNat).length+(putB s.epoch.toNat).length+(putB s.phase.toNat).length+(putB s.hold.toNat).length+(putB s.seen.toNat).length≤4611686018427387904:=by omega
 have w5:(putB s.id.toNat).length+(putB s.epoch.toNat).length+(putB s.phase.toNat).length+(putB s.hold.toNat).length+(putB s.seen.toNat).length+(putB s.move.toNat).length≤4611686018427387904:=by omega
 have w6:(putB s.id.toNat).length+(putB s.epoch.toNat).length+(putB s.phase.toNat).length+(putB s.hold.toNat).length+(putB s.seen.toNat).length+(putB s.move.toNat).length+(putB s.closed.toNat).length≤4611686018427387904:=by omega
 have w7:(putB s.id.toNat).length+(putB s.epoch.toNat).length+(putB s.phase.toNat).length+(putB s.hold.toNat).length+(putB s.seen.toNat).length+(putB s.move.toNat).length+(putB s.closed.toNat).length+(YH s.span.lo).length≤4611686018427387904:=by omega
 have w8:(putB s.id.toNat).length+(putB s.epoch.toNat).length+(putB s.phase.toNat).length+(putB s.hold.toNat).length+(putB s.seen.toNat).length+(putB s.move.toNat).length+(putB s.closed.toNat).length+(YH s.span.lo).length+(YH s.span.hi).length≤4611686018427387904:=by omega
 have w9:(putB s.id.toNat).length+(putB s.epoch.toNat).length+(putB s.phase.toNat).length+(putB s.hold.toNat).length+(putB s.seen.toNat).length+(putB s.move.toNat).length+(putB s.closed.toNat).length+(YH s.span.lo).length+(YH s.span.hi).length+(stB s.mark).length≤4611686018427387904:=by omega
 have w10:(putB s.id.toNat).length+(putB s.epoch.toNat).length+(putB s.phase.toNat).length+(putB s.hold.toNat).length+(putB s.seen.toNat).length+(putB s.move.toNat).length+(putB s.closed.toNat).length+(YH s.span.lo).length+(YH s.span.hi).length+(stB s.mark).length+(stB s.top).length≤4611686018427387904:=by omega
 have w11:(putB s.id.toNat).length+(putB s.epoch.toNat).length+(putB s.phase.toNat).length+(putB s.hold.toNat).length+(putB s.seen.toNat).length+(putB s.move.toNat).length+(putB s.closed.toNat).length+(YH s.span.lo).length+(YH s.span.hi).length+(stB s.mark).length+(stB s.top).length+(putB s.ents.length).length≤4611686018427387904:=by omega
 refine K'_code h rfl ?_
 simp only[F461,c461,go_sem,q1,q2,q3,q4,q5,q6,q7,q8,q9,q10,q11,q12,w1,w2,w3,w4,w5,w6,w7,w8,w9,w10,w11,List.length_map,List.length_append]
 refine Ye0 h459 h489 h488 h460 (sh:=s) (g:=putB s.id.toNat++putB s.epoch.toNat++putB s.phase.toNat++putB s.hold.toNat++putB s.seen.toNat++putB s.move.toNat++putB s.closed.toNat++YH s.span.lo++YH s.span.hi++stB s.mark++stB s.top++putB s.ents.length) hents (by omega) (by simp only[List.length_append];omega) (by simp only[go_sem]) (by simp only[go_sem]) (by simp only[go_sem]) (by simp only[go_sem]<;>rfl) (by simp only[go_sem]) (by simp only[go_sem]) fun S1 u1 u3 v1 v8=>?_
 have v1':=v1
 simp only[go_sem] at v1'
 generalize hg:putB s.id.toNat++putB s.epoch.toNat++putB s.phase.toNat++putB s.hold.toNat++putB s.seen.toNat++putB s.move.toNat++putB s.closed.toNat++YH s.span.lo++YH s.span.hi++stB s.mark++stB s.top++putB s.ents.length++s.ents.flatMap Yag=g at u3
 have hgl:g.length+(putB s.done.length).length≤4611686018427387904:=by rw[←hg];simp only[List.length_append];omega
 have hgl2:(g++putB s.done.length).length+(s.done.flatMap YR).length≤2 ^ 40:=by rw[←hg];simp only[List.length_append];omega
 simp only[go_sem,u1,u3,v1',q13,hgl,List.length_map]
 refine YeA h459 h489 h488 h460 (sh:=s) (g:=g++putB s.done.length) (fun d hd=>Ya9 l1 d hd) (by omega) hgl2 (by simp only[go_sem,u1]) (by simp only[go_sem]) (by simp only[go_sem]) (by simp only[go_sem,v1']) (by simp only[go_sem,v8]) fun S2 z3=>?_
 have hall:g++putB s.done.length++s.done.flatMap YR=shB s:=by rw[←hg];simp[shB,Yav]
 simp only[go_sem,z3,hall]
def H424 (Pg:Nat→Option Fn):Prop:=Pg 424=some (.code F424)∧H459 Pg∧H460 Pg∧H461 Pg
set_option maxHeartbeats 1000000 in
theorem K424 (h:H424 Pg) (c:Cel) (hr:Y0 c=true):K' Pg 424 [.agg (Y8 c)]=some (.str (cB c)):=by
 obtain⟨h,h459,h460,h461⟩:=h
 obtain⟨r1,r2,r3,r4⟩:=YdE hr
 have hl:=YcX hr
 simp only[cB,Yav,List.length_append] at hl
 have q1:=K459 h459 c.top r2
 have q2:=K460 h460 c.dropped (by omega) (by omega)
 have q3:=K460 h460 c.shards.length (by omega) (by omega)
 rw[show ((c.shards.length:Int)).toNat=c.shards.length by omega] at q3
 simp only[go_sem] at q1
 have w1:(stB c.top).length+(putB c.dropped.toNat).length≤4611686018427387904:=by omega
 have w2:(stB c.top).length+(putB c.dropped.toNat).length+(putB c.shards.length).length≤4611686018427387904:=by omega
 refine K'_code h rfl ?_
 simp only[F424,c424,go_sem,q1,q2,q3,w1,w2,List.length_map,List.length_append]
 have hg:cB c=stB c.top++putB c.dropped.toNat++putB c.shards.length++c.shards.flatMap shB:=by simp[cB,Yav]
 have hgl:(stB c.top++putB c.dropped.toNat++putB c.shards.length).length+(c.shards.flatMap shB).length≤968030:=by simp only[List.length_append];omega
 rw[hg]
 generalize stB c.top++putB c.dropped.toNat++putB c.shards.length=g at *
 unfold l424_0
 refine JiG (fun (j:Nat) S'=>j≤c.shards.length∧S'.ρ 1=.lref 1 0∧S'.ρ 3=.str (g++(c.shards.take j).flatMap shB)∧S'.ρ 4=iz j∧S'.μ 1=some (Y8 c,false)) (fun j=>c.shards.length-j) 0 ?_ ?_
 ·simp[go_sem]
 ·intro j S' ⟨hj,t1,t3,t4,m1⟩
  have m1':=m1
  simp only[go_sem] at m1'
  cases c1:decide ((j:Int)<(c.shards.length:Int)) with
  |false=>
   have hjm:j=c.shards.length:=by have:=of_decide_eq_false c1;omega
   rw[hjm,List.take_length] at t3
   simp only[go_sem,t1,t3,t4,m1',c1,List.length_map]
  |true=>
   have hlt:=Yg c1
   obtain⟨e,he,-⟩:=Jin hlt
   have hs:=r4 e (List.mem_of_getElem? he)
   have hinc:IntKind.i64.wrap ((j:Int)+1)=((j+1:Nat):Int):=by rw[JiD (by omega) (by omega)];omega
   have k1:=K461 h461 e hs (by have:=(Ydo hs).2;omega)
   simp only[go_sem] at k1
   have htk:c.shards.take (j+1)=c.shards.take j++[e]:=by rw[List.take_add_one,he];rfl
   have hle:=YbX (W:=shB) (l:=c.shards) (i:=j+1)
   have hfull:g++(c.shards.take (j+1)).flatMap shB=g++(c.shards.take j).flatMap shB++shB e:=by rw[htk];simp
   rw[htk,List.flatMap_append,List.length_append] at hle
   simp only[List.flatMap_cons,List.flatMap_nil,List.append_nil] at hle
   generalize hG:g++(c.shards.take j).flatMap shB=G at *
   have hGl:G.length=g.length+((c.shards.take j).flatMap shB).length:=by rw[←hG,List.length_append]
   have b1:G.length+(shB e).length≤4611686018427387904:=by omega
   simp only[go_sem,t1,t3,t4,m1',c1,he,hlt,k1,b1,hinc,List.length_map,JhC]
   exact⟨j+1,by omega,by omega,by rw[hfull],rfl⟩
structure C411 (S:St) (y:Rd) (t:Stamp) (d:Int) (vs:List Shd):Prop where
 r2:S.ρ 2=.lref 2 0
 r4:S.ρ 4=.lref 10 0
 r5:S.ρ 5=.lref 5 0
 m10:S.μ 10=some (eRd y,false)
 m2:S.μ 2=some ([.slice 17 [],.int .i64 0,.int .i64 0,.int .i64 0,.int .i64 0],false)
 m5:S.μ 5=some (clP t d (nilOr 36 17 vs.length),false)
 a36:S.A 36=YaM 17 (vs.map YE) vs.length
theorem C411.head {S:St} {y:Rd} {t:Stamp} {d:Int} {vs:List Shd} (h:C411 S y t d vs):C411 (S.head [] [] [] []) y t d vs:=by rw[JhC];exact h
theorem Yfc {tt:List UInt8} (h436:H436 Pg) {y:Rd} {m:Nat} {t:Stamp} {d:Int} (hy:y.1.length≤2 ^ 20) {S:St} {Q:Ex→St→Prop} (hS:C411 S y t d []) (s6:S.ρ 6=iz m) (s7:S.ρ 7=iz 0) (s0:S.ρ 0=.str tt)
  (hq:∀S',C411 S' (YL (gSh true) m y).2 t d (YL (gSh true) m y).1→S'.ρ 0=.str tt→Q .norm S'):Wp (K' Pg) l411_0 S (Blk 0 Q):=by
 have hcnt:=Ybx (cSh (D:=true)) Ydz (k:=m) (x:=y)
 unfold l411_0
 refine JiG (fun (j:Nat) S'=>j≤m∧S'.ρ 0=.str tt∧S'.ρ 6=iz m∧S'.ρ 7=iz j∧∃(vs:List Shd) (y':Rd),vs.length=j∧y'.1.length≤2 ^ 20∧
  YL (gSh true) m y=(vs++(YL (gSh true) (m-j) y').1,(YL (gSh true) (m-j) y').2)∧C411 S' y' t d vs) (fun j=>m-j) 0 ?_ ?_
 ·simp only[JhC]
  exact⟨Nat.zero_le _,s0,s6,s7,[],y,rfl,hy,rfl,hS⟩
 ·intro j S' ⟨hj,t0,t6,t7,vs,y',hvl,hyl,hrep,hE⟩
  obtain⟨t2,t4,t5,m10,m2,m5,a36⟩:=hE
  obtain⟨u,b⟩:=y'
  simp only[go_sem] at m10
  have fin:(m≤j∨b=true)→∀(ρ':Nat→V),(∀i,i≠28→ρ' i=S'.ρ i)→Q .norm ⟨ρ',S'.μ,S'.A⟩:=fun hs ρ' hρ=>by
   have he:=Yb3 hrep hs
   rw[he] at hq
   exact hq _ ⟨(hρ 2 (by omega)).trans t2,(hρ 4 (by omega)).trans t4,(hρ 5 (by omega)).trans t5,m10,m2,m5,a36⟩ ((hρ 0 (by omega)).trans t0)
  cases c1:decide ((j:Int)<(m:Int)) with
  |false=>
   have hjm:m≤j:=by have:=of_decide_eq_false c1;omega
   simp only[go_sem,t6,t7,c1]
   exact fin (.inl hjm) _ fun i hi=>Je2 (by simpa using hi)
  |true=>
   cases b with
   |true=>
    simp only[go_sem,t4,t6,t7,m10,c1]
    exact fin (.inr rfl) _ fun i hi=>Je2 (by simpa using hi)
   |false=>
    have hlt:=Yg c1
    have hone:=repD_one hlt rfl hrep
    have hjl:vs.length+1≤2 ^ 21:=by
     have:=congrArg (fun p=>p.1.length) hone
     simp only[List.length_append,List.length_singleton] at this
     omega
    have hinc:IntKind.i64.wrap ((j:Int)+1)=((j+1:Nat):Int):=by rw[JiD (by omega) (by omega)];omega
    have k1:=K436 h436 (u,false) hyl
    have l1:=Nat.le_trans ((cSh (D:=true)).len (u,false)) hyl
    generalize gSh true (u,false)=p1 at *
    obtain⟨b1,x1⟩:=p1
    simp only at hone l1
    have r1:=fun (S:St) (hm:S.μ 10=some (eRd (u,false),false))=>rcall_rd (p:=20300) k1 hm
    have ha:=fun S=>Ybn (S:=S) (s:=36) (z:=17) (r:=YE b1) (n:=vs.length) (rows:=vs.map YE) (by simp) (by unfold lim;omega)
    have v5:=m5
    simp only[clP] at v5
    simp only[go_sem] at r1 ha
    simp only[go_sem,t2,t4,t5,t6,t7,c1,m10,v5,a36,r1,YaQ,ha,hinc,JhC]
    exact⟨j+1,by omega,by omega,t0,rfl,vs++[b1],x1,by simp[hvl],l1,hone,by simp only[go_sem,t2],by simp only[go_sem,t4],by simp only[go_sem,t5],by simp only[go_sem],by simp only[go_sem,m2],by simp only[go_sem,List.length_append]<;>rfl,by simp only[go_sem,List.map_append,List.length_append]<;>rfl⟩
def YbI (o:Option Cel):V:=match o with
 |some c=>.tuple [.agg (Y8 c),.bool true]
 |none=>.tuple [.agg [.slice 17 [],iz 0,iz 0,iz 0,iz 0],.bool false]
def H411 (Pg:Nat→Option Fn):Prop:=Pg 411=some (.code F411)∧H434 Pg∧H435 Pg∧H436 Pg∧H246 Pg∧H424 Pg
set_option maxHeartbeats 2000000 in
theorem K411g (h:H411 Pg) (t:List UInt8) (ht:t.length≤2 ^ 20) (hts:(gC true (t,false)).2.2=false→SmC (gC true (t,false)).1):K' Pg 411 [.str t]=some (YbI (tkC t)):=by
 obtain⟨h,h434,h435,h436,h246,h424⟩:=h
 have hR:∀{a:Stamp} {n m:Nat} {x1 x2 x3:Rd},cu tkS zS (t,false)=(a,x1)→cu (tk 9) 0 x1=(n,x2)→cu (tk 9) 0 x2=(m,x3)→
   gC true (t,false)=(mkC (a,n,(YL (gSh true) m x3).1),(YL (gSh true) m x3).2):=by
  intro a n m x1 x2 x3 e1 e2 e3
  have d1:gN true=cu (tk 9) 0:=rfl
  have d3:gS true=cu tkS zS:=rfl
  have d4:gL true (gSh true)=lstD (gSh true):=rfl
  simp only[gC,mapR,pairR,d1,d3,d4,e1,e2,e3,lstD]
 have k1:=K434 h434 (t,false) (by simp only;omega)
 have l1:=(cS (D:=true)).len (t,false)
 change (cu tkS zS (t,false)).2.1.length≤t.length at l1
 cases e1:cu tkS zS (t,false) with
 |mk a x1=>
 rw[e1] at k1 l1
 simp only at k1 l1
 have k2:=K435 h435 x1 (by omega)
 have l2:=Yat.len x1
 cases e2:cu (tk 9) 0 x1 with
 |mk n x2=>
 rw[e2] at k2 l2
 simp only at k2 l2
 have k3:=K435 h435 x2 (by omega)
 have l3:=Yat.len x2
 cases e3:cu (tk 9) 0 x2 with
 |mk m y=>
 rw[e3] at k3 l3
 simp only at k3 l3
 have hg:=hR e1 e2 e3
 have e0:=tkC_doc (t:=t)
 rw[←e0]
 rw[hg] at hts ⊢
 clear e0
 generalize hD:YL (gSh true) m y=pD at *
 obtain⟨sh,u,b⟩:=pD
 simp only at hg hts ⊢
 refine K'_code h rfl ?_
 have r1:=fun (S:St) (hm:S.μ 10=some (eRd (t,false),false))=>rcall_rd (p:=20000) k1 hm
 have r2:=fun (S:St) (hm:S.μ 10=some (eRd x1,false))=>rcall_rd (p:=20100) k2 hm
 have r3:=fun (S:St) (hm:S.μ 10=some (eRd x2,false))=>rcall_rd (p:=20200) k3 hm
 simp only[go_sem,eSt] at r1 r2 r3
 simp only[F411,c411,go_sem,r1,r2,r3]
 refine Yfc (tt:=t) h436 (y:=y) (m:=m) (t:=a) (d:=n) (by omega) ⟨by simp only[go_sem],by simp only[go_sem],by simp only[go_sem],by simp only[go_sem],by simp only[go_sem],by simp only[go_sem]<;>rfl,rfl⟩ (by simp only[go_sem]) (by simp only[go_sem]) (by simp only[go_sem]) fun S1 hE1 t0=>?_
 rw[hD] at hE1
 obtain⟨t2,t4,t5,m10,m2,m5,a36⟩:=hE1
 simp only at m10 a36 m5
 have hc1:=Yac a36 (by simp)
 simp only[clP] at m5
 simp only[go_sem] at m10
 cases b with
 |true=>
  rw[if_neg (by simp)]
  simp only[go_sem,t0,t2,t4,t5,m10,m2,m5,YbI]
 |false=>
  have k246:=K246 h246 (mkC (a,n,sh)) (hts rfl)
  cases c3:Y0 (mkC (a,n,sh)) with
  |false=>
   rw[c3] at k246
   rw[if_neg (by simp)]
   simp only[go_sem,mkC] at k246
   simp only[go_sem,t0,t2,t4,t5,m10,m2,m5,hc1,k246,Yas,YbI]
  |true=>
   rw[c3] at k246
   have k424:=K424 h424 (mkC (a,n,sh)) c3
   simp only[go_sem,mkC] at k246 k424
   cases c4:decide (cB ⟨sh,a,(n:Int)⟩=t) with
   |false=>
    rw[if_neg (by simpa [mkC] using of_decide_eq_false c4)]
    simp only[go_sem,t0,t2,t4,t5,m10,m2,m5,hc1,k246,k424,c4,Yas,YbI]
   |true=>
    rw[if_pos ⟨rfl,rfl,by simpa [mkC] using of_decide_eq_true c4⟩]
    simp only[go_sem,t0,t2,t4,t5,m10,m2,m5,hc1,k246,k424,c4,Yas,YbI,mkC]
theorem K411 (h:H411 Pg) (t:List UInt8) (ht:t.length≤10000):K' Pg 411 [.str t]=some (YbI (tkC t)):=K411g h t (by omega) fun hb=>by
 cases hg:gC true (t,false) with
 |mk c y=>
 obtain⟨u,b⟩:=y
 rw[hg] at hb
 simp only at hb
 subst hb
 obtain⟨g1,g2⟩:=(cC (D:=true)).get hg
 have:=congrArg List.length g1
 rw[List.length_append] at this
 exact Yd4 (c:=c) g2 (by omega)
def H425 (Pg:Nat→Option Fn):Prop:=Pg 425=some (.code F425)∧H411 Pg
theorem K425 (h:H425 Pg) (t:List UInt8) (ht:t.length≤10000):K' Pg 425 [.str t]=some (YbI (tkC t)):=by
 obtain⟨h,h411⟩:=h
 have k:=K411 h411 t ht
 refine K'_code h rfl ?_
 cases e:tkC t with
 |none=>
  rw[e] at k
  simp only[YbI] at k ⊢
  simp only[F425,c425,go_sem,k]
 |some c=>
  rw[e] at k
  simp only[YbI] at k ⊢
  simp only[go_sem] at k
  simp only[F425,c425,go_sem,k]
def frQ (m n:Int):Bool:=!(decide (n<m)||decide (1099511627776<n))
def Yy (n:Int):Bool:=frQ 0 n
theorem YcW {m:Int}:∀{l:List Int},(!(l.any fun n=>decide (n<m)||decide (1099511627776<n)))=l.all (frQ m)
 |[]=>rfl
 |a::l=>by
  simp only[List.any_cons,List.all_cons,←YcW (l:=l),frQ,Bool.not_or]
end Sg
namespace Sg
variable {Pg : Nat → Option Fn}
end Sg
namespace Sg
open _root_.Go (IntKind BinOp UnOp)
variable {Pg : Nat → Option Fn}
def H149 (Pg:Nat→Option Fn):Prop:=Pg 149=some (.code F149)∧H142 Pg
theorem K149 (h:H149 Pg) (l:List Place) (k:List UInt8) (hl:l.length<2 ^ 60) (hn:l≠[]):K' Pg 149 [YC l,.str k]=some (eOP (Yan l k)):=by
 obtain⟨h,h142⟩:=h
 have k142:=fun s=>K142 h142 s k
 simp only[YD] at k142
 refine K'_code h rfl ?_
 cases c2:decide (k=[]) with
 |true=>
  obtain⟨x,t,rfl⟩:=List.exists_cons_of_ne_nil hn
  have e:Yan (x::t) k=some x:=by simp[Yan,c2]
  rw[e]
  simp only[go_sem,Yq,c2,Option.isSome_some,YZ]
 |false=>
  simp only[go_sem,Yq,c2]
  unfold l149_0
  refine JiG (fun (i:Nat) S=>i≤l.length∧S.ρ 0=YC l∧S.ρ 1=.str k∧S.ρ 4=.lref 4 0∧S.μ 4=some (ePl YZ,false)∧S.ρ 6=iz i∧Yan (l.drop i) k=Yan l k) (fun i=>l.length-i) 0 ?_ ?_
  ·simp[go_sem,YZ]
  ·intro i S ⟨hi,h0,h1,h4,m4,h6,ho⟩
   simp only[go_sem,h0,h1,h4,m4,h6]
   refine JiH (fun h=>?_) (fun h=>?_)
   ·have h:=Yg h
    obtain⟨x,hx,hd⟩:=Jin h
    rw[hd] at ho
    simp only[Yan,List.find?_cons,c2,Bool.false_or] at ho
    simp only[go_sem,h0,h1,h4,m4,h6,hx,k142]
    cases c4:Yab x.span k with
    |true=>
     rw[c4] at ho
     simp only at ho
     simp only[go_sem,c4,h0,h1,h4,m4,h6,hx,Yan,c2,Bool.false_or,←ho,Option.isSome_some,YZ]
    |false=>
     rw[c4] at ho
     simp only at ho
     simp only[go_sem,c4,h0,h1,h4,m4,h6,hx]
     refine⟨i+1,by omega,by omega,by rw[Yi h hl],?_⟩
     simp only[Yan,c2,Bool.false_or]
     exact ho
   ·have h:=Ym hi h
    subst h
    rw[List.drop_length] at ho
    have ho:none=Yan l k:=ho
    simp only[go_sem,h0,h1,h4,m4,h6,←ho,YZ,Option.isSome_none]
def H153 (Pg:Nat→Option Fn):Prop:=Pg 153=some (.code F153)
theorem K153 (h:H153 Pg) (t:List Place) (hl:t.length<2 ^ 60):K' Pg 153 [YC t,YC t]=some (.bool true):=by
 refine K'_code h rfl ?_
 simp only[go_sem]
 unfold l153_0
 refine JiG (fun (i:Nat) S=>i≤t.length∧S.ρ 0=YC t∧S.ρ 1=YC t∧S.ρ 5=iz i) (fun i=>t.length-i) 0 ?_ ?_
 ·simp[go_sem]
 ·intro i S ⟨hi,h0,h1,h5⟩
  simp only[go_sem,h0,h1,h5]
  refine JiH (fun h=>?_) (fun h=>?_)
  ·have h:=Yg h
   obtain⟨x,hx,hd⟩:=Jin h
   simp only[go_sem,h0,h1,h5,hx]
   exact⟨i+1,by omega,by omega,by rw[Yi h hl]⟩
  ·simp only[go_sem]
structure Msg where
 kind:Int
 from_:Int
 to:Int
 shard:Int
 epoch:Int
 move:Int
 lease:Int
 n:Int
 of_:Int
 at_:Stamp
 text:List UInt8
 req:Rq
 ans:Ans
 places:List Place
 mem:List Int
@[go_sem] def YU (m:Msg):List V:=[iz m.kind,iz m.from_,iz m.to,iz m.shard,iz m.epoch,iz m.move,iz m.lease,iz m.n,iz m.of_,iz m.at_.wall,iz m.at_.tick,iz m.at_.node,.str m.text,iz m.req.client,iz m.req.req,iz m.req.kind,.str m.req.key,.str m.req.value,.bool m.req.had,.str m.req.old,iz m.req.at_.wall,iz m.req.at_.tick,iz m.req.at_.node,.str m.req.hi,iz m.req.limit,iz m.ans.err,iz m.ans.at_.wall,iz m.ans.at_.tick,iz m.ans.at_.node,.bool m.ans.found,.str m.ans.val,Yx m.ans.items,.str m.ans.next,.bool m.ans.more,YC m.places,Ye m.mem]
@[go_sem] def Yal (l:List Msg):V:=.slice 36 (l.map YU)
def SmM (m:Msg):Prop:=m.ans.items.length≤10000∧m.places.length≤10000∧m.mem.length≤10000
def H372 (Pg:Nat→Option Fn):Prop:=Pg 372=some (.code F372)∧H101 Pg∧H153 Pg
set_option maxHeartbeats 1000000 in
theorem K372 (h:H372 Pg) (m:Msg) (hm:SmM m):K' Pg 372 [.agg (YU m),.agg (YU m)]=some (.bool true):=by
 obtain⟨h,h101,h153⟩:=h
 have k101:=K101 h101 m.ans (by have:=hm.1;omega)
 have k153:=K153 h153 m.places (by have:=hm.2.1;omega)
 have hl:m.mem.length<2 ^ 60:=by have:=hm.2.2;omega
 simp only[Ych,Yx,YC] at k101 k153
 clear hm h101 h153
 refine K'_code h rfl ?_
 simp only[go_sem]
 unfold l372_0
 refine JiG (fun (i:Nat) S=>i≤m.mem.length∧S.ρ 2=.lref 2 0∧S.μ 2=some (YU m,false)∧S.ρ 3=.lref 3 0∧S.μ 3=some (YU m,false)∧S.ρ 5=iz i) (fun i=>m.mem.length-i) 0 ?_ ?_
 ·simp[go_sem]
 ·intro i S ⟨hi,s2,m2,s3,m3,s5⟩
  simp only[go_sem,s2,m2,s3,m3,s5]
  refine JiH (fun h=>?_) (fun h=>?_)
  ·have h:=Yg h
   obtain⟨x,hx,hd⟩:=Jin h
   simp only[go_sem,s2,m2,s3,m3,s5,hx]
   exact⟨i+1,by omega,by omega,by rw[Yi h hl]⟩
  ·simp only[go_sem,s2,m2,s3,m3,s5,k101,k153,beq_self_eq_true]
def H360 (Pg:Nat→Option Fn):Prop:=Pg 360=some (.code F360)∧H372 Pg
theorem K360 (h:H360 Pg) (l:List Msg) (hl:l.length≤10000) (hm:∀m∈l,SmM m):K' Pg 360 [Yal l,Yal l]=some (.bool true):=by
 obtain⟨h,h372⟩:=h
 have k372:∀m∈l,K' Pg 372 [.agg (YU m),.agg (YU m)]=some (.bool true):=fun m h=>K372 h372 m (hm m h)
 simp only[YU,Yx,YC,Ye] at k372
 refine K'_code h rfl ?_
 simp only[go_sem]
 unfold l360_0
 refine JiG (fun (i:Nat) S=>i≤l.length∧S.ρ 0=Yal l∧S.ρ 1=Yal l∧S.ρ 5=iz i) (fun i=>l.length-i) 0 ?_ ?_
 ·simp[go_sem]
 ·intro i S ⟨hi,s0,s1,s5⟩
  simp only[go_sem,s0,s1,s5]
  refine JiH (fun h=>?_) (fun h=>?_)
  ·have h:=Yg h
   obtain⟨x,hx,hd⟩:=Jin h
   have k:=k372 x (List.mem_of_getElem? hx)
   simp only[go_sem,s0,s1,s5,hx,k]
   exact⟨i+1,by omega,by omega,by rw[Yi h (by omega)]⟩
  ·simp only[go_sem]
def Yb2 (m:Msg):Bool:=(!decide (m.kind<1)&&(!decide (37<m.kind)&&(!decide (m.ans.err<0)&&(!decide (16<m.ans.err)&&(!decide (8<(m.ans.items.length:Int))&&(!decide (8<(m.places.length:Int))&&!decide (8<(m.mem.length:Int))))))))&&(([m.kind,m.from_,m.to,m.shard,m.epoch,m.move,m.lease,m.n,m.of_,m.req.client,m.req.req,m.req.kind,m.req.limit]++(m.places.flatMap fun p=>[p.shard,p.cell,p.epoch])++m.mem).all Yy&&(Yb m.at_&&(Yb m.req.at_&&Yb m.ans.at_)))
def YcD (m:Msg):List Int:=[m.kind,m.from_,m.to,m.shard,m.epoch,m.move,m.lease,m.n,m.of_,m.req.client,m.req.req,m.req.kind,m.req.limit]
def Ybh (l:List Place):List Int:=l.flatMap fun p=>[p.shard,p.cell,p.epoch]
def Ybv (m:Msg):List Int:=YcD m++Ybh m.places++m.mem
theorem YeG {l:List Place} {i:Nat} {x:Place} (h:l[i]?=some x):Ybh (l.take (i+1))=Ybh (l.take i)++[x.shard,x.cell,x.epoch]:=by
 rw[YA h];simp[Ybh]
theorem Yb9 (l:List Place):(Ybh l).length=3*l.length:=by
 induction l with
 |nil=>rfl
 |cons x l ih=>
  have:Ybh (x::l)=[x.shard,x.cell,x.epoch]++Ybh l:=by simp[Ybh]
  rw[this,List.length_append,ih];simp;omega
def H366 (Pg:Nat→Option Fn):Prop:=Pg 366=some (.code F366)
set_option maxHeartbeats 2000000 in
theorem K366 (h:H366 Pg) (m:Msg) (hp:m.places.length≤10000) (hm:m.mem.length≤10000):K' Pg 366 [.agg (YU m)]=some (Ye (Ybv m)):=by
 refine K'_code h rfl ?_
 simp only[go_sem]
 unfold l366_0
 refine JiG (fun (i:Nat) S=>i≤m.places.length∧S.ρ 1=.lref 1 0∧S.μ 1=some (YU m,false)∧S.ρ 3=.own 36 1 (13+3*i)∧S.A 36=some (1,(YcD m++Ybh (m.places.take i)).map (fun a=>[iz a]),.live)∧S.μ 5=none∧S.ρ 38=YC m.places∧S.ρ 39=iz m.places.length∧S.ρ 40=iz i) (fun i=>m.places.length-i) 0 ?_ ?_
 ·simp[go_sem,YcD,Ybh]
 ·intro i S ⟨hi,s1,m1,s3,a36,m5,s38,s39,s40⟩
  simp only[go_sem,s1,m1,s3,a36,m5,s38,s39,s40]
  refine JiH (fun hlt=>?_) (fun hlt=>?_)
  ·have hlt:=Yg hlt
   obtain⟨x,hx,-⟩:=Jin hlt
   have hl:(YcD m).length+(Ybh (m.places.take i)).length=13+3*i:=by
    rw[Yb9,List.length_take]
    have:(YcD m).length=13:=rfl
    omega
   have hlim:13+3*i+3≤lim:=by simp only[lim];omega
   simp only[go_sem,s1,m1,s3,a36,m5,s38,s39,s40,hx,hl,hlim,List.length_map]
   exact⟨i+1,by omega,by omega,by congr 1,by rw[YeG hx];simp,by rw[Yi hlt (by omega)]⟩
  ·have hlt:=Ym hi hlt
   subst hlt
   rw[List.take_length] at a36
   have hl:(YcD m).length+(Ybh m.places).length=13+3*m.places.length:=by rw[Yb9];rfl
   have hlim:13+3*m.places.length+m.mem.length≤lim:=by simp only[lim];omega
   simp only[go_sem,s1,m1,s3,a36,hl,hlim,List.length_map,Ybv,List.map_append]
def H367 (Pg:Nat→Option Fn):Prop:=Pg 367=some (.code F367)
theorem K367 (h:H367 Pg) (n:Int):K' Pg 367 [iz n]=some (.bool (decide (n<0)||decide (1099511627776<n))):=by
 refine K'_code h rfl ?_
 cases c:decide (n<0)<;>simp only[go_sem,c]
def H341 (Pg:Nat→Option Fn):Prop:=Pg 341=some (.code F341)∧H28 Pg∧H67 Pg∧H366 Pg∧H367 Pg
set_option maxHeartbeats 4000000 in
theorem K341 (h:H341 Pg) (m:Msg) (hm:SmM m):K' Pg 341 [.agg (YU m)]=some (.bool (Yb2 m)):=by
 obtain⟨h,h28,h67,h366,h367⟩:=h
 obtain⟨hi,hp,hmm⟩:=hm
 have k366:=K366 h366 m hp hmm
 have k67:=K67 h67 (Ybv m) 367 [] (fun n=>decide (n<0)||decide (1099511627776<n)) (by
  unfold Ybv
  rw[List.length_append,List.length_append,Yb9]
  have:(YcD m).length=13:=rfl
  omega) rfl (fun x _=>K367 h367 x)
 have e:(Ybv m).any (fun n=>decide (n<0)||decide (1099511627776<n))=!(Ybv m).all Yy:=by
  have:=YcW (m:=0) (l:=Ybv m)
  have ef:(fun n=>Yy n)=frQ 0:=rfl
  show _=!(Ybv m).all (frQ 0)
  rw[←this,Bool.not_not]
 rw[e] at k67
 have k28a:=K28 h28 m.at_
 have k28b:=K28 h28 m.req.at_
 have k28c:=K28 h28 m.ans.at_
 have hq:Yb2 m=((!decide (m.kind<1)&&(!decide (37<m.kind)&&(!decide (m.ans.err<0)&&(!decide (16<m.ans.err)&&(!decide (8<(m.ans.items.length:Int))&&(!decide (8<(m.places.length:Int))&&!decide (8<(m.mem.length:Int))))))))&&((Ybv m).all Yy&&(Yb m.at_&&(Yb m.req.at_&&Yb m.ans.at_)))):=rfl
 rw[hq]
 generalize (Ybv m).all Yy=nq at k67 ⊢
 generalize Ybv m=nl at k366 k67
 simp only[Ye,Yd,YU,Yx,YC] at k366 k67 k28a k28b k28c
 clear hi hp hmm e hq h28 h67 h366 h367
 refine K'_code h rfl ?_
 clear h
 cases c1:decide (m.kind<1) with
 |true=>simp only[go_sem,c1]
 |false=>
 cases c2:decide (37<m.kind) with
 |true=>simp only[go_sem,c1,c2]
 |false=>
 cases c3:decide (m.ans.err<0) with
 |true=>simp only[go_sem,c1,c2,c3]
 |false=>
 cases c4:decide (16<m.ans.err) with
 |true=>simp only[go_sem,c1,c2,c3,c4]
 |false=>
 cases c5:decide (8<(m.ans.items.length:Int)) with
 |true=>simp only[go_sem,c1,c2,c3,c4,c5]
 |false=>
 cases c6:decide (8<(m.places.length:Int)) with
 |true=>simp only[go_sem,c1,c2,c3,c4,c5,c6]
 |false=>
 cases c7:decide (8<(m.mem.length:Int)) with
 |true=>simp only[go_sem,c1,c2,c3,c4,c5,c6,c7]
 |false=>
 cases nq with
 |false=>simp only[go_sem,c1,c2,c3,c4,c5,c6,c7,k366,k67]
 |true=>
 cases c8:Yb m.at_ with
 |false=>simp only[go_sem,c1,c2,c3,c4,c5,c6,c7,k366,k67,k28a,c8]
 |true=>
 cases c9:Yb m.req.at_ with
 |false=>simp only[go_sem,c1,c2,c3,c4,c5,c6,c7,k366,k67,k28a,k28b,c8,c9]
 |true=>simp only[go_sem,c1,c2,c3,c4,c5,c6,c7,k366,k67,k28a,k28b,k28c,c8,c9]
def smQ (m:Msg):Bool:=decide ((m.ans.items.length:Int)≤40)&&(decide ((m.places.length:Int)≤40)&&(decide ((m.mem.length:Int)≤40)&&decide ((m.text.length:Int)≤8192)))
def H339 (Pg:Nat→Option Fn):Prop:=Pg 339=some (.code F339)
theorem K339 (h:H339 Pg) (m:Msg):K' Pg 339 [.agg (YU m)]=some (.bool (smQ m)):=by
 refine K'_code h rfl ?_
 cases c1:decide ((m.ans.items.length:Int)≤40) with
 |false=>simp only[go_sem,smQ,c1]
 |true=>
 cases c2:decide ((m.places.length:Int)≤40) with
 |false=>simp only[go_sem,smQ,c1,c2]
 |true=>
 cases c3:decide ((m.mem.length:Int)≤40) with
 |false=>simp only[go_sem,smQ,c1,c2,c3]
 |true=>
 cases c4:decide ((m.text.length:Int)≤8192)<;>simp only[go_sem,smQ,c1,c2,c3,c4]
theorem Yel {m:Msg} (h:smQ m=true):SmM m∧m.text.length≤1048576:=by
 simp only[smQ,Bool.and_eq_true,decide_eq_true_eq] at h
 exact⟨⟨by omega,by omega,by omega⟩,by omega⟩
structure Own where
 cell:Int
 rep:Rep
 outs:List Msg
structure Sto where
 id:Int
 owns:List Own
@[go_sem] def YaA (o:Own):List V:=[iz o.cell,iz o.rep.id,iz o.rep.view,Ye o.rep.members,iz o.rep.n,.str o.rep.base,.str o.rep.text,Ye o.rep.acks,Yal o.outs]
@[go_sem] def Ydb (l:List Own):V:=.slice 9 (l.map YaA)
@[go_sem] def YJ (s:Sto):List V:=[iz s.id,Ydb s.owns]
def H398 (Pg:Nat→Option Fn):Prop:=Pg 398=some (.code F398)
theorem K398 (h:H398 Pg) (s:Sto) (ho:s.owns.length≤1048576):K' Pg 398 [.agg (YJ s)]=some (.agg (YJ s)):=by
 refine K'_code h rfl ?_
 simp only[F398,c398,go_sem,List.length_map]
 unfold l398_0
 refine JiG (fun (i:Nat) S=>i≤s.owns.length∧S.ρ 2=.lref 2 0∧S.ρ 3=.lref 3 0∧S.ρ 10=.slice 9 (s.owns.map YaA)∧S.ρ 11=iz s.owns.length∧S.ρ 12=iz i∧S.μ 2=some ([iz 0,.slice 9 []],false)∧S.μ 3=some ([iz s.id,nilOr 26 9 i],false)∧S.μ 5=none∧S.A 26=YaM 9 ((s.owns.take i).map YaA) i) (fun i=>s.owns.length-i) 0 ?_ ?_
 ·refine⟨Nat.zero_le _,Jir (by simp only[go_sem]) rfl,Jir (by simp only[go_sem]) rfl,Jir (by simp only[go_sem]) rfl,Jir (by simp only[go_sem]) rfl,Jir (by simp only[go_sem]) rfl,Jiq (by simp only[go_sem]) rfl rfl,?_,Jip (.inr rfl),(Y5 rfl).trans rfl⟩
  rw[YbZ rfl];simp only[go_sem];rfl
 ·intro i S ⟨hi,s2,s3,s10,s11,s12,m2,m3,m5,a26⟩
  cases c1:decide ((i:Int)<(s.owns.length:Int)) with
  |false=>
   have hil:i=s.owns.length:=by have:=of_decide_eq_false c1;omega
   rw[hil,List.take_length] at a26
   rw[hil] at m3
   have hc:=Yac a26 (by simp)
   simp only[go_sem,s2,s3,s11,s12,m2,m3,c1,Yas,hc]
  |true=>
   have hlt:=Yg c1
   obtain⟨o,hn,-⟩:=Jin hlt
   have hinc:IntKind.i64.wrap ((i:Int)+1)=((i+1:Nat):Int):=by rw[JiD (by omega) (by omega)];omega
   have ha:=fun S=>Ybn (S:=S) (s:=26) (z:=9) (r:=YaA o) (n:=i) (rows:=(s.owns.take i).map YaA) (by simp;omega) (by unfold lim;omega)
   have htk:s.owns.take (i+1)=s.owns.take i++[o]:=YA hn
   simp only[go_sem] at ha
   simp only[go_sem,s2,s3,s10,s11,s12,m2,m3,m5,a26,c1,hn,hlt,YaQ,ha,hinc]
   exact⟨i+1,by omega,by omega,rfl,rfl,by rw[htk,List.map_append];rfl⟩
def RepOk (r:Rep):Prop:=r.members.length≤10000∧r.acks.length≤10000
theorem RepOk.ok {r:Rep} (h:RepOk r):r.Ok:=⟨by have:=h.1;omega,by have:=h.2;omega⟩
def YeT (o:Own):Prop:=RepOk o.rep∧o.outs.length≤10000∧∀m∈o.outs,SmM m
def YaC (s:Sto):Prop:=s.owns.length≤10000∧∀o∈s.owns,YeT o
def H399 (Pg:Nat→Option Fn):Prop:=Pg 399=some (.code F399)∧H45 Pg∧H360 Pg
theorem K399 (h:H399 Pg) (s:Sto) (hs:YaC s):K' Pg 399 [.agg (YJ s),.agg (YJ s)]=some (.bool true):=by
 obtain⟨h,h45,h360⟩:=h
 obtain⟨hl,ho⟩:=hs
 refine K'_code h rfl ?_
 simp only[F399,c399,go_sem,List.length_map]
 unfold l399_0
 refine JiG (fun (i:Nat) S=>i≤s.owns.length∧S.ρ 2=.lref 2 0∧S.ρ 3=.lref 3 0∧S.μ 2=some (YJ s,false)∧S.μ 3=some (YJ s,false)∧S.ρ 5=iz i) (fun i=>s.owns.length-i) 0 ?_ ?_
 ·simp[go_sem]
 ·intro i S ⟨hi,s2,s3,m2,m3,s5⟩
  have m2':=m2
  have m3':=m3
  simp only[go_sem] at m2' m3'
  cases c1:decide ((i:Int)<(s.owns.length:Int)) with
  |false=>simp only[go_sem,s2,m2',s5,c1,List.length_map]
  |true=>
   have hlt:=Yg c1
   obtain⟨o,hn,-⟩:=Jin hlt
   have hinc:IntKind.i64.wrap ((i:Int)+1)=((i+1:Nat):Int):=by rw[JiD (by omega) (by omega)];omega
   obtain⟨o1,o2,o3⟩:=ho o (List.mem_of_getElem? hn)
   have k45:=K45 h45 o.rep o1.ok
   have k360:=K360 h360 o.outs o2 o3
   simp only[Yu,Ye,Yal,YU,Yx,YC] at k45 k360
   simp only[go_sem,s2,s3,m2',m3',s5,c1,hn,k45,k360,hinc,List.length_map]
   exact⟨i+1,by omega,by omega,rfl⟩
def Yc6 (o:Own):Bool:=!decide (10<(o.outs.length:Int))&&(!decide (40<(o.rep.members.length:Int))&&(!decide (40<(o.rep.acks.length:Int))&&(!decide (8192<(o.rep.base.length:Int))&&!decide (8192<(o.rep.text.length:Int)))))
def smO (o:Own):Bool:=Yc6 o&&o.outs.all smQ
def YcM (s:Sto):Bool:=!decide (6<(s.owns.length:Int))&&s.owns.all smO
def H404 (Pg:Nat→Option Fn):Prop:=Pg 404=some (.code F404)∧H339 Pg
theorem YaD {α:Type} {p:α→Bool} {l:List α} {i:Nat} {x:α} (h:l[i]?=some x) (hp:p x=false):l.all p=false:=by
 rw[List.all_eq_false]
 exact⟨x,List.mem_of_getElem? h,by simp[hp]⟩
theorem YaY {α:Type} {p:α→Bool} {l:List α} {i:Nat} {x:α} (h:l[i]?=some x) (hp:p x=true) (ht:(l.take i).all p=true):(l.take (i+1)).all p=true:=by
 rw[YA h,List.all_append,ht];simp[hp]
set_option maxHeartbeats 1000000 in
theorem K404 (h:H404 Pg) (s:Sto):K' Pg 404 [.agg (YJ s)]=some (.bool (YcM s)):=by
 obtain⟨h,h339⟩:=h
 refine K'_code h rfl ?_
 cases c0:decide (6<(s.owns.length:Int)) with
 |true=>simp only[F404,c404,go_sem,YcM,c0,List.length_map]
 |false=>
 have hle:s.owns.length≤6:=by have:=of_decide_eq_false c0;omega
 simp only[F404,c404,go_sem,YcM,c0,List.length_map]
 unfold l404_0
 refine JiG (fun (i:Nat) S=>i≤s.owns.length∧S.ρ 1=.lref 1 0∧S.μ 1=some (YJ s,false)∧S.ρ 3=iz i∧S.μ 4=none∧(s.owns.take i).all smO=true) (fun i=>s.owns.length-i) 0 ?_ ?_
 ·simp[go_sem]
 ·intro i S ⟨hi,s1,m1,s3,m4,hall⟩
  have m1':=m1
  simp only[go_sem] at m1'
  cases c1:decide ((i:Int)<(s.owns.length:Int)) with
  |false=>
   have hil:i=s.owns.length:=by have:=of_decide_eq_false c1;omega
   rw[hil,List.take_length] at hall
   simp only[go_sem,s1,m1',s3,c1,hall,List.length_map]
  |true=>
   have hlt:=Yg c1
   obtain⟨o,hn,-⟩:=Jin hlt
   have hinc:IntKind.i64.wrap ((i:Int)+1)=((i+1:Nat):Int):=by rw[JiD (by omega) (by omega)];omega
   have bad:=fun (hb:smO o=false)=>YaD hn hb
   cases d1:decide (10<(o.outs.length:Int)) with
   |true=>
    have:=bad (by simp only[smO,Yc6,d1,Bool.not_true,Bool.false_and])
    simp only[go_sem,s1,m1',s3,m4,c1,hn,this,d1,List.length_map]
   |false=>
   cases d2:decide (40<(o.rep.members.length:Int)) with
   |true=>
    have:=bad (by simp only[smO,Yc6,d1,d2,Bool.false_and,Bool.and_false,Bool.not_true])
    simp only[go_sem,s1,m1',s3,m4,c1,hn,this,d1,d2,List.length_map]
   |false=>
   cases d3:decide (40<(o.rep.acks.length:Int)) with
   |true=>
    have:=bad (by simp only[smO,Yc6,d1,d2,d3,Bool.false_and,Bool.and_false,Bool.not_true])
    simp only[go_sem,s1,m1',s3,m4,c1,hn,this,d1,d2,d3,List.length_map]
   |false=>
   cases d4:decide (8192<(o.rep.base.length:Int)) with
   |true=>
    have:=bad (by simp only[smO,Yc6,d1,d2,d3,d4,Bool.false_and,Bool.and_false,Bool.not_true])
    simp only[go_sem,s1,m1',s3,m4,c1,hn,this,d1,d2,d3,d4,List.length_map]
   |false=>
   cases d5:decide (8192<(o.rep.text.length:Int)) with
   |true=>
    have:=bad (by simp only[smO,Yc6,d1,d2,d3,d4,d5,Bool.false_and,Bool.and_false,Bool.not_true])
    simp only[go_sem,s1,m1',s3,m4,c1,hn,this,d1,d2,d3,d4,d5,List.length_map]
   |false=>
    have h0:Yc6 o=true:=by simp only[Yc6,d1,d2,d3,d4,d5,Bool.not_false,Bool.and_true]
    simp only[go_sem,s1,m1',s3,m4,c1,hn,d1,d2,d3,d4,d5,List.length_map]
    have hol:o.outs.length≤10:=by have:=of_decide_eq_false d1;omega
    unfold l404_1
    refine JiG (fun (j:Nat) S=>j≤o.outs.length∧S.ρ 1=.lref 1 0∧S.μ 1=some (YJ s,false)∧S.ρ 3=iz i∧S.ρ 4=.lref 4 0∧S.μ 4=some (YaA o,false)∧S.ρ 5=iz j∧(o.outs.take j).all smQ=true) (fun j=>o.outs.length-j) 0 ?_ ?_
    ·simp[go_sem,s1,m1,s3]
    ·intro j S ⟨hj,s1,m1,s3,s4,m4,s5,hallq⟩
     have m4':=m4
     have m1':=m1
     simp only[go_sem] at m1' m4'
     cases e1:decide ((j:Int)<(o.outs.length:Int)) with
     |false=>
      have hjl:j=o.outs.length:=by have:=of_decide_eq_false e1;omega
      rw[hjl,List.take_length] at hallq
      have hsm:smO o=true:=by simp only[smO,h0,hallq,Bool.and_true]
      simp only[go_sem,s1,m1',s3,s4,m4',s5,e1,hinc,List.length_map]
      exact⟨i+1,by omega,by omega,rfl,YaY hn hsm hall⟩
     |true=>
      have hjt:=Yg e1
      obtain⟨m,hm,-⟩:=Jin hjt
      have hinj:IntKind.i64.wrap ((j:Int)+1)=((j+1:Nat):Int):=by rw[JiD (by omega) (by omega)];omega
      have k339:=K339 h339 m
      simp only[YU,Yx,YC,Ye] at k339
      cases f1:smQ m with
      |false=>
       rw[f1] at k339
       have:=bad (by simp only[smO,h0,YaD hm f1,Bool.true_and])
       simp only[go_sem,s1,m1',s3,s4,m4',s5,e1,hm,k339,this,List.length_map]
      |true=>
       rw[f1] at k339
       simp only[go_sem,s1,m1',s3,s4,m4',s5,e1,hm,k339,hinj,List.length_map]
       exact⟨j+1,by omega,by omega,rfl,YaY hm f1 hallq⟩
theorem Ycr {s:Sto} (h:YcM s=true):YaC s∧s.owns.length≤6∧∀o∈s.owns,o.rep.base.length≤8192∧o.rep.text.length≤8192∧o.rep.members.length≤40∧o.rep.acks.length≤40∧o.outs.length≤10:=by
 simp only[YcM,smO,Yc6,Bool.and_eq_true,Bool.not_eq_true',decide_eq_false_iff_not,List.all_eq_true] at h
 obtain⟨h1,h2⟩:=h
 refine⟨⟨by omega,fun o ho=>?_⟩,by omega,fun o ho=>?_⟩
 ·obtain⟨⟨a1,a2,a3,a4,a5⟩,a6⟩:=h2 o ho
  exact⟨⟨by omega,by omega⟩,by omega,fun m hm=>(Yel (a6 m hm)).1⟩
 ·obtain⟨⟨a1,a2,a3,a4,a5⟩,a6⟩:=h2 o ho
  omega
end Sg
