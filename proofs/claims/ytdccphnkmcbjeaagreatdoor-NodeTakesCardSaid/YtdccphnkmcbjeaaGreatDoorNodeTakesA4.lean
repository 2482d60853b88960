/- NodeTakes, at every input: proved over a checked abstract run of the translated code; no condition. A part. -/
import Derived.Test.YtdccphnkmcbjeaaGreatDoorNodeTakesA3
set_option linter.unusedSimpArgs false
set_option linter.unusedVariables false
set_option linter.constructorNameAsVariable false
set_option linter.defProp false
set_option maxRecDepth 100000
set_option maxHeartbeats 2000000
namespace Sg
open _root_.Go (IntKind BinOp UnOp)
variable {Pg:PgT}
@[go_sem] theorem YjM {b:UInt8} {t:List UInt8} {k:IntKind}:Jdd (.str (b::t)) (.int k 0)=some (.int .u8 b.toNat):=rfl
@[go_sem high] theorem YjL {s:List UInt8} {z:Nat} {k:IntKind} {n:Nat} (h:n≤s.length):slV true z (.str s) (some (.int k (n:Int))) none=some (.str (s.drop n)):=by
 simp[slV,bound,h]
def H191 (Pg:PgT):Prop:=Pg 191=some (.code F191)
theorem K191 (h:H191 Pg) (r n:Int):K' Pg 191 [.int .i32 r,.int .i64 n]=some (.bool (plainR r n)):=by
 refine Qa h rfl ?_;simp only[go_sem];cases c1:decide (33≤r)<;>cases c2:decide (r<127)<;>cases c3:decide (159<r)<;>cases c4:decide (r=65533)<;>cases c5:decide (n=3) <;>
  simp only[go_sem,plainR,c1,c2,c3,c4,c5]
def H190 (Pg:PgT):Prop:=Pg 190=some (.prim none decQ)
theorem K190 (h:H190 Pg) (s:List UInt8):K' Pg 190 [.str s]=some (.tuple [.int .i32 (Jc0 s).1,.int .i64 (Jc0 s).2]):=by
 rw[JiE h];rfl
def H170 (Pg:PgT):Prop:=Pg 170=some (.prim none keyQ)
theorem K170 (h:H170 Pg) (s:List UInt8):K' Pg 170 [.str s]=some (.bool (keyR s)):=by
 rw[JiE h];rfl
def YdS (c:Int):Bool:=decide (32<c)&&(!decide (c=127)&&(decide (c<128)||decide (159<c)))
def H189 (Pg:PgT):Prop:=Pg 189=some (.code F189)
theorem K189 (h:H189 Pg) (c:Int):K' Pg 189 [iz c]=some (.bool (YdS c)):=by
 refine Qa h rfl ?_;simp only[go_sem];cases c1:decide (32<c)<;>cases c2:decide (c=127)<;>cases c3:decide (c<128)<;>cases c4:decide (159<c) <;>
  simp only[go_sem,YdS,c1,c2,c3,c4]
theorem Yfz {l:List UInt8} (h:l≠[]):YdS (Ybq l).1=plainR (dN l).1 (dN l).2:=by
 rw[Yc4 h];by_cases c:dN l=(65533,1)
 ·rw[GB c,c];decide
 ·rw[Gv c];simp only[YdS,plainR];have c65:(dN l).1=65533→(dN l).2=3:=fun e=>by
   rcases Ycx h with x|⟨a0,t,rfl,q,x⟩|⟨a0,a1,t,rfl,q,q1,x⟩|⟨a0,a1,a2,t,rfl,q,q1,q2,q3,x⟩|⟨a0,a1,a2,a3,t,rfl,q,q1,q2,q3,q4,x⟩
   ·exact absurd x c
   all_goals (rw[x] at e ⊢;try (simp only at e ⊢;try omega))
  generalize (dN l).1=r at c65 ⊢;generalize (dN l).2=n at c65 ⊢;rw[Bool.eq_iff_iff];simp only[Gk,G8,Gq,GE,GH];omega
@[go_sem] def eLN (x:Int×Int):V:=.tuple [iz x.1,iz x.2]
def H188 (Pg:PgT):Prop:=Pg 188=some (.code F188)
theorem YbI:∀{l:List UInt8} {a:Int} {b:UInt8},Y9 a (l++[b])=(Y9 a l).bind fun v=>if b.toNat<128∨191<b.toNat then none else some (64*v+b.toNat-128)
 |[],a,b=>by simp[Y9]
 |c::l,a,b=>by
  simp only[Y9,List.cons_append];split
  ·rfl
  ·exact YbI
theorem YbH:∀{l k:List UInt8} {a:Int},Y9 a l=none→Y9 a (l++k)=none
 |[],k,a,h=>by simp[Y9] at h
 |c::l,k,a,h=>by
  simp only[Y9,List.cons_append] at h ⊢;split
  ·rfl
  ·rename_i hc;rw[Gv hc] at h;exact YbH h
theorem K188 (h:H188 Pg) (s:List UInt8) (hs:s≠[]):K' Pg 188 [.str s]=some (eLN (Ybq s)):=by
 refine Qa h rfl ?_;obtain⟨b0,t,rfl⟩:=List.exists_cons_of_ne_nil hs;have l0:=b0.toNat_lt;have w8:IntKind.i64.wrap (b0.toNat:Int)=b0.toNat:=JiV (by omega) (by omega);have w192:IntKind.i64.wrap ((b0.toNat:Int)-192)=b0.toNat-192:=JiV (by omega) (by omega);have w224:IntKind.i64.wrap ((b0.toNat:Int)-224)=b0.toNat-224:=JiV (by omega) (by omega);have w240:IntKind.i64.wrap ((b0.toNat:Int)-240)=b0.toNat-240:=JiV (by omega) (by omega);simp only[go_sem,w8];refine JiZ (fun c1=>?_) (fun c1=>?_)
 ·have c1:=Gg c1;have e:Ybq (b0::t)=((b0.toNat:Int),(1:Int)):=by simp only[Ybq];rw[GB (by omega)]
  rw[e];simp only[go_sem]
 have c1:=Gb c1;have eS:Ybq (b0::t)=if (cls b0.toNat).1=0∨(b0::t).length<(cls b0.toNat).1 then (-1,1) else
   match Y9 (cls b0.toNat).2.2 (t.take ((cls b0.toNat).1-1)) with
   |none=>(-1,1)
   |some v=>if v<(cls b0.toNat).2.1∨1114111<v∨(55296≤v∧v<57344) then (-1,1) else (v,((cls b0.toNat).1:Int)):=by
  simp only[Ybq];rw[Gv (by omega)]<;>rfl
 simp only[go_sem];cases c2:decide (194≤(b0.toNat:Int)) with
 |false=>
  have hcl:cls b0.toNat=(0,0,(b0.toNat:Int)):=by
   have:=Gb c2;rw[cls,Gv (by omega),Gv (by omega),Gv (by omega)]
  have d2:decide (224≤(b0.toNat:Int))=false:=Gp (by have:=Gb c2;omega);have d3:decide (240≤(b0.toNat:Int))=false:=Gp (by have:=Gb c2;omega);rw[hcl,GB (.inl rfl)] at eS;rw[eS];simp only[go_sem,d2,d3]
 |true=>
 have c2':=Gg c2;simp only[go_sem];refine JiZ (fun c3=>?_) (fun c3=>?_)
 ·have c3:=Gg c3;have hcl:cls b0.toNat=(2,128,(b0.toNat:Int)-192):=GB (by omega);simp only[go_sem,w192];rw[hcl] at eS;simp only at eS;refine JiZ (fun c5=>?_) (fun c5=>?_)
  ·have c5:=Gg c5;rw[GB (.inr (by simp only[List.length_cons];omega))] at eS;rw[eS];simp only[go_sem]
  have c5:=Gb c5;have c5:2≤t.length+1:=by omega
  rw[Gv (by simp only[List.length_cons];omega)] at eS;simp only[go_sem];unfold l188_0;refine JiY (fun (i:Nat) S=>(1≤i∧i≤2)∧S.ρ 0=.str (b0::t)∧S.ρ 5=iz 2∧S.ρ 6=iz 128∧S.ρ 7=iz i∧∃v,S.ρ 4=iz v∧Y9 ((b0.toNat:Int)-192) (t.take (i-1))=some v∧0≤v∧v<64 ^ i) (fun i=>2-i) 1 ?_ ?_
  ·simp[go_sem,Y9];omega
  ·intro i S ⟨hi,h0,h5,h6,h7,v,h4,hv,v0,v1⟩;have v2:v<16777216:=by
    have:i=1∨i=2∨i=3∨i=4:=by omega
    rcases this with rfl|rfl|rfl|rfl<;>simp at v1<;>omega
   simp only[go_sem,h5,h7];refine JiZ (fun h=>?_) (fun h=>?_)
   ·have h:i<2:=by have:=Gg h;omega
    obtain⟨b,hb⟩:∃b,(b0::t)[i]?=some b:=⟨_,List.getElem?_eq_getElem (by simp only[List.length_cons];omega)⟩;have hb':t[i-1]?=some b:=by
     obtain⟨k,rfl⟩:∃k,i=k+1:=⟨i-1,by omega⟩;simpa using hb
    have lb:=b.toNat_lt;have hts:t.take (i+1-1)=t.take (i-1)++[b]:=by
     have:=YB hb';rwa [show i-1+1=i+1-1 by omega] at this
    have hsn:=YbI (l:=t.take (i-1)) (a:=((b0.toNat:Int)-192)) (b:=b);rw[hv,Option.bind_some,←hts] at hsn;have wb:IntKind.i64.wrap (b.toNat:Int)=b.toNat:=JiV (by omega) (by omega);have w1:IntKind.i64.wrap (64*v)=64*v:=JiV (by omega) (by omega);have w2:IntKind.i64.wrap (64*v+b.toNat)=64*v+b.toNat:=JiV (by omega) (by omega);have w3:IntKind.i64.wrap (64*v+b.toNat-128)=64*v+b.toNat-128:=JiV (by omega) (by omega);have bad:(b.toNat<128∨191<b.toNat)→Ybq (b0::t)=(-1,1):=fun hbad=>by
     rw[GB hbad] at hsn;have:Y9 ((b0.toNat:Int)-192) (t.take (2-1))=none:=by
      have e:t.take (2-1)=t.take (i+1-1)++(t.take (2-1)).drop (i+1-1):=by
       have:=GY (i+1-1) (t.take (2-1));rw[List.take_take,Nat.min_eq_left (by omega)] at this;exact this.symm
      rw[e];exact YbH hsn
     rw[eS,this]
    simp only[go_sem,h0,h7,hb];cases d1:decide ((b.toNat:Int)<128) with
    |true=>
     have:=bad (.inl (by have:=Gg d1;omega));rw[this];simp only[go_sem]
    |false=>
     have d1':=Gb d1;simp only[go_sem,h0,h7,hb];refine JiZ (fun d2=>?_) (fun d2=>?_)
     ·have:=bad (.inr (by have:=Gg d2;omega));rw[this];simp only[go_sem]
     ·have d2':=Gb d2;rw[Gv (by omega)] at hsn;simp only[go_sem,h0,h4,h5,h6,h7,hb,wb,w1,w2,w3];refine⟨i+1,by omega,by omega,by rw[Yi h (by omega)],_,rfl,hsn,by omega,?_⟩;rw[Int.pow_succ];omega
   ·have h:i=2:=by have:=Gb h;omega
    subst h;have hv:Y9 ((b0.toNat:Int)-192) (t.take (2-1))=some v:=hv;rw[hv] at eS;simp only at eS;simp only[go_sem,h4,h6];cases f1:decide (v<128) with
    |true=>
     rw[GB (.inl (Gg f1))] at eS;rw[eS];simp only[go_sem]
    |false=>
    cases f2:decide (1114111<v) with
    |true=>
     rw[GB (.inr (.inl (Gg f2)))] at eS;rw[eS];simp only[go_sem,f2,h4]
    |false=>
    have f1':=Gb f1;have f2':=Gb f2;cases f3:decide (55296≤v) with
    |false=>
     rw[Gv (by have:=Gb f3;omega)] at eS;rw[eS];simp only[go_sem,f2,f3,h4,h5]
    |true=>
    cases f4:decide (v<57344) with
    |true=>
     rw[GB (.inr (.inr ⟨Gg f3,Gg f4⟩))] at eS;rw[eS];simp only[go_sem,f2,f3,f4,h4]
    |false=>
     rw[Gv (by have:=Gb f4;omega)] at eS;rw[eS];simp only[go_sem,f2,f3,f4,h4,h5]
 have c3:=Gb c3;have d2:decide (224≤(b0.toNat:Int))=true:=GA (by omega);simp only[go_sem,d2];refine JiZ (fun c4=>?_) (fun c4=>?_)
 ·have c4:=Gg c4;have hcl:cls b0.toNat=(3,2048,(b0.toNat:Int)-224):=by rw[cls,Gv (by omega),GB (by omega)]
  simp only[go_sem,w224];rw[hcl] at eS;simp only at eS;refine JiZ (fun c5=>?_) (fun c5=>?_)
  ·have c5:=Gg c5;rw[GB (.inr (by simp only[List.length_cons];omega))] at eS;rw[eS];simp only[go_sem]
  have c5:=Gb c5;have c5:3≤t.length+1:=by omega
  rw[Gv (by simp only[List.length_cons];omega)] at eS;simp only[go_sem];unfold l188_0;refine JiY (fun (i:Nat) S=>(1≤i∧i≤3)∧S.ρ 0=.str (b0::t)∧S.ρ 5=iz 3∧S.ρ 6=iz 2048∧S.ρ 7=iz i∧∃v,S.ρ 4=iz v∧Y9 ((b0.toNat:Int)-224) (t.take (i-1))=some v∧0≤v∧v<64 ^ i) (fun i=>3-i) 1 ?_ ?_
  ·simp[go_sem,Y9];omega
  ·intro i S ⟨hi,h0,h5,h6,h7,v,h4,hv,v0,v1⟩;have v2:v<16777216:=by
    have:i=1∨i=2∨i=3∨i=4:=by omega
    rcases this with rfl|rfl|rfl|rfl<;>simp at v1<;>omega
   simp only[go_sem,h5,h7];refine JiZ (fun h=>?_) (fun h=>?_)
   ·have h:i<3:=by have:=Gg h;omega
    obtain⟨b,hb⟩:∃b,(b0::t)[i]?=some b:=⟨_,List.getElem?_eq_getElem (by simp only[List.length_cons];omega)⟩;have hb':t[i-1]?=some b:=by
     obtain⟨k,rfl⟩:∃k,i=k+1:=⟨i-1,by omega⟩;simpa using hb
    have lb:=b.toNat_lt;have hts:t.take (i+1-1)=t.take (i-1)++[b]:=by
     have:=YB hb';rwa [show i-1+1=i+1-1 by omega] at this
    have hsn:=YbI (l:=t.take (i-1)) (a:=((b0.toNat:Int)-224)) (b:=b);rw[hv,Option.bind_some,←hts] at hsn;have wb:IntKind.i64.wrap (b.toNat:Int)=b.toNat:=JiV (by omega) (by omega);have w1:IntKind.i64.wrap (64*v)=64*v:=JiV (by omega) (by omega);have w2:IntKind.i64.wrap (64*v+b.toNat)=64*v+b.toNat:=JiV (by omega) (by omega);have w3:IntKind.i64.wrap (64*v+b.toNat-128)=64*v+b.toNat-128:=JiV (by omega) (by omega);have bad:(b.toNat<128∨191<b.toNat)→Ybq (b0::t)=(-1,1):=fun hbad=>by
     rw[GB hbad] at hsn;have:Y9 ((b0.toNat:Int)-224) (t.take (3-1))=none:=by
      have e:t.take (3-1)=t.take (i+1-1)++(t.take (3-1)).drop (i+1-1):=by
       have:=GY (i+1-1) (t.take (3-1));rw[List.take_take,Nat.min_eq_left (by omega)] at this;exact this.symm
      rw[e];exact YbH hsn
     rw[eS,this]
    simp only[go_sem,h0,h7,hb];cases d1:decide ((b.toNat:Int)<128) with
    |true=>
     have:=bad (.inl (by have:=Gg d1;omega));rw[this];simp only[go_sem]
    |false=>
     have d1':=Gb d1;simp only[go_sem,h0,h7,hb];refine JiZ (fun d2=>?_) (fun d2=>?_)
     ·have:=bad (.inr (by have:=Gg d2;omega));rw[this];simp only[go_sem]
     ·have d2':=Gb d2;rw[Gv (by omega)] at hsn;simp only[go_sem,h0,h4,h5,h6,h7,hb,wb,w1,w2,w3];refine⟨i+1,by omega,by omega,by rw[Yi h (by omega)],_,rfl,hsn,by omega,?_⟩;rw[Int.pow_succ];omega
   ·have h:i=3:=by have:=Gb h;omega
    subst h;have hv:Y9 ((b0.toNat:Int)-224) (t.take (3-1))=some v:=hv;rw[hv] at eS;simp only at eS;simp only[go_sem,h4,h6];cases f1:decide (v<2048) with
    |true=>
     rw[GB (.inl (Gg f1))] at eS;rw[eS];simp only[go_sem]
    |false=>
    cases f2:decide (1114111<v) with
    |true=>
     rw[GB (.inr (.inl (Gg f2)))] at eS;rw[eS];simp only[go_sem,f2,h4]
    |false=>
    have f1':=Gb f1;have f2':=Gb f2;cases f3:decide (55296≤v) with
    |false=>
     rw[Gv (by have:=Gb f3;omega)] at eS;rw[eS];simp only[go_sem,f2,f3,h4,h5]
    |true=>
    cases f4:decide (v<57344) with
    |true=>
     rw[GB (.inr (.inr ⟨Gg f3,Gg f4⟩))] at eS;rw[eS];simp only[go_sem,f2,f3,f4,h4]
    |false=>
     rw[Gv (by have:=Gb f4;omega)] at eS;rw[eS];simp only[go_sem,f2,f3,f4,h4,h5]
 have c4:=Gb c4;have d3:decide (240≤(b0.toNat:Int))=true:=GA (by omega);simp only[go_sem,d3];refine JiZ (fun c6=>?_) (fun c6=>?_)
 ·have c6:=Gg c6;have hcl:cls b0.toNat=(4,65536,(b0.toNat:Int)-240):=by rw[cls,Gv (by omega),Gv (by omega),GB (by omega)]
  simp only[go_sem,w240];rw[hcl] at eS;simp only at eS;refine JiZ (fun c5=>?_) (fun c5=>?_)
  ·have c5:=Gg c5;rw[GB (.inr (by simp only[List.length_cons];omega))] at eS;rw[eS];simp only[go_sem]
  have c5:=Gb c5;have c5:4≤t.length+1:=by omega
  rw[Gv (by simp only[List.length_cons];omega)] at eS;simp only[go_sem];unfold l188_0;refine JiY (fun (i:Nat) S=>(1≤i∧i≤4)∧S.ρ 0=.str (b0::t)∧S.ρ 5=iz 4∧S.ρ 6=iz 65536∧S.ρ 7=iz i∧∃v,S.ρ 4=iz v∧Y9 ((b0.toNat:Int)-240) (t.take (i-1))=some v∧0≤v∧v<64 ^ i) (fun i=>4-i) 1 ?_ ?_
  ·simp[go_sem,Y9];omega
  ·intro i S ⟨hi,h0,h5,h6,h7,v,h4,hv,v0,v1⟩;have v2:v<16777216:=by
    have:i=1∨i=2∨i=3∨i=4:=by omega
    rcases this with rfl|rfl|rfl|rfl<;>simp at v1<;>omega
   simp only[go_sem,h5,h7];refine JiZ (fun h=>?_) (fun h=>?_)
   ·have h:i<4:=by have:=Gg h;omega
    obtain⟨b,hb⟩:∃b,(b0::t)[i]?=some b:=⟨_,List.getElem?_eq_getElem (by simp only[List.length_cons];omega)⟩;have hb':t[i-1]?=some b:=by
     obtain⟨k,rfl⟩:∃k,i=k+1:=⟨i-1,by omega⟩;simpa using hb
    have lb:=b.toNat_lt;have hts:t.take (i+1-1)=t.take (i-1)++[b]:=by
     have:=YB hb';rwa [show i-1+1=i+1-1 by omega] at this
    have hsn:=YbI (l:=t.take (i-1)) (a:=((b0.toNat:Int)-240)) (b:=b);rw[hv,Option.bind_some,←hts] at hsn;have wb:IntKind.i64.wrap (b.toNat:Int)=b.toNat:=JiV (by omega) (by omega);have w1:IntKind.i64.wrap (64*v)=64*v:=JiV (by omega) (by omega);have w2:IntKind.i64.wrap (64*v+b.toNat)=64*v+b.toNat:=JiV (by omega) (by omega);have w3:IntKind.i64.wrap (64*v+b.toNat-128)=64*v+b.toNat-128:=JiV (by omega) (by omega);have bad:(b.toNat<128∨191<b.toNat)→Ybq (b0::t)=(-1,1):=fun hbad=>by
     rw[GB hbad] at hsn;have:Y9 ((b0.toNat:Int)-240) (t.take (4-1))=none:=by
      have e:t.take (4-1)=t.take (i+1-1)++(t.take (4-1)).drop (i+1-1):=by
       have:=GY (i+1-1) (t.take (4-1));rw[List.take_take,Nat.min_eq_left (by omega)] at this;exact this.symm
      rw[e];exact YbH hsn
     rw[eS,this]
    simp only[go_sem,h0,h7,hb];cases d1:decide ((b.toNat:Int)<128) with
    |true=>
     have:=bad (.inl (by have:=Gg d1;omega));rw[this];simp only[go_sem]
    |false=>
     have d1':=Gb d1;simp only[go_sem,h0,h7,hb];refine JiZ (fun d2=>?_) (fun d2=>?_)
     ·have:=bad (.inr (by have:=Gg d2;omega));rw[this];simp only[go_sem]
     ·have d2':=Gb d2;rw[Gv (by omega)] at hsn;simp only[go_sem,h0,h4,h5,h6,h7,hb,wb,w1,w2,w3];refine⟨i+1,by omega,by omega,by rw[Yi h (by omega)],_,rfl,hsn,by omega,?_⟩;rw[Int.pow_succ];omega
   ·have h:i=4:=by have:=Gb h;omega
    subst h;have hv:Y9 ((b0.toNat:Int)-240) (t.take (4-1))=some v:=hv;rw[hv] at eS;simp only at eS;simp only[go_sem,h4,h6];cases f1:decide (v<65536) with
    |true=>
     rw[GB (.inl (Gg f1))] at eS;rw[eS];simp only[go_sem]
    |false=>
    cases f2:decide (1114111<v) with
    |true=>
     rw[GB (.inr (.inl (Gg f2)))] at eS;rw[eS];simp only[go_sem,f2,h4]
    |false=>
    have f1':=Gb f1;have f2':=Gb f2;cases f3:decide (55296≤v) with
    |false=>
     rw[Gv (by have:=Gb f3;omega)] at eS;rw[eS];simp only[go_sem,f2,f3,h4,h5]
    |true=>
    cases f4:decide (v<57344) with
    |true=>
     rw[GB (.inr (.inr ⟨Gg f3,Gg f4⟩))] at eS;rw[eS];simp only[go_sem,f2,f3,f4,h4]
    |false=>
     rw[Gv (by have:=Gb f4;omega)] at eS;rw[eS];simp only[go_sem,f2,f3,f4,h4,h5]
 have c6:=Gb c6;have hcl:cls b0.toNat=(0,0,(b0.toNat:Int)):=by rw[cls,Gv (by omega),Gv (by omega),Gv (by omega)]
 rw[hcl,GB (.inl rfl)] at eS;rw[eS];simp only[go_sem]
end Sg
namespace Sg
open _root_.Go _root_.Go.RowKit _root_.Go.Proofs
def plainFm:List (Nat×Nat):=[(191,236)]
theorem okPlain:okF Tryz.prog (cxU plainFm) (onePg 191 F191) 236 F191=true:=by kernel_rfl
theorem plain_walk (r n:Int) (w:World) (hgn:2≤w.heap.size) (hT:Lib.Utf8Tabs 0 1 w) :
  Calls Tryz.prog 236 #[.int .i32 r,.int .i64 n] w fun e w'=>e=.returned (.bool (plainR r n))∧Below w.heap.size w w':=by
 have hk:K' (onePg 191 F191) 191 [.int .i32 r,.int .i64 n]=some (.bool (plainR r n)):=K191 (by simp[H191,onePg]) r n
 obtain⟨m,hm⟩:=K'_iff.1 hk
 have hc:=one_sound (P:=Tryz.prog) (cx:=cxU plainFm) (id:=191) (F:=F191) (by kernel_rfl) okPlain m 191 _ _ hm
 refine (hc.2 w (fun _=>False) #[.int .i32 r,.int .i64 n] (fun b hb=>hb.elim) hgn hT rfl (fun i hi=>by
  match i,hi with
  |0,_=>exact⟨_,rfl,.int _ _⟩
  |1,_=>exact⟨_,rfl,.int _ _⟩
  |k+2,hi=>exact absurd hi (by simp))).mono fun e w' ⟨v,he,hb,hr⟩=>?_
 have hr:=hr.data (fun b hb=>hb.elim)
 cases hr
 exact⟨he,hb⟩
theorem decCt (l:List (Nat×Nat)) (id:Nat) (h:(cxU l).fm id=235):∀args r,decQ args=some r→Ctr Tryz.prog (cxU l) none id args r:=
 dec_ctr (by rw[h];exact⟨_,Tryz.func235,by kernel_rfl,by kernel_rfl⟩) fun s w hG=>by rw[h];exact dec_walk s w hG
theorem keyCt (l:List (Nat×Nat)) (id:Nat) (h:(cxU l).fm id=218):∀args r,keyQ args=some r→Ctr Tryz.prog (cxU l) none id args r:=
 key_ctr (by rw[h];exact⟨_,Tryz.func218,by kernel_rfl,by kernel_rfl⟩) fun s w hgn hG=>by rw[h];exact key_walk s w hgn hG plain_walk
end Sg
namespace Sg
open _root_.Go (IntKind BinOp UnOp)
variable {Pg:PgT}
def putB (n:Nat):List UInt8:=if h:n<128 then [UInt8.ofNat n] else UInt8.ofNat (n % 128+128)::putB (n / 128)
termination_by n
decreasing_by omega
theorem Ybg {n:Nat} (h:n<128):putB n=[UInt8.ofNat n]:=by rw[putB,dif_pos h]
theorem Ybf {n:Nat} (h:128≤n):putB n=UInt8.ofNat (n % 128+128)::putB (n / 128):=by rw[putB,dif_neg (by omega)]
def tk:Nat→List UInt8→Option (Nat×List UInt8)
 |_,[]=>none
 |0,_::_=>none
 |k+1,b::s=>if b.toNat<128 then some (b.toNat,s) else (tk k s).bind fun q=>if q.1=0 then none else some (b.toNat-128+128*q.1,q.2)
theorem Yay {n:Nat} (h:n<256):(UInt8.ofNat n).toNat=n:=by
 simp[UInt8.toNat_ofNat'];omega
theorem putB_pos (n:Nat):1≤(putB n).length:=by
 rw[putB];split<;>simp
theorem YcX:∀(k n:Nat) (r:List UInt8),(putB n).length≤k→tk k (putB n++r)=some (n,r)
 |0,n,r,h=>by have:=putB_pos n;omega
 |k+1,n,r,h=>by
  by_cases hn:n<128
  ·rw[Ybg hn];simp only[List.cons_append,List.nil_append,tk,Yay (show n<256 by omega),GB hn]
  ·rw[Ybf (by omega)] at h ⊢;simp only[List.length_cons] at h;simp only[List.cons_append,tk,Yay (show n % 128+128<256 by omega)];rw[Gv (by omega),YcX k (n / 128) r (by omega)];simp only[Option.bind_some];rw[Gv (by omega)]
   congr 2
   omega
theorem YbX:∀{k:Nat} {s:List UInt8} {n:Nat} {r:List UInt8},tk k s=some (n,r)→s=putB n++r∧(putB n).length≤k
 |_,[],n,r,h=>by simp[tk] at h
 |0,_::_,n,r,h=>by simp[tk] at h
 |k+1,b::s,n,r,h=>by
  simp only[tk] at h;split at h
  ·rename_i hb;simp only[Ga,Gl] at h;obtain⟨rfl,rfl⟩:=h;rw[Ybg hb];refine⟨?_,by simp⟩;simp
  ·rename_i hb;cases hq:tk k s with
   |none=>rw[hq] at h;simp at h
   |some q=>
    rw[hq] at h;simp only[Option.bind_some] at h;split at h
    ·cases h
    rename_i h0;obtain⟨m,r'⟩:=q;simp only[Ga,Gl] at h h0;obtain⟨rfl,rfl⟩:=h;obtain⟨e,hl⟩:=YbX hq;have hb2:=b.toNat_lt;have e1:(b.toNat-128+128*m) % 128+128=b.toNat:=by omega
    have e2:(b.toNat-128+128*m) / 128=m:=by omega
    rw[Ybf (by omega),e1,e2,e];exact⟨by simp,by simp only[List.length_cons];omega⟩
theorem YeG {k:Nat} {s:List UInt8} {n:Nat} {r:List UInt8}:tk k s=some (n,r)↔s=putB n++r∧(putB n).length≤k:=
 ⟨YbX,fun⟨e,h⟩=>by rw[e];exact YcX k n r h⟩
theorem YbE:∀(k n:Nat),(putB n).length≤k+1↔n<128 ^ (k+1)
 |0,n=>by
  by_cases hn:n<128
  ·rw[Ybg hn];simpa using hn
  ·rw[Ybf (by omega)];have:=putB_pos (n / 128);simp only[List.length_cons];constructor
   ·intro h;omega
   ·intro h;simp at h;omega
 |k+1,n=>by
  by_cases hn:n<128
  ·rw[Ybg hn];simp only[List.length_singleton];refine⟨fun _=>?_,fun _=>by omega⟩;have:128 ^ 1≤128 ^ (k+1+1):=Nat.pow_le_pow_right (by omega) (by omega);omega
  ·rw[Ybf (by omega)];simp only[List.length_cons];have:=YbE k (n / 128);rw[Nat.add_le_add_iff_right,this,Nat.pow_succ 128 (k+1),Nat.div_lt_iff_lt_mul (by omega)]
theorem YN {n:Nat}:(putB n).length≤9↔n<2 ^ 63:=by
 have e:(128:Nat) ^ (8+1)=2 ^ 63:=by decide
 rw[YbE 8 n,e]
theorem Yhs {s:List UInt8} {n:Nat} {r:List UInt8} (h:tk 9 s=some (n,r)):n<2 ^ 63:=YN.1 (YbX h).2
def Yh (t:List UInt8):List UInt8:=putB t.length++t
def YL (b:Bool):List UInt8:=[if b then 1 else 0]
def tkT (s:List UInt8):Option (List UInt8×List UInt8):=(tk 9 s).bind fun q=>if q.1≤q.2.length then some (q.2.take q.1,q.2.drop q.1) else none
def tkF:List UInt8→Option (Bool×List UInt8)
 |[]=>none
 |b::s=>if b.toNat≤1 then some (decide (b.toNat=1),s) else none
theorem YdZ {s t r:List UInt8}:tkT s=some (t,r)↔s=Yh t++r∧t.length<2 ^ 63:=by
 unfold tkT Yh;constructor
 ·intro h;cases hq:tk 9 s with
  |none=>rw[hq] at h;cases h
  |some q=>
   obtain⟨n,u⟩:=q;rw[hq] at h;simp only[Option.bind_some] at h;split at h
   ·rename_i hn;simp only[Ga,Gl] at h;obtain⟨rfl,rfl⟩:=h;have hl:(u.take n).length=n:=by simp;omega
    refine⟨?_,by rw[hl];exact Yhs hq⟩;rw[hl,(YbX hq).1,Gr,GY]
   ·cases h
 ·rintro⟨rfl,h⟩;rw[Gr,YcX 9 _ _ (YN.2 h)];simp
theorem Yhh {s r:List UInt8} {b:Bool}:tkF s=some (b,r)↔s=YL b++r:=by
 cases s with
 |nil=>simp[tkF,YL]
 |cons x s=>
  simp only[tkF,YL,List.cons_append,List.nil_append,Gaq];constructor
  ·intro h;split at h
   ·rename_i hx;simp only[Ga,Gl] at h;obtain⟨rfl,rfl⟩:=h;refine⟨?_,rfl⟩;apply UInt8.toNat_inj.1;by_cases h1:x.toNat=1
    ·simp[h1]
    ·have:x.toNat=0:=by omega
     simp[this]
   ·cases h
  ·rintro⟨rfl,rfl⟩;cases b<;>simp
def val:List UInt8→Nat
 |[]=>0
 |b::l=>b.toNat % 128+128*val l
theorem Yhk:∀n,val (putB n)=n:=by
 intro n
 induction n using Nat.strongRecOn with
 |_ n ih=>
  by_cases h:n<128
  ·rw[Ybg h];simp only[val,Yay (show n<256 by omega)];omega
  ·rw[Ybf (by omega)];simp only[val,Yay (show n % 128+128<256 by omega),ih _ (show n / 128<n by omega)];omega
theorem YeH:∀l:List UInt8,val l<128 ^ l.length
 |[]=>by simp[val]
 |b::l=>by
  have:=YeH l;simp only[val,List.length_cons,Nat.pow_succ];omega
theorem Yhc:∀n,∃l c,putB n=l++[c]∧(∀b∈l,128≤b.toNat)∧c.toNat<128:=by
 intro n
 induction n using Nat.strongRecOn with
 |_ n ih=>
  by_cases h:n<128
  ·exact⟨[],UInt8.ofNat n,Ybg h,fun b hb=>by simp at hb,by rw[Yay (by omega)];exact h⟩
  ·obtain⟨l,c,e,h1,h2⟩:=ih _ (show n / 128<n by omega);refine⟨UInt8.ofNat (n % 128+128)::l,c,by rw[Ybf (by omega),e];rfl,fun b hb=>?_,h2⟩;rcases GK.1 hb with rfl|hb
   ·rw[Yay (by omega)];omega
   ·exact h1 b hb
theorem YeP:∀{l l':List UInt8} {c c':UInt8} {r r':List UInt8},l++c::r=l'++c'::r'→(∀b∈l,128≤b.toNat)→(∀b∈l',128≤b.toNat)→c.toNat<128→c'.toNat<128→l=l'∧c=c'∧r=r'
 |[],[],c,c',r,r',h,_,_,_,_=>by simp at h;exact⟨rfl,h.1,h.2⟩
 |[],b'::l',c,c',r,r',h,_,h2,h3,_=>by
  simp at h;have:=h2 b' (by simp);rw[←h.1] at this;omega
 |b::l,[],c,c',r,r',h,h1,_,_,h4=>by
  simp at h;have:=h1 b (by simp);rw[h.1] at this;omega
 |b::l,b'::l',c,c',r,r',h,h1,h2,h3,h4=>by
  simp at h;obtain⟨e1,e2,e3⟩:=YeP h.2 (fun x hx=>h1 x (by simp[hx])) (fun x hx=>h2 x (by simp[hx])) h3 h4;exact⟨by rw[h.1,e1],e2,e3⟩
theorem tk_end {k:Nat} {l:List UInt8} {c:UInt8} {r:List UInt8} (hl:∀b∈l,128≤b.toNat) (hc:c.toNat<128) :
  tk k (l++c::r)=if l.length+1≤k∧putB (val (l++[c]))=l++[c] then some (val (l++[c]),r) else none:=by
 split
 ·rename_i h
  rw[YeG,h.2]
  exact⟨by simp,by simp;omega⟩
 ·rename_i h
  cases hq:tk k (l++c::r) with
  |none=>rfl
  |some q=>
   exfalso
   apply h
   obtain⟨m,r'⟩:=q
   obtain⟨e,hlen⟩:=YbX hq
   obtain⟨l',c',p1,p2,p3⟩:=Yhc m
   rw[p1,Gr] at e
   obtain⟨rfl,rfl,-⟩:=YeP e hl p2 hc p3
   rw[p1] at hlen
   rw[←p1,Yhk]
   exact⟨by simpa using hlen,rfl⟩
theorem tk_no:∀{k:Nat} {s:List UInt8},(∀b∈s.take k,128≤b.toNat)→tk k s=none
 |_,[],_=>by simp[tk]
 |0,_::_,_=>by simp[tk]
 |k+1,b::s,h=>by
  have h1:=h b (by simp);simp only[tk];rw[Gv (by omega),tk_no (fun x hx=>h x (by simp[hx]))]
  rfl
@[go_sem] def Yf (l:List Int):V:=.slice 1 (l.map fun a=>[iz a])
def H62 (Pg:PgT):Prop:=Pg 62=some (.code F62)
theorem K62 (h:H62 Pg) (l:List Int) (n:Int) (hl:l.length<2 ^ 60):K' Pg 62 [Yf l,iz n]=some (.bool (decide (n∈l))):=by
 refine Qa h rfl ?_;simp only[go_sem];unfold l62_0;refine JiY (fun (i:Nat) S=>i≤l.length∧S.ρ 0=Yf l∧S.ρ 1=iz n∧S.ρ 5=iz i∧n∉l.take i) (fun i=>l.length-i) 0 ?_ ?_
 ·simp[go_sem]
 ·intro i S ⟨hi,h0,h1,h5,ho⟩;simp only[go_sem,h0,h5];refine JiZ (fun h=>?_) (fun h=>?_)
  ·have h:=Ye h;obtain⟨x,hx,hd⟩:=JiF h;simp only[go_sem,h0,h1,h5,hx];refine JiZ (fun hc=>?_) (fun hc=>?_)
   ·have hc:x=n:=Gg hc;have:n∈l:=hc▸List.mem_of_getElem? hx;simp only[go_sem,this]
   ·have hc:x≠n:=Gb hc;simp only[go_sem,h0,h1,h5];refine⟨i+1,by omega,by omega,by rw[Yi h hl],?_⟩;rw[YB hx];simp;exact⟨ho,fun e=>hc e.symm⟩
  ·have h:=Ym hi h;rw[YaO h] at ho;simp only[go_sem,ho]
def H70 (Pg:PgT):Prop:=Pg 70=some (.code F70)
theorem K70 (h:H70 Pg) (a b:List Int) (hl:a.length<2 ^ 60):K' Pg 70 [Yf a,Yf b]=some (.bool (decide (a=b))):=by
 refine Qa h rfl ?_;simp only[go_sem];refine JiZ (fun hc=>?_) (fun hc=>?_)
 ·have hc:¬a.length=b.length:=by intro e;simp[e] at hc
  have:a≠b:=fun e=>hc (by rw[e]);simp only[go_sem,this]
 ·have hc:a.length=b.length:=by simp at hc;omega
  simp only[go_sem];unfold l70_0;refine JiY (fun (i:Nat) S=>i≤a.length∧S.ρ 0=Yf a∧S.ρ 1=Yf b∧S.ρ 5=iz i∧a.take i=b.take i) (fun i=>a.length-i) 0 ?_ ?_
  ·simp[go_sem]
  ·intro i S ⟨hi,h0,h1,h5,ho⟩;simp only[go_sem,h0,h5];refine JiZ (fun h=>?_) (fun h=>?_)
   ·have h:=Ye h;obtain⟨x,hx,hd⟩:=JiF h;obtain⟨y,hy,hd'⟩:=JiF (l:=b) (i:=i) (by omega);simp only[go_sem,h0,h1,h5,hx,hy];refine JiZ (fun hc=>?_) (fun hc=>?_)
    ·have hne:x≠y:=by simpa using hc
     have:a≠b:=fun e=>hne (by subst e;rw[hx] at hy;simpa using hy);simp only[go_sem,this]
    ·have he:x=y:=by simpa using hc
     simp only[go_sem,h0,h1,h5];exact⟨i+1,by omega,by omega,by rw[Yi h hl],by rw[YB hx,YB hy,ho,he]⟩
   ·have h:=Ym hi h;rw[YaO h,YaO (h.trans hc)] at ho;simp only[go_sem,ho]
def Ydt:List Int→Int→Nat→Int
 |[],_,_=>-1
 |a::l,n,i=>if n=a then i else Ydt l n (i+1)
theorem Yea:∀{l:List Int} {n:Int} {i:Nat},decide (0≤Ydt l n i)=decide (n∈l)
 |[],n,i=>by simp[Ydt]
 |a::l,n,i=>by
  simp only[Ydt];split
  ·rename_i h;simp[h]
  ·rename_i h;rw[Yea];simp[h]
def H75 (Pg:PgT):Prop:=Pg 75=some (.code F75)
theorem K75 (h:H75 Pg) (l:List Int) (n:Int) (hl:l.length<2 ^ 60):K' Pg 75 [Yf l,iz n]=some (iz (Ydt l n 0)):=by
 refine Qa h rfl ?_;simp only[go_sem];unfold l75_0;refine JiY (fun (i:Nat) S=>i≤l.length∧S.ρ 0=Yf l∧S.ρ 1=iz n∧S.ρ 7=iz l.length∧S.ρ 8=iz i∧Ydt (l.drop i) n i=Ydt l n 0) (fun i=>l.length-i) 0 ?_ ?_
 ·simp[go_sem]
 ·intro i S ⟨hi,h0,h1,h7,h8,ho⟩;simp only[go_sem,h7,h8];refine JiZ (fun h=>?_) (fun h=>?_)
  ·have h:=Ye h;obtain⟨x,hx,hd⟩:=JiF h;rw[hd] at ho;simp only[go_sem,h0,h1,h8,hx];refine JiZ (fun hc=>?_) (fun hc=>?_)
   ·have hc:n=x:=Gg hc;simp only[Ydt,hc,GO] at ho;simp only[go_sem,←ho,hc]
   ·have hc:¬n=x:=Gb hc;simp only[Ydt,hc,GN] at ho;simp only[go_sem,h0,h1,h7,h8];exact⟨i+1,by omega,by omega,by rw[Yi h hl],ho⟩
  ·have h:=Ym hi h;subst h;simp only[GF,Ydt] at ho;simp only[go_sem,←ho]
def H65 (Pg:PgT):Prop:=Pg 65=some (.code F65)∧H75 Pg
theorem K65 (h:H65 Pg) (l:List Int) (n:Int) (hl:l.length<2 ^ 60):K' Pg 65 [Yf l,iz n]=some (.bool (decide (n∈l))):=by
 obtain⟨h,h75⟩:=h;refine Qa h rfl ?_;have k75:=K75 h75 l n hl;simp only[Yf] at k75;simp only[go_sem,k75,Yea]
def Yds:List Int→(Int→Bool)→Nat→Int
 |[],_,_=>-1
 |a::l,p,i=>if p a then i else Yds l p (i+1)
theorem Yd9:∀{l:List Int} {p:Int→Bool} {i:Nat},decide (0≤Yds l p i)=l.any p
 |[],n,i=>by simp[Yds]
 |a::l,n,i=>by
  simp only[Yds];split
  ·rename_i h;simp[h]
  ·rename_i h;rw[Yd9];simp[h]
def H76 (Pg:PgT):Prop:=Pg 76=some (.code F76)
theorem K76 (h:H76 Pg) (l:List Int) (g:Nat) (cap:List V) (p:Int→Bool) (hl:l.length<2 ^ 60) (hcap:cap.all V.datC=true) (hg:∀x∈l,K' Pg g (iz x::cap)=some (.bool (p x))) :
  K' Pg 76 [Yf l,.func g cap]=some (iz (Yds l p 0)):=by
 refine Qa h rfl ?_
 simp only[go_sem]
 unfold l76_0
 refine JiY (fun (i:Nat) S=>i≤l.length∧S.ρ 0=Yf l∧S.ρ 1=.func g cap∧S.ρ 7=iz l.length∧S.ρ 8=iz i∧Yds (l.drop i) p i=Yds l p 0) (fun i=>l.length-i) 0 ?_ ?_
 ·simp[go_sem]
 ·intro i S ⟨hi,h0,h1,h7,h8,ho⟩
  simp only[go_sem,h7,h8]
  refine JiZ (fun h=>?_) (fun h=>?_)
  ·have h:=Ye h
   obtain⟨x,hx,hd⟩:=JiF h
   rw[hd] at ho
   have hgx:=hg x (List.mem_of_getElem? hx)
   simp only[go_sem,h0,h1,h8,hx,hgx]
   refine JiZ (fun hc=>?_) (fun hc=>?_)
   ·simp only[Yds,hc,GO] at ho
    simp only[go_sem,←ho]
   ·simp only[Yds,hc,Gx,GN] at ho
    simp only[go_sem,h0,h1,h7,h8]
    exact⟨i+1,by omega,by omega,by rw[Yi h hl],ho⟩
  ·have h:=Ym hi h
   subst h
   simp only[GF,Yds] at ho
   simp only[go_sem,←ho]
def H67 (Pg:PgT):Prop:=Pg 67=some (.code F67)∧H76 Pg
theorem K67 (h:H67 Pg) (l:List Int) (g:Nat) (cap:List V) (p:Int→Bool) (hl:l.length<2 ^ 60) (hcap:cap.all V.datC=true) (hg:∀x∈l,K' Pg g (iz x::cap)=some (.bool (p x))) :
  K' Pg 67 [Yf l,.func g cap]=some (.bool (l.any p)):=by
 obtain⟨h,h76⟩:=h
 refine Qa h rfl ?_
 have k76:=K76 h76 l g cap p hl hcap hg
 simp only[Yf] at k76
 simp only[go_sem,k76,Yd9]
def SetP (l:List Int):Prop:=l.length≤8∧(∀m∈l,1≤m∧m≤255)∧l.Nodup
instance (l:List Int):Decidable (SetP l):=inferInstanceAs (Decidable (_∧_∧_))
theorem Yc7 {l:List Int} {i:Nat} {x:Int} (hx:l[i]?=some x) (h:¬(1≤x∧x≤255)∨x∈l.take i):¬SetP l:=by
 rintro⟨-,h2,h3⟩;rcases h with h|h
 ·exact h (h2 x (List.mem_of_getElem? hx))
 ·have hi:i<l.length:=by
   rcases GG i l.length with h|h
   ·exact h
   ·rw[List.getElem?_eq_none h] at hx;simp at hx
  obtain⟨y,hy,hd⟩:=JiF hi;have:x=y:=by rw[hx] at hy;simpa using hy
  subst this;rw[←GY i l,hd,Gae] at h3;exact h3.2.2 x h x (Gac ..) rfl
theorem Yel {l:List Int} {i:Nat} {x:Int} (hx:l[i]?=some x) (h:(∀m∈l.take i,1≤m∧m≤255)∧(l.take i).Nodup) (h1:1≤x∧x≤255) (h2:x∉l.take i) :
  (∀m∈l.take (i+1),1≤m∧m≤255)∧(l.take (i+1)).Nodup:=by
 rw[YB hx]
 refine⟨fun m hm=>?_,?_⟩
 ·rcases GP.1 hm with hm|hm
  ·exact h.1 m hm
  ·have:m=x:=by simpa using hm
   rw[this];exact h1
 ·rw[Gae]
  refine⟨h.2,by simp,fun a ha b hb e=>?_⟩
  have:b=x:=by simpa using hb
  rw[←this,←e] at h2
  exact h2 ha
def rowB (b:UInt8):List V:=[.int .u8 b.toNat]
theorem Yir {n:Nat} (h:n<256):rowB (UInt8.ofNat n)=[.int .u8 n]:=by simp[rowB,Yay h]
theorem u8w {n:Nat}:IntKind.u8.wrap (n:Int)=((n % 256:Nat):Int):=by simp[IntKind.wrap,IntKind.bits,IntKind.signed]
theorem Yi7 (n:Nat):IntKind.u8.wrap ((BitVec.ofInt 8 (IntKind.u8.wrap (n:Int)) ||| BitVec.ofInt 8 128).toNat:Int)=((n % 128+128:Nat):Int):=by
 have key:∀x:Fin 256,IntKind.u8.wrap ((BitVec.ofInt 8 ((x.1:Nat):Int) ||| BitVec.ofInt 8 128).toNat:Int)=((x.1 % 128+128:Nat):Int):=by decide
 rw[u8w (n:=n)];have:=key ⟨n % 256,by omega⟩;simp only at this;rw[this];omega
theorem Yer (l:List UInt8) (n:Nat):bytesR (l.map rowB++[[.int .u8 (n:Int)]])=some (l++[UInt8.ofNat n]):=by
 induction l with
 |nil=>simp[bytesR]
 |cons b l ih=>
  show bytesR (rowB b::(l.map rowB++_))=_
  simp only[rowB,bytesR,ih];simp
theorem Yjo (n:Nat):((n:Int).fdiv (2 ^ 7))=((n / 128:Nat):Int):=by
 have:((2:Int) ^ 7)=((128:Nat):Int):=rfl;rw[this];exact (Int.ofNat_fdiv n 128).symm
def H456 (Pg:PgT):Prop:=Pg 456=some (.code F456)
theorem K456 (h:H456 Pg) (n:Nat) (hn:n<2 ^ 63):K' Pg 456 [iz n]=some (.tuple [.str (putB n),iz 0]):=by
 refine Qa h rfl ?_;have c0:decide ((n:Int)<0)=false:=Gp (by omega);simp only[F456,c456,go_sem,c0];unfold l456_0;refine JiY (fun (m:Nat) S=>∃pre:List UInt8,pre++putB m=putB n∧S.ρ 0=iz m∧S.ρ 4=.own 4 1 pre.length∧S.A 4=some (1,pre.map rowB,.live)) (fun m=>m) n ?_ ?_
 ·exact⟨[],rfl,rfl,rfl,rfl⟩
 ·intro m S ⟨pre,hp,s0,s4,a4⟩;have hlen:pre.length+1≤9:=by
   have h1:=YN.2 hn;have h2:=putB_pos m;rw[←hp,Gc] at h1;omega
  have hlim:pre.length+1≤lim:=by unfold lim;omega
  cases c1:decide ((128:Int)≤m) with
  |true=>
   have h128:128≤m:=by have:=Gg c1;omega
   rw[Ybf h128] at hp;have w7:((m:Int).fdiv (2 ^ min (Int.toNat 7) 64))=((m / 128:Nat):Int):=Yjo m;have hsh:shV .shr (iz m) (.int .u64 7)=some (iz ((m / 128:Nat):Int)):=by simp only[shV];rw[Gv (by omega)];exact G5 (fun x=>some (V.int .i64 x)) (Yjo m)
   simp only[go_sem,s0,s4,a4,c1,Gf,hlim,hsh];refine⟨m / 128,by omega,pre++[UInt8.ofNat (m % 128+128)],by rw[←hp];simp,rfl,by rw[Gc];rfl,?_⟩;rw[Gw,G3,Yir (by omega),←Yi7];rfl
  |false=>
   have h128:m<128:=by have:=Gb c1;omega
   rw[Ybg h128] at hp;have hw:IntKind.u8.wrap (m:Int)=(m:Int):=by rw[u8w];omega
   simp only[go_sem,s0,s4,a4,c1,hw,Gf,hlim,Yer,hp]
def Ybc (n:Nat):List Int:=if h:n<128 then [(n:Int)] else ((n % 128:Nat):Int)::Ybc (n / 128)
termination_by n
decreasing_by omega
theorem YdL {n:Nat} (h:n<128):Ybc n=[(n:Int)]:=by rw[Ybc,dif_pos h]
theorem YdK {n:Nat} (h:128≤n):Ybc n=((n % 128:Nat):Int)::Ybc (n / 128):=by rw[Ybc,dif_neg (by omega)]
theorem Ydd:∀n,(Ybc n).length=(putB n).length:=by
 intro n
 induction n using Nat.strongRecOn with
 |_ n ih=>
  by_cases h:n<128
  ·rw[YdL h,Ybg h];rfl
  ·rw[YdK (by omega),Ybf (by omega),List.length_cons,List.length_cons,ih _ (by omega)]
theorem Ydu (n:Nat):Ybc n=((n % 128:Nat):Int)::(if n / 128=0 then [] else Ybc (n / 128)):=by
 by_cases h:n<128
 ·rw[YdL h,GB (by omega),Nat.mod_eq_of_lt h]
 ·rw[YdK (by omega),Gv (by omega)]
theorem YeN (n:Nat):(n:Int).tmod 128=((n % 128:Nat):Int):=rfl
theorem YgQ (n:Nat):(n:Int).tdiv 128=((n / 128:Nat):Int):=rfl
def H502 (Pg:PgT):Prop:=Pg 502=some (.code F502)
theorem K502 (h:H502 Pg) (n:Nat) (hn:n<2 ^ 63):K' Pg 502 [iz n]=some (Yf (Ybc n)):=by
 refine Qa h rfl ?_;have wd:∀m:Nat,m<2 ^ 63→IntKind.i64.wrap ((m:Int).tdiv 128)=((m / 128:Nat):Int):=fun m hm=>by
  rw[YgQ,JiV (by omega) (by omega)]
 have hl9:=YN.2 hn;rw[←Ydd] at hl9;simp only[F502,c502,go_sem,wd n hn,YeN];unfold l502_0;refine JiY (fun (m:Nat) S=>m<2 ^ 63∧∃pre:List Int,pre++(if m=0 then [] else Ybc m)=Ybc n∧S.ρ 0=iz m∧S.ρ 3=.own 6 1 pre.length∧S.A 6=some (1,pre.map (fun a=>[iz a]),.live)) (fun m=>m) (n / 128) ?_ ?_
 ·exact⟨by omega,[((n % 128:Nat):Int)],(Ydu n).symm,rfl,rfl,rfl⟩
 ·intro m S ⟨hm,pre,hp,s0,s3,a6⟩;cases c1:decide ((0:Int)<m) with
  |true=>
   have h0:0<m:=by have:=Gg c1;omega
   rw[Gv (by omega),Ydu] at hp;have hlim:pre.length+1≤lim:=by
    have:=G5 List.length hp;rw[Gc,List.length_cons] at this;unfold lim;omega
   simp only[go_sem,s0,s3,a6,c1,YeN,wd m hm,Gf,hlim];refine⟨m / 128,by omega,by omega,pre++[((m % 128:Nat):Int)],by rw[←hp];simp,rfl,by rw[Gc];rfl,by rw[Gw];rfl⟩
  |false=>
   have h0:m=0:=by have:=Gb c1;omega
   subst h0;rw[GB rfl,GS] at hp;simp only[go_sem,s0,s3,a6,hp,Gf]
theorem Yfj:∀(n:Nat) (i:Nat) (d:Int),(Ybc n)[i]?=some d→(putB n)[i]?=some (UInt8.ofNat (d.toNat+if i+1<(Ybc n).length then 128 else 0))∧0≤d∧d<128:=by
 intro n
 induction n using Nat.strongRecOn with
 |_ n ih=>
  intro i d hd;by_cases h:n<128
  ·rw[YdL h] at hd ⊢;rw[Ybg h];cases i with
   |zero=>simp at hd;subst hd;simp;omega
   |succ i=>simp at hd
  ·have:=putB_pos (n / 128);rw[YdK (by omega)] at hd ⊢;rw[Ybf (by omega)];have hl:=Ydd (n / 128);cases i with
   |zero=>
    simp at hd;subst hd;simp only[List.getElem?_cons_zero,List.length_cons];rw[GB (by omega)];exact⟨by congr 2,by omega,by omega⟩
   |succ i=>
    simp only[List.getElem?_cons_succ] at hd ⊢;obtain⟨e1,e2,e3⟩:=ih _ (by omega) i d hd;rw[e1];refine⟨?_,e2,e3⟩;simp only[List.length_cons,Nat.add_lt_add_iff_right]
def H487 (Pg:PgT):Prop:=Pg 487=some (.code F487)∧H502 Pg
theorem K487 (h:H487 Pg) (n:Nat) (hn:n<2 ^ 63):K' Pg 487 [iz n]=some (.tuple [.str (putB n),iz 0]):=by
 obtain⟨h,h502⟩:=h;have k502:=K502 h502 n hn;simp only[go_sem] at k502;refine Qa h rfl ?_;have c0:decide ((n:Int)<0)=false:=Gp (by omega);have hl:=Ydd n;have hl9:=YN.2 hn;simp only[F487,c487,go_sem,c0,k502];unfold l487_0;refine JiY (fun (i:Nat) S=>i≤(Ybc n).length∧S.ρ 4=.slice 1 ((Ybc n).map fun a=>[iz a])∧S.ρ 5=.str ((putB n).take i)∧S.ρ 6=iz i) (fun i=>(Ybc n).length-i) 0 ?_ ?_
 ·exact⟨Gu _,rfl,rfl,rfl⟩
 ·intro i S ⟨hi,s4,s5,s6⟩;cases c1:decide ((i:Int)<((Ybc n).length:Int)) with
  |false=>
   have hi':i=(putB n).length:=by have:=Gb c1;omega
   rw[hi',Gy] at s5;simp only[go_sem,s4,s5,s6,c1,Gf]
  |true=>
   have hlt:=Ye c1;obtain⟨d,hd,-⟩:=JiF hlt;obtain⟨p1,p2,p3⟩:=Yfj n i d hd;have htk:(putB n).take (i+1)=(putB n).take i++[UInt8.ofNat (d.toNat+if i+1<(Ybc n).length then 128 else 0)]:=by rw[Gap,p1];rfl
   have hinc:=inc64q (i:=i) (by omega)
   have hdec:IntKind.i64.wrap (((Ybc n).length:Int)-1)=((Ybc n).length:Int)-1:=JiV (by omega) (by omega);have hstr:((putB n).take i).length+1≤4611686018427387904:=by rw[GR];omega
   cases c2:decide ((i:Int)<((Ybc n).length:Int)-1) with
   |true=>
    have h2:i+1<(Ybc n).length:=by have:=Gg c2;omega
    rw[GB h2] at htk;have hw:IntKind.i64.wrap (d+128)=d+128:=JiV (by omega) (by omega);have hb:IntKind.u8.wrap (d+128)=d+128:=by simp[IntKind.wrap,IntKind.bits,IntKind.signed];omega
    have hto:(d+128).toNat=d.toNat+128:=by omega
    simp only[go_sem,s4,s5,s6,c1,c2,hd,hinc,hdec,hw,hb,hto,hstr,Gf,List.length_cons,List.length_nil];exact⟨i+1,by omega,by omega,by rw[htk],rfl⟩
   |false=>
    have h2:¬i+1<(Ybc n).length:=by have:=Gb c2;omega
    rw[Gv h2,Nat.add_zero] at htk;have hb:IntKind.u8.wrap d=d:=by simp[IntKind.wrap,IntKind.bits,IntKind.signed];omega
    simp only[go_sem,s4,s5,s6,c1,c2,hd,hinc,hdec,hb,hstr,Gf,List.length_cons,List.length_nil];exact⟨i+1,by omega,by omega,by rw[htk];rfl,rfl⟩
def eTk (e:Int):Option (Nat×List UInt8)→V
 |some (n,r)=>.tuple [iz n,.str r,iz 0]
 |none=>.tuple [iz 0,.str [],iz e]
def Ycl (e:Int):Option (List UInt8×List UInt8)→V
 |some (n,r)=>.tuple [.str n,.str r,iz 0]
 |none=>.tuple [.str [],.str [],iz e]
def Yck (e:Int):Option (Bool×List UInt8)→V
 |some (n,r)=>.tuple [.bool n,.str r,iz 0]
 |none=>.tuple [.bool false,.str [],iz e]
theorem and127 (b:UInt8):IntKind.u8.wrap ((BitVec.ofInt 8 (b.toNat:Int) &&& BitVec.ofInt 8 127).toNat:Int)=((b.toNat % 128:Nat):Int):=by
 have key:∀x:Fin 256,IntKind.u8.wrap ((BitVec.ofInt 8 ((x.1:Nat):Int) &&& BitVec.ofInt 8 127).toNat:Int)=((x.1 % 128:Nat):Int):=by decide
 exact key ⟨b.toNat,b.toNat_lt⟩
theorem YgL (b:UInt8):Ja4 .and .u8 (b.toNat:Int) 127=some (.int .u8 ((b.toNat % 128:Nat):Int)):=G5 (fun x=>some (V.int .u8 x)) (and127 b)
theorem or_sh {acc d i:Nat} (ha:acc<128 ^ i) (hd:d<128) (hi:i≤8) :
  IntKind.i64.wrap ((BitVec.ofInt 64 (acc:Int) ||| BitVec.ofInt 64 (IntKind.i64.wrap ((d:Int)*2 ^ min (7*i) 64))).toNat:Int)=((acc+128 ^ i*d:Nat):Int):=by
 have hp:(128:Nat) ^ i=2 ^ (7*i):=by rw[Nat.pow_mul]
 have hle:(2:Nat) ^ (7*i)≤2 ^ 56:=Nat.pow_le_pow_right (by omega) (by omega)
 have hmul:2 ^ (7*i)*d<2 ^ 63:=by
  have:2 ^ (7*i)*d≤2 ^ 56*127:=Nat.mul_le_mul hle (by omega);omega
 rw[hp] at ha ⊢
 have e1:((d:Int)*2 ^ min (7*i) 64)=((2 ^ (7*i)*d:Nat):Int):=by
  rw[Nat.min_eq_left (by omega)];simp[Int.mul_comm]
 have e3:IntKind.i64.wrap ((2 ^ (7*i)*d:Nat):Int)=((2 ^ (7*i)*d:Nat):Int):=JiV (by omega) (by omega)
 rw[e1,e3]
 have e2:∀m:Nat,m<2 ^ 63→BitVec.ofInt 64 (m:Int)=BitVec.ofNat 64 m:=fun m hm=>by simp
 rw[e2 _ (by omega),e2 _ hmul,BitVec.toNat_or,BitVec.toNat_ofNat,BitVec.toNat_ofNat,Nat.mod_eq_of_lt (by omega),Nat.mod_eq_of_lt (by omega),Nat.or_comm,←Nat.two_pow_add_eq_or_of_lt ha,Nat.add_comm]
 have hsum:acc+2 ^ (7*i)*d<2 ^ 63:=by
  have h1:2 ^ (7*i)*d+2 ^ (7*i)≤2 ^ (7*i)*128:=by
   have:=Nat.mul_le_mul (Gt (2 ^ (7*i))) (show d+1≤128 by omega);rw[Nat.mul_add] at this;omega
  omega
 rw[JiV (by omega) (by omega)]
theorem Yin {acc d i:Nat} (ha:acc<128 ^ i) (hd:d<128) (hi:i≤8):Ja4 .or .i64 (acc:Int) (IntKind.i64.wrap ((d:Int)*2 ^ min (7*i) 64))=some (iz ((acc+128 ^ i*d:Nat):Int)):=
 G5 (fun x=>some (V.int .i64 x)) (or_sh ha hd hi)
def H505 (Pg:PgT):Prop:=Pg 505=some (.code F505)
theorem K505 (h:H505 Pg) (s:List UInt8) (hs:s.length<2 ^ 62):∃e:Int,e≠0∧K' Pg 505 [.str s]=some (iz e):=by
 have key:K' Pg 505 [.str s]=some (iz (if s.any (fun b=>decide (b.toNat<128)) then 3 else 2)):=by
  refine Qa h rfl ?_;simp only[F505,c505,go_sem];unfold l505_0;refine JiY (fun (i:Nat) S=>i≤s.length∧S.ρ 0=.str s∧S.ρ 5=iz s.length∧S.ρ 6=iz i∧∀b∈s.take i,¬b.toNat<128) (fun i=>s.length-i) 0 ?_ ?_
  ·exact⟨Gu _,rfl,rfl,rfl,fun b hb=>by simp at hb⟩
  ·intro i S ⟨hi,s0,s5,s6,hpre⟩;cases c1:decide ((i:Int)<(s.length:Int)) with
   |false=>
    have:i=s.length:=by have:=Gb c1;omega
    subst this;rw[Gy] at hpre;have:s.any (fun b=>decide (b.toNat<128))=false:=by
     rw[List.any_eq_false];intro b hb;simpa using hpre b hb
    simp only[go_sem,s5,s6,c1,this]
   |true=>
    have hlt:=Ye c1;obtain⟨b,hb,-⟩:=JiF hlt;have hinc:=inc64q (i:=i) (by omega)
    cases c2:decide ((b.toNat:Int)<128) with
    |true=>
     have:s.any (fun b=>decide (b.toNat<128))=true:=List.any_eq_true.2 ⟨b,List.mem_of_getElem? hb,GA (by have:=Gg c2;omega)⟩;simp only[go_sem,s0,s5,s6,c1,hb,c2,this]
    |false=>
     simp only[go_sem,s0,s5,s6,c1,hb,c2,hinc];refine⟨i+1,by omega,by omega,rfl,fun x hx=>?_⟩;rw[Gap,hb] at hx;rcases GP.1 hx with hx|hx
     ·exact hpre x hx
     ·have:x=b:=by simpa using hx
      subst this;have:=Gb c2;omega
 refine⟨_,?_,key⟩;split<;>decide
def cnt (i acc:Nat) (o:Option (Nat×List UInt8)):Option (Nat×List UInt8):=o.bind fun q=>if 0<i∧q.1=0 then none else some (acc+128 ^ i*q.1,q.2)
theorem YiK (o:Option (Nat×List UInt8)):cnt 0 0 o=o:=by cases o<;>simp[cnt]
theorem Yfh {i acc k:Nat} {b:UInt8} {s:List UInt8} (hb:128≤b.toNat):cnt i acc (tk (k+1) (b::s))=cnt (i+1) (acc+128 ^ i*(b.toNat % 128)) (tk k s):=by
 have hb2:=b.toNat_lt;have hm:b.toNat % 128=b.toNat-128:=by omega
 simp only[tk,Gv (show ¬b.toNat<128 by omega),hm];cases tk k s with
 |none=>rfl
 |some q=>
  obtain⟨n,r⟩:=q;simp only[Option.bind_some,cnt];by_cases h0:n=0
  ·simp[h0]
  ·rw[Gv h0];simp only[Option.bind_some];rw[Gv (by omega),Gv (by omega)]
   congr 2
   rw[Nat.pow_succ,Nat.mul_add,Nat.mul_assoc];omega
def tkE (el:Int):Nat→List UInt8→Int
 |_,[]=>2
 |i,b::s=>if 8<i then (if 128≤b.toNat∨0<b.toNat % 128 then el else 3) else if 128≤b.toNat then tkE el (i+1) s else 3
theorem YfF {el:Int} (hel:el≠0):∀{i:Nat} {s:List UInt8},tkE el i s≠0
 |_,[]=>by simp[tkE]
 |i,b::s=>by
  simp only[tkE];split
  ·split
   ·exact hel
   ·decide
  ·split
   ·exact YfF hel
   ·decide
def H491 (Pg:PgT):Prop:=Pg 491=some (.code F491)∧H505 Pg
theorem K491 (h:H491 Pg) (s:List UInt8) (hs:s.length<2 ^ 62):∃e:Int,e≠0∧K' Pg 491 [.str s]=some (eTk e (tk 9 s)):=by
 obtain⟨h,h505⟩:=h;obtain⟨el,hel,k505⟩:=K505 h505 s hs;refine⟨tkE el 0 s,YfF hel,?_⟩;refine Qa h rfl ?_;simp only[F491,c491,go_sem];have and127:=YgL;simp only[go_sem,Ga,V.int.injEq,true_and] at and127;unfold l491_0;refine JiY (fun (i:Nat) S=>i≤s.length∧i≤9∧S.ρ 0=.str s∧S.ρ 9=iz s.length∧S.ρ 10=iz i∧∃acc:Nat,acc<128 ^ i∧S.ρ 5=iz acc∧tk 9 s=cnt i acc (tk (9-i) (s.drop i))∧tkE el 0 s=tkE el i (s.drop i)) (fun i=>s.length-i) 0 ?_ ?_
 ·exact⟨Gu _,Gu _,rfl,rfl,rfl,0,by decide,rfl,(YiK _).symm,rfl⟩
 ·intro i S ⟨hi,hi9,s0,s9,s10,acc,hacc,s5,htk,hte⟩;cases c1:decide ((i:Int)<(s.length:Int)) with
  |false=>
   have:i=s.length:=by have:=Gb c1;omega
   subst this;rw[GF] at htk hte;have hval:eTk (tkE el 0 s) (tk 9 s)=.tuple [iz 0,.str [],iz 2]:=by rw[htk,hte];cases 9-s.length<;>rfl
   simp only[go_sem,s9,s10,c1,hval]
  |true=>
   have hlt:=Ye c1;obtain⟨b,hb,hdr⟩:=JiF hlt;rw[hdr] at htk hte;have hinc:=inc64q (i:=i) (by omega)
   have hmul:IntKind.i64.wrap (7*(i:Int))=((7*i:Nat):Int):=by rw[JiV (by omega) (by omega)];omega
   have hw7:IntKind.i64.wrap ((b.toNat % 128:Nat):Int)=((b.toNat % 128:Nat):Int):=JiV (by omega) (by omega);have hb2:=b.toNat_lt;cases c2:decide ((8:Int)<i) with
   |true=>
    have h9:i=9:=by have:=Gg c2;omega
    have e1:tk 9 s=none:=by rw[htk,show 9-i=0 by omega];rfl
    have e2:tkE el 0 s=if 128≤b.toNat∨0<b.toNat % 128 then el else 3:=by rw[hte];simp only[tkE];rw[GB (by omega)]
    cases c3:decide ((128:Int)≤(b.toNat:Int)) with
    |true=>
     have hval:eTk (tkE el 0 s) (tk 9 s)=.tuple [iz 0,.str [],iz el]:=by rw[e1,e2,GB (.inl (by have:=Gg c3;omega))];rfl
     simp only[go_sem,s0,s9,s10,c1,c2,c3,hb,and127,hw7,k505,hval]
    |false=>
    cases c4:decide ((0:Int)<((b.toNat % 128:Nat):Int)) with
    |true=>
     have hval:eTk (tkE el 0 s) (tk 9 s)=.tuple [iz 0,.str [],iz el]:=by rw[e1,e2,GB (.inr (by have:=Gg c4;omega))];rfl
     simp only[go_sem,s0,s9,s10,c1,c2,c3,c4,hb,and127,hw7,k505,hval]
    |false=>
     have c5:decide (((b.toNat % 128:Nat):Int)=0)=true:=GA (by have:=Gb c4;omega);have c6:decide ((0:Int)<(i:Int))=true:=GA (by omega);have hval:eTk (tkE el 0 s) (tk 9 s)=.tuple [iz 0,.str [],iz 3]:=by rw[e1,e2,Gv (by have:=Gb c4;have:=Gb c3;omega)];rfl
     simp only[go_sem,s0,s9,s10,c1,c2,c3,c4,c5,c6,hb,and127,hw7,hval]
   |false=>
    have h8:i≤8:=by have:=Gb c2;omega
    have hor:=Yin (acc:=acc) (d:=b.toNat % 128) (i:=i) hacc (by omega) h8;simp only[go_sem,Ga,V.int.injEq,true_and] at hor;have hsh:shV .shl (iz ((b.toNat % 128:Nat):Int)) (iz ((7*i:Nat):Int))=some (iz (IntKind.i64.wrap (((b.toNat % 128:Nat):Int)*2 ^ min (7*i) 64))):=by
     simp only[shV];rw[Gv (by omega)];rfl
    have hnext:acc+128 ^ i*(b.toNat % 128)<128 ^ (i+1):=by
     have:=Nat.mul_le_mul (Gt (128 ^ i)) (show b.toNat % 128+1≤128 by omega);rw[Nat.mul_add] at this;rw[Nat.pow_succ];omega
    cases c3:decide ((128:Int)≤(b.toNat:Int)) with
    |true=>
     have h128:128≤b.toNat:=by have:=Gg c3;omega
     rw[show 9-i=(8-i)+1 by omega,Yfh h128,show 8-i=9-(i+1) by omega] at htk;simp only[tkE] at hte;rw[Gv (by omega),GB h128] at hte;simp only[go_sem,s0,s5,s9,s10,c1,c2,c3,hb,and127,hw7,hmul,hsh,hor,hinc];exact⟨i+1,by omega,by omega,by omega,rfl,_,hnext,rfl,htk,hte⟩
    |false=>
     have h128:b.toNat<128:=by have:=Gb c3;omega
     have hmd:b.toNat % 128=b.toNat:=by omega
     have hle1:i+1≤s.length:=hlt;have e0:tk (9-i) (b::s.drop (i+1))=some (b.toNat,s.drop (i+1)):=by
      rw[show 9-i=(8-i)+1 by omega];simp only[tk];rw[GB h128]
     rw[e0] at htk;simp only[tkE] at hte;rw[Gv (by omega),Gv (by omega)] at hte;cases c4:decide (((b.toNat % 128:Nat):Int)=0) with
     |true=>
      have h0:b.toNat=0:=by have:=Gg c4;omega
      cases c5:decide ((0:Int)<(i:Int)) with
      |true=>
       have hval:eTk (tkE el 0 s) (tk 9 s)=.tuple [iz 0,.str [],iz 3]:=by
        rw[htk,hte];simp only[cnt,Option.bind_some];rw[GB ⟨by have:=Gg c5;omega,h0⟩];rfl
       simp only[go_sem,s0,s9,s10,c1,c2,c3,c4,c5,hb,and127,hw7,hval]
      |false=>
       have hval:eTk (tkE el 0 s) (tk 9 s)=.tuple [iz ((acc+128 ^ i*(b.toNat % 128):Nat):Int),.str (s.drop (i+1)),iz 0]:=by
        rw[htk];simp only[cnt,Option.bind_some];rw[Gv (by have:=Gb c5;omega),hmd];rfl
       simp only[go_sem,s0,s5,s9,s10,c1,c2,c3,c4,c5,hb,and127,hw7,hmul,hsh,hor,hinc,hle1,Gy,hval]
     |false=>
      have hval:eTk (tkE el 0 s) (tk 9 s)=.tuple [iz ((acc+128 ^ i*(b.toNat % 128):Nat):Int),.str (s.drop (i+1)),iz 0]:=by
       rw[htk];simp only[cnt,Option.bind_some];rw[Gv (by have:=Gb c4;omega),hmd];rfl
      simp only[go_sem,s0,s5,s9,s10,c1,c2,c3,c4,hb,and127,hw7,hmul,hsh,hor,hinc,hle1,Gy,hval]
def H506 (Pg:PgT):Prop:=Pg 506=some (.code F506)∧H491 Pg
theorem K506 (h:H506 Pg) (s:List UInt8) (hs:s.length<2 ^ 62):∃e:Int,e≠0∧K' Pg 506 [.str s]=some (Ycl e (tkT s)):=by
 obtain⟨h,h491⟩:=h;obtain⟨e,he,k⟩:=K491 h491 s hs;unfold tkT;cases hq:tk 9 s with
 |none=>
  rw[hq] at k;have hd:decide (e=0)=false:=Gp he;refine⟨e,he,Qa h rfl ?_⟩;simp only[eTk] at k;simp only[F506,c506,go_sem,k,hd,Option.bind_none,Ycl]
 |some q=>
  obtain⟨n,r⟩:=q;rw[hq] at k;simp only[eTk] at k;simp only[Option.bind_some];have hn:=Yhs hq;cases c1:decide ((r.length:Int)<n) with
  |true=>
   refine⟨2,by decide,Qa h rfl ?_⟩;have h1:¬n≤r.length:=by have:=Gg c1;omega
   simp only[F506,c506,go_sem,k,c1,Gv h1,Ycl]
  |false=>
   refine⟨2,by decide,Qa h rfl ?_⟩;have h1:n≤r.length:=by have:=Gb c1;omega
   simp only[F506,c506,go_sem,k,c1,h1,Ycl,Gy]
def H507 (Pg:PgT):Prop:=Pg 507=some (.code F507)
theorem K507 (h:H507 Pg) (s:List UInt8):∃e:Int,e≠0∧K' Pg 507 [.str s]=some (Yck e (tkF s)):=by
 cases s with
 |nil=>
  refine⟨2,by decide,Qa h rfl ?_⟩;simp only[F507,c507,go_sem,tkF,Yck]
 |cons b s=>
  have h0:Jdd (.str (b::s)) (.int .i64 0)=some (.int .u8 b.toNat):=rfl;have hne:decide (b::s=[])=false:=rfl;have e1:decide ((b.toNat:Int)=1)=decide (b.toNat=1):=GM.2 (by omega);have hl1:1≤s.length+1:=by omega
  have htl:List.take (s.length+1) (b::s)=b::s:=by simp
  refine⟨3,by decide,Qa h rfl ?_⟩;cases c1:decide ((1:Int)<b.toNat) with
  |true=>
   have h1:¬b.toNat≤1:=by have:=Gg c1;omega
   simp only[F507,c507,go_sem,c1,h0,tkF,Yck,Gv h1]
  |false=>
   have h1:b.toNat≤1:=by have:=Gb c1;omega
   simp only[F507,c507,go_sem,c1,h0,e1,hl1,htl,tkF,Yck,GB h1,List.length_cons,List.drop_succ_cons,List.drop_zero]
def H470 (Pg:PgT):Prop:=Pg 470=some (.code F470)∧H487 Pg
theorem K470 (h:H470 Pg) (s:List UInt8) (hs:s.length<2 ^ 62):∃e:Int,e≠0∧K' Pg 470 [.str s]=some (eTk e (tk 9 s)):=by
 obtain⟨h,h487⟩:=h;by_cases hall:s.all fun b=>decide (128≤b.toNat)
 ·refine⟨2,by decide,Qa h rfl ?_⟩;have hval:eTk 2 (tk 9 s)=.tuple [iz 0,.str [],iz 2]:=by
   rw[tk_no fun b hb=>by
    rw[Gz] at hall;simpa using hall b (List.mem_of_mem_take hb)]
   rfl
  simp only[F470,c470,go_sem,hval];unfold l470_0;refine JiY (fun (i:Nat) S=>i≤s.length∧S.ρ 0=.str s∧S.ρ 5=iz i) (fun i=>s.length-i) 0 ?_ ?_
  ·exact⟨Gu _,rfl,rfl⟩
  ·intro i S ⟨hi,s0,s5⟩;cases c1:decide ((i:Int)<(s.length:Int)) with
   |false=>
    have c2:decide ((i:Int)=(s.length:Int))=true:=GA (by have:=Gb c1;omega);simp only[go_sem,s0,s5,c1,c2]
   |true=>
    have hlt:=Ye c1;obtain⟨b,hb,-⟩:=JiF hlt;have hinc:=inc64q (i:=i) (by omega)
    have c2:decide ((128:Int)≤b.toNat)=true:=GA (by
     rw[Gz] at hall;have:=hall b (List.mem_of_getElem? hb);simp at this;omega)
    simp only[go_sem,s0,s5,c1,c2,hb,hinc];exact⟨i+1,by omega,by omega,rfl⟩
 ·obtain⟨l,c,r,hl,hc,rfl⟩:∃l c r,(∀b∈l,128≤b.toNat)∧c.toNat<128∧s=l++c::r:=by
   clear hs
   induction s with
   |nil=>simp at hall
   |cons b s ih=>
    by_cases hb:b.toNat<128
    ·exact⟨[],b,s,fun x hx=>by simp at hx,hb,rfl⟩
    ·obtain⟨l,c,r,h1,h2,h3⟩:=ih (fun h'=>hall (by simp only[List.all_cons,h',GW,Gq];omega));exact⟨b::l,c,r,fun x hx=>by
      rcases GK.1 hx with rfl|hx
      ·omega
      ·exact h1 x hx,h2,by rw[h3];rfl⟩
  have hat:(l++c::r)[l.length]?=some c:=by simp
  have hpos:∀i,i<l.length→∃b,(l++c::r)[i]?=some b∧b∈l:=fun i hi=>⟨l[i],by rw[List.getElem?_append_left hi];simp[hi],Gan hi⟩;have htk:(l++c::r).take (l.length+1)=l++[c]:=by
   rw[show l++c::r=(l++[c])++r by simp,List.take_append_of_le_length (by simp),List.take_of_length_le (by simp)]
  have hdp:(l++c::r).drop (l.length+1)=r:=by
   rw[show l++c::r=(l++[c])++r by simp,List.drop_append_of_le_length (by simp),List.drop_of_length_le (by simp)];rfl
  have hlen:l.length<(l++c::r).length:=by simp
  rw[tk_end hl hc];refine⟨3,by decide,Qa h rfl ?_⟩;generalize hR:(if l.length+1≤9∧putB (val (l++[c]))=l++[c] then some (val (l++[c]),r) else none)=R;generalize hsv:l++c::r=s at *
  simp only[F470,c470,go_sem];unfold l470_0;refine JiY (fun (i:Nat) S=>i≤l.length∧S.ρ 0=.str s∧S.ρ 5=iz i) (fun i=>l.length-i) 0 ?_ ?_
  ·exact⟨Gu _,rfl,rfl⟩
  ·intro i S ⟨hi,s0,s5⟩;have c1:decide ((i:Int)<(s.length:Int))=true:=GA (by omega);have hlt:i<s.length:=by omega
   have hinc:=inc64q (i:=i) (by omega)
   by_cases hil:i<l.length
   ·obtain⟨b,hb,hbl⟩:=hpos i hil;have c2:decide ((128:Int)≤b.toNat)=true:=GA (by have:=hl b hbl;omega);simp only[go_sem,s0,s5,c1,c2,hb,hinc];exact⟨i+1,by omega,by omega,rfl⟩
   ·have hie:i=l.length:=by omega
    rw[←hie] at hat htk hdp;have c2:decide ((128:Int)≤c.toNat)=false:=Gp (by omega);have c3:decide ((i:Int)=(s.length:Int))=false:=Gp (by omega);cases c4:decide ((8:Int)<i) with
    |true=>
     rw[Gv (by have:=Gg c4;omega)] at hR;subst hR;simp only[go_sem,s0,s5,c1,c2,c3,c4,hat,eTk]
    |false=>
     have h8:i≤8:=by have:=Gb c4;omega
     simp only[go_sem,s0,s5,c1,c2,c3,c4,hat];have hv63:val (l++[c])<2 ^ 63:=by
      have h1:=YeH (l++[c]);have h2:(128:Nat) ^ (l++[c]).length≤128 ^ 9:=Nat.pow_le_pow_right (by omega) (by simp;omega);have h3:(128:Nat) ^ 9=2 ^ 63:=by decide
      omega
     have k487:=K487 h487 (val (l++[c])) hv63;unfold l470_1;refine JiY (fun (m:Nat) S=>m≤i+1∧S.ρ 0=.str s∧S.ρ 5=iz i∧S.ρ 7=iz ((m:Int)-1)∧S.ρ 6=iz (val ((l++[c]).drop m))) (fun m=>m) (i+1) ?_ ?_
     ·refine⟨Gt _,by simp only[go_sem,s0],by simp only[go_sem,s5],by simp only[go_sem];congr 1;omega,?_⟩;rw[List.drop_of_length_le (by simp;omega)];simp only[go_sem];rfl
     ·intro m S ⟨hm,s0,s5,s7,s6⟩;by_cases hm0:m=0
      ·have c6:decide ((0:Int)≤(m:Int)-1)=false:=Gp (by omega);rw[show (l++[c]).drop m=l++[c] by rw[hm0];rfl] at s6;have hle1:i+1≤s.length:=hlt;by_cases hp:putB (val (l++[c]))=l++[c]
       ·rw[GB ⟨by omega,hp⟩] at hR;subst hR;have c7:decide (putB (val (l++[c]))=l++[c])=true:=GA hp;simp only[go_sem,s0,s5,s6,s7,c6,k487,hinc,hle1,htk,hdp,c7,eTk,Gy]
       ·rw[Gv (fun h'=>hp h'.2)] at hR;subst hR;have c7:decide (putB (val (l++[c]))=l++[c])=false:=Gp hp;simp only[go_sem,s0,s5,s6,s7,c6,k487,hinc,hle1,htk,c7,eTk]
      ·obtain⟨j,rfl⟩:∃j,m=j+1:=⟨m-1,by omega⟩;have c6:decide ((0:Int)≤((j+1:Nat):Int)-1)=true:=GA (by omega);have hj:(((j+1:Nat):Int)-1)=(j:Int):=by omega
       rw[hj] at s7 c6;have hjs:j<s.length:=by omega
       obtain⟨b,hb',hdrop⟩:=JiF (show j<(l++[c]).length by simp;omega);have hb:s[j]?=some b:=by rw[←hb',←htk,List.getElem?_take_of_lt (by omega)]
       have hvj:val ((l++[c]).drop j)<2 ^ 63:=by
        have h1:=YeH ((l++[c]).drop j);have h2:(128:Nat) ^ ((l++[c]).drop j).length≤128 ^ 9:=Nat.pow_le_pow_right (by omega) (by simp;omega);have h3:(128:Nat) ^ 9=2 ^ 63:=by decide
        omega
       rw[hdrop] at hvj;simp only[val] at hvj;have hw1:IntKind.i64.wrap (128*((val ((l++[c]).drop (j+1)):Nat):Int))=((128*val ((l++[c]).drop (j+1)):Nat):Int):=by rw[JiV (by omega) (by omega)];omega
       have hbl:=b.toNat_lt;have hw2:IntKind.i64.wrap (b.toNat:Int)=(b.toNat:Int):=JiV (by omega) (by omega);have hmd:(b.toNat:Int).tmod 128=((b.toNat % 128:Nat):Int):=rfl;have hw3:IntKind.i64.wrap (((128*val ((l++[c]).drop (j+1)):Nat):Int)+((b.toNat % 128:Nat):Int))=((val ((l++[c]).drop j):Nat):Int):=by
        rw[JiV (by omega) (by omega),hdrop];simp only[val];omega
       have hdec:IntKind.i64.wrap ((j:Int)-1)=(j:Int)-1:=JiV (by omega) (by omega);simp only[go_sem,s0,s5,s6,s7,c6,hb,hw1,hw2,hw3,hmd,hdec];exact⟨j,by omega,by omega,rfl,rfl⟩
structure Stamp where
 wall:Int
 tick:Int
 node:Int
 deriving DecidableEq
structure Ver where
 at_:Stamp
 gone:Bool
 val:List UInt8
 deriving DecidableEq
@[go_sem] def Yd (s:Stamp):List V:=[iz s.wall,iz s.tick,iz s.node]
@[go_sem] def YS (v:Ver):List V:=[iz v.at_.wall,iz v.at_.tick,iz v.at_.node,.bool v.gone,.str v.val]
def Yb (c:List Ver):V:=.slice 5 (c.map YS)
def Ycf (a b:Int):Bool:=decide (0≤a)&&decide (a≤b)
def Ydb (a b:Int):Int:=if a<b then -1 else if b<a then 1 else 0
def orI:List Int→Int
 |[]=>0
 |a::l=>if a=0 then orI l else a
def Ya (s:Stamp):Bool:=Ycf s.wall 1099511627776&&Ycf s.tick 1048576&&Ycf s.node 255
def Yc (a b:Stamp):Int:=orI [Ydb a.wall b.wall,Ydb a.tick b.tick,Ydb a.node b.node]
def Yt (v:Ver):Bool:=Ya v.at_&&decide (v.val.length≤16)&&(!v.gone||decide (v.val=[]))
def H32 (Pg:PgT):Prop:=Pg 32=some (.code F32)
theorem K32 (h:H32 Pg) (a b:Int):K' Pg 32 [iz a,iz b]=some (.bool (Ycf a b)):=by
 refine Qa h rfl ?_;simp only[go_sem];refine JiX (fun h=>?_) (fun h=>?_)<;>simp only[go_sem,h,Ycf]
def H31 (Pg:PgT):Prop:=Pg 31=some (.code F31)
theorem K31 (h:H31 Pg) (a:Int):K' Pg 31 [iz a]=some (.bool false):=by
 refine Qa h rfl ?_;simp only[go_sem]
def H26 (Pg:PgT):Prop:=Pg 26=some (.code F26)∧H31 Pg
theorem K26 (h:H26 Pg) (a b:Int):K' Pg 26 [iz a,iz b]=some (iz (Ydb a b)):=by
 obtain⟨h,h31⟩:=h;refine Qa h rfl ?_;have k31:=fun x=>K31 h31 x;simp only[go_sem,k31]
 repeat' (refine JiZ (fun h=>?_) (fun h=>?_)<;>simp only[go_sem])
 all_goals simp_all [Ydb]
 omega
def H27 (Pg:PgT):Prop:=Pg 27=some (.code F27)
theorem K27 (h:H27 Pg) (l:List Int) (hl:l.length<2 ^ 60):K' Pg 27 [.slice 1 (l.map fun a=>[iz a])]=some (iz (orI l)):=by
 refine Qa h rfl ?_;simp only[go_sem];unfold l27_0;refine JiY (fun (i:Nat) S=>i≤l.length∧S.ρ 3=iz 0∧S.ρ 6=.slice 1 (l.map fun a=>[iz a])∧S.ρ 7=iz l.length∧S.ρ 8=iz i∧orI (l.drop i)=orI l) (fun i=>l.length-i) 0 ?_ ?_
 ·simp[go_sem]
 ·intro i S ⟨hi,h3,h6,h7,h8,ho⟩;simp only[go_sem,h7,h8];refine JiZ (fun h=>?_) (fun h=>?_)
  ·simp only[Gq,Int.ofNat_lt] at h;obtain⟨x,hx,hd⟩:=JiF h;simp only[go_sem,h3,h6,h8,hx];refine JiZ (fun h=>?_) (fun h=>?_)
   ·simp only[go_sem];simp only[GE,GH] at h;rw[←ho,hd];simp[orI,h]
   ·simp only[go_sem,h3,h6,h7,h8];simp only[Bool.not_eq_false',Gq] at h;refine⟨i+1,by omega,by omega,?_,by rw[←ho,hd];simp[orI,h]⟩;rw[JiV (by omega) (by omega)];rfl
  ·simp only[GH,Int.ofNat_lt] at h;simp only[go_sem,h3];have:i=l.length:=by omega
   rw[←ho,this];simp[orI]
def H15 (Pg:PgT):Prop:=Pg 15=some (.code F15)∧H26 Pg∧H27 Pg
theorem K15 (h:H15 Pg) (a b:Stamp):K' Pg 15 [.agg (Yd a),.agg (Yd b)]=some (iz (Yc a b)):=by
 obtain⟨h,h26,h27⟩:=h;refine Qa h rfl ?_;have k26:=fun x y=>K26 h26 x y;have k27:=K27 h27 [Ydb a.wall b.wall,Ydb a.tick b.tick,Ydb a.node b.node] (by simp);simp only[G3,G6] at k27;simp only[go_sem,k26,k27,Yc]
def H28 (Pg:PgT):Prop:=Pg 28=some (.code F28)∧H32 Pg
theorem K28 (h:H28 Pg) (a:Stamp):K' Pg 28 [.agg (Yd a)]=some (.bool (Ya a)):=by
 obtain⟨h,h32⟩:=h;refine Qa h rfl ?_;have k:=fun x y=>K32 h32 x y;simp only[go_sem,k]
 repeat' (refine JiX (fun h=>?_) (fun h=>?_)<;>simp only[go_sem,h,k,Ya])
def H22 (Pg:PgT):Prop:=Pg 22=some (.code F22)∧H28 Pg
theorem K22 (h:H22 Pg) (a:Ver):K' Pg 22 [.agg (YS a)]=some (.bool (Yt a)):=by
 obtain⟨h,h28⟩:=h;refine Qa h rfl ?_;have k:=K28 h28 a.at_;simp only[Yd] at k;simp only[go_sem,k]
 repeat' (first|refine JiX (fun h=>?_) (fun h=>?_)<;>simp only[go_sem,h]|refine JiW (fun h=>?_) (fun h=>?_)<;>simp only[go_sem,h])
 all_goals simp_all [Yt]
 all_goals omega
def chR:Option Ver→List Ver→Bool
 |_,[]=>true
 |p,v::l=>Yt v&&(match p with|none=>true|some q=>decide (Yc q.at_ v.at_<0))&&chR (some v) l
def Yg (c:List Ver):Bool:=chR none c&&decide (c.length≤64)
def YaI (c:List Ver) (i:Nat):Option Ver:=if i=0 then none else c[i-1]?
def H7 (Pg:PgT):Prop:=Pg 7=some (.code F7)∧H22 Pg∧H15 Pg
theorem K7 (h:H7 Pg) (l:List Ver) (hl:l.length<2 ^ 60):K' Pg 7 [Yb l]=some (.bool (Yg l)):=by
 obtain⟨h,h22,h15⟩:=h;refine Qa h rfl ?_;have k22:=fun x=>K22 h22 x;have k15:=fun x y=>K15 h15 x y;simp only[go_sem,Yb];unfold l7_0;refine JiY (fun (i:Nat) S=>i≤l.length∧S.ρ 0=Yb l∧S.ρ 5=Yb l∧S.ρ 6=iz l.length∧S.ρ 7=iz i∧S.μ 4=none∧chR (YaI l i) (l.drop i)=chR none l) (fun i=>l.length-i) 0 ?_ ?_
 ·simp[go_sem,Yb,YaI]
 ·intro i S ⟨hi,h0,h5,h6,h7,hm,ho⟩;simp only[go_sem,h6,h7];refine JiZ (fun h=>?_) (fun h=>?_)
  ·simp only[Gq,Int.ofNat_lt] at h;obtain⟨x,hx,hd⟩:=JiF h;simp only[Yd,YS] at k22 k15;have hstep:(Yt x=true→chR (YaI l i) (x::l.drop (i+1))=((match YaI l i with|none=>true|some q=>decide (Yc q.at_ x.at_<0))&&chR (some x) (l.drop (i+1)))):=fun h=>by simp[chR,h]
   have hnext:YaI l (i+1)=some x:=by simp[YaI,hx]
   have hinc:IntKind.i64.wrap ((i:Int)+1)=((i+1:Nat):Int):=JiV (by omega) (by omega);have hbad:Yt x=false→chR none l=false:=fun h=>by rw[←ho,hd];simp[chR,h]
   cases hv:Yt x with
   |false=>simp only[go_sem,h5,h7,hx,Yb,hm,k22,hv,GJ,Yg,hbad hv]
   |true=>
    rcases GT i with hz|hz
    ·have hgt:decide ((0:Int)<(i:Int))=false:=by simp[hz]
     simp only[go_sem,h0,h5,h6,h7,hx,Yb,hm,k22,hv,GI,hgt];refine⟨i+1,by omega,by omega,by rw[hinc],?_⟩;rw[hnext,←ho,hd,hstep hv];simp[YaI,hz]
    ·have hgt:decide ((0:Int)<(i:Int))=true:=by simp[hz]
     have hdec:IntKind.i64.wrap ((i:Int)-1)=((i-1:Nat):Int):=by rw[JiV (by omega) (by omega)];omega
     have hy:l[i-1]?=some l[i-1]:=by simp
     have hp:YaI l i=some l[i-1]:=by simp[YaI,Nat.ne_of_gt hz]
     simp only[go_sem,h0,h5,h7,hx,Yb,hm,k22,hv,GI,hgt,hdec,hy,k15];refine JiZ (fun hc=>?_) (fun hc=>?_)
     ·simp only[go_sem];have:¬Yc l[i-1].at_ x.at_<0:=by simpa using hc
      have:chR none l=false:=by rw[←ho,hd,hstep hv,hp];simp[this]
      simp[Yg,this]
     ·simp only[go_sem,h0,h5,h6,h7,Yb];have:Yc l[i-1].at_ x.at_<0:=by simpa using hc
      refine⟨i+1,by omega,by omega,by rw[hinc],?_⟩;rw[hnext,←ho,hd,hstep hv,hp];simp[this]
  ·simp only[GH,Int.ofNat_lt] at h;simp only[go_sem,h0,Yb];have:i=l.length:=by omega
   subst this;simp[chR] at ho;have:(decide ((l.length:Int)≤64))=decide (l.length≤64):=GM.2 (by omega);simp[Yg,←ho,this]
theorem Yan {a b:Stamp}:Yc a b<0↔a.wall<b.wall∨(a.wall=b.wall∧(a.tick<b.tick∨(a.tick=b.tick∧a.node<b.node))):=by
 simp only[Yc,orI,Ydb]
 repeat' split
 all_goals omega
theorem Ycn {a b:Stamp}:0<Yc a b↔b.wall<a.wall∨(b.wall=a.wall∧(b.tick<a.tick∨(b.tick=a.tick∧b.node<a.node))):=by
 simp only[Yc,orI,Ydb]
 repeat' split
 all_goals omega
theorem Ybx {p:Option Ver} {v:Ver} {l:List Ver} (h:chR p (v::l)=true):chR (some v) l=true:=by
 simp only[chR,Gk] at h;exact h.2
theorem YdI {p v:Ver} {l:List Ver} (h:chR (some p) l=true) (hv:v∈l):Yc p.at_ v.at_<0:=by
 induction l generalizing p with
 |nil=>simp at hv
 |cons w l ih=>
  simp only[chR,Gk,Gq] at h;rcases GK.1 hv with rfl|hv
  ·exact h.1.2
  ·have h2:=ih h.2 hv;have h1:=h.1.2;rw[Yan] at h1 h2 ⊢;omega
theorem Ycg:∀{c:List Ver} {p:Option Ver} {i j:Nat} {v w:Ver},chR p c=true→i<j→c[i]?=some v→c[j]?=some w→Yc v.at_ w.at_<0
 |[],_,i,j,v,w,_,_,hv,_=>by simp at hv
 |x::l,p,i,j,v,w,hc,hij,hv,hw=>by
  cases j with
  |zero=>omega
  |succ j=>
   cases i with
   |zero=>
    simp at hv hw;subst hv;exact YdI (Ybx hc) (List.mem_of_getElem? hw)
   |succ i=>exact Ycg (c:=l) (i:=i) (j:=j) (Ybx hc) (by omega) (by simpa using hv) (by simpa using hw)
theorem YX {c:List Ver} (h:Yg c=true):chR none c=true∧c.length≤64:=by
 simpa [Yg] using h
def before (a b:Stamp):Bool:=decide (Yc a b<0)
def H6 (Pg:PgT):Prop:=Pg 6=some (.code F6)
theorem K6 (h:H6 Pg) (a b:Stamp):K' Pg 6 [.agg (Yd a),.agg (Yd b)]=some (.bool (before a b)):=by
 refine Qa h rfl ?_;simp only[go_sem]
 repeat' (refine JiZ (fun h=>?_) (fun h=>?_)<;>simp only[go_sem])
 all_goals
  simp only[before,Ga,V.bool.injEq,GM,Yan,GE,Bool.not_eq_false',GH,Gq] at *
  omega
def H24 (Pg:PgT):Prop:=Pg 24=some (.code F24)
theorem K24 (h:H24 Pg) (a:Stamp):K' Pg 24 [.agg (Yd a)]=some (.bool (Ya a)):=by
 refine Qa h rfl ?_;simp only[go_sem]
 repeat' (refine JiX (fun h=>?_) (fun h=>?_)<;>simp only[go_sem,h])
 all_goals simp_all [Ya,Ycf]
 all_goals (intros;omega)
def H5 (Pg:PgT):Prop:=Pg 5=some (.code F5)∧H24 Pg
theorem K5 (h:H5 Pg) (v:Ver):K' Pg 5 [.agg (YS v)]=some (.bool (Yt v)):=by
 obtain⟨h,h24⟩:=h;refine Qa h rfl ?_;have k24:=K24 h24 v.at_;simp only[Yd] at k24;simp only[go_sem]
 repeat' (first|refine JiX (fun h=>?_) (fun h=>?_)<;>simp only[go_sem,h,k24]|refine JiZ (fun h=>?_) (fun h=>?_)<;>simp only[go_sem,h,k24])
 all_goals
  simp only[Yt,Ga,V.bool.injEq] at *
  cases hv:v.val<;>simp_all
 all_goals omega
def Yb8:Option Ver→Ver→Bool
 |none,_=>true
 |some q,x=>decide (Yc q.at_ x.at_<0)
theorem Ya5 {p:Option Ver} {x:Ver} {l:List Ver} (h:Yt x=true):chR p (x::l)=(Yb8 p x&&chR (some x) l):=by
 cases p<;>simp[chR,Yb8,h]
def H4 (Pg:PgT):Prop:=Pg 4=some (.code F4)∧H5 Pg∧H6 Pg
theorem K4 (h:H4 Pg) (l:List Ver) (hl:l.length<2 ^ 60):K' Pg 4 [Yb l]=some (.bool (Yg l)):=by
 obtain⟨h,h5',h6'⟩:=h;refine Qa h rfl ?_;have k5:=fun x=>K5 h5' x;have k6:=fun x y=>K6 h6' x y;simp only[YS,Yd] at k5 k6;simp only[go_sem,Yb];refine JiZ (fun hc=>?_) (fun hc=>?_)
 ·have hc:¬l.length≤64:=by have:=Gg hc;omega
  simp only[go_sem,Yg,hc,decide_false]
 ·have hc:l.length≤64:=by have:=Gb hc;omega
  have hcr:Yg l=chR none l:=by simp[Yg,hc]
  simp only[go_sem];unfold l4_0;refine JiY (fun (i:Nat) S=>i≤l.length∧S.ρ 0=Yb l∧S.ρ 3=iz i∧chR (YaI l i) (l.drop i)=chR none l) (fun i=>l.length-i) 0 ?_ ?_
  ·simp[go_sem,Yb,YaI]
  ·intro i S ⟨hi,h0,h3,ho⟩;simp only[go_sem,h0,h3,Yb];refine JiZ (fun h=>?_) (fun h=>?_)
   ·simp only[Gq,Int.ofNat_lt] at h;obtain⟨x,hx,hd⟩:=JiF h;have hnext:YaI l (i+1)=some x:=by simp[YaI,hx]
    have hinc:IntKind.i64.wrap ((i:Int)+1)=((i+1:Nat):Int):=JiV (by omega) (by omega);have hbad:Yt x=false→chR none l=false:=fun h=>by rw[←ho,hd];simp[chR,h]
    simp only[go_sem,h0,h3,hx,Yb,k5];refine JiZ (fun hv=>?_) (fun hv=>?_)
    ·have hv:Yt x=false:=by simpa using hv
     simp only[go_sem,hcr,hbad hv]
    ·have hv:Yt x=true:=by simpa using hv
     simp only[go_sem,h3];refine JiX (fun hz=>?_) (fun hz=>?_)
     ·have hz':0<i:=by have:=Gg hz;omega
      have hdec:IntKind.i64.wrap ((i:Int)-1)=((i-1:Nat):Int):=by rw[JiV (by omega) (by omega)];omega
      have hy:l[i-1]?=some l[i-1]:=by simp
      have hp:YaI l i=some l[i-1]:=by simp[YaI,Nat.ne_of_gt hz']
      simp only[go_sem,h0,h3,hx,Yb,hz,hdec,hy,k6];refine JiZ (fun hc=>?_) (fun hc=>?_)
      ·have hb:¬Yc l[i-1].at_ x.at_<0:=by simpa [before] using hc
       have:chR none l=false:=by rw[←ho,hd,Ya5 hv,hp];simp[Yb8,hb]
       simp only[go_sem,hcr,this]
      ·have hb:Yc l[i-1].at_ x.at_<0:=by simpa [before] using hc
       simp only[go_sem,h0,h3,Yb];refine⟨i+1,by omega,by omega,by rw[hinc],?_⟩;rw[hnext,←ho,hd,Ya5 hv,hp];simp[Yb8,hb]
     ·have hz':i=0:=by have:=Gb hz;omega
      simp only[go_sem,h0,h3,Yb,hz];refine⟨i+1,by omega,by omega,by rw[hinc],?_⟩;rw[hnext,←ho,hd,Ya5 hv];simp[Yb8,YaI,hz']
   ·simp only[GH,Int.ofNat_lt] at h;have:i=l.length:=by omega
    subst this;simp[chR] at ho;simp only[go_sem,hcr,ho]
def H494 (Pg:PgT):Prop:=Pg 494=some (.code F494)∧H470 Pg
theorem K494 (h:H494 Pg) (s:List UInt8) (hs:s.length<2 ^ 62):∃e:Int,e≠0∧K' Pg 494 [.str s]=some (Ycl e (tkT s)):=by
 obtain⟨h,h470⟩:=h;obtain⟨e,he,k⟩:=K470 h470 s hs;unfold tkT;cases hq:tk 9 s with
 |none=>
  rw[hq] at k;have hd:decide (e=0)=false:=Gp he;refine⟨e,he,Qa h rfl ?_⟩;simp only[eTk] at k;simp only[F494,c494,go_sem,k,hd,Option.bind_none,Ycl]
 |some q=>
  obtain⟨n,r⟩:=q;rw[hq] at k;simp only[eTk] at k;simp only[Option.bind_some];cases c1:decide ((r.length:Int)<n) with
  |true=>
   refine⟨2,by decide,Qa h rfl ?_⟩;have h1:¬n≤r.length:=by have:=Gg c1;omega
   simp only[F494,c494,go_sem,k,c1,Gv h1,Ycl]
  |false=>
   refine⟨2,by decide,Qa h rfl ?_⟩;have h1:n≤r.length:=by have:=Gb c1;omega
   simp only[F494,c494,go_sem,k,c1,h1,Ycl,Gy]
def H495 (Pg:PgT):Prop:=Pg 495=some (.code F495)
theorem K495 (h:H495 Pg) (s:List UInt8):∃e:Int,e≠0∧K' Pg 495 [.str s]=some (Yck e (tkF s)):=by
 cases s with
 |nil=>
  refine⟨2,by decide,Qa h rfl ?_⟩;simp only[F495,c495,go_sem,tkF,Yck]
 |cons b s=>
  have h0:Jdd (.str (b::s)) (.int .i64 0)=some (.int .u8 b.toNat):=rfl;have hne:decide (((s.length+1:Nat):Int)=0)=false:=Gp (by omega);have e1:decide ((b.toNat:Int)=1)=decide (b.toNat=1):=GM.2 (by omega);have hl1:1≤s.length+1:=by omega
  have htl:List.take (s.length+1) (b::s)=b::s:=by simp
  refine⟨3,by decide,Qa h rfl ?_⟩;cases c1:decide ((1:Int)<b.toNat) with
  |true=>
   have h1:¬b.toNat≤1:=by have:=Gg c1;omega
   simp only[F495,c495,go_sem,c1,h0,hne,tkF,Yck,Gv h1,List.length_cons]
  |false=>
   have h1:b.toNat≤1:=by have:=Gb c1;omega
   simp only[F495,c495,go_sem,c1,h0,hne,e1,hl1,htl,tkF,Yck,GB h1,List.length_cons,List.drop_succ_cons,List.drop_zero]
def stB (s:Stamp):List UInt8:=putB s.wall.toNat++(putB s.tick.toNat++putB s.node.toNat)
def tkS (s:List UInt8):Option (Stamp×List UInt8):=(tk 9 s).bind fun a=>(tk 9 a.2).bind fun b=>(tk 9 b.2).bind fun c=>if Ya ⟨a.1,b.1,c.1⟩ then some (⟨a.1,b.1,c.1⟩,c.2) else none
def YbJ (e:Int):Option (Stamp×List UInt8)→V
 |some (n,r)=>.tuple [.agg (Yd n),.str r,iz 0]
 |none=>.tuple [.agg [iz 0,iz 0,iz 0],.str [],iz e]
theorem stR {s:Stamp}:Ya s=true↔(0≤s.wall∧s.wall≤1099511627776)∧(0≤s.tick∧s.tick≤1048576)∧(0≤s.node∧s.node≤255):=by
 simp only[Ya,Ycf,Gk,Gq];constructor
 ·rintro⟨⟨h1,h2⟩,h3⟩;exact⟨h1,h2,h3⟩
 ·rintro⟨h1,h2,h3⟩;exact⟨⟨h1,h2⟩,h3⟩
theorem Ye6 {s r:List UInt8} {t:Stamp}:tkS s=some (t,r)↔s=stB t++r∧Ya t=true:=by
 unfold tkS stB;constructor
 ·intro h;cases h1:tk 9 s with
  |none=>rw[h1] at h;cases h
  |some a=>
   rw[h1] at h;simp only[Option.bind_some] at h;cases h2:tk 9 a.2 with
   |none=>rw[h2] at h;cases h
   |some b=>
    rw[h2] at h;simp only[Option.bind_some] at h;cases h3:tk 9 b.2 with
    |none=>rw[h3] at h;cases h
    |some c=>
     rw[h3] at h;simp only[Option.bind_some] at h;split at h
     ·rename_i hr;simp only[Ga,Gl] at h;obtain⟨rfl,rfl⟩:=h;refine⟨?_,hr⟩;obtain⟨a1,a2⟩:=a;obtain⟨b1,b2⟩:=b;obtain⟨c1,c2⟩:=c;simp only at h2 h3 ⊢;rw[(YbX h1).1,(YbX h2).1,(YbX h3).1];simp
     ·cases h
 ·rintro⟨rfl,h⟩;obtain⟨h1,h2,h3⟩:=stR.1 h;have e1:((t.wall.toNat:Nat):Int)=t.wall:=by omega
  have e2:((t.tick.toNat:Nat):Int)=t.tick:=by omega
  have e3:((t.node.toNat:Nat):Int)=t.node:=by omega
  have ht:(⟨t.wall.toNat,t.tick.toNat,t.node.toNat⟩:Stamp)=t:=by rw[e1,e2,e3]
  rw[Gr,Gr,YcX 9 _ _ (YN.2 (by omega))];simp only[Option.bind_some];rw[YcX 9 _ _ (YN.2 (by omega))];simp only[Option.bind_some];rw[YcX 9 _ _ (YN.2 (by omega))];simp only[Option.bind_some];rw[ht,GB h]
def H486 (Pg:PgT):Prop:=Pg 486=some (.code F486)∧H487 Pg
theorem K486 (h:H486 Pg) (s:Stamp) (hs:Ya s=true):K' Pg 486 [.agg (Yd s)]=some (.str (stB s)):=by
 obtain⟨h,h487⟩:=h;obtain⟨h1,h2,h3⟩:=stR.1 hs;have kk:∀n:Int,0≤n→n<2 ^ 63→K' Pg 487 [iz n]=some (.tuple [.str (putB n.toNat),iz 0]):=fun n a b=>by
  have:=K487 h487 n.toNat (by omega);rw[show ((n.toNat:Nat):Int)=n by omega] at this;exact this
 have k1:=kk s.wall (by omega) (by omega);have k2:=kk s.tick (by omega) (by omega);have k3:=kk s.node (by omega) (by omega);have l1:=YN.2 (show s.wall.toNat<2 ^ 63 by omega);have l2:=YN.2 (show s.tick.toNat<2 ^ 63 by omega);have l3:=YN.2 (show s.node.toNat<2 ^ 63 by omega);have b1:(putB s.wall.toNat).length+(putB s.tick.toNat).length≤4611686018427387904:=by omega
 have b2:(putB s.wall.toNat).length+(putB s.tick.toNat).length+(putB s.node.toNat).length≤4611686018427387904:=by omega
 refine Qa h rfl ?_;simp only[F486,c486,go_sem,k1,k2,k3,b1,b2,Gc,stB,Gr]
def H469 (Pg:PgT):Prop:=Pg 469=some (.code F469)∧H470 Pg∧H24 Pg
theorem K469 (h:H469 Pg) (s:List UInt8) (hs:s.length<2 ^ 62):∃e:Int,e≠0∧K' Pg 469 [.str s]=some (YbJ e (tkS s)):=by
 obtain⟨h,h470,h24⟩:=h;obtain⟨e,he,k⟩:=K470 h470 s hs;have hd:decide (e=0)=false:=Gp he;unfold tkS;cases hq:tk 9 s with
 |none=>
  rw[hq] at k;refine⟨e,he,Qa h rfl ?_⟩;simp only[eTk] at k;simp only[F469,c469,go_sem,k,hd,Option.bind_none,YbJ]
 |some q=>
  obtain⟨n,r⟩:=q;rw[hq] at k;simp only[eTk] at k;simp only[Option.bind_some];have hr:r.length<2 ^ 62:=by have:=G5 List.length (YbX hq).1;simp at this;omega
  obtain⟨e',he',k'⟩:=K470 h470 r hr;have hd':decide (e'=0)=false:=Gp he';cases hq':tk 9 r with
  |none=>
   rw[hq'] at k';refine⟨e',he',Qa h rfl ?_⟩;simp only[eTk] at k';simp only[F469,c469,go_sem,k,k',hd',Option.bind_none,YbJ]
  |some q'=>
   obtain⟨n',r'⟩:=q';rw[hq'] at k';simp only[eTk] at k';simp only[Option.bind_some];have hr':r'.length<2 ^ 62:=by have:=G5 List.length (YbX hq').1;simp at this;omega
   obtain⟨e'',he'',k''⟩:=K470 h470 r' hr';have hd'':decide (e''=0)=false:=Gp he'';cases hq'':tk 9 r' with
   |none=>
    rw[hq''] at k'';refine⟨e'',he'',Qa h rfl ?_⟩;simp only[eTk] at k'';simp only[F469,c469,go_sem,k,k',k'',hd'',Option.bind_none,YbJ]
   |some q''=>
    obtain⟨n'',r''⟩:=q'';rw[hq''] at k'';simp only[eTk] at k'';have k24:=K24 h24 ⟨n,n',n''⟩;refine⟨3,by decide,Qa h rfl ?_⟩;simp only[Option.bind_some];cases hst:Ya ⟨n,n',n''⟩ with
    |true=>
     rw[hst] at k24;simp only[go_sem] at k24;simp only[F469,c469,go_sem,k,k',k'',k24,GO,YbJ]
    |false=>
     rw[hst] at k24;simp only[go_sem] at k24;simp only[F469,c469,go_sem,k,k',k'',k24,Gx,GN,YbJ]
def Yhj (nu:Nat→Nat) (i:Nat):List V:=[iz ((if 0<i then nu 0 else 0:Nat):Int),iz ((if 1<i then nu 1 else 0:Nat):Int),iz ((if 2<i then nu 2 else 0:Nat):Int)]
theorem YgF {S:St} {nu:Nat→Nat} {i:Nat} (hi:i<3):stV S 5 i [iz (nu i)] (some (Yhj nu i,false))=some ⟨S.ρ,upd S.μ 5 (some (Yhj nu (i+1),false)),S.A⟩:=by
 rcases (show i=0∨i=1∨i=2 by omega) with rfl|rfl|rfl<;>rfl
def H490 (Pg:PgT):Prop:=Pg 490=some (.code F490)∧H491 Pg∧H28 Pg
theorem K490g (h:Pg 490=some (.code F490)) (h28:H28 Pg) {rest:Nat→List UInt8} {nu:Nat→Nat} {m:Nat} {e:Int} (hm:m≤3)
  (hk:∀i,i<m→K' Pg 491 [.str (rest i)]=some (.tuple [iz (nu i),.str (rest (i+1)),iz 0])) (he:m<3→e≠0∧K' Pg 491 [.str (rest m)]=some (.tuple [iz 0,.str [],iz e])) :
  K' Pg 490 [.str (rest 0)]=some (YbJ (if m<3 then e else 3) (if m<3 then none else if Ya ⟨nu 0,nu 1,nu 2⟩ then some (⟨nu 0,nu 1,nu 2⟩,rest 3) else none)):=by
 refine Qa h rfl ?_
 have i0:Ja3 1 3 (.lref 5 0) (.int .i64 0)=some (.lref 5 0):=rfl
 have i1:Ja3 1 3 (.lref 5 0) (.int .i64 1)=some (.lref 5 1):=rfl
 have i2:Ja3 1 3 (.lref 5 0) (.int .i64 2)=some (.lref 5 2):=rfl
 simp only[F490,c490,go_sem]
 unfold l490_0
 refine JiY (fun (i:Nat) S=>i≤m∧S.ρ 0=.str (rest i)∧S.ρ 2=.lref 2 0∧S.ρ 5=.lref 5 0∧S.ρ 11=iz i∧S.μ 2=some ([iz 0,iz 0,iz 0],false)∧S.μ 5=some (Yhj nu i,false)∧S.μ 10=none) (fun i=>3-i) 0 ?_ ?_
 ·exact⟨Gu _,rfl,rfl,rfl,rfl,rfl,rfl,rfl⟩
 ·intro i S ⟨hi,s0,s2,s5,s11,m2,m5,m10⟩
  cases c1:decide ((i:Int)<3) with
  |false=>
   have h3:i=3:=by have:=Gb c1;omega
   have hm3:m=3:=by omega
   rw[Gv (by omega),Gv (by omega)]
   rw[h3] at m5 s0
   have k28:=K28 h28 ⟨nu 0,nu 1,nu 2⟩
   have hv:Yhj nu 3=[iz (nu 0),iz (nu 1),iz (nu 2)]:=rfl
   rw[hv] at m5
   cases hst:Ya ⟨nu 0,nu 1,nu 2⟩ with
   |true=>
    rw[hst] at k28
    simp only[go_sem] at k28
    simp only[go_sem,s0,s2,s5,s11,m2,m5,m10,c1,i0,i1,i2,k28,GO,YbJ]
   |false=>
    rw[hst] at k28
    simp only[go_sem] at k28
    simp only[go_sem,s2,s5,s11,m2,m5,m10,c1,i0,i1,i2,k28,Gx,GN,YbJ]
  |true=>
   have hi3:i<3:=by have:=Gg c1;omega
   have hinc:=inc64q (i:=i) (by omega)
   by_cases him:i<m
   ·have k:=hk i him
    have hst:=fun S=>YgF (S:=S) (nu:=nu) hi3
    have hia:Ja3 1 3 (.lref 5 0) (iz (i:Int))=some (.lref 5 i):=by
     rcases (show i=0∨i=1∨i=2 by omega) with rfl|rfl|rfl<;>rfl
    simp only[go_sem,s0,s2,s5,s11,m2,m5,m10,c1,k,hst,hia,hinc]
    exact⟨i+1,by omega,by omega,rfl,rfl,rfl⟩
   ·have hime:i=m:=by omega
    obtain⟨e0,k⟩:=he (by omega)
    rw[←hime] at k
    have hd:decide (e=0)=false:=Gp e0
    rw[GB (by omega),GB (by omega)]
    simp only[go_sem,s0,s2,s11,m2,c1,k,hd,YbJ]
theorem K490 (h:H490 Pg) (s:List UInt8) (hs:s.length<2 ^ 62):∃e:Int,e≠0∧K' Pg 490 [.str s]=some (YbJ e (tkS s)):=by
 obtain⟨h,h491,h28⟩:=h;obtain⟨e,he,k⟩:=K491 h491 s hs;unfold tkS;cases hq:tk 9 s with
 |none=>
  rw[hq] at k;exact⟨e,he,by
   have:=K490g h h28 (rest:=fun _=>s) (nu:=fun _=>0) (m:=0) (e:=e) (by omega) (fun i hi=>by omega) (fun _=>⟨he,k⟩);exact this⟩
 |some q=>
  obtain⟨n,r⟩:=q;rw[hq] at k;have hr:r.length<2 ^ 62:=by have:=G5 List.length (YbX hq).1;simp at this;omega
  obtain⟨e',he',k'⟩:=K491 h491 r hr;simp only[Option.bind_some];cases hq':tk 9 r with
  |none=>
   rw[hq'] at k';exact⟨e',he',by
    have:=K490g h h28 (rest:=fun i=>if i=0 then s else r) (nu:=fun _=>n) (m:=1) (e:=e') (by omega) (fun i hi=>by
     have h0:i=0:=by omega
     subst h0;exact k) (fun _=>⟨he',k'⟩)
    exact this⟩
  |some q'=>
   obtain⟨n',r'⟩:=q';rw[hq'] at k';simp only[Option.bind_some];have hr':r'.length<2 ^ 62:=by have:=G5 List.length (YbX hq').1;simp at this;omega
   obtain⟨e'',he'',k''⟩:=K491 h491 r' hr';cases hq'':tk 9 r' with
   |none=>
    rw[hq''] at k'';exact⟨e'',he'',by
     have:=K490g h h28 (rest:=fun i=>if i=0 then s else if i=1 then r else r') (nu:=fun i=>if i=0 then n else n') (m:=2) (e:=e'') (by omega) (fun i hi=>by
      rcases (show i=0∨i=1 by omega) with rfl|rfl
      ·exact k
      ·exact k') (fun _=>⟨he'',k''⟩)
     exact this⟩
   |some q''=>
    obtain⟨n'',r''⟩:=q'';rw[hq''] at k'';exact⟨3,by decide,by
     have:=K490g h h28 (rest:=fun i=>if i=0 then s else if i=1 then r else if i=2 then r' else r'') (nu:=fun i=>if i=0 then n else if i=1 then n' else n'') (m:=3) (e:=3) (by omega) (fun i hi=>by
      rcases (show i=0∨i=1∨i=2 by omega) with rfl|rfl|rfl
      ·exact k
      ·exact k'
      ·exact k'') (fun h=>by omega)
     exact this⟩
def H61 (Pg:PgT):Prop:=Pg 61=some (.code F61)
theorem K61 (h:H61 Pg) (l:List Int):K' Pg 61 [Yf l]=some (.bool (decide (SetP l))):=by
 refine Qa h rfl ?_;simp only[go_sem];refine JiZ (fun hc=>?_) (fun hc=>?_)
 ·have hc:¬SetP l:=fun⟨e,_⟩=>by have:=Gg hc;omega
  simp only[go_sem,hc]
 ·have hl:l.length≤8:=by have:=Gb hc;omega
  simp only[go_sem];unfold l61_0;refine JiY (fun (i:Nat) S=>i≤l.length∧S.ρ 0=Yf l∧S.ρ 3=iz i∧(∀m∈l.take i,1≤m∧m≤255)∧(l.take i).Nodup) (fun i=>l.length-i) 0 ?_ ?_
  ·simp[go_sem]
  ·intro i S ⟨hi,h0,h3,ho1,ho2⟩;simp only[go_sem,h0,h3];refine JiZ (fun h=>?_) (fun h=>?_)
   ·have h:=Ye h;obtain⟨x,hx,hd⟩:=JiF h;have bad:¬(1≤x∧x≤255)→¬SetP l:=fun e=>Yc7 hx (.inl e);simp only[go_sem,h0,h3,hx];refine JiW (fun hc=>?_) (fun hc=>?_)
    ·have h1:¬x<1:=Gb hc;simp only[go_sem,h0,h3,hx,h1];refine JiZ (fun hc=>?_) (fun hc=>?_)
     ·have hs:¬SetP l:=bad (by have:=Gg hc;omega);simp only[go_sem,hs]
     ·have h2:¬255<x:=Gb hc;simp only[go_sem];unfold l61_1;refine JiY (fun (k:Nat) S=>k≤i∧S.ρ 0=Yf l∧S.ρ 3=iz i∧S.ρ 4=iz k∧x∉l.take k) (fun k=>i-k) 0 ?_ ?_
      ·simp[go_sem,h0,h3]
      ·intro k S ⟨hk,h0,h3,h4,ho3⟩;simp only[go_sem,h3,h4];refine JiZ (fun h'=>?_) (fun h'=>?_)
       ·have h':=Ye h';obtain⟨y,hy,hd'⟩:=JiF (l:=l) (i:=k) (by omega);simp only[go_sem,h0,h3,h4,hx,hy];refine JiZ (fun hc=>?_) (fun hc=>?_)
        ·have hc:y=x:=Gg hc;have hm:x∈l.take i:=by
          rw[←hc];have:(l.take i)[k]?=some y:=by rw[List.getElem?_take,GB h'];exact hy
          exact List.mem_of_getElem? this
         have hs:¬SetP l:=Yc7 hx (.inr hm);simp only[go_sem,hs]
        ·have hc:¬y=x:=Gb hc;simp only[go_sem,h0,h3,h4];refine⟨k+1,by omega,by omega,by rw[Yi h' (by omega)],?_⟩;rw[YB hy];simp;exact⟨ho3,fun e=>hc e.symm⟩
       ·have h':=Ym hk h';subst h';have hn:=Yel hx ⟨ho1,ho2⟩ (by omega) ho3;simp only[go_sem,h0,h3];exact⟨k+1,by omega,by omega,by rw[Yi h (by omega)],hn.1,hn.2⟩
    ·have h1:x<1:=Gg hc;have hs:¬SetP l:=bad (by omega);simp only[go_sem,h1,hs]
   ·have h:=Ym hi h;rw[YaO h] at ho1 ho2;have hs:SetP l:=⟨hl,ho1,ho2⟩;simp only[go_sem,hs]
def H64 (Pg:PgT):Prop:=Pg 64=some (.code F64)∧H65 Pg
theorem K64 (h:H64 Pg) (l:List Int) (hl:l.length<2 ^ 60):K' Pg 64 [Yf l]=some (.bool (decide (SetP l))):=by
 obtain⟨h,h65⟩:=h;refine Qa h rfl ?_;simp only[go_sem];unfold l64_0;refine JiY (fun (i:Nat) S=>i≤l.length∧S.ρ 0=Yf l∧S.ρ 5=Yf l∧S.ρ 6=iz l.length∧S.ρ 7=iz i∧(∀m∈l.take i,1≤m∧m≤255)∧(l.take i).Nodup) (fun i=>l.length-i) 0 ?_ ?_
 ·simp[go_sem]
 ·intro i S ⟨hi,h0,h5,h6,h7,ho1,ho2⟩;simp only[go_sem,h6,h7];refine JiZ (fun h=>?_) (fun h=>?_)
  ·have h:=Ye h;obtain⟨x,hx,hd⟩:=JiF h;have bad:¬(1≤x∧x≤255)→¬SetP l:=fun e=>Yc7 hx (.inl e);have k65:=K65 h65 (l.take i) x (by simp;omega);simp only[Yf,List.map_take] at k65;simp only[go_sem,h5,h7,hx];refine JiW (fun hc=>?_) (fun hc=>?_)
   ·have h1:¬x<1:=Gb hc;simp only[go_sem,h1];refine JiW (fun hc=>?_) (fun hc=>?_)
    ·have h2:¬255<x:=Gb hc;simp only[go_sem,h0,hi,h2,k65];refine JiZ (fun hc=>?_) (fun hc=>?_)
     ·have hs:¬SetP l:=Yc7 hx (.inr (Gg hc));simp only[go_sem,hs]
     ·have hn:=Yel hx ⟨ho1,ho2⟩ (by omega) (Gb hc);simp only[go_sem,h0,h5,h6,h7];exact⟨i+1,by omega,by omega,by rw[Yi h hl],hn.1,hn.2⟩
    ·have h2:255<x:=Gg hc;have hs:¬SetP l:=bad (by omega);simp only[go_sem,h2,hs]
   ·have h1:x<1:=Gg hc;have hs:¬SetP l:=bad (by omega);simp only[go_sem,h1,hs]
  ·have h:=Ym hi h;rw[YaO h] at ho1 ho2;simp only[go_sem,h0];have:decide ((l.length:Int)≤8)=decide (SetP l):=GM.2 ⟨fun e=>⟨by omega,ho1,ho2⟩,fun e=>by have:=e.1;omega⟩;rw[this]
structure Rep where
 id:Int
 view:Int
 members:List Int
 n:Int
 base:List UInt8
 text:List UInt8
 acks:List Int
 deriving DecidableEq
structure Word where
 kind:Int
 frm:Int
 to:Int
 view:Int
 n:Int
 members:List Int
 text:List UInt8
 deriving DecidableEq
@[go_sem] def Yx (r:Rep):List V:=[iz r.id,iz r.view,Yf r.members,iz r.n,.str r.base,.str r.text,Yf r.acks]
@[go_sem] def Yas (r:Word):List V:=[iz r.kind,iz r.frm,iz r.to,iz r.view,iz r.n,Yf r.members,.str r.text]
structure Rep.Ok (r:Rep):Prop where
 m:r.members.length<2 ^ 60
 a:r.acks.length<2 ^ 60
def YaP (n least:Int):Bool:=decide (least≤n)&&decide (n≤1099511627776)
def H63 (Pg:PgT):Prop:=Pg 63=some (.code F63)
theorem K63 (h:H63 Pg) (n least:Int):K' Pg 63 [iz n,iz least]=some (.bool (YaP n least)):=by
 refine Qa h rfl ?_;simp only[go_sem];refine JiX (fun h=>?_) (fun h=>?_)<;>simp only[go_sem,h,YaP]
def H60 (Pg:PgT):Prop:=Pg 60=some (.code F60)
theorem K60 (h:H60 Pg) (n:Int):K' Pg 60 [iz n]=some (.bool (YaP n 1)):=by
 refine Qa h rfl ?_;simp only[go_sem];refine JiX (fun h=>?_) (fun h=>?_)<;>simp only[go_sem,h,YaP]
def Yj (r:Rep):Bool:=match r.members with|[]=>false|m::_=>decide (m=r.id)
def H68 (Pg:PgT):Prop:=Pg 68=some (.code F68)
theorem K68 (h:H68 Pg) (r:Rep):K' Pg 68 [.agg (Yx r)]=some (.bool (Yj r)):=by
 refine Qa h rfl ?_;obtain⟨id,view,members,n,base,text,acks⟩:=r;cases members with
 |nil=>simp only[go_sem,Yj]
 |cons m l=>
  have h0:JaJ 1 (V.slice 1 ([iz m]::List.map (fun a=>[iz a]) l)) (iz 0)=some (.cptr [iz m] 0):=rfl;simp only[go_sem,Yj,YaV,h0]
def H38 (Pg:PgT):Prop:=Pg 38=some (.code F38)
theorem K38 (h:H38 Pg) (r:Rep):K' Pg 38 [.agg (Yx r)]=some (.bool (Yj r)):=by
 refine Qa h rfl ?_;obtain⟨id,view,members,n,base,text,acks⟩:=r;cases members with
 |nil=>simp only[go_sem,Yj]
 |cons m l=>
  have h0:JaJ 1 (V.slice 1 ([iz m]::List.map (fun a=>[iz a]) l)) (iz 0)=some (.cptr [iz m] 0):=rfl;simp only[go_sem,Yj,YaV,h0]
def YaF (r:Rep):Bool:=r.members.all fun m=>decide (m∈r.acks)
def H42 (Pg:PgT):Prop:=Pg 42=some (.code F42)∧H62 Pg
theorem K42 (h:H42 Pg) (r:Rep) (ok:r.Ok):K' Pg 42 [.agg (Yx r)]=some (.bool (YaF r)):=by
 obtain⟨h,h62⟩:=h;have k62:=fun x=>K62 h62 r.acks x ok.a;simp only[Yf] at k62;refine Qa h rfl ?_;simp only[go_sem];unfold l42_0;refine JiY (fun (i:Nat) S=>i≤r.members.length∧S.ρ 1=.lref 1 0∧S.μ 1=some (Yx r,false)∧S.ρ 3=iz i∧(∀m∈r.members.take i,m∈r.acks)) (fun i=>r.members.length-i) 0 ?_ ?_
 ·simp[go_sem]
 ·intro i S ⟨hi,h1,m1,h3,ho⟩;simp only[go_sem,h1,m1,h3];refine JiZ (fun h=>?_) (fun h=>?_)
  ·have h:=Ye h;obtain⟨x,hx,hd⟩:=JiF h;simp only[go_sem,h1,m1,h3,hx,k62];refine JiZ (fun hc=>?_) (fun hc=>?_)
   ·have hc:x∉r.acks:=by simpa using hc
    have:YaF r=false:=by
     simp only[YaF,List.all_eq_false];exact⟨x,List.mem_of_getElem? hx,by simpa using hc⟩
    simp only[go_sem,this]
   ·have hc:x∈r.acks:=by simpa using hc
    simp only[go_sem,h1,m1,h3];refine⟨i+1,by omega,by omega,by rw[Yi h ok.m],fun m hm=>?_⟩;rw[YB hx] at hm;rcases GP.1 hm with hm|hm
    ·exact ho m hm
    ·have:m=x:=by simpa using hm
     rw[this];exact hc
  ·have h:=Ym hi h;rw[YaO h] at ho;have:YaF r=true:=by simpa [YaF] using ho
   simp only[go_sem,this]
def rightB (r:Rep):Bool:=
 !(decide (r.id<1)||(decide (255<r.id)||((!decide (r.view=0)&&!YaP r.view 1)||((!decide (r.n=0)&&!YaP r.n 1)||(!decide (SetP r.members)||!decide (SetP r.acks)))))) &&
  (r.acks.all (fun m=>decide (m∈r.members))&&(!(decide ((0:Int)<(r.members.length:Int))&&!decide (r.id∈r.members)) &&
  (bif Yj r then decide (r.id∈r.acks)&&(!YaF r||decide (r.base=r.text)) else decide ((r.acks.length:Int)=0)&&decide (r.base=r.text))))
def H37 (Pg:PgT):Prop:=Pg 37=some (.code F37)∧H60 Pg∧H61 Pg∧H62 Pg∧H38 Pg∧H42 Pg
theorem K37 (h:H37 Pg) (r:Rep) (ok:r.Ok):K' Pg 37 [.agg (Yx r)]=some (.bool (rightB r)):=by
 obtain⟨h,h60,h61,h62,h38,h42⟩:=h;have k60:=fun x=>K60 h60 x;have k61m:=K61 h61 r.members;have k61a:=K61 h61 r.acks;have k62m:=fun x=>K62 h62 r.members x ok.m;have k62a:=fun x=>K62 h62 r.acks x ok.a;have k38:=K38 h38 r;have k42:=K42 h42 r ok;simp only[Yf,Yx] at k60 k61m k61a k62m k62a k38 k42;refine Qa h rfl ?_;simp only[go_sem]
 repeat' (first|refine JiW (fun h=>?_) (fun h=>?_)<;>simp only[go_sem,h,k61m,k61a]|refine JiX (fun h=>?_) (fun h=>?_)<;>simp only[go_sem,h,k60,k61m]|refine JiZ (fun h=>?_) (fun h=>?_)<;>simp only[go_sem,h])
 all_goals first|(simp only[rightB, *,GI,GJ,Bool.or_true,Gab,Bool.or_false,GW,Gn,Gm,Gj];done)|skip
 all_goals
  unfold l37_0
  refine JiY (fun (i:Nat) S=>i≤r.acks.length∧S.ρ 1=.lref 1 0∧S.μ 1=some (Yx r,false)∧S.ρ 3=iz i∧(∀m∈r.acks.take i,m∈r.members)) (fun i=>r.acks.length-i) 0 ?_ ?_
  ·simp[go_sem]
  ·intro i S ⟨hi,h1,m1,h3,ho⟩
   simp only[go_sem,h1,m1,h3]
   refine JiZ (fun h=>?_) (fun h=>?_)
   ·have h:=Ye h
    obtain⟨x,hx,hd⟩:=JiF h
    simp only[go_sem,h1,m1,h3,hx,k62m]
    refine JiZ (fun hc=>?_) (fun hc=>?_)
    ·have hc:x∉r.members:=by simpa using hc
     have hall:r.acks.all (fun m=>decide (m∈r.members))=false:=by
      simp only[List.all_eq_false];exact⟨x,List.mem_of_getElem? hx,by simpa using hc⟩
     simp only[go_sem,rightB,hall]
    ·have hc:x∈r.members:=by simpa using hc
     simp only[go_sem,h1,m1,h3]
     refine⟨i+1,by omega,by omega,by rw[Yi h ok.a],fun m hm=>?_⟩
     rw[YB hx] at hm
     rcases GP.1 hm with hm|hm
     ·exact ho m hm
     ·have:m=x:=by simpa using hm
      rw[this];exact hc
   ·have h:=Ym hi h
    rw[YaO h] at ho
    have hall:r.acks.all (fun m=>decide (m∈r.members))=true:=by simpa using ho
    clear ho
    simp only[go_sem,h1,m1]
    repeat' (first|refine JiW (fun h=>?_) (fun h=>?_)<;>simp only[go_sem,h,h1,m1]|refine JiX (fun h=>?_) (fun h=>?_)<;>simp only[go_sem,h,h1,m1,k62m,k38]|refine JiZ (fun h=>?_) (fun h=>?_)<;>simp only[go_sem,h,h1,m1,k62a,k38,k42])
    all_goals (simp_all only [rightB,GE,Bool.not_eq_false',GI,GJ,Gab,Bool.or_false,G4,GW,Gn,Gm,Gj,cond_true,cond_false];done)
theorem YaR:∀{l m:List Int},l.Nodup→(∀x∈l,x∈m)→l.length≤m.length
 |[],m,_,_=>by simp
 |a::l,m,h,hs=>by
  rw[Gal] at h;have ha:=hs a (Gac ..);have h1:=YaR (l:=l) (m:=m.erase a) h.2 (fun x hx=>by
   have hne:x≠a:=fun e=>h.1 (e▸hx);exact (List.mem_erase_of_ne hne).2 (hs x (Gad _ hx)))
  have h2:=List.length_erase_of_mem ha;have h3:0<m.length:=List.length_pos_of_mem ha;simp only[List.length_cons];omega
theorem YdF {r:Rep} (hm:SetP r.members) (ha:SetP r.acks) (hs:∀x∈r.acks,x∈r.members):decide ((r.acks.length:Int)<(r.members.length:Int))=!YaF r:=by
 cases h:YaF r with
 |true=>
  have:∀x∈r.members,x∈r.acks:=by simpa [YaF] using h
  have:=YaR hm.2.2 this;simp;omega
 |false=>
  obtain⟨x,hx,hn⟩:∃x,x∈r.members∧x∉r.acks:=by simpa [YaF] using h
  have:=YaR (l:=x::r.acks) (m:=r.members) (Gal.2 ⟨hn,ha.2.2⟩) (fun y hy=>by
   rcases GK.1 hy with rfl|hy
   ·exact hx
   ·exact hs y hy)
  simp only[List.length_cons] at this;simp;omega
def rightG (r:Rep):Bool:=
 !(decide (r.id<1)||(decide (255<r.id)||(!YaP r.view 0||(!YaP r.n 0||(!decide (SetP r.members)||!decide (SetP r.acks)))))) &&
  (!(decide ((0:Int)<(r.members.length:Int))&&!decide (r.id∈r.members))&&(!(r.acks.any (fun m=>!decide (m∈r.members))) &&
  (bif Yj r then decide (r.id∈r.acks)&&(decide ((r.acks.length:Int)<(r.members.length:Int))||decide (r.base=r.text)) else decide ((r.acks.length:Int)=0)&&decide (r.base=r.text))))
theorem Yi6 {n:Int}:(!decide (n=0)&&!YaP n 1)=!YaP n 0:=by
 simp only[YaP];by_cases h1:n=0
 ·subst h1;decide
 ·have:decide (1≤n)=decide (0≤n):=GM.2 (by omega);simp[h1,this]
theorem YcT (r:Rep):rightG r=rightB r:=by
 unfold rightG rightB;rw[Yi6,Yi6];have hall:(!(r.acks.any (fun m=>!decide (m∈r.members))))=r.acks.all (fun m=>decide (m∈r.members)):=by
  rw[List.all_eq_not_any_not]
 rw[hall];by_cases hm:SetP r.members
 ·by_cases ha:SetP r.acks
  ·cases hs:r.acks.all (fun m=>decide (m∈r.members)) with
   |true=>rw[YdF hm ha (by simpa using hs)];simp only[Gn]
   |false=>simp
  ·simp[ha]
 ·simp[hm]
def H66 (Pg:PgT):Prop:=Pg 66=some (.code F66)∧H65 Pg
theorem K66 (h:H66 Pg) (r:Rep) (m:Int) (ok:r.Ok):K' Pg 66 [iz m,.cptr (Yx r) 0]=some (.bool (!decide (m∈r.members))):=by
 obtain⟨h,h65⟩:=h;have k65:=K65 h65 r.members m ok.m;simp only[Yf] at k65;refine Qa h rfl ?_;simp only[go_sem,k65]
def H39 (Pg:PgT):Prop:=Pg 39=some (.code F39)∧H63 Pg∧H64 Pg∧H65 Pg∧H66 Pg∧H67 Pg∧H68 Pg
theorem K39 (h:H39 Pg) (r:Rep) (ok:r.Ok):K' Pg 39 [.agg (Yx r)]=some (.bool (rightB r)):=by
 rw[←YcT];obtain⟨h,h63,h64,h65,h66,h67,h68⟩:=h;have k63:=fun x y=>K63 h63 x y;have k64m:=K64 h64 r.members ok.m;have k64a:=K64 h64 r.acks ok.a;have k65m:=fun x=>K65 h65 r.members x ok.m;have k65a:=fun x=>K65 h65 r.acks x ok.a;have k68:=K68 h68 r;have k67:=K67 h67 r.acks 66 [.cptr (Yx r) 0] (fun m=>!decide (m∈r.members)) ok.a rfl (fun x _=>K66 h66 r x ok);simp only[Yf,Yx] at k63 k64m k64a k65m k65a k68 k67;refine Qa h rfl ?_;simp only[go_sem]
 repeat' (first|refine JiW (fun h=>?_) (fun h=>?_)<;>simp only[go_sem,h,k63,k64m,k64a,List.all_cons,List.all_nil]|refine JiX (fun h=>?_) (fun h=>?_)<;>simp only[go_sem,h,k65m,k67]|refine JiZ (fun h=>?_) (fun h=>?_)<;>simp only[go_sem,h,k65a,k68,k67])
 all_goals (simp_all only [rightG,GE,Bool.not_eq_false',GI,GJ,Bool.or_true,Gab,Bool.or_false,G4,GW,Gn,Gm,Gj,cond_true,cond_false];done)
def H40 (Pg:PgT):Prop:=Pg 40=some (.code F40)∧H39 Pg∧H68 Pg
theorem K40 (h:H40 Pg) (r:Rep) (ok:r.Ok):K' Pg 40 [.agg (Yx r)]=some (.bool (rightB r&&Yj r)):=by
 obtain⟨h,h39,h68⟩:=h;have k39:=K39 h39 r ok;have k68:=K68 h68 r;simp only[Yf,Yx] at k39 k68;refine Qa h rfl ?_;simp only[go_sem,k39];refine JiX (fun h=>?_) (fun h=>?_)<;>simp only[go_sem,h,k68]
def YZ (r:Rep):Bool:=rightB r&&(Yj r&&!YaF r)
theorem Yaz {r:Rep} (h:rightB r=true):SetP r.members∧SetP r.acks∧(∀x∈r.acks,x∈r.members)∧1≤r.id∧r.id≤255∧0≤r.view∧r.view≤1099511627776∧0≤r.n∧r.n≤1099511627776:=by
 rw[←YcT] at h;simp only[rightG,YaP,Gk,GE,Gao,Bool.and_eq_false_iff,Bool.not_eq_false',GE,Gq,GH] at h;obtain⟨⟨h1,h2,h3,h4,h5,h6⟩,h7,h8,-⟩:=h;refine⟨h5,h6,by simpa using h8,?_⟩;omega
theorem Yfb {r:Rep} (h:rightB r=true):decide ((r.acks.length:Int)<(r.members.length:Int))=!YaF r:=by
 obtain⟨h1,h2,h3,-⟩:=Yaz h;exact YdF h1 h2 h3
def H41 (Pg:PgT):Prop:=Pg 41=some (.code F41)∧H40 Pg
theorem K41 (h:H41 Pg) (r:Rep) (ok:r.Ok):K' Pg 41 [.agg (Yx r)]=some (.bool (YZ r)):=by
 obtain⟨h,h40⟩:=h;have k40:=K40 h40 r ok;simp only[Yf,Yx] at k40;refine Qa h rfl ?_;simp only[go_sem,k40];refine JiX (fun h=>?_) (fun h=>?_)<;>simp only[go_sem,h]
 ·simp only[Gk] at h;rw[Yfb h.1];simp only[YZ,h.1,h.2,Gn]
 ·rw[YZ,←Bool.and_assoc,h];rfl
def H45 (Pg:PgT):Prop:=Pg 45=some (.code F45)∧H70 Pg
theorem K45 (h:H45 Pg) (r:Rep) (ok:r.Ok):K' Pg 45 [.agg (Yx r),.agg (Yx r)]=some (.bool true):=by
 obtain⟨h,h70⟩:=h;have k70m:=K70 h70 r.members r.members ok.m;have k70a:=K70 h70 r.acks r.acks ok.a;simp only[Yf,decide_true] at k70m k70a;refine Qa h rfl ?_;simp only[go_sem,k70m,k70a]
structure RP (r:Rep):Prop where
 id:1≤r.id∧r.id≤255
 view:0≤r.view∧r.view≤1099511627776
 n:0≤r.n∧r.n≤1099511627776
 sm:SetP r.members
 sa:SetP r.acks
 sub:∀a∈r.acks,a∈r.members
 inn:r.members≠[]→r.id∈r.members
 lead:Yj r=true→r.id∈r.acks∧(YaF r=true→r.base=r.text)
 not:Yj r=false→r.acks=[]∧r.base=r.text
def Yae (k:Nat):Int:=(k:Int)+1
structure Gh where
 V:Int
 who:Int→Nat
 mem:Int→List Int
 n0:Int→Int
 top:Int→Int
 τ:Int→Int→List UInt8
structure GOK (g:Gh):Prop where
 V1:1≤g.V
 who:∀v,1≤v→v≤g.V→g.who v<3
 set:∀v,1≤v→v≤g.V→SetP (g.mem v)∧(∀m∈g.mem v,1≤m∧m≤3)∧(g.mem v).head?=some (Yae (g.who v))
 n0:∀v,1≤v→v≤g.V→1≤g.n0 v∧g.n0 v≤g.top v
 chain:∀v,1≤v→v≤g.V→∀n m,g.n0 v≤n→n≤m→m≤g.top v→g.τ v n <+:g.τ v m
 next:∀v,1≤v→v+1≤g.V→Yae (g.who (v+1))∈g.mem v∧g.n0 v≤g.n0 (v+1)-1∧g.n0 (v+1)-1≤g.top v∧g.τ (v+1) (g.n0 (v+1))=g.τ v (g.n0 (v+1)-1)
def AckOK (g:Gh) (r:Nat→Rep) (j:Nat) (v n:Int):Prop:=
 v≤(r j).view∧((r j).view=v→n≤(r j).n)∧(v+1≤g.V→g.who (v+1)=j→n≤g.n0 (v+1)-1)
def Evd (g:Gh) (r:Nat→Rep) (v b:Int):Prop:=
 b=g.n0 v∨∀j,j<3→Yae j∈g.mem v→v≤(r j).view∧((r j).view=v→b≤(r j).n)
structure ROK (g:Gh) (r:Nat→Rep) (k:Nat):Prop where
 id:(r k).id=Yae k
 right:RP (r k)
 view:1≤(r k).view∧(r k).view≤g.V
 n:g.n0 (r k).view≤(r k).n∧(r k).n≤g.top (r k).view
 text:(r k).text=g.τ (r k).view (r k).n
 mem:(r k).members=[]∨(r k).members=g.mem (r k).view∧Yae k∈g.mem (r k).view
 top:Yj (r k)=true→(r k).n=g.top (r k).view
 base:Yj (r k)=true→∃b,g.n0 (r k).view≤b∧b≤(r k).n∧(r k).base=g.τ (r k).view b∧((r k).view+1≤g.V→b≤g.n0 ((r k).view+1)-1)∧Evd g r (r k).view b
 acks:Yj (r k)=true→∀a∈(r k).acks,a≠(r k).id→∃j,j<3∧a=Yae j∧AckOK g r j (r k).view (r k).n
structure WOK (g:Gh) (r:Nat→Rep) (x:Word):Prop where
 ship:x.kind=1→1≤x.view∧x.view≤g.V∧g.n0 x.view≤x.n∧x.n≤g.top x.view∧x.text=g.τ x.view x.n∧x.members=g.mem x.view∧x.frm=Yae (g.who x.view)
 ack:x.kind=2→∃j,j<3∧x.frm=Yae j∧AckOK g r j x.view x.n
 past:x.kind=3→x.view≤g.V
structure Fixd where
 text:List UInt8
 at_:Int
structure FOK (g:Gh) (r:Nat→Rep) (x:Fixd):Prop where
 at_:1≤x.at_∧x.at_≤g.V
 b:∃b,g.n0 x.at_≤b∧b≤g.top x.at_∧x.text=g.τ x.at_ b∧(x.at_+1≤g.V→b≤g.n0 (x.at_+1)-1)∧Evd g r x.at_ b
 now:∀k,k<3→Yj (r k)=true→(r k).view=x.at_→x.text <+:(r k).base
structure Told where
 view:Int
 who:Int
 members:List Int
structure Inv1 (g:Gh) (r:Nat→Rep) (net:List Word) (views:List Told) (fx:List Fixd):Prop where
 gk:GOK g
 rk:∀k,k<3→ROK g r k
 told:∀v,1≤v→v≤g.V→v≤(r (g.who v)).view
 netk:∀x∈net,WOK g r x
 viewk:∀t∈views,2≤t.view∧t.view≤g.V∧t.who=(g.who t.view:Int)
 all:∀v,2≤v→v≤g.V→∃t∈views,t.view=v
 fxk:∀x∈fx,FOK g r x
section
variable {g:Gh} {r:Nat→Rep} {net:List Word} {views:List Told} {fx:List Fixd}
theorem Inv1.say (h:Inv1 g r net views fx) {net':List Word} (hn:∀x∈net',WOK g r x):Inv1 g r net' views fx:=⟨h.gk,h.rk,h.told,hn,h.viewk,h.all,h.fxk⟩
end
section
variable {g:Gh} {r:Nat→Rep} {net:List Word} {views:List Told} {fx:List Fixd}
end
structure Thr where
 r:Nat→Rep
 net:List Word
 views:List Told
 fx:List Fixd
 count:Int
def Yg7 (net:List Word) (i:Nat):List Word:=net.take i++net.drop (i+1)
theorem Yfw {net:List Word} {i:Nat} {x:Word} (h:x∈Yg7 net i):x∈net:=by
 rcases GP.1 h with h|h
 ·exact List.mem_of_mem_take h
 ·exact Gaj h
abbrev IT (g:Gh) (t:Thr):Prop:=Inv1 g t.r t.net t.views t.fx
section
variable {g:Gh} {t:Thr}
theorem IT.off (h:IT g t) (i:Nat):IT g {t with net:=Yg7 t.net i}:=Inv1.say h fun y hy=>h.netk y (Yfw hy)
end
section
variable {g:Gh} {t:Thr} {N:Int} {T:List UInt8}
end
@[go_sem] def YcA (t:Told):List V:=[iz t.view,iz t.who,Yf t.members]
def Yaf (r:Nat→Rep) (v1 v2 v3 v4 v5:V):List V:=Yx (r 0)++(Yx (r 1)++(Yx (r 2)++[v1,v2,v3,v4,v5]))
@[go_sem] def Ybz (t:Thr) (a b c d:Nat):List V:=Yaf t.r (.own a 7 t.net.length) (.own b 3 t.views.length) (.own c 1 t.fx.length) (.own d 1 t.fx.length) (iz t.count)
structure Arr4 (A:AA) (t:Thr) (a b c d:Nat):Prop where
 ra:A a=some (7,t.net.map Yas,.live)
 rb:A b=some (3,t.views.map YcA,.live)
 rc:A c=some (1,t.fx.map (fun f=>[.str f.text]),.live)
 rd:A d=some (1,t.fx.map (fun f=>[iz f.at_]),.live)
 rn:a≠b∧a≠c∧a≠d∧b≠c∧b≠d∧c≠d
def HT (S:St) (v:Nat) (t:Thr) (a b c d:Nat):Prop:=S.μ v=some (Ybz t a b c d,false)∧Arr4 S.A t a b c d
theorem Yb4 {A:AA}:∀{l m:List V},l.all V.datC=true→(∀z,V.nslice z∉l)→Jag (l++m) A=(Jag m A).map fun r=>(l++r.1,r.2)
 |[],m,_,_=>by cases h:Jag m A<;>simp[h]
 |x::l,m,hd,hn=>by
  simp only[List.all_cons,Gk] at hd;have hx:handC A x=some (x,A):=by
   cases x<;>first|rfl|(simp[V.datC] at hd;done)|(exact absurd (Gac ..) (hn _))
  rw[List.cons_append,Jcx,hx];simp only[Option.bind_some];rw[Yb4 hd.2 (fun z hz=>hn z (by simp[hz]))];cases Jag m A<;>simp
theorem Ycc {A:AA}:∀{l m:List V} {d:Nat},l.all V.datC=true→JI d (l++m) A=(JI (d+l.length) m A).map fun r=>(l++r.1,r.2)
 |[],m,d,_=>by cases h:JI d m A<;>simp[h]
 |x::l,m,d,hd=>by
  simp only[List.all_cons,Gk] at hd;have hx:takeC d A x=some (x,A):=by
   cases x<;>first|rfl|(simp[V.datC] at hd;done)
  rw[List.cons_append,JcQ,hx];simp only[Option.bind_some];rw[Ycc hd.2,show d+1+l.length=d+(x::l).length by simp;omega];cases JI (d+(x::l).length) m A<;>simp
theorem YbO (r:Rep):(Yx r).all V.datC=true:=rfl
section
variable {r:Nat→Rep} {v1 v2 v3 v4 v5 w:V} {k s:Nat} {S:St}
theorem Yhf:(Yaf r v1 v2 v3 v4 v5).length=26:=rfl
theorem YiV:(Yaf r v1 v2 v3 v4 v5)[21]?=some v1:=rfl
theorem YiW:(Yaf r v1 v2 v3 v4 v5)[22]?=some v2:=rfl
theorem YiX:(Yaf r v1 v2 v3 v4 v5)[23]?=some v3:=rfl
theorem YiY:(Yaf r v1 v2 v3 v4 v5)[24]?=some v4:=rfl
theorem YiZ:(Yaf r v1 v2 v3 v4 v5)[25]?=some v5:=rfl
theorem Yiw:stV S s 21 [w] (some (Yaf r v1 v2 v3 v4 v5,false))=some ⟨S.ρ,upd S.μ s (some (Yaf r w v2 v3 v4 v5,false)),S.A⟩:=rfl
theorem Yix:stV S s 22 [w] (some (Yaf r v1 v2 v3 v4 v5,false))=some ⟨S.ρ,upd S.μ s (some (Yaf r v1 w v3 v4 v5,false)),S.A⟩:=rfl
theorem Yiy:stV S s 23 [w] (some (Yaf r v1 v2 v3 v4 v5,false))=some ⟨S.ρ,upd S.μ s (some (Yaf r v1 v2 w v4 v5,false)),S.A⟩:=rfl
theorem Yiz:stV S s 24 [w] (some (Yaf r v1 v2 v3 v4 v5,false))=some ⟨S.ρ,upd S.μ s (some (Yaf r v1 v2 v3 w v5,false)),S.A⟩:=rfl
theorem YiA:stV S s 25 [w] (some (Yaf r v1 v2 v3 v4 v5,false))=some ⟨S.ρ,upd S.μ s (some (Yaf r v1 v2 v3 v4 w,false)),S.A⟩:=rfl
attribute [go_sem] YiV YiW YiX YiY YiZ Yhf
attribute [go_sem high] Yiw Yix Yiy Yiz YiA
end
theorem ren_arr {A:AA} {t:Thr} {a b c d x h:Nat} (hA:Arr4 A t a b c d):Arr4 (fun i=>A (swp x h i)) t (swp x h a) (swp x h b) (swp x h c) (swp x h d):=by
 obtain⟨n1,n2,n3,n4,n5,n6⟩:=hA.rn;have inj:∀{p q:Nat},p≠q→swp x h p≠swp x h q:=fun {p q} hn e=>hn (by
  have:∀r,swp x h (swp x h r)=r:=fun r=>by
   unfold swp;by_cases e1:r=x
   ·subst e1;simp only[GO];split
    ·rename_i e;exact e
    ·rfl
   ·rw[Gv e1];by_cases e2:r=h
    ·subst e2;simp
    ·rw[Gv e2,Gv e1,Gv e2]
  rw[←this p,e,this q])
 have inv:∀r,swp x h (swp x h r)=r:=fun r=>by
   unfold swp;by_cases e1:r=x
   ·subst e1;simp only[GO];split
    ·rename_i e;exact e
    ·rfl
   ·rw[Gv e1];by_cases e2:r=h
    ·subst e2;simp
    ·rw[Gv e2,Gv e1,Gv e2]
 exact⟨by simp only[inv];exact hA.ra,by simp only[inv];exact hA.rb,by simp only[inv];exact hA.rc,by simp only[inv];exact hA.rd,inj n1,inj n2,inj n3,inj n4,inj n5,inj n6⟩
theorem HT.ren {S:St} {v x h:Nat} {t:Thr} {a b c d:Nat} (hT:HT S v t a b c d):HT (S.ren x h) v t (swp x h a) (swp x h b) (swp x h c) (swp x h d):=by
 refine⟨?_,ren_arr hT.2⟩
 show (S.μ v).map _=_
 rw[hT.1];rfl
theorem YaA {x h p:Nat} (h1:p≠x) (h2:p≠h):swp x h p=p:=by simp[swp,h1,h2]
theorem YdX {T:List Nat} {x h y:Nat} (hx:x∈T) (hh:h∈T) (hy:y∈T):swp x h y∈T:=by
 unfold swp;split
 ·exact hh
 ·split
  ·exact hx
  ·exact hy
theorem HT.head {S:St} {v:Nat} {t:Thr} {a b c d h1 h2 h3 h4:Nat} {Wv Wa:List Nat} (hT:HT S v t a b c d) (hh:h1≠h2∧h1≠h3∧h1≠h4∧h2≠h3∧h2≠h4∧h3≠h4)
  (hv:Wv.contains v=false) (hw:Wa.contains h1=false∧Wa.contains h2=false∧Wa.contains h3=false∧Wa.contains h4=false) :
  HT (S.head [] [v,21,h1,v,22,h2,v,23,h3,v,24,h4] Wv Wa) v t h1 h2 h3 h4∧(∀x,Wa.contains x=true→(S.head [] [v,21,h1,v,22,h2,v,23,h3,v,24,h4] Wv Wa).A x=none)∧
   (∀x,x∉[a,b,c,d,h1,h2,h3,h4]→S.A x=none→(S.head [] [v,21,h1,v,22,h2,v,23,h3,v,24,h4] Wv Wa).A x=none):=by
 obtain⟨q1,q2,q3,q4,q5,q6⟩:=hh
 have s1:=hT.ren (x:=a) (h:=h1)
 rw[Jin] at s1
 have e1:S.swp1 v 21 h1=S.ren a h1:=by rw[Jg5,hT.1,Jil];rfl
 have T0:∀y∈[a,b,c,d,h1,h2,h3,h4],swp a h1 y∈[a,b,c,d,h1,h2,h3,h4]:=fun y hy=>YdX (by simp) (by simp) hy
 have tb1:=T0 b (by simp)
 have tc1:=T0 c (by simp)
 have td1:=T0 d (by simp)
 generalize swp a h1 b=b1 at *
 generalize swp a h1 c=c1 at *
 generalize swp a h1 d=d1 at *
 obtain⟨n1,n2,n3,n4,n5,n6⟩:=s1.2.rn
 have s2:=s1.ren (x:=b1) (h:=h2)
 rw[Jin,YaA n1 q1] at s2
 have e2:(S.ren a h1).swp1 v 22 h2=(S.ren a h1).ren b1 h2:=by rw[Jg5,s1.1,Jil];rfl
 have tc2:=YdX (h:=h2) tb1 (by simp) tc1
 have td2:=YdX (h:=h2) tb1 (by simp) td1
 generalize swp b1 h2 c1=c2 at *
 generalize swp b1 h2 d1=d2 at *
 obtain⟨m1,m2,m3,m4,m5,m6⟩:=s2.2.rn
 have s3:=s2.ren (x:=c2) (h:=h3)
 rw[Jin,YaA m2 q2,YaA m4 q4] at s3
 have e3:((S.ren a h1).ren b1 h2).swp1 v 23 h3=((S.ren a h1).ren b1 h2).ren c2 h3:=by rw[Jg5,s2.1,Jil];rfl
 have td3:=YdX (h:=h3) tc2 (by simp) td2
 generalize swp c2 h3 d2=d3 at *
 obtain⟨l1,l2,l3,l4,l5,l6⟩:=s3.2.rn
 have s4:=s3.ren (x:=d3) (h:=h4)
 rw[Jin,YaA l3 q3,YaA l5 q5,YaA l6 q6] at s4
 have e4:(((S.ren a h1).ren b1 h2).ren c2 h3).swp1 v 24 h4=(((S.ren a h1).ren b1 h2).ren c2 h3).ren d3 h4:=by rw[Jg5,s3.1,Jil];rfl
 have eh:S.head [] [v,21,h1,v,22,h2,v,23,h3,v,24,h4] Wv Wa=((((S.ren a h1).ren b1 h2).ren c2 h3).ren d3 h4).scrub [] Wv Wa:=by
  rw[JiG,e1,JiG,e2,JiG,e3,JiG,e4];rfl
 rw[eh]
 refine⟨⟨?_,?_⟩,fun x hx=>?_,fun x hx h0=>?_⟩
 ·show (if Wv.contains v then none else _)=_
  rw[hv,s4.1]
  simp only[Gx,GN,Option.map_some]
  have:(Ybz t h1 h2 h3 h4).map (Jv Wa)=Ybz t h1 h2 h3 h4:=by
   unfold Ybz Yaf;simp only[Gw,Jb4 (YbO _),G3,G6,Jv,hw.1,hw.2.1,hw.2.2.1,hw.2.2.2]
   rfl
  rw[this]
  cases Wa.isEmpty<;>rfl
 ·have keep:∀x,Wa.contains x=false→(((((S.ren a h1).ren b1 h2).ren c2 h3).ren d3 h4).scrub [] Wv Wa).A x=((((S.ren a h1).ren b1 h2).ren c2 h3).ren d3 h4).A x:=fun x hx=>by
   show (if Wa.contains x then none else _)=_
   rw[hx];rfl
  exact⟨by rw[keep _ hw.1];exact s4.2.ra,by rw[keep _ hw.2.1];exact s4.2.rb,by rw[keep _ hw.2.2.1];exact s4.2.rc,by rw[keep _ hw.2.2.2];exact s4.2.rd,q1,q2,q3,q4,q5,q6⟩
 ·show (if Wa.contains x then none else _)=_
  rw[hx];rfl
 ·show (if Wa.contains x then none else _)=_
  split
  ·rfl
  ·show S.A (swp a h1 (swp b1 h2 (swp c2 h3 (swp d3 h4 x))))=none
   have ne:∀{y},y∈[a,b,c,d,h1,h2,h3,h4]→x≠y:=fun hy e=>hx (e▸hy)
   rw[YaA (ne td3) (ne (by simp)),YaA (ne tc2) (ne (by simp)),YaA (ne tb1) (ne (by simp)),YaA (ne (by simp)) (ne (by simp))]
   exact h0
theorem Arr4.of {A:AA} {t t':Thr} {a b c d:Nat} (h:Arr4 A t a b c d) (h1:t'.net=t.net) (h2:t'.views=t.views) (h3:t'.fx=t.fx):Arr4 A t' a b c d:=
 ⟨by rw[h1];exact h.ra,by rw[h2];exact h.rb,by rw[h3];exact h.rc,by rw[h3];exact h.rd,h.rn⟩
theorem YcQ {A:AA} {l:List V} (hd:l.all V.datC=true) (hn:∀z,V.nslice z∉l):Jag l A=some (l,A):=by
 have:=Yb4 (A:=A) (m:=[]) hd hn;rw[GS] at this;rw[this,Jda];simp
theorem YcW {A:AA} {l:List V} {d:Nat} (hd:l.all V.datC=true):JI d l A=some (l,A):=by
 have:=Ycc (A:=A) (m:=[]) (d:=d) hd;rw[GS] at this;rw[this,JdF];simp
structure SDat (S:St) (rest cs:List V):Prop where
 r0:S.ρ 0=.lref 0 0
 r:∀i,S.ρ (i+1)=(rest[i]?).getD .undef
 h:S.μ 0=some (cs,false)
 m:∀i,(i == 0)=false→S.μ i=none
 a:∀x,S.A x=none
theorem Ybm {f:Nat} {F:F} (rs:List Res) {rest ws cs cs':List V} (hF:Pg f=some (.codeR F 0)) (hl:rest.length+1=F.np) (hrs:F.res=rs) (hd:cs.all V.datC=true) (hd':cs'.all V.datC=true) (hn':∀z,V.nslice z∉cs')
  (h:∀S,SDat S rest cs→Wp (K' Pg) F.body S fun ex S'=>(ex=.norm∨ex=.ret)∧S'.μ 0=some (cs',false)∧∃vs,Jo (resV S') rs=some vs∧Jo (toD S'.A) vs=some ws) :
  K' Pg f (.tuple (.lref 0 0::cs)::rest)=some (.tuple [Jbg ws,.tuple cs']):=by
 have hs:startR (.tuple (.lref 0 0::cs)::rest) 0 cs=some ⟨fun i=>if i=0 then .lref 0 0 else ((V.tuple (.lref 0 0::cs)::rest)[i]?).getD .undef,upd (fun _=>none) 0 (some (cs,false)),fun _=>none⟩:=by
  unfold startR;rw[YcW hd];rfl
 have hm:∀i,(i == 0)=false→(upd (fun _=>none) 0 (some (cs,false)):Nat→Option (List V×Bool)) i=none:=fun i hi=>Jfj hi
 refine Qc hF (by simpa using hl) rfl hs ((h _ ⟨rfl,fun i=>rfl,by simp[upd],hm,fun x=>rfl⟩).mono fun ex S' hq=>⟨hq.1,?_⟩)
 obtain⟨h1,vs,h2,h3⟩:=hq.2
 unfold JaB
 rw[hrs,h2]
 simp only[Option.bind_some,h1,YcQ hd' hn',h3]
theorem Y6 {f:Nat} {F:F} (rs:List Res) {rest ws cs cs':List V} (hF:Pg f=some (.codeR F 0)) (hl:rest.length+1=F.np) (hrs:F.res=rs) (hd:cs.all V.datC=true) (hd':cs'.all V.datC=true) (hn':∀z,V.nslice z∉cs')
  (h:∀S,SDat S rest cs→Wp (K' Pg) F.body S fun ex S'=>(ex=.norm∨ex=.ret)∧S'.μ 0=some (cs',false)∧∃vs,Jo (resV S') rs=some vs∧∀A,Jo (toD A) vs=some ws) :
  K' Pg f (.tuple (.lref 0 0::cs)::rest)=some (.tuple [Jbg ws,.tuple cs']):=
 Ybm rs hF hl hrs hd hd' hn' fun S hS=>(h S hS).mono fun ex S' hq=>⟨hq.1,hq.2.1,hq.2.2.elim fun vs hv=>⟨vs,hv.1,hv.2 _⟩⟩
theorem Yfa {κ:Nat→List V→Option V} {S:St} {f v p:Nat} {rest cs cs':List V} {r:V} (hm:S.μ v=some (cs,false)) (hc:cs.all V.datC=true) (hn:∀z,V.nslice z∉cs) (hc':cs'.all V.datC=true)
  (hd:∀A,Jo (toD A) rest=some rest) (hs:rest.flatMap Jd=[])
  (hκ:κ f (.tuple (.lref 0 0::cs)::rest)=some (.tuple [r,.tuple cs'])) :
  Jav κ p S f 0 v (.lref v 0::rest)=some (r,⟨S.ρ,upd S.μ v (some (cs',false)),S.A⟩):=by
 have hA:rcallA S 0 v (.lref v 0::rest)=some (.tuple (.lref 0 0::cs)::rest,S.A):=by
  simp only[Jdq,JhS,JgC,List.set_cons_zero,Jo,Jiz,hd,Option.bind_some,hm,JgE,Jcu,Je3,hs,List.nil_append,Jei,YcQ hc hn]
 rw[JiK,hA]
 simp only[Option.bind_some,hκ,Jdr,YcW hc']
abbrev Rd:=List UInt8×Bool
@[go_sem] def eRd (r:Rd):List V:=[.str r.1,.bool r.2]
theorem Yr (r:Rd):(eRd r).all V.datC=true:=rfl
theorem Yat (r:Rd) (z:Nat):V.nslice z∉eRd r:=by simp[eRd]
theorem Qb {κ:Nat→List V→Option V} {S:St} {f v p:Nat} {x:Rd} {r:V} {y:Rd} (hκ:κ f [.tuple (.lref 0 0::eRd x)]=some (.tuple [r,.tuple (eRd y)])) (hm:S.μ v=some (eRd x,false)) :
  Jav κ p S f 0 v [.lref v 0]=some (r,⟨S.ρ,upd S.μ v (some (eRd y,false)),S.A⟩):=
 Yfa (rest:=[]) hm (Yr x) (Yat x) (Yr y) (fun A=>rfl) rfl hκ
def rd {α:Type} (f:List UInt8→Option (α×List UInt8)) (d:α) (r:Rd):α×Rd:=match r.2,f r.1 with
 |false,some (n,s)=>(n,(s,false))
 |_,_=>(d,(r.1,true))
def cu {α:Type} (f:List UInt8→Option (α×List UInt8)) (d:α) (r:Rd):α×Rd:=match f r.1 with
 |some (n,s)=>(n,(s,r.2))
 |none=>(d,([],true))
def zS:Stamp:=⟨0,0,0⟩
def eSt (s:Stamp):V:=.agg (Yd s)
def H465 (Pg:PgT):Prop:=Pg 465=some (.codeR F465 0)∧H491 Pg
theorem K465 (h:H465 Pg) (x:Rd) (hx:x.1.length<2 ^ 62):K' Pg 465 [.tuple (.lref 0 0::eRd x)]=some (.tuple [iz (rd (tk 9) 0 x).1,.tuple (eRd (rd (tk 9) 0 x).2)]):=by
 obtain⟨h,hk⟩:=h;obtain⟨e,he,k⟩:=K491 hk x.1 hx;have hd:decide (e=0)=false:=Gp he;obtain⟨s,b⟩:=x;refine Y6 [.t 2] (ws:=[iz _]) h rfl rfl (Yr _) (Yr _) (Yat _) fun S ⟨r0,r,hm,m0,a0⟩=>?_;simp only[go_sem] at hm k;cases hq:(tk 9) s with
 |none=>
  rw[hq] at k;simp only[eTk] at k;cases b with
  |true=>
   simp only[F465,c465,go_sem,r0,hm,k,rd];exact⟨_,rfl,fun _=>rfl⟩
  |false=>
   simp only[F465,c465,go_sem,r0,hm,k,hd,rd,hq];exact⟨_,rfl,fun _=>rfl⟩
 |some q=>
  obtain⟨n,u⟩:=q;rw[hq] at k;simp only[eTk] at k;cases b with
  |true=>
   simp only[F465,c465,go_sem,r0,hm,k,rd];exact⟨_,rfl,fun _=>rfl⟩
  |false=>
   simp only[F465,c465,go_sem,r0,hm,k,rd,hq];exact⟨_,rfl,fun _=>rfl⟩
def H492 (Pg:PgT):Prop:=Pg 492=some (.codeR F492 0)∧H506 Pg
theorem K492 (h:H492 Pg) (x:Rd) (hx:x.1.length<2 ^ 62):K' Pg 492 [.tuple (.lref 0 0::eRd x)]=some (.tuple [.str (rd tkT [] x).1,.tuple (eRd (rd tkT [] x).2)]):=by
 obtain⟨h,hk⟩:=h;obtain⟨e,he,k⟩:=K506 hk x.1 hx;have hd:decide (e=0)=false:=Gp he;obtain⟨s,b⟩:=x;refine Y6 [.t 2] (ws:=[.str _]) h rfl rfl (Yr _) (Yr _) (Yat _) fun S ⟨r0,r,hm,m0,a0⟩=>?_;simp only[go_sem] at hm k;cases hq:tkT s with
 |none=>
  rw[hq] at k;simp only[Ycl] at k;cases b with
  |true=>
   simp only[F492,c492,go_sem,r0,hm,k,rd];exact⟨_,rfl,fun _=>rfl⟩
  |false=>
   simp only[F492,c492,go_sem,r0,hm,k,hd,rd,hq];exact⟨_,rfl,fun _=>rfl⟩
 |some q=>
  obtain⟨n,u⟩:=q;rw[hq] at k;simp only[Ycl] at k;cases b with
  |true=>
   simp only[F492,c492,go_sem,r0,hm,k,rd];exact⟨_,rfl,fun _=>rfl⟩
  |false=>
   simp only[F492,c492,go_sem,r0,hm,k,rd,hq];exact⟨_,rfl,fun _=>rfl⟩
def H493 (Pg:PgT):Prop:=Pg 493=some (.codeR F493 0)∧H507 Pg
theorem K493 (h:H493 Pg) (x:Rd) (hx:x.1.length<2 ^ 62):K' Pg 493 [.tuple (.lref 0 0::eRd x)]=some (.tuple [.bool (rd tkF false x).1,.tuple (eRd (rd tkF false x).2)]):=by
 obtain⟨h,hk⟩:=h;obtain⟨e,he,k⟩:=K507 hk x.1;have hd:decide (e=0)=false:=Gp he;obtain⟨s,b⟩:=x;refine Y6 [.t 2] (ws:=[.bool _]) h rfl rfl (Yr _) (Yr _) (Yat _) fun S ⟨r0,r,hm,m0,a0⟩=>?_;simp only[go_sem] at hm k;cases hq:tkF s with
 |none=>
  rw[hq] at k;simp only[Yck] at k;cases b with
  |true=>
   simp only[F493,c493,go_sem,r0,hm,k,rd];exact⟨_,rfl,fun _=>rfl⟩
  |false=>
   simp only[F493,c493,go_sem,r0,hm,k,hd,rd,hq];exact⟨_,rfl,fun _=>rfl⟩
 |some q=>
  obtain⟨n,u⟩:=q;rw[hq] at k;simp only[Yck] at k;cases b with
  |true=>
   simp only[F493,c493,go_sem,r0,hm,k,rd];exact⟨_,rfl,fun _=>rfl⟩
  |false=>
   simp only[F493,c493,go_sem,r0,hm,k,rd,hq];exact⟨_,rfl,fun _=>rfl⟩
def H464 (Pg:PgT):Prop:=Pg 464=some (.codeR F464 0)∧H490 Pg
theorem K464 (h:H464 Pg) (x:Rd) (hx:x.1.length<2 ^ 62):K' Pg 464 [.tuple (.lref 0 0::eRd x)]=some (.tuple [eSt (rd tkS zS x).1,.tuple (eRd (rd tkS zS x).2)]):=by
 obtain⟨h,hk⟩:=h;obtain⟨e,he,k⟩:=K490 hk x.1 hx;have hd:decide (e=0)=false:=Gp he;obtain⟨s,b⟩:=x;refine Y6 [.cell 2 (some 3)] (ws:=[eSt _]) h rfl rfl (Yr _) (Yr _) (Yat _) fun S ⟨r0,r,hm,m0,a0⟩=>?_;have m2:=m0 2 rfl;have m3:=m0 3 rfl;simp only[go_sem] at hm k;cases hq:tkS s with
 |none=>
  rw[hq] at k;simp only[YbJ] at k;cases b with
  |true=>
   simp only[F464,c464,go_sem,r0,hm,k,rd,m2,m3,eSt,zS];exact⟨_,rfl,fun _=>rfl⟩
  |false=>
   simp only[F464,c464,go_sem,r0,hm,k,hd,rd,hq,m2,m3,eSt,zS];exact⟨_,rfl,fun _=>rfl⟩
 |some q=>
  obtain⟨n,u⟩:=q;rw[hq] at k;simp only[YbJ,Yd] at k;cases b with
  |true=>
   simp only[F464,c464,go_sem,r0,hm,k,rd,m2,m3,eSt,zS];exact⟨_,rfl,fun _=>rfl⟩
  |false=>
   simp only[F464,c464,go_sem,r0,hm,k,rd,hq,m2,m3,eSt];exact⟨_,rfl,fun _=>rfl⟩
def H435 (Pg:PgT):Prop:=Pg 435=some (.codeR F435 0)∧H470 Pg
theorem K435 (h:H435 Pg) (x:Rd) (hx:x.1.length<2 ^ 62):K' Pg 435 [.tuple (.lref 0 0::eRd x)]=some (.tuple [iz (cu (tk 9) 0 x).1,.tuple (eRd (cu (tk 9) 0 x).2)]):=by
 obtain⟨h,hk⟩:=h;obtain⟨e,he,k⟩:=K470 hk x.1 hx;have hd:decide (e=0)=false:=Gp he;obtain⟨s,b⟩:=x;refine Y6 [.t 2] (ws:=[iz _]) h rfl rfl (Yr _) (Yr _) (Yat _) fun S ⟨r0,r,hm,m0,a0⟩=>?_;simp only[go_sem] at hm k;cases hq:(tk 9) s with
 |none=>
  rw[hq] at k;simp only[eTk] at k;cases b with
  |true=>
   simp only[F435,c435,go_sem,r0,hm,k,cu,hq];exact⟨_,rfl,fun _=>rfl⟩
  |false=>
   simp only[F435,c435,go_sem,r0,hm,k,hd,cu,hq];exact⟨_,rfl,fun _=>rfl⟩
 |some q=>
  obtain⟨n,u⟩:=q;rw[hq] at k;simp only[eTk] at k;cases b with
  |true=>
   simp only[F435,c435,go_sem,r0,hm,k,cu,hq];exact⟨_,rfl,fun _=>rfl⟩
  |false=>
   simp only[F435,c435,go_sem,r0,hm,k,cu,hq];exact⟨_,rfl,fun _=>rfl⟩
def H471 (Pg:PgT):Prop:=Pg 471=some (.codeR F471 0)∧H494 Pg
theorem K471 (h:H471 Pg) (x:Rd) (hx:x.1.length<2 ^ 62):K' Pg 471 [.tuple (.lref 0 0::eRd x)]=some (.tuple [.str (cu tkT [] x).1,.tuple (eRd (cu tkT [] x).2)]):=by
 obtain⟨h,hk⟩:=h;obtain⟨e,he,k⟩:=K494 hk x.1 hx;have hd:decide (e=0)=false:=Gp he;obtain⟨s,b⟩:=x;refine Y6 [.t 2] (ws:=[.str _]) h rfl rfl (Yr _) (Yr _) (Yat _) fun S ⟨r0,r,hm,m0,a0⟩=>?_;simp only[go_sem] at hm k;cases hq:tkT s with
 |none=>
  rw[hq] at k;simp only[Ycl] at k;cases b with
  |true=>
   simp only[F471,c471,go_sem,r0,hm,k,cu,hq];exact⟨_,rfl,fun _=>rfl⟩
  |false=>
   simp only[F471,c471,go_sem,r0,hm,k,hd,cu,hq];exact⟨_,rfl,fun _=>rfl⟩
 |some q=>
  obtain⟨n,u⟩:=q;rw[hq] at k;simp only[Ycl] at k;cases b with
  |true=>
   simp only[F471,c471,go_sem,r0,hm,k,cu,hq];exact⟨_,rfl,fun _=>rfl⟩
  |false=>
   simp only[F471,c471,go_sem,r0,hm,k,cu,hq];exact⟨_,rfl,fun _=>rfl⟩
def H472 (Pg:PgT):Prop:=Pg 472=some (.codeR F472 0)∧H495 Pg
theorem K472 (h:H472 Pg) (x:Rd) (hx:x.1.length<2 ^ 62):K' Pg 472 [.tuple (.lref 0 0::eRd x)]=some (.tuple [.bool (cu tkF false x).1,.tuple (eRd (cu tkF false x).2)]):=by
 obtain⟨h,hk⟩:=h;obtain⟨e,he,k⟩:=K495 hk x.1;have hd:decide (e=0)=false:=Gp he;obtain⟨s,b⟩:=x;refine Y6 [.t 2] (ws:=[.bool _]) h rfl rfl (Yr _) (Yr _) (Yat _) fun S ⟨r0,r,hm,m0,a0⟩=>?_;simp only[go_sem] at hm k;cases hq:tkF s with
 |none=>
  rw[hq] at k;simp only[Yck] at k;cases b with
  |true=>
   simp only[F472,c472,go_sem,r0,hm,k,cu,hq];exact⟨_,rfl,fun _=>rfl⟩
  |false=>
   simp only[F472,c472,go_sem,r0,hm,k,hd,cu,hq];exact⟨_,rfl,fun _=>rfl⟩
 |some q=>
  obtain⟨n,u⟩:=q;rw[hq] at k;simp only[Yck] at k;cases b with
  |true=>
   simp only[F472,c472,go_sem,r0,hm,k,cu,hq];exact⟨_,rfl,fun _=>rfl⟩
  |false=>
   simp only[F472,c472,go_sem,r0,hm,k,cu,hq];exact⟨_,rfl,fun _=>rfl⟩
def H434 (Pg:PgT):Prop:=Pg 434=some (.codeR F434 0)∧H469 Pg
theorem K434 (h:H434 Pg) (x:Rd) (hx:x.1.length<2 ^ 62):K' Pg 434 [.tuple (.lref 0 0::eRd x)]=some (.tuple [eSt (cu tkS zS x).1,.tuple (eRd (cu tkS zS x).2)]):=by
 obtain⟨h,hk⟩:=h;obtain⟨e,he,k⟩:=K469 hk x.1 hx;have hd:decide (e=0)=false:=Gp he;obtain⟨s,b⟩:=x;refine Y6 [.cell 2 (some 3)] (ws:=[eSt _]) h rfl rfl (Yr _) (Yr _) (Yat _) fun S ⟨r0,r,hm,m0,a0⟩=>?_;have m2:=m0 2 rfl;have m3:=m0 3 rfl;simp only[go_sem] at hm k;cases hq:tkS s with
 |none=>
  rw[hq] at k;simp only[YbJ] at k;cases b with
  |true=>
   simp only[F434,c434,go_sem,r0,hm,k,cu,hq,m2,m3,eSt,zS];exact⟨_,rfl,fun _=>rfl⟩
  |false=>
   simp only[F434,c434,go_sem,r0,hm,k,hd,cu,hq,m2,m3,eSt,zS];exact⟨_,rfl,fun _=>rfl⟩
 |some q=>
  obtain⟨n,u⟩:=q;rw[hq] at k;simp only[YbJ,Yd] at k;cases b with
  |true=>
   simp only[F434,c434,go_sem,r0,hm,k,cu,hq,m2,m3,eSt];exact⟨_,rfl,fun _=>rfl⟩
  |false=>
   simp only[F434,c434,go_sem,r0,hm,k,cu,hq,m2,m3,eSt];exact⟨_,rfl,fun _=>rfl⟩
structure Cod {α:Type} (R:Rd→α×Rd) (W:α→List UInt8) (P:α→Prop):Prop where
 get:∀{s r:List UInt8} {a:α},R (s,false)=(a,(r,false))→s=W a++r∧P a
 put:∀{r:List UInt8} {a:α},P a→R (W a++r,false)=(a,(r,false))
 bad:∀{s:List UInt8},(R (s,true)).2.2=true
 len:∀x,(R x).2.1.length≤x.1.length
section
variable {α β:Type}
theorem Cod.rd {f:List UInt8→Option (α×List UInt8)} {d:α} {W:α→List UInt8} {P:α→Prop} (hf:∀{s r a},f s=some (a,r)↔s=W a++r∧P a):Cod (rd f d) W P:=by
 refine⟨fun {s r a} h=>?_,fun {r a} h=>?_,fun {s}=>rfl,fun x=>?_⟩
 ·simp only[Sg.rd] at h;cases hq:f s with
  |none=>rw[hq] at h;simp at h
  |some q=>
   rw[hq] at h;simp only[Gl,and_true] at h;exact hf.1 (by rw[hq,←h.1,←h.2])
 ·simp only[Sg.rd,hf.2 ⟨rfl,h⟩]
 ·obtain⟨s,b⟩:=x;cases b with
  |true=>exact Gt _
  |false=>
   simp only[Sg.rd];cases hq:f s with
   |none=>exact Gt _
   |some q=>
    obtain⟨a,r⟩:=q;have:=G5 List.length (hf.1 hq).1;simp only[Gc] at this ⊢;omega
theorem Cod.cu {f:List UInt8→Option (α×List UInt8)} {d:α} {W:α→List UInt8} {P:α→Prop} (hf:∀{s r a},f s=some (a,r)↔s=W a++r∧P a):Cod (cu f d) W P:=by
 refine⟨fun {s r a} h=>?_,fun {r a} h=>?_,fun {s}=>?_,fun x=>?_⟩
 ·simp only[Sg.cu] at h;cases hq:f s with
  |none=>rw[hq] at h;simp at h
  |some q=>
   rw[hq] at h;simp only[Gl,and_true] at h;exact hf.1 (by rw[hq,←h.1,←h.2])
 ·simp only[Sg.cu,hf.2 ⟨rfl,h⟩]
 ·simp only[Sg.cu];cases f s<;>rfl
 ·obtain⟨s,b⟩:=x;simp only[Sg.cu];cases hq:f s with
  |none=>exact Gu _
  |some q=>
   obtain⟨a,r⟩:=q;have:=G5 List.length (hf.1 hq).1;simp only[Gc] at this ⊢;omega
def pairR (R1:Rd→α×Rd) (R2:Rd→β×Rd) (x:Rd):(α×β)×Rd:=(((R1 x).1,(R2 (R1 x).2).1),(R2 (R1 x).2).2)
theorem Cod.pair {R1:Rd→α×Rd} {R2:Rd→β×Rd} {W1:α→List UInt8} {W2:β→List UInt8} {P1:α→Prop} {P2:β→Prop} (h1:Cod R1 W1 P1) (h2:Cod R2 W2 P2) :
  Cod (pairR R1 R2) (fun p=>W1 p.1++W2 p.2) (fun p=>P1 p.1∧P2 p.2):=by
 refine⟨fun {s r a} h=>?_,fun {r a} h=>?_,fun {s}=>?_,fun x=>?_⟩
 ·obtain⟨a,b⟩:=a
  simp only[pairR,Gl] at h
  obtain⟨⟨e1,e2⟩,e3⟩:=h
  cases hq:R1 (s,false) with
  |mk a' y=>
   obtain⟨s',b'⟩:=y
   rw[hq] at e1 e2 e3
   cases b' with
   |true=>
    have:=h2.bad (s:=s')
    rw[e3] at this;cases this
   |false=>
    obtain⟨g1,g2⟩:=h1.get hq
    obtain⟨g3,g4⟩:=h2.get (s:=s') (r:=r) (a:=b) (Prod.ext e2 e3)
    subst e1
    rw[g1,g3]
    exact⟨by simp,g2,g4⟩
 ·obtain⟨a,b⟩:=a
  simp only[pairR,Gr]
  rw[h1.put h.1,h2.put h.2]
 ·simp only[pairR]
  have:=h1.bad (s:=s)
  generalize R1 (s,true)=q at *
  obtain⟨a,t,b⟩:=q
  simp only at this
  subst this
  exact h2.bad
 ·exact Gi (h2.len _) (h1.len x)
def mapR (g:α→β) (R:Rd→α×Rd) (x:Rd):β×Rd:=(g (R x).1,(R x).2)
theorem Cod.map {R:Rd→α×Rd} {W:α→List UInt8} {P:α→Prop} (h:Cod R W P) {g:α→β} {k:β→α} (hk:∀a,k (g a)=a):Cod (mapR g R) (fun b=>W (k b)) (fun b=>P (k b)∧g (k b)=b):=by
 refine⟨fun {s r b} hb=>?_,fun {r b} hb=>?_,fun {s}=>h.bad,fun x=>h.len x⟩
 ·simp only[mapR,Gl] at hb;obtain⟨e1,e2⟩:=hb;obtain⟨g1,g2⟩:=h.get (Prod.ext (x:=R (s,false)) (y:=((R (s,false)).1,(r,false))) rfl e2);subst e1;rw[hk];exact⟨g1,g2,rfl⟩
 ·simp only[mapR];rw[h.put hb.1];simp only[hb.2]
def rL (x:Rd):Nat×Rd:=if (rd (tk 9) 0 x).2.1.length<(rd (tk 9) 0 x).1 then (0,((rd (tk 9) 0 x).2.1,true)) else rd (tk 9) 0 x
def YO (R:Rd→α×Rd):Nat→Rd→List α×Rd
 |0,x=>([],x)
 |k+1,x=>((R x).1::(YO R k (R x).2).1,(YO R k (R x).2).2)
def YE (R:Rd→α×Rd):Nat→Rd→List α×Rd
 |0,x=>([],x)
 |k+1,x=>if x.2 then ([],x) else ((R x).1::(YE R k (R x).2).1,(YE R k (R x).2).2)
def lstP (R:Rd→α×Rd) (x:Rd):List α×Rd:=YO R (rL x).1 (rL x).2
def lstD (R:Rd→α×Rd) (x:Rd):List α×Rd:=YE R (cu (tk 9) 0 x).1 (cu (tk 9) 0 x).2
def YH (W:α→List UInt8) (l:List α):List UInt8:=putB l.length++l.flatMap W
variable {R:Rd→α×Rd} {W:α→List UInt8} {P:α→Prop}
theorem Yci (h:Cod R W P):∀{k:Nat} {s:List UInt8},(YO R k (s,true)).2.2=true
 |0,s=>rfl
 |k+1,s=>by
  simp only[YO];have:=h.bad (s:=s);generalize R (s,true)=q at *
  obtain⟨a,t,b⟩:=q;simp only at this;subst this;exact Yci h
theorem Ya9:∀{k:Nat} {s:List UInt8},YE R k (s,true)=([],(s,true))
 |0,s=>rfl
 |k+1,s=>rfl
theorem YeZ (h:Cod R W P):∀{k:Nat} {x:Rd},(YE R k x).2.2=false→YE R k x=YO R k x
 |0,x,_=>rfl
 |k+1,(s,true),hf=>by rw[Ya9] at hf;cases hf
 |k+1,(s,false),hf=>by
  have e:YE R (k+1) (s,false)=((R (s,false)).1::(YE R k (R (s,false)).2).1,(YE R k (R (s,false)).2).2):=rfl;rw[e] at hf ⊢;rw[YeZ h hf];rfl
theorem YdV (h:Cod R W P):∀{k:Nat} {s r:List UInt8} {l:List α},YO R k (s,false)=(l,(r,false))→l.length=k∧s=l.flatMap W++r∧∀a∈l,P a
 |0,s,r,l,hr=>by
  simp only[YO,Gl,and_true] at hr;obtain⟨rfl,rfl⟩:=hr;exact⟨rfl,by simp,fun a ha=>by simp at ha⟩
 |k+1,s,r,l,hr=>by
  simp only[YO,Gl] at hr;obtain⟨e1,e2⟩:=hr;cases hq:R (s,false) with
  |mk a' y=>
   obtain⟨s',b'⟩:=y;rw[hq] at e1 e2;cases b' with
   |true=>
    have:=Yci h (k:=k) (s:=s');rw[e2] at this;cases this
   |false=>
    obtain⟨g1,g2⟩:=h.get hq;obtain⟨g3,g4,g5⟩:=YdV h (Prod.ext (x:=YO R k (s',false)) (y:=((YO R k (s',false)).1,(r,false))) rfl e2);subst e1;refine⟨by simp[g3],by rw[g1,Gaa,Gr];exact G5 (W a'++·) g4,fun a ha=>?_⟩;rcases GK.1 ha with rfl|ha
    ·exact g2
    ·exact g5 a ha
theorem Ye2 (h:Cod R W P):∀{l:List α} {r:List UInt8},(∀a∈l,P a)→YO R l.length (l.flatMap W++r,false)=(l,(r,false))
 |[],r,_=>rfl
 |a::l,r,hl=>by
  simp only[List.length_cons,YO,Gaa,Gr];rw[h.put (hl a (by simp)),Ye2 h (fun b hb=>hl b (by simp[hb]))]
theorem Yeh (h:Cod R W P):∀{l:List α} {r:List UInt8},(∀a∈l,P a)→YE R l.length (l.flatMap W++r,false)=(l,(r,false))
 |[],r,_=>rfl
 |a::l,r,hl=>by
  have e:YE R (a::l).length ((a::l).flatMap W++r,false)=((R ((a::l).flatMap W++r,false)).1::(YE R l.length (R ((a::l).flatMap W++r,false)).2).1,(YE R l.length (R ((a::l).flatMap W++r,false)).2).2):=rfl;rw[e];simp only[Gaa,Gr];rw[h.put (hl a (by simp)),Yeh h (fun b hb=>hl b (by simp[hb]))]
theorem Yca (h:Cod R W P):∀{k:Nat} {x:Rd},(YO R k x).2.1.length≤x.1.length
 |0,x=>Gt _
 |k+1,x=>Gi (Yca h (k:=k)) (h.len x)
theorem YcH (h:Cod R W P):∀{k:Nat} {x:Rd},(YE R k x).2.1.length≤x.1.length
 |0,x=>Gt _
 |k+1,x=>by
  simp only[YE];split
  ·exact Gt _
  ·exact Gi (YcH h (k:=k)) (h.len x)
theorem codN:Cod (rd (tk 9) 0) putB (fun n=>n<2 ^ 63):=Cod.rd fun {s r a}=>by rw[YeG,YN]
theorem YaJ:Cod (cu (tk 9) 0) putB (fun n=>n<2 ^ 63):=Cod.cu fun {s r a}=>by rw[YeG,YN]
theorem YP (hW:∀a,P a→1≤(W a).length):∀{l:List α},(∀a∈l,P a)→l.length≤(l.flatMap W).length
 |[],_=>by simp
 |a::l,hl=>by
  have h1:=hW a (hl a (by simp));have h2:=YP hW (l:=l) fun b hb=>hl b (by simp[hb]);simp only[Gaa,Gc,List.length_cons];omega
theorem Cod.lstP (h:Cod R W P) (hW:∀a,P a→1≤(W a).length):Cod (Sg.lstP R) (YH W) (fun l=>l.length<2 ^ 63∧∀a∈l,P a):=by
 refine⟨fun {s r l} hl=>?_,fun {r l} hl=>?_,fun {s}=>?_,fun x=>?_⟩
 ·simp only[Sg.lstP,rL] at hl;split at hl
  ·have:=Yci h (k:=0) (s:=(Sg.rd (tk 9) 0 (s,false)).2.1);rw[hl] at this;cases this
  ·cases hq:Sg.rd (tk 9) 0 (s,false) with
   |mk n y=>
    obtain⟨s',b'⟩:=y;rw[hq] at hl;cases b' with
    |true=>
     have:=Yci h (k:=n) (s:=s');simp only at hl;rw[hl] at this;cases this
    |false=>
     obtain⟨g1,g2⟩:=codN.get hq;obtain⟨g3,g4,g5⟩:=YdV h hl;subst g3;rw[g1,g4];exact⟨by simp[YH],g2,g5⟩
 ·simp only[Sg.lstP,rL,YH,Gr];rw[codN.put hl.1];have:=YP hW hl.2;rw[Gv (by simp only[Gc];omega)];exact Ye2 h hl.2
 ·simp only[Sg.lstP,rL];split
  ·exact Yci h
  ·exact Yci h
 ·simp only[Sg.lstP,rL];split
  ·exact Gi (Yca h) (codN.len x)
  ·exact Gi (Yca h) (codN.len x)
theorem Cod.lstD (h:Cod R W P):Cod (Sg.lstD R) (YH W) (fun l=>l.length<2 ^ 63∧∀a∈l,P a):=by
 refine⟨fun {s r l} hl=>?_,fun {r l} hl=>?_,fun {s}=>?_,fun x=>?_⟩
 ·simp only[Sg.lstD] at hl;cases hq:Sg.cu (tk 9) 0 (s,false) with
  |mk n y=>
   obtain⟨s',b'⟩:=y;rw[hq] at hl;cases b' with
   |true=>
    simp only[Ya9,Gl] at hl;simp at hl
   |false=>
    obtain⟨g1,g2⟩:=YaJ.get hq;simp only at hl;rw[YeZ h (by rw[hl])] at hl;obtain⟨g3,g4,g5⟩:=YdV h hl;subst g3;rw[g1,g4];exact⟨by simp[YH],g2,g5⟩
 ·simp only[Sg.lstD,YH,Gr];rw[YaJ.put hl.1];exact Yeh h hl.2
 ·simp only[Sg.lstD];have:=YaJ.bad (s:=s);generalize Sg.cu (tk 9) 0 (s,true)=q at *
  obtain⟨a,t,b⟩:=q;simp only at this;subst this;simp only[Ya9]
 ·exact Gi (YcH h) (YaJ.len x)
end
theorem Yed {l:List UInt8} (h:l≠[]):(Ybq l).2=((dN l).2:Int):=by
 rw[Yc4 h];by_cases c:dN l=(65533,1)
 ·rw[GB c,c];rfl
 ·rw[Gv c]
theorem Yfp {l:List UInt8} (h:l≠[]) (hn:(Ybq l).1<0):((dN l).1:Int)=65533:=by
 rw[Yc4 h] at hn;by_cases c:dN l=(65533,1)
 ·rw[c];rfl
 ·rw[Gv c] at hn;simp at hn;omega
theorem Yg4 {l:List UInt8} (h:l≠[]) (hn:¬(Ybq l).1<0):((dN l).1:Int)=(Ybq l).1:=by
 rw[Yc4 h] at hn ⊢;by_cases c:dN l=(65533,1)
 ·rw[GB c] at hn;simp at hn
 ·rw[Gv c]
theorem YeM {l:List UInt8} (h:l≠[]):(dN l).2≤l.length:=by
 rcases Ycx h with x|⟨a0,t,rfl,q,x⟩|⟨a0,a1,t,rfl,q,q1,x⟩|⟨a0,a1,a2,t,rfl,q,q1,q2,q3,x⟩|⟨a0,a1,a2,a3,t,rfl,q,q1,q2,q3,q4,x⟩
 ·rw[x];have:=Gam.2 h;simp only;omega
 all_goals rw[x];simp
@[go_sem] def eIL (l:List Int):V:=.slice 1 (l.map fun x=>[iz x])
def H195 (Pg:PgT):Prop:=Pg 195=some (.code F195)∧H188 Pg
theorem Yab {l:List UInt8}:decide ((0:Int)<(l.length:Int))=!decide (l=[]):=by
 cases l<;>simp
theorem K195 (h:H195 Pg) (s:List UInt8) (hl:s.length≤1000000):K' Pg 195 [.str s]=some (eIL (Yk s)):=by
 obtain⟨h,h188⟩:=h;refine Qa h rfl ?_;simp only[go_sem];unfold l195_0;refine JiY (fun (l:List UInt8) S=>∃acc:List Int,S.ρ 0=.str l∧S.A 3=some (1,acc.map (fun x=>[iz x]),.live)∧S.ρ 3=.own 3 1 acc.length∧acc++Yk l=Yk s∧acc.length+l.length≤s.length) (fun l=>l.length) s ?_ ?_
 ·exact⟨[],by simp[go_sem]⟩
 ·intro l S ⟨acc,h0,a3,h3,hacc,hlen⟩;simp only[go_sem,h0,Yab];by_cases hn:l=[]
  ·subst hn;rw[YaU,GS] at hacc;subst hacc;simp only[go_sem,a3,h3]
  ·have hd:=Ybd hn;have hp:=Gam.2 hn;have k:=K188 h188 l hn;rw[show Ybq l=((Ybq l).1,((dN l).2:Int)) from Prod.ext rfl (Yed hn)] at k;simp only[eLN] at k;have hle:=YeM hn;have hlim:acc.length+1≤lim:=by simp only[lim];omega
   have hc:=Y8 hn;simp only[go_sem,hn,h0,k];refine JiZ (fun c=>?_) (fun c=>?_)
   ·have e:=Yfp hn (Gg c);simp only[go_sem,h0,a3,h3,hlim,hle];refine⟨l.drop (dN l).2,hd,acc++[65533],rfl,by simp,by simp,?_,by simp only[Gc,List.length_cons,List.length_nil];omega⟩;rw[←hacc,hc,e];simp
   ·have e:=Yg4 hn (Gb c);simp only[go_sem,h0,a3,h3,hlim,hle];refine⟨l.drop (dN l).2,hd,acc++[(Ybq l).1],rfl,by simp,by simp,?_,by simp only[Gc,List.length_cons,List.length_nil];omega⟩;rw[←hacc,hc,e];simp
def H168 (Pg:PgT):Prop:=Pg 168=some (.code F168)∧H188 Pg∧H189 Pg
theorem K168 (h:H168 Pg) (s:List UInt8):K' Pg 168 [.str s]=some (.bool (keyR s)):=by
 obtain⟨h,h188,h189⟩:=h;refine Qa h rfl ?_;have ez:decide ((s.length:Int)=0)=decide (s=[]):=by cases s<;>simp;omega
 simp only[go_sem,ez];by_cases hs:s=[]
 ·have e:keyR s=false:=by rw[hs];rfl
  rw[e];simp only[go_sem,hs]
 simp only[go_sem,hs];refine JiZ (fun c=>?_) (fun c=>?_)
 ·have e:keyR s=false:=by
   have:=Gg c;have:decide (s.length≤16)=false:=Gp (by omega);simp[keyR,this]
  rw[e];simp only[go_sem]
 have c:=Gb c;have hp:=Gam.2 hs;have e:keyR s=keyAll s.length s:=by
  have h1:decide (1≤s.length)=true:=GA (by omega);have h2:decide (s.length≤16)=true:=GA (by omega);simp only[keyR,h1,h2,GW]
 rw[e];simp only[go_sem];unfold l168_0;refine JiY (fun (l:List UInt8) S=>S.ρ 0=.str l∧keyAll l.length l=keyAll s.length s) (fun l=>l.length) s ?_ ?_
 ·simp[go_sem]
 ·intro l S ⟨h0,hacc⟩;simp only[go_sem,h0,Yab];by_cases hn:l=[]
  ·subst hn;rw[←hacc];simp only[go_sem,Yex]
  ·have hd:=Ybd hn;have k:=K188 h188 l hn;rw[show Ybq l=((Ybq l).1,((dN l).2:Int)) from Prod.ext rfl (Yed hn)] at k;simp only[eLN] at k;have k9:=K189 h189 (Ybq l).1;rw[Yfz hn] at k9;have hle:=YeM hn;rw[Yb5 hn] at hacc;simp only[go_sem,hn,h0,k,k9];cases hP:plainR (dN l).1 (dN l).2 with
   |false=>
    rw[hP,Gj] at hacc;rw[←hacc];simp only[go_sem]
   |true=>
    rw[hP,Gn] at hacc;simp only[go_sem,h0,hle];exact⟨l.drop (dN l).2,hd,rfl,hacc⟩
def H187 (Pg:PgT):Prop:=Pg 187=some (.code F187)∧H195 Pg
theorem K187 (h:H187 Pg) (a b:List UInt8) (ha:a.length≤1000000) (hb:b.length≤1000000):K' Pg 187 [.str a,.str b]=some (iz (Yp (Yk a) (Yk b))):=by
 obtain⟨h,h195⟩:=h;have ka:=K195 h195 a ha;have kb:=K195 h195 b hb;simp only[eIL] at ka kb;refine Qa h rfl ?_;simp only[go_sem,ka,kb];have la:=Ydk a.length a (Gt _);have lb:=Ydk b.length b (Gt _);generalize Yk a=x at *
 generalize Yk b=y at *
 unfold l187_0;refine JiY (fun (i:Nat) S=>i≤x.length∧i≤y.length∧S.ρ 5=eIL x∧S.ρ 6=eIL y∧S.ρ 7=iz i∧Yp (x.drop i) (y.drop i)=Yp x y) (fun i=>x.length-i) 0 ?_ ?_
 ·simp[go_sem]
 ·intro i S ⟨hi,hj,h5,h6,h7,ho⟩;simp only[go_sem,h5,h7];by_cases hx:i<x.length
  ·have ex:decide ((i:Int)<(x.length:Int))=true:=GA (by omega);obtain⟨u,hu,hdx⟩:=JiF hx;by_cases hy:i<y.length
   ·have ey:decide ((i:Int)<(y.length:Int))=true:=GA (by omega);obtain⟨v,hv,hdy⟩:=JiF hy;rw[hdx,hdy] at ho;simp only[go_sem,h5,h6,h7,ex,ey,hu,hv];refine JiZ (fun c=>?_) (fun c=>?_)
    ·rw[Yby (Gg c)] at ho;simp only[go_sem,←ho]
    ·have c:=Gb c;simp only[go_sem,h5,h6,h7,hu,hv];refine JiZ (fun d=>?_) (fun d=>?_)
     ·rw[Yb3 (Gg d)] at ho;simp only[go_sem,←ho]
     ·have d:=Gb d;obtain rfl:u=v:=by omega
      rw[Yb2] at ho;simp only[go_sem,h5,h6,h7];exact⟨i+1,by omega,by omega,by omega,by rw[Yi hx (by omega)],ho⟩
   ·have ey:decide ((i:Int)<(y.length:Int))=false:=Gp (by omega);have e1:decide ((x.length:Int)<(y.length:Int))=false:=Gp (by omega);have e2:decide ((y.length:Int)<(x.length:Int))=true:=GA (by omega);have hdy:y.drop i=[]:=List.drop_eq_nil_of_le (by omega);rw[hdx,hdy] at ho;have ho:(1:Int)=Yp x y:=ho;simp only[go_sem,h5,h6,h7,ex,ey,e1,e2,←ho]
  ·have ex:decide ((i:Int)<(x.length:Int))=false:=Gp (by omega);simp only[go_sem,h5,h6,ex];rw[List.drop_eq_nil_of_le (by omega)] at ho;by_cases hy:i<y.length
   ·have e1:decide ((x.length:Int)<(y.length:Int))=true:=GA (by omega);obtain⟨v,hv,hdy⟩:=JiF hy;rw[hdy] at ho;have ho:(-1:Int)=Yp x y:=ho;simp only[go_sem,e1,←ho]
   ·have e1:decide ((x.length:Int)<(y.length:Int))=false:=Gp (by omega);have e2:decide ((y.length:Int)<(x.length:Int))=false:=Gp (by omega);rw[List.drop_eq_nil_of_le (by omega)] at ho;have ho:(0:Int)=Yp x y:=ho;simp only[go_sem,h5,h6,e1,e2,←ho]
def H192 (Pg:PgT):Prop:=Pg 192=some (.code F192)∧H190 Pg
theorem K192 (h:H192 Pg) (a b:List UInt8):K' Pg 192 [.str a,.str b]=some (iz (Yp (Yk a) (Yk b))):=by
 obtain⟨h,h190⟩:=h;refine Qa h rfl ?_;simp only[go_sem];unfold l192_0;refine JiY (fun (p:List UInt8×List UInt8) S=>S.ρ 0=.str p.1∧S.ρ 1=.str p.2∧Yp (Yk p.1) (Yk p.2)=Yp (Yk a) (Yk b)) (fun p=>p.1.length) (a,b) ?_ ?_
 ·simp[go_sem]
 ·intro⟨x,y⟩ S ⟨h0,h1,ho⟩;simp only at h0 h1 ho;have k:=K190 h190 x;have k':=K190 h190 y;simp only[go_sem,h0];by_cases hx:x=[]
  ·subst hx;rw[YaU] at ho;by_cases hy:y=[]
   ·subst hy;have ho:(0:Int)=Yp (Yk a) (Yk b):=ho;simp only[go_sem,h0,h1,←ho]
   ·rw[Y8 hy] at ho;have ho:(-1:Int)=Yp (Yk a) (Yk b):=ho;simp only[go_sem,h0,h1,hy,←ho]
  ·by_cases hy:y=[]
   ·subst hy;rw[Y8 hx,YaU] at ho;have ho:(1:Int)=Yp (Yk a) (Yk b):=ho;simp only[go_sem,h0,h1,hx,←ho]
   ·rw[Y8 hx,Y8 hy] at ho;have ex:Jc0 x=dN x:=by rw[Jc0,Gv hx]
    have ey:Jc0 y=dN y:=by rw[Jc0,Gv hy]
    rw[ex] at k;rw[ey] at k';have lx:=YeM hx;have ly:=YeM hy;have hd:=Ybd hx;simp only[go_sem,h0,h1,hx,hy,k,k'];refine JiZ (fun c=>?_) (fun c=>?_)
    ·rw[Yby (Gg c)] at ho;simp only[go_sem,←ho]
    ·have c:=Gb c;simp only[go_sem];refine JiZ (fun d=>?_) (fun d=>?_)
     ·rw[Yb3 (Gg d)] at ho;simp only[go_sem,←ho]
     ·have d:=Gb d;have e:((dN x).1:Int)=((dN y).1:Int):=by omega
      rw[e,Yb2] at ho;simp only[go_sem,h0,h1,lx,ly];exact⟨(x.drop (dN x).2,y.drop (dN y).2),hd,rfl,rfl,ho⟩
structure Span where
 lo:List UInt8
 hi:List UInt8
 deriving DecidableEq
@[go_sem] def YG (s:Span):List V:=[.str s.lo,.str s.hi]
def ltS (a b:List UInt8):Bool:=decide (Yp (Yk a) (Yk b)<0)
def leS (a b:List UInt8):Bool:=decide (Yp (Yk a) (Yk b)≤0)
def Ys (s:Span):Bool:=(decide (s.lo=[])||keyR s.lo)&&(decide (s.hi=[])||(keyR s.hi&&ltS s.lo s.hi))
theorem Yeu {a b:List Int}:decide (Yp a b=-1)=decide (Yp a b<0):=by
 apply GM.2;have:=Yd4 a b;omega
theorem Y4 {l:List UInt8}:decide ((l.length:Int)=0)=decide (l=[]):=by cases l<;>simp;omega
theorem YD {l:List UInt8} (h:keyR l=true):l.length≤16∧l≠[]:=by
 simp only[keyR,Gk,Gq] at h;exact⟨h.2.2,fun e=>by rw[e] at h;simp at h⟩
def H186 (Pg:PgT):Prop:=Pg 186=some (.code F186)∧H170 Pg∧H192 Pg
theorem K186 (h:H186 Pg) (s:Span):K' Pg 186 [.agg (YG s)]=some (.bool (Ys s)):=by
 obtain⟨h,h170,h192⟩:=h;have k1:=K170 h170 s.lo;have k2:=K170 h170 s.hi;have k3:=K192 h192 s.lo s.hi;refine Qa h rfl ?_;cases c1:decide (s.lo=[])<;>cases c2:keyR s.lo<;>cases c3:decide (s.hi=[])<;>cases c4:keyR s.hi <;>
  simp only[go_sem,c1,c2,c3,c4,k1,k2,k3,Ys,ltS]
def H167 (Pg:PgT):Prop:=Pg 167=some (.code F167)∧H168 Pg∧H187 Pg
theorem K167 (h:H167 Pg) (s:Span):K' Pg 167 [.agg (YG s)]=some (.bool (Ys s)):=by
 obtain⟨h,h168,h187⟩:=h;have k1:=K168 h168 s.lo;have k2:=K168 h168 s.hi;have k3:s.lo.length≤1000000→s.hi.length≤1000000→_:=K187 h187 s.lo s.hi;refine Qa h rfl ?_;cases c1:decide (s.lo=[]) with
 |true=>
  have hl:s.lo.length≤1000000:=by rw[Gg c1];simp
  cases c3:decide (s.hi=[]) with
  |true=>simp only[go_sem,c1,c3,Y4,Yab,Ys]
  |false=>
   cases c4:keyR s.hi with
   |false=>simp only[go_sem,c1,c3,c4,k2,Y4,Yab,Ys]
   |true=>simp only[go_sem,c1,c3,c4,k2,k3 hl (by have:=YD c4;omega),Y4,Yab,Ys,ltS,Yeu]
 |false=>
 cases c2:keyR s.lo with
 |false=>simp only[go_sem,c1,c2,k1,Yab,Ys]
 |true=>
  have hl:s.lo.length≤1000000:=by have:=YD c2;omega
  cases c3:decide (s.hi=[]) with
  |true=>simp only[go_sem,c1,c2,c3,k1,Y4,Yab,Ys]
  |false=>
   cases c4:keyR s.hi with
   |false=>simp only[go_sem,c1,c2,c3,c4,k1,k2,Y4,Yab,Ys]
   |true=>simp only[go_sem,c1,c2,c3,c4,k1,k2,k3 hl (by have:=YD c4;omega),Y4,Yab,Ys,ltS,Yeu]
theorem YcV {s:Span} (h:Ys s=true):s.lo.length≤16∧s.hi.length≤16:=by
 simp only[Ys,Gk,G8,Gq] at h;constructor
 ·rcases h.1 with e|e
  ·rw[e];simp
  ·exact (YD e).1
 ·rcases h.2 with e|e
  ·rw[e];simp
  ·exact (YD e.1).1
def Yax (s:Span) (k:List UInt8):Bool:=Ys s&&(keyR k&&(leS s.lo k&&(decide (s.hi=[])||ltS k s.hi)))
def H171 (Pg:PgT):Prop:=Pg 171=some (.code F171)∧H186 Pg∧H170 Pg∧H192 Pg
theorem K171 (h:H171 Pg) (s:Span) (k:List UInt8):K' Pg 171 [.agg (YG s),.str k]=some (.bool (Yax s k)):=by
 obtain⟨h,h186,h170,h192⟩:=h;have k1:=K186 h186 s;have k2:=K170 h170 k;have k3:=K192 h192 s.lo k;have k4:=K192 h192 k s.hi;simp only[YG] at k1;refine Qa h rfl ?_;cases c1:Ys s<;>cases c2:keyR k<;>cases c3:decide (Yp (Yk s.lo) (Yk k)≤0)<;>cases c4:decide (s.hi=[]) <;>
  simp only[go_sem,c1,c2,c3,c4,k1,k2,k3,k4,Yax,leS,ltS]
def H169 (Pg:PgT):Prop:=Pg 169=some (.code F169)∧H187 Pg
theorem YhY {a b:List Int}:decide (0≤Yp a b)=decide (Yp b a≤0):=by
 apply GM.2;have:=Ybi a b;omega
theorem K169 (h:H169 Pg) (k lo hi:List UInt8) (h1:k.length≤1000000) (h2:lo.length≤1000000) (h3:hi.length≤1000000):K' Pg 169 [.str k,.str lo,.str hi]=some (.bool (leS lo k&&(decide (hi=[])||ltS k hi))):=by
 obtain⟨h,h187⟩:=h;have k1:=K187 h187 k lo h1 h2;have k2:=K187 h187 k hi h1 h3;refine Qa h rfl ?_;cases c3:decide (Yp (Yk lo) (Yk k)≤0)<;>cases c4:decide (hi=[]) <;>
  simp only[go_sem,c3,c4,k1,k2,leS,ltS,YhY,Y4]
def H142 (Pg:PgT):Prop:=Pg 142=some (.code F142)∧H167 Pg∧H168 Pg∧H169 Pg
theorem K142 (h:H142 Pg) (s:Span) (k:List UInt8):K' Pg 142 [.agg (YG s),.str k]=some (.bool (Yax s k)):=by
 obtain⟨h,h167,h168,h169⟩:=h;have k1:=K167 h167 s;have k2:=K168 h168 k;simp only[YG] at k1;refine Qa h rfl ?_;cases c1:Ys s with
 |false=>simp only[go_sem,c1,k1,Yax]
 |true=>
 cases c2:keyR k with
 |false=>simp only[go_sem,c1,c2,k1,k2,Yax]
 |true=>
  have l1:=YcV c1;have l2:=YD c2;have k3:=K169 h169 k s.lo s.hi (by omega) (by omega) (by omega);simp only[go_sem,c1,c2,k1,k2,k3,Yax]
def Ybh (lo hi:List UInt8):Bool:=decide (hi=[])||ltS lo hi
theorem YbL {a b:List UInt8}:ltS a b=true↔Yp (Yk a) (Yk b)<0:=by simp[ltS]
theorem YcE {a b c:List UInt8} (h1:Yp (Yk a) (Yk b)≤0) (h2:Yp (Yk b) (Yk c)<0):Yp (Yk a) (Yk c)<0:=(YdJ _ _ _ h1 (by omega)).2 (.inr h2)
theorem YbG {s:Span} (h:Ys s=true):(decide (s.lo=[])||keyR s.lo)=true:=by
 simp only[Ys,Gk] at h;exact h.1
theorem Yav {s:Span} (h:Ys s=true):s.hi=[]∨(keyR s.hi=true∧Yp (Yk s.lo) (Yk s.hi)<0):=by
 simp only[Ys,Gk,G8,Gq,ltS] at h;exact h.2
theorem Ycb {lo hi:List UInt8} (h1:(decide (lo=[])||keyR lo)=true) (h2:hi=[]∨keyR hi=true):Ys ⟨lo,hi⟩=Ybh lo hi:=by
 simp only[Ys,Ybh,h1,Gn];rcases h2 with e|e
 ·rw[GA e];rfl
 ·rw[e,Gn]
theorem Ybv {lo hi:List UInt8}:Ybh lo hi=true↔hi=[]∨Yp (Yk lo) (Yk hi)<0:=by
 simp[Ybh,ltS]
def Yap:Span:=⟨[],[]⟩
@[go_sem] def eSE (x:Span×Int):V:=.tuple [.agg (YG x.1),iz x.2]
def Y2 (a b:Span):Span×Int:=
 if Ys a&&Ys b then (if decide (a.hi=[])||!decide (a.hi=b.lo) then (Yap,9) else (⟨a.lo,b.hi⟩,0)) else (Yap,1)
def H184 (Pg:PgT):Prop:=Pg 184=some (.code F184)∧H167 Pg
theorem K184 (h:H184 Pg) (a b:Span):K' Pg 184 [.agg (YG a),.agg (YG b)]=some (eSE (Y2 a b)):=by
 obtain⟨h,h167⟩:=h;have k1:=K167 h167 a;have k2:=K167 h167 b;simp only[YG] at k1 k2;refine Qa h rfl ?_;cases c1:Ys a<;>cases c2:Ys b<;>cases c3:decide (a.hi=[])<;>cases c4:decide (a.hi=b.lo) <;>
  simp only[go_sem,c1,c2,c3,c4,k1,k2,Y2,Yap,Y4]
def later (a b:Stamp):Stamp:=if Yc a b<0 then b else a
theorem Ycw {a b:Stamp}:0≤Yc a b↔Yc b a≤0:=by
 have h1:=@Yan a b;have h2:=@Ycn b a;have:Yc a b<0↔0<Yc b a:=by rw[h1,h2]
 omega
structure Entr where
 key:List UInt8
 chain:List Ver
 deriving DecidableEq
@[go_sem] def YR (e:Entr):List V:=[.str e.key,Yb e.chain]
@[go_sem] def Yl (l:List Entr):V:=.slice 2 (l.map YR)
def Sm (l:List Entr):Prop:=l.length≤10000∧∀e∈l,e.chain.length≤10000∧e.key.length≤10000
theorem Sm.len {l:List Entr} (h:Sm l):l.length≤10000:=h.1
theorem Sm.at {l:List Entr} (h:Sm l) {i:Nat} {e:Entr} (he:l[i]?=some e):e.chain.length≤10000∧e.key.length≤10000:=h.2 e (List.mem_of_getElem? he)
theorem gtd {a b:Nat}:decide ((a:Int)<(b:Int))=!decide (b≤a):=by
 by_cases h:b≤a<;>simp[h]<;>omega
theorem YiQ {n:Nat}:decide ((64:Int)<(n:Int))=!decide (n≤64):=gtd (a:=64)
theorem YjF {n:Nat}:decide ((n:Int)≤64)=decide (n≤64):=led (b:=64)
def Ybj (e:Entr):Bool:=keyR e.key&&(!decide (e.chain=[])&&Yg e.chain)
def ixG:Option Entr→List Entr→Bool
 |_,[]=>true
 |p,e::l=>Ybj e&&((match p with|none=>true|some q=>ltS q.key e.key)&&ixG (some e) l)
def ixR (l:List Entr):Bool:=decide (l.length≤64)&&ixG none l
def YbW (l:List Entr) (i:Nat):Option Entr:=if i=0 then none else l[i-1]?
theorem Yc5 {l:List Entr} {i:Nat} {x:Entr} (h:l[i]?=some x):YbW l (i+1)=some x:=by simp[YbW,h]
theorem YbQ {l:List Ver}:decide ((l.length:Int)=0)=decide (l=[]):=by cases l<;>simp;omega
def H203 (Pg:PgT):Prop:=Pg 203=some (.code F203)∧H7 Pg∧H170 Pg∧H192 Pg
theorem K203 (h:H203 Pg) (l:List Entr) (hl:Sm l):K' Pg 203 [Yl l]=some (.bool (ixR l)):=by
 obtain⟨h,h7,h170,h192⟩:=h;have k170:=fun x=>K170 h170 x;have k192:=fun x y=>K192 h192 x y;have hlen:=hl.len;refine Qa h rfl ?_;simp only[go_sem];unfold l203_0;refine JiY (fun (i:Nat) S=>i≤l.length∧S.ρ 0=Yl l∧S.ρ 5=Yl l∧S.ρ 6=iz l.length∧S.ρ 7=iz i∧S.μ 4=none∧ixG (YbW l i) (l.drop i)=ixG none l) (fun i=>l.length-i) 0 ?_ ?_
 ·simp[go_sem,YbW]
 ·intro i S ⟨hi,h0,h5,h6,h7',m4,ho⟩;simp only[go_sem,h6,h7'];refine JiZ (fun h=>?_) (fun h=>?_)
  ·have h:=Ye h;obtain⟨x,hx,hd⟩:=JiF h;have k7:=K7 h7 x.chain (by have:=hl.at hx;omega);simp only[Yb] at k7;have hinc:IntKind.i64.wrap ((i:Int)+1)=((i+1:Nat):Int):=Yi h (by omega);rw[hd] at ho;simp only[ixG] at ho;simp only[go_sem,h5,h7',m4,hx,Yb,k170];cases c1:keyR x.key with
   |false=>
    simp only[Ybj,c1,Gj] at ho;simp only[go_sem,ixR,←ho]
   |true=>
   cases c2:Yg x.chain with
   |false=>
    simp only[Ybj,c1,c2,Gj,Gm] at ho;simp only[go_sem,c2,k7,ixR,←ho]
   |true=>
   cases c3:decide (x.chain=[]) with
   |true=>
    simp only[Ybj,c1,c2,c3,Gj,Gm,GI] at ho;simp only[go_sem,c2,c3,k7,YbQ,ixR,←ho]
   |false=>
   simp only[Ybj,c1,c2,c3,Gn,GW,GJ] at ho;rcases GT i with hz|hz
   ·have hgt:decide ((0:Int)<(i:Int))=false:=Gp (by omega);simp only[go_sem,hgt,h0,h5,h6,h7',c2,c3,k7,YbQ];exact⟨i+1,by omega,by omega,by rw[hinc],by rw[Yc5 hx];simpa [YbW,hz] using ho⟩
   ·have hgt:decide ((0:Int)<(i:Int))=true:=GA (by omega);have hdec:IntKind.i64.wrap ((i:Int)-1)=((i-1:Nat):Int):=Ycm hz (by omega);obtain⟨y,hy,-⟩:=JiF (l:=l) (i:=i-1) (by omega);have hp:YbW l i=some y:=by simp[YbW,Nat.ne_of_gt hz,hy]
    rw[hp] at ho;simp only at ho;simp only[go_sem,h0,c2,c3,k7,YbQ,Yb,hgt,hdec,hy,k192];refine JiZ (fun hc=>?_) (fun hc=>?_)
    ·have:ltS y.key x.key=false:=Gp (by have:=Gg hc;omega);rw[this] at ho;simp only[Gj] at ho;simp only[go_sem,ixR,←ho]
    ·have:ltS y.key x.key=true:=GA (by have:=Gb hc;omega);rw[this] at ho;simp only[Gn] at ho;simp only[go_sem,h0,h5,h6,h7'];exact⟨i+1,by omega,by omega,by rw[hinc],by rw[Yc5 hx];exact ho⟩
  ·have h:=Ym hi h;subst h;rw[GF] at ho;simp only[ixG] at ho;simp only[go_sem,h0,YjF,ixR,←ho]
def H204 (Pg:PgT):Prop:=Pg 204=some (.code F204)∧H4 Pg∧H168 Pg∧H187 Pg
theorem K204 (h:H204 Pg) (l:List Entr) (hl:Sm l):K' Pg 204 [Yl l]=some (.bool (ixR l)):=by
 obtain⟨h,h4,h168,h187⟩:=h;have k168:=fun x=>K168 h168 x;refine Qa h rfl ?_;cases c0:decide (l.length≤64) with
 |false=>simp only[go_sem,YiQ,c0,ixR]
 |true=>
 have hlen:=Gg c0;simp only[go_sem,YiQ,c0,ixR];unfold l204_0;refine JiY (fun (i:Nat) S=>i≤l.length∧S.ρ 0=Yl l∧S.ρ 3=iz i∧ixG (YbW l i) (l.drop i)=ixG none l) (fun i=>l.length-i) 0 ?_ ?_
 ·simp[go_sem,YbW]
 ·intro i S ⟨hi,h0,h3,ho⟩;simp only[go_sem,h0,h3];refine JiZ (fun h=>?_) (fun h=>?_)
  ·have h:=Ye h;obtain⟨x,hx,hd⟩:=JiF h;have k4:=K4 h4 x.chain (by have:=hl.at hx;omega);simp only[Yb] at k4;have hinc:IntKind.i64.wrap ((i:Int)+1)=((i+1:Nat):Int):=Yi h (by omega);rw[hd] at ho;simp only[ixG] at ho;simp only[go_sem,h0,h3,hx,Yb,k168];cases c1:keyR x.key with
   |false=>
    simp only[Ybj,c1,Gj] at ho;simp only[go_sem,←ho]
   |true=>
   cases c3:decide (x.chain=[]) with
   |true=>
    simp only[Ybj,c1,c3,Gj,Gm,GI] at ho;simp only[go_sem,h0,h3,hx,c3,YbQ,←ho,Yb]
   |false=>
   cases c2:Yg x.chain with
   |false=>
    simp only[Ybj,c1,c2,Gj,Gm] at ho;simp only[go_sem,h0,h3,hx,c2,c3,k4,YbQ,←ho,Yb]
   |true=>
   simp only[Ybj,c1,c2,c3,Gn,GW,GJ] at ho;rcases GT i with hz|hz
   ·have hgt:decide ((0:Int)<(i:Int))=false:=Gp (by omega);simp only[go_sem,hgt,h0,h3,hx,c2,c3,k4,YbQ,Yb];exact⟨i+1,by omega,by omega,by rw[hinc],by rw[Yc5 hx];simpa [YbW,hz] using ho⟩
   ·have hgt:decide ((0:Int)<(i:Int))=true:=GA (by omega);have hdec:IntKind.i64.wrap ((i:Int)-1)=((i-1:Nat):Int):=Ycm hz (by omega);obtain⟨y,hy,-⟩:=JiF (l:=l) (i:=i-1) (by omega);have hp:YbW l i=some y:=by simp[YbW,Nat.ne_of_gt hz,hy]
    have k187:=K187 h187 y.key x.key (by have:=hl.at hy;omega) (by have:=hl.at hx;omega);rw[hp] at ho;simp only at ho;simp only[go_sem,h0,h3,hx,c2,c3,k4,YbQ,Yb,hgt,hdec,hy,k187,Yeu];cases hc:ltS y.key x.key with
    |false=>
     rw[hc] at ho;simp only[ltS] at hc;simp only[Gj] at ho;simp only[go_sem,hc,←ho]
    |true=>
     rw[hc] at ho;simp only[ltS] at hc;simp only[Gn] at ho;simp only[go_sem,h0,h3,hc];exact⟨i+1,by omega,by omega,by rw[hinc],by rw[Yc5 hx];exact ho⟩
  ·have h:=Ym hi h;subst h;rw[GF] at ho;simp only[ixG] at ho;simp only[go_sem,←ho]
theorem Ydi:∀{l:List Entr} {p:Option Entr},ixG p l=true→(∀q,p=some q→∀e∈l,ltS q.key e.key=true)∧l.Pairwise (fun a b=>ltS a.key b.key=true)∧∀e∈l,Ybj e=true
 |[],_,_=>⟨fun _ _=>by simp,.nil,by simp⟩
 |e::l,p,h=>by
  simp only[ixG,Gk] at h;obtain⟨h1,h2,h3⟩:=h;obtain⟨g1,g2,g3⟩:=Ydi h3;have g1:=g1 e rfl;refine⟨?_,G0.2 ⟨g1,g2⟩,fun x hx=>?_⟩
  ·rintro q rfl x hx;simp only at h2;rcases GK.1 hx with rfl|hx
   ·exact h2
   ·have:=g1 x hx;rw[YbL] at h2 this ⊢;exact YcE (by omega) this
  ·rcases GK.1 hx with rfl|hx
   ·exact h1
   ·exact g3 x hx
theorem Yg2:∀{l:List Entr},ixG none l=true↔l.Pairwise (fun a b=>ltS a.key b.key=true)∧∀e∈l,Ybj e=true:=by
 intro l;refine⟨fun h=>(Ydi h).2,fun⟨h1,h2⟩=>?_⟩
 suffices ∀(l:List Entr) (p:Option Entr),l.Pairwise (fun a b=>ltS a.key b.key=true)→(∀e∈l,Ybj e=true)→(∀q,p=some q→∀e∈l,ltS q.key e.key=true)→ixG p l=true from this l none h1 h2 (fun _ h=>by simp at h)
 intro l
 induction l with
 |nil=>intros;rfl
 |cons e l ih=>
  intro p h1 h2 h3;obtain⟨g1,g2⟩:=G0.1 h1;simp only[ixG,Gk];refine⟨h2 e (by simp),?_,ih (some e) g2 (fun x hx=>h2 x (by simp[hx])) (fun q hq x hx=>by
   obtain rfl:e=q:=by simpa using hq
   exact g1 x hx)⟩
  cases p with
  |none=>rfl
  |some q=>exact h3 q rfl e (by simp)
theorem YaD {l:List Entr}:ixR l=true↔l.length≤64∧l.Pairwise (fun a b=>ltS a.key b.key=true)∧∀e∈l,Ybj e=true:=by
 simp only[ixR,Gk,Gq,Yg2]
theorem YaL {e:Entr}:Ybj e=true↔keyR e.key=true∧e.chain≠[]∧Yg e.chain=true:=by simp[Ybj]
def Yha (z n:Nat):Option (Nat×List (List V)×Fz)→Option V
 |some (z',rows,.live)=>if z'=z∧rows.length=n then some (.slice z rows) else none
 |_=>none
@[go_sem] theorem YjK {z n:Nat} {rows:List (List V)}:Yha z n (some (z,rows,.live))=if rows.length=n then some (.slice z rows) else none:=by simp[Yha]
@[go_sem] theorem YjN {A:Nat→Option (Nat×List (List V)×Fz)} {s z n:Nat}:Jby A (some 0) 0 (.own s z n)=Yha z n (A s):=by
 unfold Jby Yha;rw[GB rfl]
 rfl
theorem Sm.take {l:List Entr} (h:Sm l) {n:Nat}:Sm (l.take n):=⟨by have:=h.1;simp;omega,fun e he=>h.2 e (List.mem_of_mem_take he)⟩
theorem Sm.drop {l:List Entr} (h:Sm l) {n:Nat}:Sm (l.drop n):=⟨by have:=h.1;simp;omega,fun e he=>h.2 e (Gaj he)⟩
theorem YgH {κ:Nat→List V→Option V} {id:Nat} {b c:C} {S:St} {R:Ex→St→Prop} (h:Wp κ (.seq (.block id b) c) S R):Wp κ b S (Blk id (Cont κ c R)):=by
 rw[Jfn,JcS] at h;exact h
structure Ans where
 err:Int
 at_:Stamp
 found:Bool
 val:List UInt8
 items:List (List UInt8×List UInt8)
 next:List UInt8
 more:Bool
 deriving DecidableEq
structure Done where
 client:Int
 req:Int
 ans:Ans
 deriving DecidableEq
@[go_sem] def Ydw (p:List UInt8×List UInt8):List V:=[.str p.1,.str p.2]
@[go_sem] def YU (l:List (List UInt8×List UInt8)):V:=.slice 2 (l.map Ydw)
@[go_sem] def YcK (a:Ans):List V:=[iz a.err,iz a.at_.wall,iz a.at_.tick,iz a.at_.node,.bool a.found,.str a.val,YU a.items,.str a.next,.bool a.more]
@[go_sem] def YM (d:Done):List V:=[iz d.client,iz d.req,iz d.ans.err,iz d.ans.at_.wall,iz d.ans.at_.tick,iz d.ans.at_.node,.bool d.ans.found,.str d.ans.val,YU d.ans.items,.str d.ans.next,.bool d.ans.more]
@[go_sem] def Yn (l:List Done):V:=.slice 11 (l.map YM)
def YK (n:Int):Bool:=decide (1≤n)&&decide (n≤1099511627776)
def H97 (Pg:PgT):Prop:=Pg 97=some (.code F97)
theorem K97 (h:H97 Pg) (n:Int):K' Pg 97 [iz n]=some (.bool (YK n)):=by
 refine Qa h rfl ?_;simp only[go_sem];refine JiX (fun h=>?_) (fun h=>?_)<;>simp only[go_sem,h,YK]
def H95 (Pg:PgT):Prop:=Pg 95=some (.code F95)
theorem K95 (h:H95 Pg) (n:Int):K' Pg 95 [iz n]=some (.bool (YK n)):=by
 refine Qa h rfl ?_;have e:decide ((0:Int)<n)=decide (1≤n):=GM.2 (by omega);simp only[go_sem,e];refine JiX (fun h=>?_) (fun h=>?_)<;>simp only[go_sem,h,YK]
def Ybk (a:Ans):Bool:=decide (0≤a.err)&&(decide (a.err≤16)&&(Ya a.at_&&(decide (a.val.length≤16)&&(decide (a.items=[])&&(decide (a.next=[])&&!a.more)))))
theorem Yg5 {α:Type} [DecidableEq α] {l:List α}:decide ((l.length:Int)=0)=decide (l=[]):=by cases l<;>simp;omega
theorem YjE {n:Nat}:decide ((n:Int)≤16)=decide (n≤16):=GM.2 (by omega)
def H98 (Pg:PgT):Prop:=Pg 98=some (.code F98)∧H28 Pg
theorem K98 (h:H98 Pg) (a:Ans):K' Pg 98 [.agg (YcK a)]=some (.bool (Ybk a)):=by
 obtain⟨h,h28⟩:=h;have k:=K28 h28 a.at_;simp only[Yd] at k;refine Qa h rfl ?_;simp only[go_sem]
 repeat' (refine JiX (fun h=>?_) (fun h=>?_)<;>simp only[go_sem,h,k,Yg5,YjE,Ybk])
def H96 (Pg:PgT):Prop:=Pg 96=some (.code F96)∧H24 Pg
theorem K96 (h:H96 Pg) (a:Ans):K' Pg 96 [.agg (YcK a)]=some (.bool (Ybk a)):=by
 obtain⟨h,h24⟩:=h;have k:=K24 h24 a.at_;simp only[Yd] at k;have e1:decide (a.err<0)=!decide (0≤a.err):=by by_cases h:0≤a.err<;>simp[h]<;>omega
 have e2:decide (16<a.err)=!decide (a.err≤16):=by by_cases h:a.err≤16<;>simp[h]<;>omega
 have e3:decide ((16:Int)<(a.val.length:Int))=!decide (a.val.length≤16):=by by_cases h:a.val.length≤16<;>simp[h]<;>omega
 have e4:decide ((0:Int)<(a.items.length:Int))=!decide (a.items=[]):=by rw[YeA];cases a.items<;>simp
 have e5:decide ((0:Int)<(a.next.length:Int))=!decide (a.next=[]):=by rw[YeA];cases a.next<;>simp
 refine Qa h rfl ?_;simp only[go_sem,e1,Ybk];cases h1:decide (0≤a.err)<;>simp only[go_sem,e2];cases h2:decide (a.err≤16)<;>simp only[go_sem,e3];cases h3:decide (a.val.length≤16)<;>simp only[go_sem,e4];cases h4:decide (a.items=[])<;>simp only[go_sem,e5];cases h5:decide (a.next=[])<;>simp only[go_sem];cases h6:a.more<;>simp only[go_sem,k]
def rowR (d:Done):Bool:=YK d.client&&(YK d.req&&Ybk d.ans)
def rtR:Int→List Done→Bool
 |_,[]=>true
 |p,d::l=>decide (p<d.client)&&(rowR d&&rtR d.client l)
def YF (t:List Done):Bool:=rtR 0 t&&decide (t.length≤8)
theorem Yek {p:Int} {d:Done} {l:List Done}:rtR p (d::l)=(decide (p<d.client)&&(rowR d&&rtR d.client l)):=rfl
def Ya8 (t:List Done) (i:Nat):Int:=if i=0 then 0 else (t[i-1]?.map Done.client).getD 0
def H81 (Pg:PgT):Prop:=Pg 81=some (.code F81)∧H97 Pg∧H98 Pg
theorem K81 (h:H81 Pg) (t:List Done) (hl:t.length<2 ^ 60):K' Pg 81 [Yn t]=some (.bool (YF t)):=by
 obtain⟨h,h97,h98⟩:=h;have k97:=fun x=>K97 h97 x;have k98:=fun x=>K98 h98 x;simp only[YcK,YU] at k98;refine Qa h rfl ?_;simp only[go_sem];unfold l81_0;refine JiY (fun (i:Nat) S=>i≤t.length∧S.ρ 0=Yn t∧S.μ 5=none∧S.ρ 3=iz (Ya8 t i)∧S.ρ 6=Yn t∧S.ρ 7=iz t.length∧S.ρ 8=iz i∧rtR (Ya8 t i) (t.drop i)=rtR 0 t) (fun i=>t.length-i) 0 ?_ ?_
 ·simp[go_sem,Ya8]
 ·intro i S ⟨hi,h0,m5,h3,h6,h7,h8,ho⟩;simp only[go_sem,h7,h8];refine JiZ (fun h=>?_) (fun h=>?_)
  ·have h:=Ye h;obtain⟨x,hx,hd⟩:=JiF h;have hnext:Ya8 t (i+1)=x.client:=by simp[Ya8,hx]
   rw[hd,Yek] at ho;have e1:decide (x.client≤Ya8 t i)=!decide (Ya8 t i<x.client):=by by_cases h:Ya8 t i<x.client<;>simp[h]<;>omega
   simp only[go_sem,m5,h3,h6,h8,hx,e1];cases c1:decide (Ya8 t i<x.client) with
   |false=>rw[c1] at ho;simp only[go_sem,YF,←ho]
   |true=>
   cases c2:YK x.client with
   |false=>simp only[rowR,c2,Gj,Gm] at ho;simp only[go_sem,c2,YF,←ho,k97]
   |true=>
   cases c3:YK x.req with
   |false=>simp only[rowR,c3,Gj,Gm] at ho;simp only[go_sem,c2,c3,YF,←ho,k97]
   |true=>
   cases c4:Ybk x.ans with
   |false=>simp only[rowR,c4,Gj,Gm] at ho;simp only[go_sem,c2,c3,c4,YF,←ho,k97,k98]
   |true=>
    simp only[rowR,c1,c2,c3,c4,Gn] at ho;simp only[go_sem,c2,c3,c4,h0,h6,h7,h8,k97,k98];exact⟨i+1,by omega,by omega,by rw[hnext],by rw[Yi h hl],by rw[hnext];exact ho⟩
  ·have h:=Ym hi h;subst h;simp only[GF,rtR] at ho;have e8:decide ((t.length:Int)≤8)=decide (t.length≤8):=GM.2 (by omega);simp only[go_sem,h0,YF,←ho,e8]
def H80 (Pg:PgT):Prop:=Pg 80=some (.code F80)∧H95 Pg∧H96 Pg
theorem K80 (h:H80 Pg) (t:List Done) (hl:t.length<2 ^ 60):K' Pg 80 [Yn t]=some (.bool (YF t)):=by
 obtain⟨h,h95,h96⟩:=h;have k95:=fun x=>K95 h95 x;have k96:=fun x=>K96 h96 x;simp only[YcK,YU] at k96;refine Qa h rfl ?_;simp only[go_sem];refine JiZ (fun hc=>?_) (fun hc=>?_)
 ·have hc:¬t.length≤8:=by have:=Gg hc;omega
  simp only[go_sem,YF,hc]
 have hc:t.length≤8:=by have:=Gb hc;omega
 have hrt:YF t=rtR 0 t:=by simp[YF,hc]
 simp only[go_sem];unfold l80_0;refine JiY (fun (i:Nat) S=>i≤t.length∧S.ρ 0=Yn t∧S.ρ 3=iz i∧rtR (Ya8 t i) (t.drop i)=rtR 0 t) (fun i=>t.length-i) 0 ?_ ?_
 ·simp[go_sem,Ya8]
 ·intro i S ⟨hi,h0,h3,ho⟩;simp only[go_sem,h0,h3];refine JiZ (fun h=>?_) (fun h=>?_)
  ·have h:=Ye h;obtain⟨x,hx,hd⟩:=JiF h;have hnext:Ya8 t (i+1)=x.client:=by simp[Ya8,hx]
   rw[hd,Yek] at ho;simp only[go_sem,h0,h3,hx,k95];cases c2:YK x.client with
   |false=>simp only[rowR,c2,Gj,Gm] at ho;simp only[go_sem,hrt,←ho]
   |true=>
   cases c3:YK x.req with
   |false=>simp only[rowR,c3,Gj,Gm] at ho;simp only[go_sem,c3,hrt,←ho,h0,h3,hx,k95]
   |true=>
   cases c4:Ybk x.ans with
   |false=>simp only[rowR,c4,Gj,Gm] at ho;simp only[go_sem,c3,c4,hrt,←ho,h0,h3,hx,k95,k96]
   |true=>
    simp only[rowR,c2,c3,c4,Gn] at ho;simp only[go_sem,c3,c4,h0,h3,hx,k95,k96,YeA];rcases GT i with hz|hz
    ·have hz':decide (i=0)=true:=by simp[hz]
     have hp:decide (Ya8 t i<x.client)=true:=by
      simp only[YK,Gk,Gq] at c2;simp[Ya8,hz];omega
     rw[hp,Gn] at ho;simp only[go_sem,hz',h0,h3];exact⟨i+1,by omega,by omega,by rw[Yi h hl],by rw[hnext];exact ho⟩
    ·have hz':decide (i=0)=false:=by simp;omega
     obtain⟨y,hy,-⟩:=JiF (l:=t) (i:=i-1) (by omega);have hp:Ya8 t i=y.client:=by simp[Ya8,hy];omega
     have hdec:=Ycm hz (by omega);rw[hp] at ho;have e1:decide (x.client≤y.client)=!decide (y.client<x.client):=by by_cases h:y.client<x.client<;>simp[h]<;>omega
     simp only[go_sem,hz',h0,h3,hx,hdec,hy,e1];cases c1:decide (y.client<x.client) with
     |false=>rw[c1] at ho;simp only[go_sem,hrt,←ho]
     |true=>
      rw[c1,Gn] at ho;simp only[go_sem,h0,h3];exact⟨i+1,by omega,by omega,by rw[Yi h hl],by rw[hnext];exact ho⟩
  ·have h:=Ym hi h;subst h;simp only[GF,rtR] at ho;simp only[go_sem,hrt,←ho]
def H101 (Pg:PgT):Prop:=Pg 101=some (.code F101)
theorem K101 (h:H101 Pg) (a:Ans) (hl:a.items.length<2 ^ 60):K' Pg 101 [.agg (YcK a),.agg (YcK a)]=some (.bool true):=by
 refine Qa h rfl ?_;simp only[go_sem];unfold l101_0;refine JiY (fun (i:Nat) S=>i≤a.items.length∧S.ρ 2=.lref 2 0∧S.ρ 3=.lref 3 0∧S.μ 2=some (YcK a,false)∧S.μ 3=some (YcK a,false)∧S.ρ 5=iz i) (fun i=>a.items.length-i) 0 ?_ ?_
 ·simp[go_sem]
 ·intro i S ⟨hi,h2,h3,m2,m3,h5⟩;simp only[go_sem,h2,m2,h5];refine JiZ (fun h=>?_) (fun h=>?_)
  ·have h:=Ye h;obtain⟨x,hx,hd⟩:=JiF h;simp only[go_sem,h2,h3,m2,m3,h5,hx];exact⟨i+1,by omega,by omega,by rw[Yi h hl]⟩
  ·simp only[go_sem,h2,h3,m2,m3]
@[go_sem] def Ycp (l:List Span):V:=.slice 2 (l.map YG)
def wg:Bool→List UInt8→List Span→Bool
 |_,last,[]=>decide (last=[])
 |f,last,x::l=>Ys x&&(decide (x.lo=last)&&((f||!decide (last=[]))&&wg false x.hi l))
def YaQ (l:List Span):Bool:=!decide (l=[])&&wg true [] l
theorem YeS {α:Type} [DecidableEq α] {l:List α}:decide ((l.length:Int)=0)=decide (l=[]):=by cases l<;>simp;omega
theorem Yaq {α:Type} [DecidableEq α] {l:List α}:decide ((0:Int)<(l.length:Int))=!decide (l=[]):=by cases l<;>simp
def H166 (Pg:PgT):Prop:=Pg 166=some (.code F166)∧H186 Pg
theorem K166 (h:H166 Pg) (l:List Span) (hl:l.length<2 ^ 60):K' Pg 166 [Ycp l]=some (.bool (YaQ l)):=by
 obtain⟨h,h186⟩:=h;have k:=fun x=>K186 h186 x;simp only[YG] at k;refine Qa h rfl ?_;simp only[go_sem];unfold l166_0;refine JiY (fun (i:Nat) S=>i≤l.length∧S.ρ 0=Ycp l∧S.μ 5=none∧S.ρ 6=Ycp l∧S.ρ 7=iz l.length∧S.ρ 8=iz i∧∃last,S.ρ 3=.str last∧wg (decide (i=0)) last (l.drop i)=wg true [] l) (fun i=>l.length-i) 0 ?_ ?_
 ·simp[go_sem]
 ·intro i S ⟨hi,h0,m5,h6,h7,h8,last,h3,ho⟩;simp only[go_sem,h7,h8];refine JiZ (fun h=>?_) (fun h=>?_)
  ·have h:=Ye h;obtain⟨x,hx,hd⟩:=JiF h;rw[hd] at ho;simp only[wg] at ho;simp only[go_sem,m5,h6,h8,hx,k];cases c1:Ys x with
   |false=>rw[c1,Gj] at ho;simp only[go_sem,YaQ,←ho]
   |true=>
   cases c2:decide (x.lo=last) with
   |false=>rw[c1,c2] at ho;simp only[Gj,Gm] at ho;simp only[go_sem,c2,YaQ,←ho,h3]
   |true=>
   rw[c1,c2] at ho;simp only[Gn] at ho;cases c3:decide (i=0) with
   |true=>
    rw[c3] at ho;simp only[Gab,Gn] at ho;simp only[go_sem,c2,c3,h0,h3,h6,h7,h8,YeA];exact⟨i+1,by omega,by omega,by rw[Yi h hl],_,rfl,ho⟩
   |false=>
    rw[c3] at ho;simp only[G4] at ho;cases c4:decide (last=[]) with
    |true=>rw[c4] at ho;simp only[GI,Gj] at ho;simp only[go_sem,c2,c3,c4,YaQ,←ho,h3,YeA]
    |false=>
     rw[c4] at ho;simp only[GJ,Gn] at ho;simp only[go_sem,c2,c3,c4,h0,h3,h6,h7,h8,YeA];exact⟨i+1,by omega,by omega,by rw[Yi h hl],_,rfl,ho⟩
  ·have h:=Ym hi h;subst h;rw[GF] at ho;simp only[wg] at ho;simp only[go_sem,h0,Yaq,YaQ,←ho];cases c:decide (l=[])<;>simp only[go_sem,h3]
def rg:Span→List Span→Bool
 |s,[]=>decide (s=Yap)
 |s,x::l=>if (Y2 s x).2=0 then rg (Y2 s x).1 l else false
theorem Yhq:∀(l:List Span) (s:Span),s.lo≠[]→rg s l=false
 |[],s,h=>by
  simp only[rg];exact Gp fun e=>h (by rw[e];rfl)
 |x::l,s,h=>by
  simp only[rg];split
  ·refine Yhq l _ ?_;rename_i he;simp only[Y2] at he ⊢;split at he
   ·split at he
    ·simp at he
    ·rename_i h1 h2;rw[GB h1,Gv h2];exact h
   ·simp at he
  ·rfl
theorem Yhr:∀(l:List Span) (s:Span),Ys s=true→s.lo=[]→rg s l=wg false s.hi l
 |[],s,hs,h=>by
  simp only[rg,wg];exact GM.2 ⟨fun e=>by rw[e];rfl,fun e=>by cases s;simp only at h e;rw[h,e];rfl⟩
 |x::l,s,hs,h=>by
  simp only[rg,wg];cases c1:Ys x with
  |false=>
   have:Y2 s x=(Yap,1):=by simp only[Y2,hs,c1];rfl
   rw[this];rfl
  |true=>
  cases c2:decide (s.hi=[]) with
  |true=>
   have:Y2 s x=(Yap,9):=by simp only[Y2,hs,c1,c2];rfl
   rw[this];simp
  |false=>
  cases c3:decide (s.hi=x.lo) with
  |false=>
   have:Y2 s x=(Yap,9):=by simp only[Y2,hs,c1,c2,c3];rfl
   have e:decide (x.lo=s.hi)=false:=Gp fun e=>Gb c3 e.symm;rw[this,e];simp
  |true=>
   have:Y2 s x=(⟨s.lo,x.hi⟩,0):=by simp only[Y2,hs,c1,c2,c3];rfl
   have e:decide (x.lo=s.hi)=true:=GA (Gg c3).symm;rw[this,e];have hr:Ys ⟨s.lo,x.hi⟩=true:=by
    have q:=Yav c1;rw[Ycb (YbG hs) (q.imp id fun e=>e.1),h,Ybv];rcases q with q|q
    ·exact .inl q
    ·right;rw[YaU,Y8 (YD q.1).2];simp[Yp]
   simp only[GO,GJ,Bool.or_true,Gn];exact Yhr l _ hr h
theorem YgG (l:List Span):YaQ l=match l with|[]=>false|s::l=>Ys s&&rg s l:=by
 cases l with
 |nil=>rfl
 |cons s l=>
  have:decide (s::l=[])=false:=rfl;simp only[YaQ,this,GJ,Gn,wg,Gab];cases c1:Ys s with
  |false=>rfl
  |true=>
   by_cases h:s.lo=[]
   ·rw[Yhr l s c1 h,GA h];rfl
   ·rw[Yhq l s h,Gp h];rfl
def H174 (Pg:PgT):Prop:=Pg 174=some (.code F174)∧H167 Pg∧H184 Pg
theorem K174 (h:H174 Pg) (l:List Span) (hl:l.length<2 ^ 60):K' Pg 174 [Ycp l]=some (.bool (YaQ l)):=by
 obtain⟨h,h167,h184⟩:=h;rw[YgG];refine Qa h rfl ?_;cases l with
 |nil=>simp only[go_sem]
 |cons s l=>
  have k1:=K167 h167 s;have k2:=fun a b=>K184 h184 a b;simp only[YG,eSE] at k1 k2;have hz:decide (((l.length+1:Nat):Int)=0)=false:=Gp (by omega);cases c1:Ys s with
  |false=>simp only[go_sem,c1,k1,hz]
  |true=>
   simp only[go_sem,c1,k1,hz];unfold l174_0;refine JiY (fun (i:Nat) S=>∃t,i≤l.length∧S.ρ 0=Ycp (s::l)∧S.ρ 3=.lref 3 0∧S.μ 3=some (YG t,false)∧S.μ 5=none∧S.ρ 4=iz ((i+1:Nat):Int)∧rg t (l.drop i)=rg s l) (fun i=>l.length-i) 0 ?_ ?_
   ·exact⟨s,by simp[go_sem]⟩
   ·intro i S ⟨t,hi,h0,h3,m3,m5,h4,ho⟩;have e1:decide (((i+1:Nat):Int)<((l.length+1:Nat):Int))=decide (i<l.length):=GM.2 (by omega);simp only[go_sem,h0,h4,e1];refine JiZ (fun h=>?_) (fun h=>?_)
    ·have h:=Gg h;obtain⟨x,hx,hd⟩:=JiF h;have hx':(s::l)[i+1]?=some x:=by simpa using hx
     have hinc:IntKind.i64.wrap (((i+1:Nat):Int)+1)=((i+1+1:Nat):Int):=JiV (by simp only[List.length_cons] at hl;omega) (by simp only[List.length_cons] at hl;omega);rw[hd] at ho;simp only[rg] at ho;simp only[go_sem,h0,h3,m3,m5,h4,hx,k2];cases c2:decide ((Y2 t x).2=0) with
     |false=>
      rw[Gv (Gb c2)] at ho;simp only[go_sem,←ho]
     |true=>
      rw[GB (Gg c2)] at ho;simp only[go_sem,h0,h3,m3,h4];exact⟨i+1,by omega,(Y2 t x).1,by omega,rfl,by rw[hinc],ho⟩
    ·have h:i=l.length:=by have:=Gb h;omega
     subst h;rw[GF] at ho;simp only[rg] at ho;have e:(decide (t.lo=[])&&decide (t.hi=[]))=decide (t=Yap):=by
      cases t;simp only[Yap,Span.mk.injEq,Bool.decide_and]
     simp only[go_sem,h3,m3,e,ho]
structure Shd where
 id:Int
 epoch:Int
 span:Span
 phase:Int
 ents:List Entr
 mark:Stamp
 top:Stamp
 done:List Done
 hold:Int
 seen:Int
 move:Int
 closed:Int
@[go_sem] def Yac (s:Shd):List V:=[iz s.id,iz s.epoch,.str s.span.lo,.str s.span.hi,iz s.phase,Yl s.ents,iz s.mark.wall,iz s.mark.tick,iz s.mark.node,iz s.top.wall,iz s.top.tick,iz s.top.node,Yn s.done,iz s.hold,iz s.seen,iz s.move,iz s.closed]
@[go_sem] def Yho (l:List Shd):V:=.slice 17 (l.map Yac)
structure Cel where
 shards:List Shd
 top:Stamp
 dropped:Int
@[go_sem] def Ydq (c:Cel):List V:=[Yho c.shards,iz c.top.wall,iz c.top.tick,iz c.top.node,iz c.dropped]
structure Rq where
 client:Int
 req:Int
 kind:Int
 key:List UInt8
 value:List UInt8
 had:Bool
 old:List UInt8
 at_:Stamp
 hi:List UInt8
 limit:Int
def nou (n:Int):Bool:=decide (0≤n)&&decide (n≤1099511627776)
def shR0 (s:Shd):Bool:=YK s.id&&(YK s.epoch&&(nou s.hold&&(nou s.seen&&(nou s.move&&(nou s.closed&&(decide (1≤s.phase)&&(decide (s.phase≤3)&&(Ys s.span&&(ixR s.ents&&(Ya s.mark&&(Ya s.top&&YF s.done)))))))))))
def shR (s:Shd):Bool:=shR0 s&&s.ents.all fun e=>Yax s.span e.key
def uptoE (s:Shd) (top:Stamp):Bool:=s.ents.all fun e=>match e.chain.getLast? with|some v=>decide (Yc v.at_ top≤0)|none=>true
def cgo (top:Stamp):Int→List Shd→Bool
 |_,[]=>true
 |p,s::l=>decide (p<s.id)&&(shR s&&(uptoE s top&&cgo top s.id l))
def Yam (c:Cel):Bool:=decide (c.shards.length≤8)&&(Ya c.top&&(nou c.dropped&&cgo c.top 0 c.shards))
def SmS (s:Shd):Prop:=Sm s.ents∧s.done.length≤10000∧(∀d∈s.done,d.ans.items.length<2 ^ 60)∧s.span.lo.length≤10000∧s.span.hi.length≤10000
def SmC (c:Cel):Prop:=c.shards.length≤10000∧∀s∈c.shards,SmS s
def gN (D:Bool):Rd→Nat×Rd:=bif D then cu (tk 9) 0 else rd (tk 9) 0
def gT (D:Bool):Rd→List UInt8×Rd:=bif D then cu tkT [] else rd tkT []
def gF (D:Bool):Rd→Bool×Rd:=bif D then cu tkF false else rd tkF false
def gS (D:Bool):Rd→Stamp×Rd:=bif D then cu tkS zS else rd tkS zS
def gL (D:Bool) {α:Type} (R:Rd→α×Rd):Rd→List α×Rd:=bif D then lstD R else lstP R
theorem cN {D:Bool}:Cod (gN D) putB (fun n=>n<2 ^ 63):=by
 cases D
 ·exact codN
 ·exact YaJ
theorem cT {D:Bool}:Cod (gT D) Yh (fun t=>t.length<2 ^ 63):=by
 cases D
 ·exact Cod.rd YdZ
 ·exact Cod.cu YdZ
theorem cF {D:Bool}:Cod (gF D) YL (fun _=>True):=by
 have h:∀{s r:List UInt8} {b:Bool},tkF s=some (b,r)↔s=YL b++r∧True:=fun {s r b}=>by rw[Yhh];simp
 cases D
 ·exact Cod.rd h
 ·exact Cod.cu h
theorem cS {D:Bool}:Cod (gS D) stB (fun s=>Ya s=true):=by
 cases D
 ·exact Cod.rd Ye6
 ·exact Cod.cu Ye6
theorem cL {D:Bool} {α:Type} {R:Rd→α×Rd} {W:α→List UInt8} {P:α→Prop} (h:Cod R W P) (hW:∀a,P a→1≤(W a).length):Cod (gL D R) (YH W) (fun l=>l.length<2 ^ 63∧∀a∈l,P a):=by
 cases D
 ·exact h.lstP hW
 ·exact h.lstD
theorem YQ {t:List UInt8}:1≤(Yh t).length:=by
 have:=putB_pos t.length;simp only[Yh,Gc];omega
def gV (D:Bool):Rd→Ver×Rd:=mapR (fun p:Stamp×Bool×List UInt8=>⟨p.1,p.2.1,p.2.2⟩) (pairR (gS D) (pairR (gF D) (gT D)))
def YaW (v:Ver):List UInt8:=stB v.at_++(YL v.gone++Yh v.val)
def YgK (v:Ver):Prop:=(Ya v.at_=true∧True∧v.val.length<2 ^ 63)∧True
theorem cV {D:Bool}:Cod (gV D) YaW YgK:=by
 have h:=((cS (D:=D)).pair ((cF (D:=D)).pair (cT (D:=D)))).map (g:=fun p:Stamp×Bool×List UInt8=>(⟨p.1,p.2.1,p.2.2⟩:Ver)) (k:=fun v=>(v.at_,v.gone,v.val)) (fun a=>rfl);exact⟨fun hr=>⟨(h.get hr).1,(h.get hr).2.1,Gs⟩,fun hp=>h.put ⟨hp.1,rfl⟩,h.bad,h.len⟩
def gE (D:Bool):Rd→Entr×Rd:=mapR (fun p:List UInt8×List Ver=>⟨p.1,p.2⟩) (pairR (gT D) (gL D (gV D)))
def YaB (e:Entr):List UInt8:=Yh e.key++YH YaW e.chain
def Yeq (e:Entr):Prop:=e.key.length<2 ^ 63∧e.chain.length<2 ^ 63∧∀v∈e.chain,YgK v
theorem Yd1 (v:Ver) (h:YgK v):1≤(YaW v).length:=by
 have:=YQ (t:=v.val);simp only[YaW,Gc];omega
theorem cE {D:Bool}:Cod (gE D) YaB Yeq:=by
 have h:=((cT (D:=D)).pair (cL (D:=D) (cV (D:=D)) Yd1)).map (g:=fun p:List UInt8×List Ver=>(⟨p.1,p.2⟩:Entr)) (k:=fun v=>(v.key,v.chain)) (fun a=>rfl);exact⟨fun hr=>⟨(h.get hr).1,(h.get hr).2.1⟩,fun hp=>h.put ⟨hp,rfl⟩,h.bad,h.len⟩
def mkD (p:Nat×Nat×Nat×Stamp×Bool×List UInt8):Done:=⟨p.1,p.2.1,⟨p.2.2.1,p.2.2.2.1,p.2.2.2.2.1,p.2.2.2.2.2,[],[],false⟩⟩
def gD (D:Bool):Rd→Done×Rd:=mapR mkD (pairR (gN D) (pairR (gN D) (pairR (gN D) (pairR (gS D) (pairR (gF D) (gT D))))))
def Y0 (d:Done):List UInt8:=putB d.client.toNat++(putB d.req.toNat++(putB d.ans.err.toNat++(stB d.ans.at_++(YL d.ans.found++Yh d.ans.val))))
def unD (d:Done):Nat×Nat×Nat×Stamp×Bool×List UInt8:=(d.client.toNat,d.req.toNat,d.ans.err.toNat,d.ans.at_,d.ans.found,d.ans.val)
def YeI (d:Done):Prop:=(d.client.toNat<2 ^ 63∧d.req.toNat<2 ^ 63∧d.ans.err.toNat<2 ^ 63∧Ya d.ans.at_=true∧True∧d.ans.val.length<2 ^ 63)∧mkD (unD d)=d
theorem cD {D:Bool}:Cod (gD D) Y0 YeI:=
 ((cN (D:=D)).pair ((cN (D:=D)).pair ((cN (D:=D)).pair ((cS (D:=D)).pair ((cF (D:=D)).pair (cT (D:=D))))))).map (g:=mkD) (k:=unD) (fun a=>rfl)
theorem YdN (e:Entr) (h:Yeq e):1≤(YaB e).length:=by
 have:=YQ (t:=e.key);simp only[YaB,Gc];omega
theorem Yde (d:Done) (h:YeI d):1≤(Y0 d).length:=by
 have:=putB_pos d.client.toNat;simp only[Y0,Gc];omega
abbrev ShT:=Nat×Nat×Nat×Nat×Nat×Nat×Nat×List UInt8×List UInt8×Stamp×Stamp×List Entr×List Done
def mkS (p:ShT):Shd:=
 ⟨p.1,p.2.1,⟨p.2.2.2.2.2.2.2.1,p.2.2.2.2.2.2.2.2.1⟩,p.2.2.1,p.2.2.2.2.2.2.2.2.2.2.2.1,p.2.2.2.2.2.2.2.2.2.1,p.2.2.2.2.2.2.2.2.2.2.1,p.2.2.2.2.2.2.2.2.2.2.2.2,p.2.2.2.1,p.2.2.2.2.1,p.2.2.2.2.2.1,p.2.2.2.2.2.2.1⟩
def unS (s:Shd):ShT:=(s.id.toNat,s.epoch.toNat,s.phase.toNat,s.hold.toNat,s.seen.toNat,s.move.toNat,s.closed.toNat,s.span.lo,s.span.hi,s.mark,s.top,s.ents,s.done)
def gSh (D:Bool):Rd→Shd×Rd:=mapR mkS (pairR (gN D) (pairR (gN D) (pairR (gN D) (pairR (gN D) (pairR (gN D) (pairR (gN D) (pairR (gN D) (pairR (gT D) (pairR (gT D) (pairR (gS D) (pairR (gS D) (pairR (gL D (gE D)) (gL D (gD D))))))))))))))
def shB (s:Shd):List UInt8:=putB s.id.toNat++(putB s.epoch.toNat++(putB s.phase.toNat++(putB s.hold.toNat++(putB s.seen.toNat++(putB s.move.toNat++(putB s.closed.toNat++(Yh s.span.lo++(Yh s.span.hi++(stB s.mark++(stB s.top++(YH YaB s.ents++YH Y0 s.done)))))))))))
def ShV (s:Shd):Prop:=(s.id.toNat<2 ^ 63∧s.epoch.toNat<2 ^ 63∧s.phase.toNat<2 ^ 63∧s.hold.toNat<2 ^ 63∧s.seen.toNat<2 ^ 63∧s.move.toNat<2 ^ 63∧s.closed.toNat<2 ^ 63∧s.span.lo.length<2 ^ 63∧s.span.hi.length<2 ^ 63∧
 Ya s.mark=true∧Ya s.top=true∧(s.ents.length<2 ^ 63∧∀e∈s.ents,Yeq e)∧(s.done.length<2 ^ 63∧∀d∈s.done,YeI d))∧mkS (unS s)=s
theorem cSh {D:Bool}:Cod (gSh D) shB ShV:=
 ((cN (D:=D)).pair ((cN (D:=D)).pair ((cN (D:=D)).pair ((cN (D:=D)).pair ((cN (D:=D)).pair ((cN (D:=D)).pair ((cN (D:=D)).pair ((cT (D:=D)).pair ((cT (D:=D)).pair ((cS (D:=D)).pair ((cS (D:=D)).pair
  ((cL (D:=D) (cE (D:=D)) YdN).pair (cL (D:=D) (cD (D:=D)) Yde))))))))))))).map (g:=mkS) (k:=unS) (fun a=>rfl)
theorem YeC (s:Shd) (h:ShV s):1≤(shB s).length:=by
 have:=putB_pos s.id.toNat;simp only[shB,Gc];omega
def mkC (p:Stamp×Nat×List Shd):Cel:=⟨p.2.2,p.1,p.2.1⟩
def unC (c:Cel):Stamp×Nat×List Shd:=(c.top,c.dropped.toNat,c.shards)
def gC (D:Bool):Rd→Cel×Rd:=mapR mkC (pairR (gS D) (pairR (gN D) (gL D (gSh D))))
def cB (c:Cel):List UInt8:=stB c.top++(putB c.dropped.toNat++YH shB c.shards)
def CV (c:Cel):Prop:=(Ya c.top=true∧c.dropped.toNat<2 ^ 63∧(c.shards.length<2 ^ 63∧∀s∈c.shards,ShV s))∧mkC (unC c)=c
theorem cC {D:Bool}:Cod (gC D) cB CV:=
 ((cS (D:=D)).pair ((cN (D:=D)).pair (cL (D:=D) (cSh (D:=D)) YeC))).map (g:=mkC) (k:=unC) (fun a=>rfl)
def YcJ (l:List Shd):Prop:=l.Pairwise fun a b=>a.id<b.id
theorem YeL {top:Stamp}:∀{l:List Shd} {p:Int},cgo top p l=true↔YcJ l∧∀s∈l,p<s.id∧shR s=true∧uptoE s top=true
 |[],p=>by simp[cgo,YcJ]
 |s::l,p=>by
  simp only[cgo,Gk,Gq,YeL (l:=l),YcJ,G0,GK,forall_eq_or_imp];constructor
  ·rintro⟨h1,h2,h3,h4,h5⟩;exact⟨⟨fun x hx=>(h5 x hx).1,h4⟩,⟨h1,h2,h3⟩,fun x hx=>⟨by have:=(h5 x hx).1;omega,(h5 x hx).2⟩⟩
  ·rintro⟨⟨h1,h2⟩,⟨h3,h4,h5⟩,h6⟩;exact⟨h3,h4,h5,h2,fun x hx=>⟨h1 x hx,(h6 x hx).2⟩⟩
theorem Yff {c:Cel}:Yam c=true↔c.shards.length≤8∧Ya c.top=true∧nou c.dropped=true∧YcJ c.shards∧∀s∈c.shards,0<s.id∧shR s=true∧uptoE s c.top=true:=by
 simp only[Yam,Gk,Gq,YeL]
theorem Ycv:∀{l:List Ver} {p:Option Ver},chR p l=true→∀v∈l,Yt v=true
 |[],_,_,v,hv=>by simp at hv
 |a::l,p,h,v,hv=>by
  simp only[chR,Gk] at h;rcases GK.1 hv with rfl|hv
  ·exact h.1.1
  ·exact Ycv h.2 v hv
theorem Ych:∀{l:List Entr} {p:Option Entr},ixG p l=true→∀v∈l,Ybj v=true
 |[],_,_,v,hv=>by simp at hv
 |a::l,p,h,v,hv=>by
  simp only[ixG,Gk] at h;rcases GK.1 hv with rfl|hv
  ·exact h.1
  ·exact Ych h.2.2 v hv
theorem YbF:∀{l:List Done} {p:Int},rtR p l=true→∀v∈l,rowR v=true
 |[],_,_,v,hv=>by simp at hv
 |a::l,p,h,v,hv=>by
  simp only[rtR,Gk] at h;rcases GK.1 hv with rfl|hv
  ·exact h.2.1
  ·exact YbF h.2.2 v hv
theorem YiF {v:Ver} (h:Yt v=true):YgK v:=by
 simp only[Yt,Gk,Gq] at h;exact⟨⟨h.1.1,Gs,by omega⟩,Gs⟩
theorem Yfl {e:Entr} (h:Ybj e=true):Yeq e:=by
 simp only[Ybj,Yg,Gk,Gq] at h;obtain⟨h1,h2,h3,h4⟩:=h;exact⟨by have:=(YD h1).1;omega,by omega,fun v hv=>YiF (Ycv h3 v hv)⟩
theorem Y3 {n:Int} (h:0≤n):((n.toNat:Nat):Int)=n:=by omega
theorem Yis {d:Done} (h:rowR d=true):YeI d:=by
 simp only[rowR,YK,Ybk,Gk,Gq,GE] at h;obtain⟨⟨a1,a2⟩,⟨b1,b2⟩,c1,c2,c3,c4,c5,c6,c7⟩:=h;refine⟨⟨by omega,by omega,by omega,c3,Gs,by omega⟩,?_⟩;obtain⟨cl,rq,⟨er,at_,fo,va,it,nx,mo⟩⟩:=d;simp only at a1 b1 c1 c5 c6 c7;subst c5;subst c6;subst c7;simp only[mkD,unD,Y3 (show (0:Int)≤cl by omega),Y3 (show (0:Int)≤rq by omega),Y3 c1]
theorem YdW {s:Shd} (h:shR s=true):ShV s:=by
 simp only[shR,shR0,YK,nou,Ys,ixR,YF,Gk,G8,Gq,Gz] at h;obtain⟨⟨⟨a1,a2⟩,⟨b1,b2⟩,⟨c1,c2⟩,⟨d1,d2⟩,⟨e1,e2⟩,⟨f1,f2⟩,g1,g2,⟨i1,i2⟩,⟨j1,j2⟩,k1,k2,l1,l2⟩,-⟩:=h;refine⟨⟨by omega,by omega,by omega,by omega,by omega,by omega,by omega,?_,?_,k1,k2,⟨by omega,fun e he=>Yfl (Ych j2 e he)⟩,⟨by omega,fun d hd=>Yis (YbF l1 d hd)⟩⟩,?_⟩
 ·rcases i1 with i1|i1
  ·rw[i1];simp
  ·have:=(YD i1).1;omega
 ·rcases i2 with i2|i2
  ·rw[i2];simp
  ·have:=(YD i2.1).1;omega
 ·obtain⟨id,ep,⟨lo,hi⟩,ph,en,mk,tp,dn,ho,se,mv,cl⟩:=s;simp only at a1 b1 c1 d1 e1 f1 g1;simp only[mkS,unS,Y3 (show (0:Int)≤id by omega),Y3 (show (0:Int)≤ep by omega),Y3 c1,Y3 d1,Y3 e1,Y3 f1,Y3 (show (0:Int)≤ph by omega)]
theorem Yes {c:Cel} (h:Yam c=true):CV c:=by
 obtain⟨h1,h2,h3,h4,h5⟩:=Yff.1 h;simp only[nou,Gk,Gq] at h3;refine⟨⟨h2,by omega,by omega,fun s hs=>YdW (h5 s hs).2.1⟩,?_⟩;obtain⟨sh,tp,dr⟩:=c;simp only at h3;simp only[mkC,unC,Y3 h3.1]
def tkC (t:List UInt8):Option Cel:=if (gC false (t,false)).2=([],false)∧Yam (gC false (t,false)).1=true then some (gC false (t,false)).1 else none
theorem YdY {t:List UInt8} {c:Cel}:tkC t=some c↔t=cB c∧Yam c=true:=by
 unfold tkC;constructor
 ·intro h;split at h
  ·rename_i hc;simp only[Ga] at h;obtain⟨h1,h2⟩:=hc;obtain⟨g1,g2⟩:=(cC (D:=false)).get (s:=t) (r:=[]) (a:=c) (Prod.ext h h1);rw[h] at h2;exact⟨by rw[g1];simp,h2⟩
  ·cases h
 ·rintro⟨rfl,h⟩;have:=(cC (D:=false)).put (r:=[]) (Yes h);rw[GS] at this;rw[this,GB ⟨rfl,h⟩]
theorem tkC_doc {t:List UInt8}:(if (gC true (t,false)).2.2=false∧Yam (gC true (t,false)).1=true∧cB (gC true (t,false)).1=t then some (gC true (t,false)).1 else none)=tkC t:=by
 cases hq:tkC t with
 |some c=>
  obtain⟨rfl,h⟩:=YdY.1 hq;have:=(cC (D:=true)).put (r:=[]) (Yes h);rw[GS] at this;rw[this,GB ⟨rfl,h,rfl⟩]
 |none=>
  rw[Gv];rintro⟨h1,h2,h3⟩;rw[YdY.2 ⟨h3.symm,h2⟩] at hq;cases hq
structure Rb where
 s:List UInt8
 no:Bool
 h:s.length≤2 ^ 29
def Rb.d (x:Rb):Rd:=(x.s,x.no)
def eR (x:Rb):List V:=[.str x.s,.bool x.no]
theorem Ya2 (x:Rb):(eR x).all V.datC=true:=rfl
theorem Ydx (x:Rb) (z:Nat):V.nslice z∉eR x:=by simp[eR]
theorem Yic (x:Rb):(eR x).length=2:=rfl
theorem YjB (x:Rb):(eR x)[0]?=some (.str x.s):=rfl
theorem YjC (x:Rb):(eR x)[1]?=some (.bool x.no):=rfl
theorem YgV {A:AA} (x:Rb):Jag (eR x) A=some (eR x,A):=YcQ (Ya2 x) (Ydx x)
theorem YgW {A:AA} {d:Nat} (x:Rb):JI d (eR x) A=some (eR x,A):=YcW (Ya2 x)
variable {α β:Type}
structure Rg (α:Type) where
 f:Rd→α×Rd
 le:∀x,(f x).2.1.length≤x.1.length
def Rg.v (R:Rg α) (x:Rb):α:=(R.f x.d).1
def Rg.n (R:Rg α) (x:Rb):Rb:=⟨(R.f x.d).2.1,(R.f x.d).2.2,Gi (R.le x.d) x.h⟩
theorem Rg.k {R:Rg α} {f:Nat} {e:α→V} (k:∀x:Rd,x.1.length<2 ^ 62→K' Pg f [.tuple (.lref 0 0::eRd x)]=some (.tuple [e (R.f x).1,.tuple (eRd (R.f x).2)])) (x:Rb) :
  K' Pg f [.tuple (.lref 0 0::eR x)]=some (.tuple [e (R.v x),.tuple (eR (R.n x))]):=k x.d (by have:=x.h;show x.s.length<_;omega)
def uN (D:Bool):Rg Nat:=⟨gN D,cN.len⟩
def uT (D:Bool):Rg (List UInt8):=⟨gT D,cT.len⟩
def uF (D:Bool):Rg Bool:=⟨gF D,cF.len⟩
def uS (D:Bool):Rg Stamp:=⟨gS D,cS.len⟩
def Rg.pair (R:Rg α) (Q:Rg β):Rg (α×β):=⟨pairR R.f Q.f,fun x=>Gi (Q.le _) (R.le x)⟩
def Rg.map (g:α→β) (R:Rg α):Rg β:=⟨mapR g R.f,R.le⟩
theorem Rg.pair_v {R:Rg α} {Q:Rg β} {x:Rb}:(R.pair Q).v x=(R.v x,Q.v (R.n x)):=rfl
theorem Rg.pair_n {R:Rg α} {Q:Rg β} {x:Rb}:(R.pair Q).n x=Q.n (R.n x):=rfl
theorem Rg.map_v {g:α→β} {R:Rg α} {x:Rb}:(Rg.map g R).v x=g (R.v x):=rfl
theorem Rg.map_n {g:α→β} {R:Rg α} {x:Rb}:(Rg.map g R).n x=R.n x:=rfl
theorem YdU {R:Rg α}:∀(k:Nat) (x:Rd),(YO R.f k x).2.1.length≤x.1.length
 |0,x=>Gt _
 |k+1,x=>Gi (YdU k _) (R.le x)
theorem YdT {R:Rg α}:∀(k:Nat) (x:Rd),(YE R.f k x).2.1.length≤x.1.length
 |0,x=>Gt _
 |k+1,x=>by
  simp only[YE];split
  ·exact Gt _
  ·exact Gi (YdT k _) (R.le x)
def Rg.rep (D:Bool) (R:Rg α) (k:Nat):Rg (List α):=bif D then ⟨YE R.f k,YdT k⟩ else ⟨YO R.f k,YdU k⟩
theorem YfB (x:Rd):(rL x).2.1.length≤x.1.length:=by
 unfold rL;split
 ·exact codN.len x
 ·exact codN.len x
def uL (D:Bool):Rg Nat:=bif D then uN true else ⟨rL,YfB⟩
def Rg.lst (D:Bool) (R:Rg α):Rg (List α):=⟨gL D R.f,fun x=>by
 cases D
 ·exact Gi (YdU _ _) (YfB x)
 ·exact Gi (YdT _ _) (YaJ.len x)⟩
theorem Rg.lst_v {D:Bool} {R:Rg α} {x:Rb}:(R.lst D).v x=(R.rep D ((uL D).v x)).v ((uL D).n x)∧(R.lst D).n x=(R.rep D ((uL D).v x)).n ((uL D).n x):=by
 cases D<;>exact⟨rfl,rfl⟩
theorem YbY {x:Rb}:(uL false).v x≤2 ^ 29:=by
 have h1:=((uN false).n x).h
 show (rL x.d).1≤_
 unfold rL;split
 ·exact Gu _
 ·rename_i h;have h2:(rd (tk 9) 0 x.d).2.1.length≤2 ^ 29:=h1;omega
theorem rep_step {R:Rg α} {m j:Nat} {x y:Rb} {vs:List α} (hj:j<m) (h:(R.rep false m).v x=vs++(R.rep false (m-j)).v y∧(R.rep false m).n x=(R.rep false (m-j)).n y) :
  (R.rep false m).v x=(vs++[R.v y])++(R.rep false (m-(j+1))).v (R.n y)∧(R.rep false m).n x=(R.rep false (m-(j+1))).n (R.n y):=by
 rw[h.1,h.2,show m-j=(m-(j+1))+1 by omega,Gr]
 exact⟨rfl,rfl⟩
theorem Yau {R:Rg α} {m:Nat} {x y:Rb} {vs:List α} (h:(R.rep false m).v x=vs++(R.rep false (m-m)).v y∧(R.rep false m).n x=(R.rep false (m-m)).n y) :
  (R.rep false m).v x=vs∧(R.rep false m).n x=y:=by
 rw[h.1,h.2,Nat.sub_self]
 exact⟨GS _,rfl⟩
structure Place where
 span:Span
 shard:Int
 cell:Int
 epoch:Int
 deriving DecidableEq
@[go_sem] def ePl (p:Place):List V:=[.str p.span.lo,.str p.span.hi,iz p.shard,iz p.cell,iz p.epoch]
@[go_sem] def YC (l:List Place):V:=.slice 5 (l.map ePl)
def Yag (n:Int):Bool:=decide (1≤n)&&decide (n≤1099511627776)
def Ybl (n:Int):Bool:=decide (1≤n)&&decide (n≤3)
def Ybs (p:Place):Bool:=Yag p.shard&&(Yag p.epoch&&Ybl p.cell)
def gR:List Place→Bool
 |[]=>true
 |p::l=>Ybs p&&(!(l.any fun q=>decide (q.shard=p.shard))&&gR l)
def gA:List Place→List Place→Bool
 |_,[]=>true
 |seen,p::l=>Ybs p&&(!(seen.any fun q=>decide (q.shard=p.shard))&&gA (seen++[p]) l)
theorem Yhp:∀(l seen:List Place),gA seen l=(gR l&&l.all fun p=>!(seen.any fun q=>decide (q.shard=p.shard)))
 |[],seen=>by simp[gA,gR]
 |p::l,seen=>by
  have h1:(l.all fun q=>!((seen++[p]).any fun r=>decide (r.shard=q.shard)))=((l.all fun q=>!(seen.any fun r=>decide (r.shard=q.shard)))&&!(l.any fun q=>decide (q.shard=p.shard))):=by
   rw[List.not_any_eq_all_not];rw[Bool.eq_iff_iff];simp only[Gk,Gz,GE,List.any_append,List.any_cons,List.any_nil,Bool.or_false,Gao,GH];exact⟨fun h=>⟨fun q hq=>(h q hq).1,fun q hq=>fun e=>(h q hq).2 e.symm⟩,fun h q hq=>⟨h.1 q hq,fun e=>h.2 q hq e.symm⟩⟩
  simp only[gA,gR,List.all_cons,Yhp l (seen++[p]),h1];cases Ybs p<;>cases (seen.any fun q=>decide (q.shard=p.shard))<;>cases (l.any fun q=>decide (q.shard=p.shard))<;>cases gR l<;>simp
def Yz (l:List Place):Bool:=decide (l.length≤8)&&(gR l&&YaQ (l.map Place.span))
theorem YjD {l:List Place}:gA [] l=gR l:=by
 rw[Yhp];simp
def H162 (Pg:PgT):Prop:=Pg 162=some (.code F162)
theorem K162 (h:H162 Pg) (n:Int):K' Pg 162 [iz n]=some (.bool (Yag n)):=by
 refine Qa h rfl ?_;simp only[go_sem];cases c1:decide (1≤n)<;>simp only[go_sem,c1,Yag]
def H163 (Pg:PgT):Prop:=Pg 163=some (.code F163)
theorem K163 (h:H163 Pg) (n:Int):K' Pg 163 [iz n]=some (.bool (Ybl n)):=by
 refine Qa h rfl ?_;simp only[go_sem];cases c1:decide (1≤n)<;>simp only[go_sem,c1,Ybl]
theorem Yjj {n:Int}:decide (0<n)=decide (1≤n):=GM.2 (by omega)
def H173 (Pg:PgT):Prop:=Pg 173=some (.code F173)
theorem K173 (h:H173 Pg) (n:Int):K' Pg 173 [iz n]=some (.bool (Yag n)):=by
 refine Qa h rfl ?_;simp only[go_sem,Yjj];cases c1:decide (1≤n)<;>simp only[go_sem,c1,Yag]
def H164 (Pg:PgT):Prop:=Pg 164=some (.code F164)
theorem K164 (h:H164 Pg) (q p:Place):K' Pg 164 [.agg (ePl q),.cptr (ePl p) 0]=some (.bool (decide (q.shard=p.shard))):=by
 refine Qa h rfl ?_;simp only[go_sem]
def Ybp:List Place→(Place→Bool)→Nat→Int
 |[],_,_=>-1
 |a::l,p,i=>if p a then i else Ybp l p (i+1)
theorem Yeb:∀{l:List Place} {p:Place→Bool} {i:Nat},decide (0≤Ybp l p i)=l.any p
 |[],p,i=>by simp[Ybp]
 |a::l,p,i=>by
  simp only[Ybp];split
  ·rename_i h;simp[h]
  ·rename_i h;rw[Yeb];simp[h]
def H185 (Pg:PgT):Prop:=Pg 185=some (.code F185)
theorem K185 (h:H185 Pg) (l:List Place) (g:Nat) (cap:List V) (p:Place→Bool) (hl:l.length<2 ^ 60) (hg:∀x∈l,K' Pg g (.agg (ePl x)::cap)=some (.bool (p x))) :
  K' Pg 185 [YC l,.func g cap]=some (iz (Ybp l p 0)):=by
 refine Qa h rfl ?_
 simp only[ePl] at hg
 simp only[go_sem]
 unfold l185_0
 refine JiY (fun (i:Nat) S=>i≤l.length∧S.ρ 0=YC l∧S.ρ 1=.func g cap∧S.ρ 7=iz l.length∧S.ρ 8=iz i∧Ybp (l.drop i) p i=Ybp l p 0) (fun i=>l.length-i) 0 ?_ ?_
 ·simp[go_sem]
 ·intro i S ⟨hi,h0,h1,h7,h8,ho⟩
  simp only[go_sem,h7,h8]
  refine JiZ (fun h=>?_) (fun h=>?_)
  ·have h:=Ye h
   obtain⟨x,hx,hd⟩:=JiF h
   rw[hd] at ho
   have hgx:=hg x (List.mem_of_getElem? hx)
   simp only[go_sem,h0,h1,h8,hx,hgx]
   refine JiZ (fun hc=>?_) (fun hc=>?_)
   ·simp only[Ybp,hc,GO] at ho
    simp only[go_sem,←ho]
   ·simp only[Ybp,hc,Gx,GN] at ho
    simp only[go_sem,h0,h1,h7,h8]
    exact⟨i+1,by omega,by omega,by rw[Yi h hl],ho⟩
  ·have h:=Ym hi h
   subst h
   simp only[GF,Ybp] at ho
   simp only[go_sem,←ho]
def H165 (Pg:PgT):Prop:=Pg 165=some (.code F165)∧H185 Pg
theorem K165 (h:H165 Pg) (l:List Place) (g:Nat) (cap:List V) (p:Place→Bool) (hl:l.length<2 ^ 60) (hg:∀x∈l,K' Pg g (.agg (ePl x)::cap)=some (.bool (p x))) :
  K' Pg 165 [YC l,.func g cap]=some (.bool (l.any p)):=by
 obtain⟨h,h185⟩:=h
 have k:=K185 h185 l g cap p hl hg
 simp only[YC] at k
 refine Qa h rfl ?_
 simp only[go_sem,k,Yeb]
def H141 (Pg:PgT):Prop:=Pg 141=some (.code F141)∧H162 Pg∧H163 Pg∧H164 Pg∧H165 Pg∧H166 Pg
theorem K141 (h:H141 Pg) (l:List Place):K' Pg 141 [YC l]=some (.bool (Yz l)):=by
 obtain⟨h,h162,h163,h164,h165,h166⟩:=h;have k162:=fun x=>K162 h162 x;have k163:=fun x=>K163 h163 x;refine Qa h rfl ?_;simp only[go_sem];refine JiZ (fun hc=>?_) (fun hc=>?_)
 ·have hc:¬l.length≤8:=by have:=Gg hc;omega
  simp only[go_sem,Yz,hc]
 have hc:l.length≤8:=by have:=Gb hc;omega
 have hr:Yz l=(gR l&&YaQ (l.map Place.span)):=by simp[Yz,hc]
 rw[hr];have k166:=K166 h166 (l.map Place.span) (by simp;omega);simp only[Ycp] at k166;simp only[go_sem];unfold l141_0;refine JiY (fun (i:Nat) S=>i≤l.length∧S.ρ 0=YC l∧S.μ 5=none∧S.A 3=some (2,((l.take i).map Place.span).map YG,.live)∧S.ρ 3=.own 3 2 i∧S.ρ 9=YC l∧S.ρ 10=iz l.length∧S.ρ 11=iz i∧gA (l.take i) (l.drop i)=gR l) (fun i=>l.length-i) 0 ?_ ?_
 ·simp[go_sem,YjD]
 ·intro i S ⟨hi,h0,m5,a3,h3,h9,h10,h11,ho⟩;have hlim:((List.map Place.span (List.take i l)).map YG).length+1≤lim:=by simp[lim];omega
  have hil:((List.map Place.span (List.take i l)).map YG).length=i:=by simp;omega
  have hlim:i+1≤lim:=by simp[lim];omega
  simp only[go_sem,h10,h11];refine JiZ (fun h=>?_) (fun h=>?_)
  ·have h:=Ye h;obtain⟨x,hx,hd⟩:=JiF h;rw[hd] at ho;simp only[gA] at ho;have kc:=K165 h165 (l.take i) 164 [.cptr (ePl x) 0] (fun q=>decide (q.shard=x.shard)) (by simp;omega) (fun q _=>K164 h164 q x);simp only[YC,ePl,List.map_take] at kc;simp only[go_sem,m5,h9,h11,hx,k162];cases c1:Yag x.shard with
   |false=>
    simp only[Ybs,c1,Gj] at ho;simp only[go_sem,←ho]
   |true=>
   cases c2:Yag x.epoch with
   |false=>
    simp only[Ybs,c1,c2,Gj,Gm] at ho;simp only[go_sem,c2,←ho,k162]
   |true=>
   cases c3:Ybl x.cell with
   |false=>
    simp only[Ybs,c1,c2,c3,Gj,Gm] at ho;simp only[go_sem,c2,c3,←ho,k162,k163]
   |true=>
   simp only[Ybs,c1,c2,c3,Gn] at ho;simp only[go_sem,c2,c3,h0,k162,k163,hi,kc];cases c4:(l.take i).any (fun q=>decide (q.shard=x.shard)) with
   |true=>
    rw[c4] at ho;simp only[GI,Gj] at ho;simp only[go_sem,←ho]
   |false=>
    rw[c4] at ho;simp only[GJ,Gn] at ho;simp only[go_sem,h0,a3,h3,h9,h10,h11,hil,hlim];refine⟨i+1,by omega,by omega,?_,?_,by rw[Yi h (by omega)],by rw[YB hx];exact ho⟩
    ·rw[YB hx];simp[YG]
    ·rfl
  ·have h:=Ym hi h;subst h;rw[Gy] at a3 ho;rw[GF] at ho;have ho:true=gR l:=ho;simp only[go_sem,a3,h3,k166,←ho]
theorem Ybe {n:Int}:decide (n<1)=!decide (1≤n):=by by_cases h:1≤n<;>simp[h]<;>omega
theorem YbK {n:Int}:decide (3<n)=!decide (n≤3):=by by_cases h:n≤3<;>simp[h]<;>omega
def H147 (Pg:PgT):Prop:=Pg 147=some (.code F147)∧H173 Pg∧H174 Pg
theorem K147 (h:H147 Pg) (l:List Place):K' Pg 147 [YC l]=some (.bool (Yz l)):=by
 obtain⟨h,h173,h174⟩:=h;have k173:=fun x=>K173 h173 x;refine Qa h rfl ?_;simp only[go_sem];refine JiZ (fun hc=>?_) (fun hc=>?_)
 ·have hc:¬l.length≤8:=by have:=Gg hc;omega
  simp only[go_sem,Yz,hc]
 have hc:l.length≤8:=by have:=Gb hc;omega
 have hr:Yz l=(gR l&&YaQ (l.map Place.span)):=by simp[Yz,hc]
 rw[hr];have k174:=K174 h174 (l.map Place.span) (by simp;omega);simp only[Ycp] at k174;simp only[go_sem];unfold l147_0;refine JiY (fun (i:Nat) S=>i≤l.length∧S.ρ 0=YC l∧S.A 3=some (2,((l.take i).map Place.span).map YG,.live)∧S.ρ 3=.own 3 2 i∧S.ρ 4=iz i∧gR (l.drop i)=gR l) (fun i=>l.length-i) 0 ?_ ?_
 ·simp[go_sem]
 ·intro i S ⟨hi,h0,a3,h3,h4,ho⟩;have hil:((List.map Place.span (List.take i l)).map YG).length=i:=by simp;omega
  have hlim:i+1≤lim:=by simp[lim];omega
  simp only[go_sem,h0,h4];refine JiZ (fun h=>?_) (fun h=>?_)
  ·have h:=Ye h;obtain⟨x,hx,hd⟩:=JiF h;rw[hd] at ho;simp only[gR] at ho;simp only[go_sem,h0,a3,h3,h4,hx,k173,hil,hlim];cases c1:Yag x.shard with
   |false=>
    simp only[Ybs,c1,Gj] at ho;simp only[go_sem,←ho]
   |true=>
   cases c2:Yag x.epoch with
   |false=>
    simp only[Ybs,c1,c2,Gj,Gm] at ho;simp only[go_sem,c2,←ho,h0,h4,hx,k173]
   |true=>
   cases c3:decide (1≤x.cell) with
   |false=>
    simp only[Ybs,Ybl,c1,c2,c3,Gj,Gm] at ho;simp only[go_sem,c2,c3,←ho,h0,h4,hx,k173,Ybe]
   |true=>
   cases c4:decide (x.cell≤3) with
   |false=>
    simp only[Ybs,Ybl,c1,c2,c3,c4,Gj,Gm] at ho;simp only[go_sem,c2,c3,c4,←ho,h0,h4,hx,k173,Ybe,YbK]
   |true=>
   simp only[Ybs,Ybl,c1,c2,c3,c4,Gn,GW] at ho;have hinc:IntKind.i64.wrap ((i:Int)+1)=((i+1:Nat):Int):=Yi h (by omega);simp only[go_sem,c2,c3,c4,h0,h4,hx,k173,Ybe,YbK,hinc];unfold l147_1;refine JiY (fun (j:Nat) S=>(i+1≤j∧j≤l.length)∧S.ρ 0=YC l∧S.A 3=some (2,((l.take (i+1)).map Place.span).map YG,.live)∧S.ρ 3=.own 3 2 (i+1)∧S.ρ 4=iz i∧S.ρ 5=iz j∧((l.drop (i+1)).any fun q=>decide (q.shard=x.shard))=((l.drop j).any fun q=>decide (q.shard=x.shard))) (fun j=>l.length-j) (i+1) ?_ ?_
   ·simp[go_sem,h0,h4];refine⟨by omega,?_⟩;rw[←List.map_take,←List.map_take,YB hx];simp[YG]
   ·intro j S ⟨hj,h0,a3,h3,h4,h5,hw⟩;simp only[go_sem,h0,h5];refine JiZ (fun h'=>?_) (fun h'=>?_)
    ·have h':=Ye h';obtain⟨y,hy,hd'⟩:=JiF h';rw[hd'] at hw;simp only[List.any_cons] at hw;simp only[go_sem,h0,h4,h5,hx,hy];refine JiZ (fun he=>?_) (fun he=>?_)
     ·rw[he,Gab] at hw;rw[hw] at ho;simp only[GI,Gj] at ho;simp only[go_sem,←ho]
     ·rw[he,G4] at hw;simp only[go_sem,h0,a3,h3,h4,h5];exact⟨j+1,by omega,by omega,by rw[Yi h' (by omega)],hw⟩
    ·have h':j=l.length:=by have:=Gb h';omega
     have hw:((l.drop (i+1)).any fun q=>decide (q.shard=x.shard))=false:=by rw[hw,h',GF];rfl
     rw[hw] at ho;simp only[GJ,Gn] at ho;simp only[go_sem,h0,a3,h3,h4];exact⟨i+1,by omega,by omega,rfl,rfl,by rw[hinc],ho⟩
  ·have h:=Ym hi h;subst h;rw[Gy] at a3;rw[GF] at ho;have ho:true=gR l:=ho;simp only[go_sem,a3,h3,k174,←ho]
def Yad:Place:=⟨⟨[],[]⟩,0,0,0⟩
@[go_sem] def eOP (o:Option Place):V:=.tuple [.agg (ePl (o.getD Yad)),.bool o.isSome]
def YaM (l:List Place) (k:List UInt8):Option Place:=l.find? fun p=>decide (k=[])||Yax p.span k
structure Lse where
 id:Int
 lft:Int
 at_:Stamp
 deriving DecidableEq
@[go_sem] def Yah (l:Lse):List V:=[iz l.id,iz l.lft,iz l.at_.wall,iz l.at_.tick,iz l.at_.node]
@[go_sem] def YJ (l:List Lse):V:=.slice 5 (l.map Yah)
def YaZ (l:Lse):Bool:=decide (l.id≤1099511627776)&&(decide (1≤l.lft)&&(decide (l.lft≤20)&&Ya l.at_))
def rlR:Int→List Lse→Bool
 |_,[]=>true
 |p,d::l=>decide (p<d.id)&&(YaZ d&&rlR d.id l)
def YA (t:List Lse):Bool:=rlR 0 t&&decide (t.length≤4)
theorem Yei {p:Int} {d:Lse} {l:List Lse}:rlR p (d::l)=(decide (p<d.id)&&(YaZ d&&rlR d.id l)):=rfl
def Ya0 (t:List Lse) (i:Nat):Int:=if i=0 then 0 else (t[i-1]?.map Lse.id).getD 0
theorem Yef {a b:Int}:decide (b≤a)=!decide (a<b):=by by_cases h:a<b<;>simp[h]<;>omega
theorem YcF {a b:Int}:decide (b<a)=!decide (a≤b):=by by_cases h:a≤b<;>simp[h]<;>omega
theorem Yfq {a:Int}:decide (a<1)=!decide (1≤a):=by by_cases h:1≤a<;>simp[h]<;>omega
def H126 (Pg:PgT):Prop:=Pg 126=some (.code F126)∧H28 Pg
theorem K126 (h:H126 Pg) (t:List Lse) (hl:t.length<2 ^ 60):K' Pg 126 [YJ t]=some (.bool (YA t)):=by
 obtain⟨h,h28⟩:=h;have k28:=fun x=>K28 h28 x;simp only[Yd] at k28;refine Qa h rfl ?_;simp only[go_sem];unfold l126_0;refine JiY (fun (i:Nat) S=>i≤t.length∧S.ρ 0=YJ t∧S.μ 5=none∧S.ρ 3=iz (Ya0 t i)∧S.ρ 6=YJ t∧S.ρ 7=iz t.length∧S.ρ 8=iz i∧rlR (Ya0 t i) (t.drop i)=rlR 0 t) (fun i=>t.length-i) 0 ?_ ?_
 ·simp[go_sem,Ya0]
 ·intro i S ⟨hi,h0,m5,h3,h6,h7,h8,ho⟩;simp only[go_sem,h7,h8];refine JiZ (fun h=>?_) (fun h=>?_)
  ·have h:=Ye h;obtain⟨x,hx,hd⟩:=JiF h;have hnext:Ya0 t (i+1)=x.id:=by simp[Ya0,hx]
   rw[hd,Yei] at ho;have e1:decide (x.id≤Ya0 t i)=!decide (Ya0 t i<x.id):=Yef;have e2:decide (1099511627776<x.id)=!decide (x.id≤1099511627776):=YcF;have e3:decide (x.lft<1)=!decide (1≤x.lft):=Yfq;have e4:decide (20<x.lft)=!decide (x.lft≤20):=YcF;simp only[go_sem,m5,h3,h6,h8,hx,e1];cases c1:decide (Ya0 t i<x.id) with
   |false=>rw[c1] at ho;simp only[go_sem,YA,←ho]
   |true=>
   cases c2:decide (x.id≤1099511627776) with
   |false=>simp only[YaZ,c2,Gj,Gm] at ho;simp only[go_sem,c2,e2,YA,←ho]
   |true=>
   cases c3:decide (1≤x.lft) with
   |false=>simp only[YaZ,c3,Gj,Gm] at ho;simp only[go_sem,c2,c3,e2,e3,YA,←ho]
   |true=>
   cases c4:decide (x.lft≤20) with
   |false=>simp only[YaZ,c4,Gj,Gm] at ho;simp only[go_sem,c2,c3,c4,e2,e3,e4,YA,←ho]
   |true=>
   cases c5:Ya x.at_ with
   |false=>simp only[YaZ,c5,Gj,Gm] at ho;simp only[go_sem,c2,c3,c4,c5,e2,e3,e4,YA,←ho,k28]
   |true=>
    simp only[YaZ,c1,c2,c3,c4,c5,Gn] at ho;simp only[go_sem,c2,c3,c4,c5,e2,e3,e4,h0,h6,h7,h8,k28];exact⟨i+1,by omega,by omega,by rw[hnext],by rw[Yi h hl],by rw[hnext];exact ho⟩
  ·have h:=Ym hi h;subst h;simp only[GF,rlR] at ho;have e8:decide ((t.length:Int)≤4)=decide (t.length≤4):=GM.2 (by omega);simp only[go_sem,h0,YA,←ho,e8]
def H114 (Pg:PgT):Prop:=Pg 114=some (.code F114)∧H24 Pg
theorem K114 (h:H114 Pg) (t:List Lse) (hl:t.length<2 ^ 60):K' Pg 114 [YJ t]=some (.bool (YA t)):=by
 obtain⟨h,h24⟩:=h;have k24:=fun x=>K24 h24 x;simp only[Yd] at k24;refine Qa h rfl ?_;simp only[go_sem];refine JiZ (fun hc=>?_) (fun hc=>?_)
 ·have hc:¬t.length≤4:=by have:=Gg hc;omega
  simp only[go_sem,YA,hc]
 have hc:t.length≤4:=by have:=Gb hc;omega
 have hrt:YA t=rlR 0 t:=by simp[YA,hc]
 simp only[go_sem];unfold l114_0;refine JiY (fun (i:Nat) S=>i≤t.length∧S.ρ 0=YJ t∧S.ρ 3=iz i∧rlR (Ya0 t i) (t.drop i)=rlR 0 t∧0≤Ya0 t i) (fun i=>t.length-i) 0 ?_ ?_
 ·simp[go_sem,Ya0]
 ·intro i S ⟨hi,h0,h3,ho,hp0⟩;simp only[go_sem,h0,h3];refine JiZ (fun h=>?_) (fun h=>?_)
  ·have h:=Ye h;obtain⟨x,hx,hd⟩:=JiF h;have hnext:Ya0 t (i+1)=x.id:=by simp[Ya0,hx]
   rw[hd,Yei] at ho;have e0:decide (x.id<1)=!decide (1≤x.id):=Yfq;have e2:decide (1099511627776<x.id)=!decide (x.id≤1099511627776):=YcF;have e3:decide (x.lft<1)=!decide (1≤x.lft):=Yfq;have e4:decide (20<x.lft)=!decide (x.lft≤20):=YcF;simp only[go_sem,h0,h3,hx,e0];cases c1:decide (1≤x.id) with
   |false=>
    have:decide (Ya0 t i<x.id)=false:=by have:=Gb c1;simp;omega
    rw[this] at ho;simp only[go_sem,hrt,←ho]
   |true=>
   cases c2:decide (x.id≤1099511627776) with
   |false=>simp only[YaZ,c2,Gj,Gm] at ho;simp only[go_sem,c2,e2,hrt,←ho,h0,h3,hx]
   |true=>
   cases c3:decide (1≤x.lft) with
   |false=>simp only[YaZ,c3,Gj,Gm] at ho;simp only[go_sem,c2,c3,e2,e3,hrt,←ho,h0,h3,hx]
   |true=>
   cases c4:decide (x.lft≤20) with
   |false=>simp only[YaZ,c4,Gj,Gm] at ho;simp only[go_sem,c2,c3,c4,e2,e3,e4,hrt,←ho,h0,h3,hx]
   |true=>
   cases c5:Ya x.at_ with
   |false=>simp only[YaZ,c5,Gj,Gm] at ho;simp only[go_sem,c2,c3,c4,c5,e2,e3,e4,hrt,←ho,h0,h3,hx,k24]
   |true=>
    simp only[YaZ,c2,c3,c4,c5,Gn] at ho;have hx1:1≤x.id:=Gg c1;simp only[go_sem,c2,c3,c4,c5,e2,e3,e4,h0,h3,hx,k24,YeA];rcases GT i with hz|hz
    ·have hz':decide (i=0)=true:=by simp[hz]
     have hp:decide (Ya0 t i<x.id)=true:=by simp[Ya0,hz];omega
     rw[hp,Gn] at ho;simp only[go_sem,hz',h0,h3];exact⟨i+1,by omega,by omega,by rw[Yi h hl],by rw[hnext];exact ho,by rw[hnext];omega⟩
    ·have hz':decide (i=0)=false:=by simp;omega
     obtain⟨y,hy,-⟩:=JiF (l:=t) (i:=i-1) (by omega);have hp:Ya0 t i=y.id:=by simp[Ya0,hy];omega
     have hdec:=Ycm hz (by omega);rw[hp] at ho;have e1:decide (x.id≤y.id)=!decide (y.id<x.id):=Yef;simp only[go_sem,hz',h0,h3,hx,hdec,hy,e1];cases c1:decide (y.id<x.id) with
     |false=>rw[c1] at ho;simp only[go_sem,hrt,←ho]
     |true=>
      rw[c1,Gn] at ho;simp only[go_sem,h0,h3];exact⟨i+1,by omega,by omega,by rw[Yi h hl],by rw[hnext];exact ho,by rw[hnext];omega⟩
  ·have h:=Ym hi h;subst h;simp only[GF,rlR] at ho;simp only[go_sem,hrt,←ho]
def H116 (Pg:PgT):Prop:=Pg 116=some (.code F116)
theorem K116 (h:H116 Pg) (t:List Lse) (hl:t.length<2 ^ 60):K' Pg 116 [YJ t,YJ t]=some (.bool true):=by
 refine Qa h rfl ?_;simp only[go_sem];unfold l116_0;refine JiY (fun (i:Nat) S=>i≤t.length∧S.ρ 0=YJ t∧S.ρ 1=YJ t∧S.ρ 5=iz i) (fun i=>t.length-i) 0 ?_ ?_
 ·simp[go_sem]
 ·intro i S ⟨hi,h0,h1,h5⟩;simp only[go_sem,h0,h5];refine JiZ (fun h=>?_) (fun h=>?_)
  ·have h:=Ye h;obtain⟨x,hx,hd⟩:=JiF h;simp only[go_sem,h0,h1,h5,hx];exact⟨i+1,by omega,by omega,by rw[Yi h hl]⟩
  ·simp only[go_sem]
theorem YbP {p:Int} {d:Lse} {l:List Lse} (h:rlR p (d::l)=true):p<d.id∧YaZ d=true∧rlR d.id l=true:=by
 simpa [rlR] using h
theorem Ydo:∀{l:List Lse} {p:Int} {d:Lse},rlR p l=true→d∈l→p<d.id
 |[],_,_,_,h=>by simp at h
 |a::l,p,d,h,hd=>by
  obtain⟨h1,-,h3⟩:=YbP h;rcases GK.1 hd with rfl|hd
  ·exact h1
  ·have:=Ydo h3 hd;omega
theorem Yej:∀{l:List Lse} {p:Int} {d:Lse},rlR p l=true→d∈l→YaZ d=true
 |[],_,_,_,h=>by simp at h
 |a::l,p,d,h,hd=>by
  obtain⟨-,h2,h3⟩:=YbP h;rcases GK.1 hd with rfl|hd
  ·exact h2
  ·exact Yej h3 hd
theorem YaS {t:List Lse} (h:YA t=true):rlR 0 t=true∧t.length≤4:=by simpa [YA] using h
@[go_sem] def Yao (l:List Stamp):V:=.slice 3 (l.map Yd)
theorem Yaw {T:Nat→Option Fn} (h:∀f x,T f=some x→Pg f=some x):∀n,Le (Jn T n) (Jn Pg n)
 |0=>fun f a r h=>by simp[Jn] at h
 |n+1=>fun f a r hr=>by
  rw[Jn] at hr ⊢;split at hr
  ·simp at hr
  ·rename_i o p hT;rw[h _ _ hT];exact hr
  ·rename_i F k hT;rw[h _ _ hT];simp only;split at hr<;>try (simp at hr;done)
   rename_i hl;rw[GB hl];split at hr<;>try (simp at hr;done)
   simp only[Ge] at hr ⊢;obtain⟨x,h0,y,h1,h2⟩:=hr;exact⟨x,h0,y,Jr (Yaw h n) (Gt n) h1,h2⟩
  ·rename_i F hT;rw[h _ _ hT];simp only;split at hr<;>try (simp at hr;done)
   rename_i hl;rw[GB hl];simp only[Ge] at hr ⊢;obtain⟨x,h1,h2⟩:=hr;exact⟨x,Jr (Yaw h n) (Gt n) h1,h2⟩
def Yal:List (Nat×Fn)→Nat→Option Fn
 |[],_=>none
 |a::l,n=>bif Nat.beq a.1 n then some a.2 else Yal l n
theorem YaE:∀{l:List (Nat×Fn)},(∀a∈l,Pg a.1=some a.2)→∀f x,Yal l f=some x→Pg f=some x
 |[],_,f,x,h=>by simp[Yal] at h
 |a::l,ha,f,x,h=>by
  rw[Yal] at h;cases q:Nat.beq a.1 f with
  |true=>
   rw[q,cond_true] at h;rw[←Nat.eq_of_beq_eq_true q,←h];exact ha a (.head _)
  |false=>
   rw[q,cond_false] at h;exact YaE (fun b hb=>ha b (.tail _ hb)) f x h
structure Inf where
 view:Int
 mem:List Int
 whole:Bool
 deriving DecidableEq
structure Jb where
 kind:Int
 step:Int
 id:Int
 shard:Int
 other:Int
 cell:Int
 to:Int
 epoch:Int
 key:List UInt8
 parts:List (List UInt8)
 of_:Int
 client:Int
 req:Int
 span:Span
 wait:List Int
 at_:Stamp
 mem:List Int
structure ORw where
 client:Int
 req:Int
 lease:Int
 at_:Stamp
 err:Int
structure Drc where
 places:List Place
 cells:List Inf
 next:Int
 leases:List Lse
 lows:List Stamp
 mark:Stamp
 job:Jb
 opened:List ORw
def eS1 (s:List UInt8):List V:=[.str s]
@[go_sem] def Ycz (l:List (List UInt8)):V:=.slice 1 (l.map eS1)
@[go_sem] def Yco (i:Inf):List V:=[iz i.view,Yf i.mem,.bool i.whole]
@[go_sem] def Ydv (l:List Inf):V:=.slice 3 (l.map Yco)
@[go_sem] def eJb (j:Jb):List V:=[iz j.kind,iz j.step,iz j.id,iz j.shard,iz j.other,iz j.cell,iz j.to,iz j.epoch,.str j.key,Ycz j.parts,iz j.of_,iz j.client,iz j.req,.str j.span.lo,.str j.span.hi,Yf j.wait,iz j.at_.wall,iz j.at_.tick,iz j.at_.node,Yf j.mem]
@[go_sem] def YcL (r:ORw):List V:=[iz r.client,iz r.req,iz r.lease,iz r.at_.wall,iz r.at_.tick,iz r.at_.node,iz r.err]
@[go_sem] def YeO (l:List ORw):V:=.slice 7 (l.map YcL)
@[go_sem] def YT (d:Drc):List V:=[YC d.places,Ydv d.cells,iz d.next,YJ d.leases,Yao d.lows,iz d.mark.wall,iz d.mark.tick,iz d.mark.node,iz d.job.kind,iz d.job.step,iz d.job.id,iz d.job.shard,iz d.job.other,iz d.job.cell,iz d.job.to,iz d.job.epoch,.str d.job.key,Ycz d.job.parts,iz d.job.of_,iz d.job.client,iz d.job.req,.str d.job.span.lo,.str d.job.span.hi,Yf d.job.wait,iz d.job.at_.wall,iz d.job.at_.tick,iz d.job.at_.node,Yf d.job.mem,YeO d.opened]
theorem Yep {α β:Type} {l:List α} {f:α→β} {i:Nat} {x:α} (h:l[i]?=some x):(l.take (i+1)).map f=(l.take i).map f++[f x]:=by
 rw[YB h,Gw];rfl
@[go_sem] def Yd2:List V:=[.slice 5 [],.slice 3 [],.int .i64 0,.slice 5 [],.slice 3 [],.int .i64 0,.int .i64 0,.int .i64 0,.int .i64 0,.int .i64 0,.int .i64 0,.int .i64 0,.int .i64 0,.int .i64 0,.int .i64 0,.int .i64 0,.str [],.slice 1 [],.int .i64 0,.int .i64 0,.int .i64 0,.str [],.str [],.slice 1 [],.int .i64 0,.int .i64 0,.int .i64 0,.slice 1 [],.slice 7 []]
@[go_sem] def bx (d:Drc) (c o:V):List V:=[YC d.places,c,iz d.next,YJ d.leases,Yao d.lows,iz d.mark.wall,iz d.mark.tick,iz d.mark.node,iz d.job.kind,iz d.job.step,iz d.job.id,iz d.job.shard,iz d.job.other,iz d.job.cell,iz d.job.to,iz d.job.epoch,.str d.job.key,Ycz d.job.parts,iz d.job.of_,iz d.job.client,iz d.job.req,.str d.job.span.lo,.str d.job.span.hi,Yf d.job.wait,iz d.job.at_.wall,iz d.job.at_.tick,iz d.job.at_.node,Yf d.job.mem,o]
def nilOr (s z n:Nat):V:=if n=0 then .nslice z else .own s z n
def YY (z:Nat) (rows:List (List V)) (n:Nat):Option (Nat×List (List V)×Fz):=if n=0 then none else some (z,rows,.live)
theorem YeV {s z:Nat}:nilOr s z 0=.nslice z:=rfl
@[go_sem] theorem YiH {s z n:Nat}:(nilOr s z n).cells=some [nilOr s z n]:=by unfold nilOr;split<;>rfl
theorem Yfv {z:Nat} {rows:List (List V)}:YY z rows 0=none:=rfl
def apQ (S:St) (s z n:Nat) (y:V) (a:Option (Nat×List (List V)×Fz)):Option (V×St):=if n=0 then Jft S s z y a else apA S s z n y a
theorem YI {S:St} {s z n:Nat} {y:V}:appN S s z (nilOr s z n) y=apQ S s z n y (S.A s):=by
 unfold nilOr apQ;split
 ·exact Jfv
 ·rw[Jfw,Jhs]
theorem YV {S:St} {s z n:Nat} {rows:List (List V)} {r:List V} (hr:rows.length=n) (hl:n+1≤lim) :
  apQ S s z n (.slice z [r]) (YY z rows n)=some (nilOr s z (n+1),⟨S.ρ,S.μ,upd S.A s (YY z (rows++[r]) (n+1))⟩):=by
 have e1:nilOr s z (n+1)=.own s z (n+1):=rfl
 have e2:YY z (rows++[r]) (n+1)=some (z,rows++[r],.live):=rfl
 rw[e1,e2]
 unfold apQ YY
 split
 ·rename_i h
  subst h
  have hr:rows=[]:=GD hr
  subst hr
  have:1≤lim:=by simpa using hl
  simp[Jft,V.rowsOf,this]
 ·rw[Jhr]
  simp[V.rowsOf,hr,hl]
theorem Yq {A:Nat→Option (Nat×List (List V)×Fz)} {s z n:Nat} {rows:List (List V)} (hA:A s=YY z rows n) (hr:rows.length=n):toDC A (nilOr s z n)=some (.slice z rows):=by
 unfold nilOr;split
 ·rename_i h;subst h;have hr:rows=[]:=GD hr;rw[hr,Jfh]
 ·rename_i h;have:A s=some (z,rows,.live):=by rw[hA,YY,Gv h]
  simp[toDC,this,hr]
theorem K324g {f:Nat} (h:Pg f=some (.code F324)) (d:Drc) (hc:d.cells.length≤1048576) (ho:d.opened.length≤1048576):K' Pg f [.agg (YT d)]=some (.agg (YT d)):=by
 refine Qa h rfl ?_;simp only[go_sem];unfold l324_0;refine JiY (fun (i:Nat) S=>i≤d.cells.length∧S.ρ 1=.lref 1 0∧S.μ 1=some (YT d,false)∧S.ρ 2=.lref 2 0∧S.μ 2=some (Yd2,false)∧S.ρ 3=.lref 3 0∧S.μ 3=some (bx d (nilOr 32 3 i) (.nslice 7),false)∧S.A 32=YY 3 ((d.cells.take i).map Yco) i∧S.A 46=none∧S.μ 5=none∧S.μ 7=none∧S.ρ 22=Ydv d.cells∧S.ρ 23=iz d.cells.length∧S.ρ 24=iz i) (fun i=>d.cells.length-i) 0 ?_ ?_
 ·simp[go_sem,YeV,Yfv]
 ·intro i S ⟨hi,h1,m1,h2,m2,h3,m3,a32,a46,m5,m7,h22,h23,h24⟩;simp only[go_sem,h23,h24];refine JiZ (fun hlt=>?_) (fun hlt=>?_)
  ·have hlt:=Ye hlt;obtain⟨x,hx,-⟩:=JiF hlt;have hil:((d.cells.take i).map Yco).length=i:=by simp;omega
   have ha:=fun S=>YV (S:=S) (s:=32) (z:=3) (r:=Yco x) hil (by simp[lim];omega);simp only[Yco,Yf] at ha;simp only[go_sem,h1,m1,h2,m2,h3,m3,a32,a46,m5,m7,h22,h23,h24,hx,YI,ha];exact⟨i+1,by omega,by omega,rfl,by rw[Yep hx];rfl,by rw[Yi hlt (by omega)]⟩
  ·have hlt:=Ym hi hlt;subst hlt;rw[Gy] at a32;simp only[go_sem,h1,m1,h2,m2];unfold l324_1;clear h22 h23 h24;refine JiY (fun (i:Nat) S=>i≤d.opened.length∧S.ρ 2=.lref 2 0∧S.μ 2=some (Yd2,false)∧S.ρ 3=.lref 3 0∧S.μ 3=some (bx d (nilOr 32 3 d.cells.length) (nilOr 46 7 i),false)∧S.A 32=YY 3 (d.cells.map Yco) d.cells.length∧S.A 46=YY 7 ((d.opened.take i).map YcL) i∧S.μ 7=none∧S.ρ 36=YeO d.opened∧S.ρ 37=iz d.opened.length∧S.ρ 38=iz i) (fun i=>d.opened.length-i) 0 ?_ ?_
   ·simp[go_sem,YeV,Yfv,h2,m2,h3,m3,a32,a46]
   ·intro i S ⟨hi,h2,m2,h3,m3,a32,a46,m7,h36,h37,h38⟩;simp only[go_sem,h37,h38];refine JiZ (fun hlt=>?_) (fun hlt=>?_)
    ·have hlt:=Ye hlt;obtain⟨x,hx,-⟩:=JiF hlt;have hil:((d.opened.take i).map YcL).length=i:=by simp;omega
     have ha:=fun S=>YV (S:=S) (s:=46) (z:=7) (r:=YcL x) hil (by simp[lim];omega);simp only[YcL] at ha;simp only[go_sem,h2,m2,h3,m3,a32,a46,m7,h36,h37,h38,hx,YI,ha];exact⟨i+1,by omega,by omega,rfl,by rw[Yep hx];rfl,by rw[Yi hlt (by omega)]⟩
    ·have hlt:=Ym hi hlt;subst hlt;rw[Gy] at a46;have t1:=Yq a32 (by simp);have t2:=Yq a46 (by simp);simp only[go_sem,h2,m2,h3,m3,t1,t2]
def frQ (m n:Int):Bool:=!(decide (n<m)||decide (1099511627776<n))
def Yu (n:Int):Bool:=frQ 0 n
theorem YdG {m:Int}:∀{l:List Int},(!(l.any fun n=>decide (n<m)||decide (1099511627776<n)))=l.all (frQ m)
 |[]=>rfl
 |a::l=>by
  simp only[List.any_cons,List.all_cons,←YdG (l:=l),frQ,Bool.not_or]
def H369 (Pg:PgT):Prop:=Pg 369=some (.code F369)
theorem K369 (h:H369 Pg) (n m:Int):K' Pg 369 [iz n,.cptr [iz m] 0]=some (.bool (decide (n<m)||decide (1099511627776<n))):=by
 refine Qa h rfl ?_;cases c:decide (n<m)<;>simp only[go_sem,c,Gab,G4]
def H347 (Pg:PgT):Prop:=Pg 347=some (.code F347)∧H67 Pg∧H369 Pg
theorem K347 (h:H347 Pg) (m:Int) (l:List Int) (hl:l.length<2 ^ 60):K' Pg 347 [iz m,Yf l]=some (.bool (l.all (frQ m))):=by
 obtain⟨h,h67,h369⟩:=h;have k:=K67 h67 l 369 [.cptr [iz m] 0] (fun n=>decide (n<m)||decide (1099511627776<n)) hl rfl (fun n _=>K369 h369 n m);simp only[Yf] at k;refine Qa h rfl ?_;rw[←YdG];simp only[go_sem,Yf,k]
theorem K347a (h:H347 Pg) (m a:Int):K' Pg 347 [iz m,.slice 1 [[iz a]]]=some (.bool (frQ m a)):=by
 have:=K347 h m [a] (by simp);simpa [Yf] using this
theorem K347b (h:H347 Pg) (m a b:Int):K' Pg 347 [iz m,.slice 1 [[iz a],[iz b]]]=some (.bool (frQ m a&&frQ m b)):=by
 have:=K347 h m [a,b] (by simp);simpa [Yf] using this
def YcM (j:Jb):Bool:=Yu j.id&&(Yu j.shard&&(Yu j.other&&(Yu j.epoch&&(Yu j.of_&&(Yu j.client&&Yu j.req)))))
theorem K347g (h:H347 Pg) (j:Jb):K' Pg 347 [iz 0,.slice 1 [[iz j.id],[iz j.shard],[iz j.other],[iz j.epoch],[iz j.of_],[iz j.client],[iz j.req]]]=some (.bool (YcM j)):=by
 have:=K347 h 0 [j.id,j.shard,j.other,j.epoch,j.of_,j.client,j.req] (by simp);simpa [Yf,YcM,Yu,Bool.and_assoc] using this
def H349 (Pg:PgT):Prop:=Pg 349=some (.code F349)
theorem K349 (h:H349 Pg) (n:Int):K' Pg 349 [iz n]=some (.bool (Yu n)):=by
 have e1:decide (n<0)=!decide (0≤n):=by by_cases h:0≤n<;>simp[h]<;>omega
 have e2:decide (1099511627776<n)=!decide (n≤1099511627776):=by by_cases h:n≤1099511627776<;>simp[h]<;>omega
 refine Qa h rfl ?_;unfold Yu frQ;rw[e1,e2];cases c:decide (0≤n)<;>cases c2:decide (n≤1099511627776)<;>simp only[go_sem,c,c2]
def YiJ (l:List Int):Prop:=l≠[]∧(∀m∈l,1≤m∧m≤3)∧l.Nodup
instance (l:List Int):Decidable (YiJ l):=inferInstanceAs (Decidable (_∧_∧_))
def Yb1 (l:List Int):Bool:=decide (YiJ l)
theorem Ycj {l:List Int} {i:Nat} {x:Int} (hx:l[i]?=some x) (h:¬(1≤x∧x≤3)∨x∈l.take i):Yb1 l=false:=by
 refine Gp ?_;rintro⟨-,h2,h3⟩;rcases h with h|h
 ·exact h (h2 x (List.mem_of_getElem? hx))
 ·have hi:i<l.length:=by
   rcases GG i l.length with h|h
   ·exact h
   ·rw[List.getElem?_eq_none h] at hx;simp at hx
  obtain⟨y,hy,hd⟩:=JiF hi;have:x=y:=by rw[hx] at hy;simpa using hy
  subst this;rw[←GY i l,hd,Gae] at h3;exact h3.2.2 x h x (Gac ..) rfl
theorem Yeo {l:List Int} {i:Nat} {x:Int} (hx:l[i]?=some x) (h:(∀m∈l.take i,1≤m∧m≤3)∧(l.take i).Nodup) (h1:1≤x∧x≤3) (h2:x∉l.take i) :
  (∀m∈l.take (i+1),1≤m∧m≤3)∧(l.take (i+1)).Nodup:=by
 rw[YB hx]
 refine⟨fun m hm=>?_,?_⟩
 ·rcases GP.1 hm with hm|hm
  ·exact h.1 m hm
  ·have:m=x:=by simpa using hm
   rw[this];exact h1
 ·rw[Gae]
  refine⟨h.2,by simp,fun a ha b hb e=>?_⟩
  have:b=x:=by simpa using hb
  rw[←this,←e] at h2
  exact h2 ha
theorem Ye4 {l:List Int} (h1:∀m∈l,1≤m∧m≤3) (h2:l.Nodup):decide ((0:Int)<(l.length:Int))=Yb1 l:=by
 refine GM.2 ⟨fun e=>⟨fun h=>by subst h;simp at e,h1,h2⟩,fun e=>?_⟩;have:=Gam.2 e.1;omega
def H348 (Pg:PgT):Prop:=Pg 348=some (.code F348)∧H65 Pg
theorem K348 (h:H348 Pg) (l:List Int) (hl:l.length<2 ^ 60):K' Pg 348 [Yf l]=some (.bool (Yb1 l)):=by
 obtain⟨h,h65⟩:=h;refine Qa h rfl ?_;simp only[go_sem];unfold l348_0;refine JiY (fun (i:Nat) S=>i≤l.length∧S.ρ 0=Yf l∧S.ρ 5=Yf l∧S.ρ 6=iz l.length∧S.ρ 7=iz i∧(∀m∈l.take i,1≤m∧m≤3)∧(l.take i).Nodup) (fun i=>l.length-i) 0 ?_ ?_
 ·simp[go_sem]
 ·intro i S ⟨hi,h0,h5,h6,h7,ho1,ho2⟩;simp only[go_sem,h6,h7];refine JiZ (fun h=>?_) (fun h=>?_)
  ·have h:=Ye h;obtain⟨x,hx,hd⟩:=JiF h;have k65:=K65 h65 (l.take i) x (by simp;omega);simp only[Yf,List.map_take] at k65;simp only[go_sem,h5,h7,hx];cases c1:decide (x<1) with
   |true=>
    have hs:=Ycj hx (.inl (by have:=Gg c1;omega));simp only[go_sem,hs]
   |false=>
   cases c2:decide (3<x) with
   |true=>
    have hs:=Ycj hx (.inl (by have:=Gg c2;omega));simp only[go_sem,c2,hs]
   |false=>
   have hx13:1≤x∧x≤3:=by have:=Gb c1;have:=Gb c2;omega
   cases c3:decide (x∈l.take i) with
   |true=>
    have hs:=Ycj hx (.inr (Gg c3));simp only[go_sem,h0,hi,c2,c3,k65,hs]
   |false=>
    have hn:=Yeo hx ⟨ho1,ho2⟩ hx13 (Gb c3);simp only[go_sem,h0,h5,h6,h7,hi,c2,c3,k65];exact⟨i+1,by omega,by omega,by rw[Yi h hl],hn.1,hn.2⟩
  ·have h:=Ym hi h;rw[YaO h] at ho1 ho2;simp only[go_sem,h0,Ye4 ho1 ho2]
def H351 (Pg:PgT):Prop:=Pg 351=some (.code F351)
theorem K351 (h:H351 Pg) (l:List Int) (hl:l.length<2 ^ 60):K' Pg 351 [Yf l]=some (.bool (Yb1 l)):=by
 refine Qa h rfl ?_;simp only[go_sem];unfold l351_0;refine JiY (fun (i:Nat) S=>i≤l.length∧S.ρ 0=Yf l∧S.ρ 3=.lref 3 0∧S.μ 3=some ([.bool false,.bool (decide (1∈l.take i)),.bool (decide (2∈l.take i)),.bool (decide (3∈l.take i))],false)∧S.ρ 4=iz i∧(∀m∈l.take i,1≤m∧m≤3)∧(l.take i).Nodup) (fun i=>l.length-i) 0 ?_ ?_
 ·simp[go_sem]
 ·intro i S ⟨hi,h0,h3,m3,h4,ho1,ho2⟩;have i1:Ja3 1 4 (.lref 3 0) (iz 1)=some (.lref 3 1):=rfl;have i2:Ja3 1 4 (.lref 3 0) (iz 2)=some (.lref 3 2):=rfl;have i3:Ja3 1 4 (.lref 3 0) (iz 3)=some (.lref 3 3):=rfl;simp only[go_sem,h0,h4];refine JiZ (fun h=>?_) (fun h=>?_)
  ·have h:=Ye h;obtain⟨x,hx,hd⟩:=JiF h;simp only[go_sem,h0,h4,hx];cases c1:decide (x<1) with
   |true=>
    have hs:=Ycj hx (.inl (by have:=Gg c1;omega));simp only[go_sem,hs]
   |false=>
   cases c2:decide (3<x) with
   |true=>
    have hs:=Ycj hx (.inl (by have:=Gg c2;omega));simp only[go_sem,h0,h4,hx,c2,hs]
   |false=>
   have hx13:1≤x∧x≤3:=by have:=Gb c1;have:=Gb c2;omega
   have hinc:IntKind.i64.wrap ((i:Int)+1)=((i+1:Nat):Int):=Yi h hl;cases c3:decide (x∈l.take i) with
   |true=>
    have hs:=Ycj hx (.inr (Gg c3));have hcase:x=1∨x=2∨x=3:=by omega
    rcases hcase with rfl|rfl|rfl<;>simp only[go_sem,h0,h3,m3,h4,hx,c3,hs,i1,i2,i3]
   |false=>
    have hn:=Yeo hx ⟨ho1,ho2⟩ hx13 (Gb c3);have ht:l.take (i+1)=l.take i++[x]:=YB hx;have hcase:x=1∨x=2∨x=3:=by omega
    rcases hcase with rfl|rfl|rfl
    ·simp only[go_sem,h0,h3,m3,h4,hx,c3,i1];exact⟨i+1,by omega,by omega,by rw[ht];simp,by rw[hinc],hn.1,hn.2⟩
    ·simp only[go_sem,h0,h3,m3,h4,hx,c3,i2];exact⟨i+1,by omega,by omega,by rw[ht];simp,by rw[hinc],hn.1,hn.2⟩
    ·simp only[go_sem,h0,h3,m3,h4,hx,c3,i3];exact⟨i+1,by omega,by omega,by rw[ht];simp,by rw[hinc],hn.1,hn.2⟩
  ·have h:=Ym hi h;rw[YaO h] at ho1 ho2;simp only[go_sem,h0,Ye4 ho1 ho2]
def Y5 (j:Jb):Bool:=!decide (j.kind<0)&&(!decide (5<j.kind)&&(!decide (j.step<0)&&(!decide (7<j.step)&&(YcM j&&(j.wait.all Yu&&Ya j.at_)))))
def Ybo (j:Jb):Bool:=!decide (j.cell<0)&&(!decide (3<j.cell)&&(!decide (j.to<0)&&(!decide (3<j.to)&&(decide (j.mem=[])||Yb1 j.mem))))
def YbB (j:Jb):Bool:=if decide (j.kind=5) then decide (0<j.cell)&&!decide (j.mem=[]) else if decide (j.kind=1) then decide (0<j.cell)&&decide (0<j.to) else if decide (j.kind=2)||decide (j.kind=3) then decide (0<j.cell) else true
def Yai (j:Jb):Bool:=Y5 j&&(Ybo j&&YbB j)
def SmJ (j:Jb):Prop:=j.wait.length≤10000∧j.mem.length≤10000∧j.parts.length≤10000
def H346 (Pg:PgT):Prop:=Pg 346=some (.code F346)∧H28 Pg∧H347 Pg∧H348 Pg
theorem K346 (h:H346 Pg) (j:Jb) (hj:SmJ j):K' Pg 346 [.agg (eJb j)]=some (.bool (Yai j)):=by
 obtain⟨h,h28,h347,h348⟩:=h;have a7:=K347g h347 j;have aw:=K347 h347 0 j.wait (by have:=hj.1;omega);have k28:=K28 h28 j.at_;have k348:=K348 h348 j.mem (by have:=hj.2.1;omega);have ef:frQ 0=Yu:=rfl;rw[ef] at aw;simp only[Yd,Yf] at k28 aw k348;clear hj h28 h347 h348 ef;refine Qa h rfl ?_;clear h;cases c1:decide (j.kind<0) with
 |true=>simp only[go_sem,Yai,Y5, *]
 |false=>
 cases c2:decide (5<j.kind) with
 |true=>simp only[go_sem,Yai,Y5, *]
 |false=>
 cases c3:decide (j.step<0) with
 |true=>simp only[go_sem,Yai,Y5, *]
 |false=>
 cases c4:decide (7<j.step) with
 |true=>simp only[go_sem,Yai,Y5, *]
 |false=>
 cases c5:YcM j with
 |false=>simp only[go_sem,Yai,Y5, *]
 |true=>
 cases c6:j.wait.all Yu with
 |false=>simp only[go_sem,Yai,Y5, *]
 |true=>
 cases c7:Ya j.at_ with
 |false=>simp only[go_sem,Yai,Y5, *]
 |true=>
 cases c8:decide (j.cell<0) with
 |true=>simp only[go_sem,Yai,Y5,Ybo, *]
 |false=>
 cases c9:decide (3<j.cell) with
 |true=>simp only[go_sem,Yai,Y5,Ybo, *]
 |false=>
 cases c10:decide (j.to<0) with
 |true=>simp only[go_sem,Yai,Y5,Ybo, *]
 |false=>
 cases c11:decide (3<j.to) with
 |true=>simp only[go_sem,Yai,Y5,Ybo, *]
 |false=>
 have hm:Ybo j=(decide (j.mem=[])||Yb1 j.mem):=by simp only[Ybo, *];rfl
 have h0:Y5 j=true:=by simp only[Y5, *];rfl
 have hq:Yai j=((decide (j.mem=[])||Yb1 j.mem)&&YbB j):=by simp only[Yai,hm,h0,Gn]
 rw[hq];clear hq hm h0;cases c12:decide (j.mem=[]) with
 |true=>
  cases d1:decide (j.kind=5) with
  |true=>cases d2:decide (0<j.cell)<;>simp only[go_sem,Yaq,YbB, *]
  |false=>
  cases d3:decide (j.kind=1) with
  |true=>cases d2:decide (0<j.cell)<;>cases d4:decide (0<j.to)<;>simp only[go_sem,Yaq,YbB, *]
  |false=>
  cases d5:decide (j.kind=2) with
  |true=>cases d2:decide (0<j.cell)<;>simp only[go_sem,Yaq,YbB, *]
  |false=>cases d6:decide (j.kind=3)<;>cases d2:decide (0<j.cell)<;>simp only[go_sem,Yaq,YbB, *]
 |false=>
 cases c13:Yb1 j.mem with
 |false=>simp only[go_sem,Yaq, *]
 |true=>
  cases d1:decide (j.kind=5) with
  |true=>cases d2:decide (0<j.cell)<;>simp only[go_sem,Yaq,YbB, *]
  |false=>
  cases d3:decide (j.kind=1) with
  |true=>cases d2:decide (0<j.cell)<;>cases d4:decide (0<j.to)<;>simp only[go_sem,Yaq,YbB, *]
  |false=>
  cases d5:decide (j.kind=2) with
  |true=>cases d2:decide (0<j.cell)<;>simp only[go_sem,Yaq,YbB, *]
  |false=>cases d6:decide (j.kind=3)<;>cases d2:decide (0<j.cell)<;>simp only[go_sem,Yaq,YbB, *]
theorem Yfo {j:Jb} (h1:decide (j.kind<0)=false) (h2:decide (5<j.kind)=false) (h3:decide (j.to<0)=false) :
  YbB j=if ((decide (j.kind=5)&&decide (j.mem=[]))||(decide (j.kind=1)&&decide (j.to=0)))=true then false else (decide (j.kind=0)||(decide (j.kind=4)||decide (0<j.cell))):=by
 have h1:=Gb h1
 have h2:=Gb h2
 have h3:=Gb h3
 unfold YbB
 generalize j.kind=k at *
 generalize j.to=t at *
 have hk:k=0∨k=1∨k=2∨k=3∨k=4∨k=5:=by omega
 rcases hk with rfl|rfl|rfl|rfl|rfl|rfl
 ·simp
 ·by_cases ht:t=0
  ·simp[ht]
  ·have:0<t:=by omega
   simp[ht,this]
 ·simp
 ·simp
 ·simp
 ·by_cases hm:j.mem=[]<;>simp[hm]
def H350 (Pg:PgT):Prop:=Pg 350=some (.code F350)∧H24 Pg∧H349 Pg∧H351 Pg
theorem K350 (h:H350 Pg) (j:Jb) (hj:SmJ j):K' Pg 350 [.agg (eJb j)]=some (.bool (Yai j)):=by
 obtain⟨h,h24,h349,h351⟩:=h;have k349:=fun n=>K349 h349 n;have k24:=K24 h24 j.at_;have k351:=K351 h351 j.mem (by have:=hj.2.1;omega);have hw:j.wait.length<2 ^ 60:=by have:=hj.1;omega
 simp only[Yd,Yf] at k24 k351;clear hj h24 h349 h351;refine Qa h rfl ?_;clear h;cases c1:decide (j.kind<0) with
 |true=>simp only[go_sem,Yai,Y5, *]
 |false=>
 cases c2:decide (5<j.kind) with
 |true=>simp only[go_sem,Yai,Y5, *]
 |false=>
 cases c3:decide (j.step<0) with
 |true=>simp only[go_sem,Yai,Y5, *]
 |false=>
 cases c4:decide (7<j.step) with
 |true=>simp only[go_sem,Yai,Y5, *]
 |false=>
 cases c51:Yu j.id with
 |false=>simp only[go_sem,Yai,Y5,YcM, *]
 |true=>
 cases c52:Yu j.shard with
 |false=>simp only[go_sem,Yai,Y5,YcM, *]
 |true=>
 cases c53:Yu j.other with
 |false=>simp only[go_sem,Yai,Y5,YcM, *]
 |true=>
 cases c54:Yu j.epoch with
 |false=>simp only[go_sem,Yai,Y5,YcM, *]
 |true=>
 cases c55:Yu j.of_ with
 |false=>simp only[go_sem,Yai,Y5,YcM, *]
 |true=>
 cases c56:Yu j.client with
 |false=>simp only[go_sem,Yai,Y5,YcM, *]
 |true=>
 cases c57:Yu j.req with
 |false=>simp only[go_sem,Yai,Y5,YcM, *]
 |true=>
 cases c7:Ya j.at_ with
 |false=>simp only[go_sem,Yai,Y5, *]
 |true=>
 have h0:Y5 j=j.wait.all Yu:=by simp only[Y5,YcM, *];simp
 simp only[go_sem, *];unfold l350_0;refine JiY (fun (i:Nat) S=>i≤j.wait.length∧S.ρ 1=.lref 1 0∧S.μ 1=some (eJb j,false)∧S.ρ 3=iz i∧(j.wait.drop i).all Yu=j.wait.all Yu) (fun i=>j.wait.length-i) 0 ?_ ?_
 ·simp[go_sem]
 ·intro i S ⟨hi,s1,m1,s3,ho⟩;simp only[go_sem,s1,m1,s3];refine JiZ (fun h=>?_) (fun h=>?_)
  ·have h:=Ye h;obtain⟨x,hx,hd⟩:=JiF h;rw[hd,List.all_cons] at ho;simp only[go_sem,s1,m1,s3,hx,k349];cases q:Yu x with
   |false=>
    rw[q,Gj] at ho;simp only[go_sem,Yai,h0,←ho]
   |true=>
    rw[q,Gn] at ho;simp only[go_sem,s1,m1,s3];exact⟨i+1,by omega,by omega,by rw[Yi h hw],ho⟩
  ·have h:=Ym hi h;subst h;rw[GF,List.all_nil] at ho;have h0:Y5 j=true:=by rw[h0,←ho]
   clear ho hi s3 k349 c3 c4 c51 c52 c53 c54 c55 c56 c57 c7 k24 hw;cases c8:decide (j.cell<0) with
   |true=>simp only[go_sem,Yai,Ybo, *]
   |false=>
   cases c9:decide (3<j.cell) with
   |true=>simp only[go_sem,Yai,Ybo, *]
   |false=>
   cases c10:decide (j.to<0) with
   |true=>simp only[go_sem,Yai,Ybo, *]
   |false=>
   cases c11:decide (3<j.to) with
   |true=>simp only[go_sem,Yai,Ybo, *]
   |false=>
   have hm:Ybo j=(decide (j.mem=[])||Yb1 j.mem):=by simp only[Ybo, *];rfl
   have hq:Yai j=((decide (j.mem=[])||Yb1 j.mem)&&YbB j):=by simp only[Yai,hm,h0,Gn]
   have h2:=Yfo c1 c2 c10;rw[hq,h2];clear hq hm h0 h2;cases c12:decide (j.mem=[]) with
   |true=>
    cases d1:decide (j.kind=5) with
    |true=>simp only[go_sem,Yaq,YeS, *]
    |false=>
    cases d3:decide (j.kind=1) with
    |true=>cases d4:decide (j.to=0)<;>cases d5:decide (j.kind=0)<;>cases d6:decide (j.kind=4)<;>simp only[go_sem,Yaq, *]
    |false=>cases d5:decide (j.kind=0)<;>cases d6:decide (j.kind=4)<;>simp only[go_sem,Yaq, *]
   |false=>
   cases c13:Yb1 j.mem with
   |false=>simp only[go_sem,Yaq, *]
   |true=>
    cases d1:decide (j.kind=5)<;>cases d3:decide (j.kind=1)<;>cases d4:decide (j.to=0)<;>cases d5:decide (j.kind=0)<;>cases d6:decide (j.kind=4)<;>simp only[go_sem,Yaq,YeS, *]
def YcZ (x:Inf):Bool:=frQ 1 x.view&&Yb1 x.mem
def YcI (r:ORw):Bool:=!decide (8<r.client)&&(Yu r.req&&(Yu r.lease&&(Ya r.at_&&(!decide (r.err<0)&&!decide (16<r.err)))))
def opQ:Int→List ORw→Bool
 |_,[]=>true
 |p,r::l=>!decide (r.client≤p)&&(YcI r&&opQ r.client l)
def Ya1 (l:List ORw) (i:Nat):Int:=if i=0 then 0 else (l[i-1]?.map ORw.client).getD 0
theorem YeY {l:List ORw} {i:Nat} {x:ORw} (h:l[i]?=some x):Ya1 l (i+1)=x.client:=by simp[Ya1,h]
def YaK (d:Drc):Bool:=Yz d.places&&(YA d.leases&&(decide ((d.cells.length:Int)=3)&&(decide ((d.lows.length:Int)=3)&&(!decide (d.next<2)&&(!decide (1099511627776<d.next)&&(Ya d.mark&&(Yai d.job&&!decide (8<(d.opened.length:Int)))))))))
def Yar (d:Drc):Bool:=YaK d&&((d.cells.all YcZ&&d.lows.all Ya)&&opQ 0 d.opened)
def SmD (d:Drc):Prop:=d.leases.length≤10000∧d.opened.length≤10000∧SmJ d.job∧(∀x∈d.cells,x.mem.length≤10000)
def H328 (Pg:PgT):Prop:=Pg 328=some (.code F328)∧H28 Pg∧H126 Pg∧H141 Pg∧H346 Pg∧H347 Pg∧H348 Pg
theorem K328 (h:H328 Pg) (d:Drc) (hd:SmD d):K' Pg 328 [.agg (YT d)]=some (.bool (Yar d)):=by
 obtain⟨h,h28,h126,h141,h346,h347,h348⟩:=h;obtain⟨hl1,hl2,hj,hm⟩:=hd;have k141:=K141 h141 d.places;have k126:=K126 h126 d.leases (by omega);have k28:=fun s=>K28 h28 s;have k346:=K346 h346 d.job hj;have kv:=fun a=>K347a h347 1 a;have kr:=fun a b=>K347b h347 0 a b;have ks:∀x∈d.cells,K' Pg 348 [Yf x.mem]=some (.bool (Yb1 x.mem)):=fun x hx=>K348 h348 x.mem (by have:=hm x hx;omega);have ef:∀n,frQ 0 n=Yu n:=fun _=>rfl;simp only[ef] at kr;simp only[Yd,Yf,YC,YJ,eJb,Ycz] at k28 k141 k126 k346 ks;clear hl1 hj hm h28 h126 h141 h346 h347 h348 ef;refine Qa h rfl ?_;clear h;cases c1:Yz d.places with
 |false=>simp only[go_sem,Yar,YaK, *]
 |true=>
 cases c2:YA d.leases with
 |false=>simp only[go_sem,Yar,YaK, *]
 |true=>
 cases c3:decide ((d.cells.length:Int)=3) with
 |false=>simp only[go_sem,Yar,YaK, *]
 |true=>
 cases c4:decide ((d.lows.length:Int)=3) with
 |false=>simp only[go_sem,Yar,YaK, *]
 |true=>
 cases c5:decide (d.next<2) with
 |true=>simp only[go_sem,Yar,YaK, *]
 |false=>
 cases c6:decide (1099511627776<d.next) with
 |true=>simp only[go_sem,Yar,YaK, *]
 |false=>
 cases c7:Ya d.mark with
 |false=>simp only[go_sem,Yar,YaK, *]
 |true=>
 cases c8:Yai d.job with
 |false=>simp only[go_sem,Yar,YaK, *]
 |true=>
 cases c9:decide (8<(d.opened.length:Int)) with
 |true=>simp only[go_sem,Yar,YaK, *]
 |false=>
 have h0:YaK d=true:=by simp only[YaK, *];rfl
 have hq:Yar d=((d.cells.all YcZ&&d.lows.all Ya)&&opQ 0 d.opened):=by simp only[Yar,h0,Gn]
 simp only[go_sem,c1,c2,c3,c4,c5,c6,c7,c8,c9,k141,k126,k28,k346];have hc3:d.cells.length=3:=by have:=Gg c3;omega
 have hl3:d.lows.length=3:=by have:=Gg c4;omega
 rw[hq];clear h0 hq c1 c2 c3 c4 c5 c6 c7 c8 c9 k141 k126 k346;unfold l328_0;refine JiY (fun (i:Nat) S=>i≤3∧S.ρ 1=.lref 1 0∧S.μ 1=some (YT d,false)∧S.ρ 57=iz i∧S.μ 6=none∧((d.cells.drop i).all YcZ&&(d.lows.drop i).all Ya)=(d.cells.all YcZ&&d.lows.all Ya)) (fun i=>3-i) 0 ?_ ?_
 ·simp[go_sem]
 ·intro i S ⟨hi,s1,m1,s57,m6,ho⟩;simp only[go_sem,s57];refine JiZ (fun hlt=>?_) (fun hlt=>?_)
  ·have hlt:i<3:=by have:=Gg hlt;omega
   obtain⟨x,hx,hdx⟩:=JiF (l:=d.cells) (i:=i) (by omega);obtain⟨y,hy,hdy⟩:=JiF (l:=d.lows) (i:=i) (by omega);have ks:=ks x (List.mem_of_getElem? hx);rw[hdx,hdy,List.all_cons,List.all_cons] at ho;have hinc:IntKind.i64.wrap ((i:Int)+1)=((i+1:Nat):Int):=Yi hlt (by omega);simp only[go_sem,s1,m1,s57,hx,kv];cases q1:frQ 1 x.view with
   |false=>
    simp only[YcZ,q1,Gj] at ho;simp only[go_sem,←ho]
   |true=>
   cases q2:Yb1 x.mem with
   |false=>
    simp only[YcZ,q1,q2,Gj,Gm] at ho;simp only[go_sem,q2,s1,m1,hx,ks,←ho]
   |true=>
   cases q3:Ya y with
   |false=>
    simp only[q3,Gj,Gm] at ho;simp only[go_sem,q2,q3,s1,m1,hx,hy,ks,k28,←ho]
   |true=>
    simp only[YcZ,q1,q2,q3,Gn] at ho;simp only[go_sem,q2,q3,s1,m1,s57,m6,hx,hy,ks,k28];exact⟨i+1,by omega,by omega,by rw[hinc],ho⟩
  ·have hlt:i=3:=by have:=Gb hlt;omega
   subst hlt;have e1:d.cells.drop 3=[]:=List.drop_eq_nil_of_le (by omega);have e2:d.lows.drop 3=[]:=List.drop_eq_nil_of_le (by omega);rw[e1,e2,List.all_nil,List.all_nil] at ho;rw[←ho];simp only[go_sem,s1,m1];unfold l328_1;clear ho s57 hi ks kv;refine JiY (fun (i:Nat) S=>i≤d.opened.length∧S.ρ 4=iz (Ya1 d.opened i)∧S.μ 6=none∧S.ρ 90=YeO d.opened∧S.ρ 91=iz d.opened.length∧S.ρ 92=iz i∧opQ (Ya1 d.opened i) (d.opened.drop i)=opQ 0 d.opened) (fun i=>d.opened.length-i) 0 ?_ ?_
   ·simp[go_sem,Ya1]
   ·intro i S ⟨hi,s4,m6,s90,s91,s92,ho⟩;simp only[go_sem,s91,s92];refine JiZ (fun hlt=>?_) (fun hlt=>?_)
    ·have hlt:=Ye hlt;obtain⟨x,hx,hdx⟩:=JiF hlt;have hnext:Ya1 d.opened (i+1)=x.client:=YeY hx;have hinc:IntKind.i64.wrap ((i:Int)+1)=((i+1:Nat):Int):=Yi hlt (by omega);rw[hdx] at ho;simp only[opQ] at ho;simp only[go_sem,s4,m6,s90,s92,hx];cases q1:decide (x.client≤Ya1 d.opened i) with
     |true=>
      simp only[q1,GI,Gj] at ho;simp only[go_sem,←ho]
     |false=>
     cases q2:decide (8<x.client) with
     |true=>
      simp only[YcI,q1,q2,GI,GJ,Gj,Gn] at ho;simp only[go_sem,q2,←ho]
     |false=>
     cases q3:Yu x.req with
     |false=>
      simp only[YcI,q1,q2,q3,GJ,Gj,Gn] at ho;simp only[go_sem,q2,q3,kr,←ho]
     |true=>
     cases q4:Yu x.lease with
     |false=>
      simp only[YcI,q1,q2,q3,q4,GJ,Gj,Gn] at ho;simp only[go_sem,q2,q3,q4,kr,←ho]
     |true=>
     cases q5:Ya x.at_ with
     |false=>
      simp only[YcI,q1,q2,q3,q4,q5,GJ,Gj,Gn] at ho;simp only[go_sem,q2,q3,q4,q5,kr,k28,←ho]
     |true=>
     cases q6:decide (x.err<0) with
     |true=>
      simp only[YcI,q1,q2,q3,q4,q5,q6,GI,GJ,Gj,Gn] at ho;simp only[go_sem,q2,q3,q4,q5,q6,kr,k28,←ho]
     |false=>
     cases q7:decide (16<x.err) with
     |true=>
      simp only[YcI,q1,q2,q3,q4,q5,q6,q7,GI,GJ,Gj,Gm] at ho;simp only[go_sem,q2,q3,q4,q5,q6,q7,kr,k28,←ho]
     |false=>
      simp only[YcI,q1,q2,q3,q4,q5,q6,q7,GJ,Gn,GW] at ho;simp only[go_sem,q2,q3,q4,q5,q6,q7,s90,s91,s92,kr,k28];exact⟨i+1,by omega,by omega,by rw[hnext],by rw[hinc],by rw[hnext];exact ho⟩
    ·have hlt:=Ym hi hlt;subst hlt;rw[GF] at ho;simp only[opQ] at ho;simp only[go_sem,←ho]
def H149 (Pg:PgT):Prop:=Pg 149=some (.code F149)∧H142 Pg
theorem K149 (h:H149 Pg) (l:List Place) (k:List UInt8) (hl:l.length<2 ^ 60) (hn:l≠[]):K' Pg 149 [YC l,.str k]=some (eOP (YaM l k)):=by
 obtain⟨h,h142⟩:=h;have k142:=fun s=>K142 h142 s k;simp only[YG] at k142;refine Qa h rfl ?_;cases c2:decide (k=[]) with
 |true=>
  obtain⟨x,t,rfl⟩:=List.exists_cons_of_ne_nil hn;have e:YaM (x::t) k=some x:=by simp[YaM,c2]
  rw[e];simp only[go_sem,Y4,c2,Option.isSome_some,Yad]
 |false=>
  simp only[go_sem,Y4,c2];unfold l149_0;refine JiY (fun (i:Nat) S=>i≤l.length∧S.ρ 0=YC l∧S.ρ 1=.str k∧S.ρ 4=.lref 4 0∧S.μ 4=some (ePl Yad,false)∧S.ρ 6=iz i∧YaM (l.drop i) k=YaM l k) (fun i=>l.length-i) 0 ?_ ?_
  ·simp[go_sem,Yad]
  ·intro i S ⟨hi,h0,h1,h4,m4,h6,ho⟩;simp only[go_sem,h0,h6];refine JiZ (fun h=>?_) (fun h=>?_)
   ·have h:=Ye h;obtain⟨x,hx,hd⟩:=JiF h;rw[hd] at ho;simp only[YaM,List.find?_cons,c2,G4] at ho;simp only[go_sem,h0,h1,h6,hx,k142];cases c4:Yax x.span k with
    |true=>
     rw[c4] at ho;simp only at ho;simp only[go_sem,h0,h4,m4,h6,hx,YaM,c2,G4,←ho,Option.isSome_some,Yad]
    |false=>
     rw[c4] at ho;simp only at ho;simp only[go_sem,h0,h1,h4,m4,h6];refine⟨i+1,by omega,by omega,by rw[Yi h hl],?_⟩;simp only[YaM,c2,G4];exact ho
   ·have h:=Ym hi h;subst h;rw[GF] at ho;have ho:none=YaM l k:=ho;simp only[go_sem,h4,m4,←ho,Yad,Option.isSome_none]
def H153 (Pg:PgT):Prop:=Pg 153=some (.code F153)
theorem K153 (h:H153 Pg) (t:List Place) (hl:t.length<2 ^ 60):K' Pg 153 [YC t,YC t]=some (.bool true):=by
 refine Qa h rfl ?_;simp only[go_sem];unfold l153_0;refine JiY (fun (i:Nat) S=>i≤t.length∧S.ρ 0=YC t∧S.ρ 1=YC t∧S.ρ 5=iz i) (fun i=>t.length-i) 0 ?_ ?_
 ·simp[go_sem]
 ·intro i S ⟨hi,h0,h1,h5⟩;simp only[go_sem,h0,h5];refine JiZ (fun h=>?_) (fun h=>?_)
  ·have h:=Ye h;obtain⟨x,hx,hd⟩:=JiF h;simp only[go_sem,h0,h1,h5,hx];exact⟨i+1,by omega,by omega,by rw[Yi h hl]⟩
  ·simp only[go_sem]
theorem YcP:∀{l:List Place},gR l=true↔(∀p∈l,Ybs p=true)∧l.Pairwise (fun p q=>p.shard≠q.shard)
 |[]=>by simp[gR]
 |p::l=>by
  simp only[gR,Gk,YcP (l:=l),G0,GK,forall_eq_or_imp,GE,List.any_eq_false,Gq];constructor
  ·intro⟨h1,h2,h3,h4⟩;exact⟨⟨h1,h3⟩,fun q hq e=>h2 q hq e.symm,h4⟩
  ·intro⟨⟨h1,h3⟩,h2,h4⟩;exact⟨h1,fun q hq e=>h2 q hq e.symm,h3,h4⟩
def NV (n:Int):Prop:=n.toNat<2 ^ 63∧((n.toNat:Nat):Int)=n
theorem nv {n:Int} (h0:0≤n) (h1:n≤1099511627776):NV n:=⟨by omega,by omega⟩
theorem YbV {m n:Int} (hm:0≤m) (h:frQ m n=true):NV n:=by
 simp only[frQ,GE,Gao,GH] at h;exact nv (by omega) (by omega)
def nB (n:Int):List UInt8:=putB n.toNat
def uI (D:Bool):Rg Int:=.map (fun n:Nat=>(n:Int)) (uN D)
theorem cI {D:Bool}:Cod (uI D).f nB NV:=by
 have h:=(cN (D:=D)).map (g:=fun n:Nat=>(n:Int)) (k:=Int.toNat) (fun a=>rfl);exact⟨fun hr=>h.get hr,fun hp=>h.put hp,h.bad,h.len⟩
theorem Yfu (n:Int) (_:NV n):1≤(nB n).length:=putB_pos _
def uIs (D:Bool):Rg (List Int):=(uI D).lst D
abbrev LV {α:Type} (P:α→Prop) (l:List α):Prop:=l.length<2 ^ 63∧∀a∈l,P a
theorem cIs {D:Bool}:Cod (uIs D).f (YH nB) (LV NV):=cL cI Yfu
theorem cTs {D:Bool}:Cod ((uT D).lst D).f (YH Yh) (LV fun t=>t.length<2 ^ 63):=cL cT fun _ _=>YQ
theorem cSs {D:Bool}:Cod ((uS D).lst D).f (YH stB) (LV fun s=>Ya s=true):=cL cS fun s _=>by
 have:=putB_pos s.wall.toNat;simp only[stB,Gc];omega
abbrev TV (t:List UInt8):Prop:=t.length<2 ^ 63
def mkPl (p:List UInt8×List UInt8×Int×Int×Int):Place:=⟨⟨p.1,p.2.1⟩,p.2.2.1,p.2.2.2.1,p.2.2.2.2⟩
def Yjy (x:Place):List UInt8×List UInt8×Int×Int×Int:=(x.span.lo,x.span.hi,x.shard,x.cell,x.epoch)
def uPl (D:Bool):Rg Place:=.map mkPl (.pair (uT D) (.pair (uT D) (.pair (uI D) (.pair (uI D) (uI D)))))
def plB (x:Place):List UInt8:=Yh x.span.lo++(Yh x.span.hi++(nB x.shard++(nB x.cell++nB x.epoch)))
def PlV (x:Place):Prop:=(TV x.span.lo∧TV x.span.hi∧NV x.shard∧NV x.cell∧NV x.epoch)∧mkPl (Yjy x)=x
theorem cPl {D:Bool}:Cod (uPl D).f plB PlV:=(cT.pair (cT.pair (cI.pair (cI.pair cI)))).map (g:=mkPl) (k:=Yjy) (fun a=>rfl)
theorem Ydn (x:Place) (_:PlV x):1≤(plB x).length:=by
 have:=YQ (t:=x.span.lo);simp only[plB,Gc];omega
def mkIn (p:Int×List Int×Bool):Inf:=⟨p.1,p.2.1,p.2.2⟩
def Yjs (x:Inf):Int×List Int×Bool:=(x.view,x.mem,x.whole)
def uIn (D:Bool):Rg Inf:=.map mkIn (.pair (uI D) (.pair (uIs D) (uF D)))
def inB (x:Inf):List UInt8:=nB x.view++(YH nB x.mem++YL x.whole)
def InV (x:Inf):Prop:=(NV x.view∧LV NV x.mem∧True)∧mkIn (Yjs x)=x
theorem cIn {D:Bool}:Cod (uIn D).f inB InV:=(cI.pair (cIs.pair cF)).map (g:=mkIn) (k:=Yjs) (fun a=>rfl)
theorem Yew (x:Inf) (_:InV x):1≤(inB x).length:=by
 have:=putB_pos x.view.toNat;simp only[inB,nB,Gc];omega
def mkLe (p:Int×Int×Stamp):Lse:=⟨p.1,p.2.1,p.2.2⟩
def Yju (x:Lse):Int×Int×Stamp:=(x.id,x.lft,x.at_)
def uLe (D:Bool):Rg Lse:=.map mkLe (.pair (uI D) (.pair (uI D) (uS D)))
def leB (x:Lse):List UInt8:=nB x.id++(nB x.lft++stB x.at_)
def LeV (x:Lse):Prop:=(NV x.id∧NV x.lft∧Ya x.at_=true)∧mkLe (Yju x)=x
theorem cLe {D:Bool}:Cod (uLe D).f leB LeV:=(cI.pair (cI.pair cS)).map (g:=mkLe) (k:=Yju) (fun a=>rfl)
theorem Yey (x:Lse) (_:LeV x):1≤(leB x).length:=by
 have:=putB_pos x.id.toNat;simp only[leB,nB,Gc];omega
abbrev OrT:=Int×Int×Int×Stamp×Int
def YdP (p:OrT):ORw:=⟨p.1,p.2.1,p.2.2.1,p.2.2.2.1,p.2.2.2.2⟩
def Yjw (x:ORw):OrT:=(x.client,x.req,x.lease,x.at_,x.err)
def uOr (D:Bool):Rg ORw:=.map YdP (.pair (uI D) (.pair (uI D) (.pair (uI D) (.pair (uS D) (uI D)))))
def orB (x:ORw):List UInt8:=nB x.client++(nB x.req++(nB x.lease++(stB x.at_++nB x.err)))
def OrV (x:ORw):Prop:=(NV x.client∧NV x.req∧NV x.lease∧Ya x.at_=true∧NV x.err)∧YdP (Yjw x)=x
theorem cOr {D:Bool}:Cod (uOr D).f orB OrV:=(cI.pair (cI.pair (cI.pair (cS.pair cI)))).map (g:=YdP) (k:=Yjw) (fun a=>rfl)
theorem Yez (x:ORw) (_:OrV x):1≤(orB x).length:=by
 have:=putB_pos x.client.toNat;simp only[orB,nB,Gc];omega
abbrev JbT:=Int×Int×Int×Int×Int×Int×Int×Int×List UInt8×List (List UInt8)×Int×Int×Int×List UInt8×List UInt8×List Int×Stamp×List Int
def Yfs (p:JbT):Jb:=
 ⟨p.1,p.2.1,p.2.2.1,p.2.2.2.1,p.2.2.2.2.1,p.2.2.2.2.2.1,p.2.2.2.2.2.2.1,p.2.2.2.2.2.2.2.1,p.2.2.2.2.2.2.2.2.1,p.2.2.2.2.2.2.2.2.2.1,p.2.2.2.2.2.2.2.2.2.2.1,p.2.2.2.2.2.2.2.2.2.2.2.1,p.2.2.2.2.2.2.2.2.2.2.2.2.1,⟨p.2.2.2.2.2.2.2.2.2.2.2.2.2.1,p.2.2.2.2.2.2.2.2.2.2.2.2.2.2.1⟩,p.2.2.2.2.2.2.2.2.2.2.2.2.2.2.2.1,p.2.2.2.2.2.2.2.2.2.2.2.2.2.2.2.2.1,p.2.2.2.2.2.2.2.2.2.2.2.2.2.2.2.2.2⟩
def Yjt (x:Jb):JbT:=(x.kind,x.step,x.id,x.shard,x.other,x.cell,x.to,x.epoch,x.key,x.parts,x.of_,x.client,x.req,x.span.lo,x.span.hi,x.wait,x.at_,x.mem)
def uJb (D:Bool):Rg Jb:=.map Yfs (.pair (uI D) (.pair (uI D) (.pair (uI D) (.pair (uI D) (.pair (uI D) (.pair (uI D) (.pair (uI D) (.pair (uI D) (.pair (uT D) (.pair ((uT D).lst D) (.pair (uI D) (.pair (uI D) (.pair (uI D) (.pair (uT D) (.pair (uT D) (.pair (uIs D) (.pair (uS D) (uIs D))))))))))))))))))
def jbB (x:Jb):List UInt8:=nB x.kind++(nB x.step++(nB x.id++(nB x.shard++(nB x.other++(nB x.cell++(nB x.to++(nB x.epoch++(Yh x.key++(YH Yh x.parts++(nB x.of_++(nB x.client++(nB x.req++(Yh x.span.lo++(Yh x.span.hi++(YH nB x.wait++(stB x.at_++YH nB x.mem))))))))))))))))
def JbV (x:Jb):Prop:=(NV x.kind∧NV x.step∧NV x.id∧NV x.shard∧NV x.other∧NV x.cell∧NV x.to∧NV x.epoch∧TV x.key∧LV TV x.parts∧NV x.of_∧NV x.client∧NV x.req∧TV x.span.lo∧TV x.span.hi∧LV NV x.wait∧Ya x.at_=true∧LV NV x.mem)∧Yfs (Yjt x)=x
theorem cJb {D:Bool}:Cod (uJb D).f jbB JbV:=(cI.pair (cI.pair (cI.pair (cI.pair (cI.pair (cI.pair (cI.pair (cI.pair (cT.pair (cTs.pair (cI.pair (cI.pair (cI.pair (cT.pair (cT.pair (cIs.pair (cS.pair cIs))))))))))))))))).map (g:=Yfs) (k:=Yjt) (fun a=>rfl)
abbrev DrT:=List Place×List Inf×Int×List Lse×List Stamp×Stamp×Jb×List ORw
def Yc0 (p:DrT):Drc:=⟨p.1,p.2.1,p.2.2.1,p.2.2.2.1,p.2.2.2.2.1,p.2.2.2.2.2.1,p.2.2.2.2.2.2.1,p.2.2.2.2.2.2.2⟩
def Yjr (x:Drc):DrT:=(x.places,x.cells,x.next,x.leases,x.lows,x.mark,x.job,x.opened)
def uDr (D:Bool):Rg Drc:=.map Yc0 (.pair ((uPl D).lst D) (.pair ((uIn D).lst D) (.pair (uI D) (.pair ((uLe D).lst D) (.pair ((uS D).lst D) (.pair (uS D) (.pair (uJb D) ((uOr D).lst D))))))))
def drB (x:Drc):List UInt8:=YH plB x.places++(YH inB x.cells++(nB x.next++(YH leB x.leases++(YH stB x.lows++(stB x.mark++(jbB x.job++YH orB x.opened))))))
def DrV (x:Drc):Prop:=(LV PlV x.places∧LV InV x.cells∧NV x.next∧LV LeV x.leases∧LV (fun s=>Ya s=true) x.lows∧Ya x.mark=true∧JbV x.job∧LV OrV x.opened)∧Yc0 (Yjr x)=x
theorem cDr {D:Bool}:Cod (uDr D).f drB DrV:=((cL cPl Ydn).pair ((cL cIn Yew).pair (cI.pair ((cL cLe Yey).pair (cSs.pair (cS.pair (cJb.pair (cL cOr Yez)))))))).map (g:=Yc0) (k:=Yjr) (fun a=>rfl)
def tkD (t:List UInt8):Option Drc:=if ((uDr false).f (t,false)).2=([],false)∧Yar ((uDr false).f (t,false)).1=true then some ((uDr false).f (t,false)).1 else none
theorem Cod.whole {α:Type} {R:Rd→α×Rd} {W:α→List UInt8} {P:α→Prop} {q:α→Bool} (h:Cod R W P) {t:List UInt8} {c:α} :
  (if (R (t,false)).2=([],false)∧q (R (t,false)).1=true then some (R (t,false)).1 else none)=some c↔t=W c∧P c∧q c=true:=by
 constructor
 ·intro hc
  split at hc
  ·rename_i h0
   simp only[Ga] at hc
   obtain⟨h1,h2⟩:=h0
   obtain⟨g1,g2⟩:=h.get (s:=t) (r:=[]) (a:=c) (Prod.ext hc h1)
   rw[hc] at h2
   exact⟨by rw[g1];simp,g2,h2⟩
  ·cases hc
 ·rintro⟨rfl,hp,hq⟩
  have:=h.put (r:=[]) hp
  rw[GS] at this
  rw[this,GB ⟨rfl,hq⟩]
theorem Cod.doc {α:Type} {R Q:Rd→α×Rd} {W:α→List UInt8} {P:α→Prop} {q:α→Bool} {t:List UInt8} (h:Cod R W P) (g:Cod Q W P) (hq:∀a,q a=true→W a=t→P a) :
  (if (Q (t,false)).2.2=false∧q (Q (t,false)).1=true∧W (Q (t,false)).1=t then some (Q (t,false)).1 else none)=(if (R (t,false)).2=([],false)∧q (R (t,false)).1=true then some (R (t,false)).1 else none):=by
 cases hr:(if (R (t,false)).2=([],false)∧q (R (t,false)).1=true then some (R (t,false)).1 else none) with
 |some c=>
  obtain⟨rfl,hp,hc⟩:=(h.whole).1 hr
  have:=g.put (r:=[]) hp
  rw[GS] at this
  rw[this,GB ⟨rfl,hc,rfl⟩]
 |none=>
  rw[Gv]
  rintro⟨h1,h2,h3⟩
  rw[(h.whole).2 ⟨h3.symm,hq _ h2 h3,h2⟩] at hr
  cases hr
structure DrL (d:Drc):Prop where
 pl:∀p∈d.places,p.span.lo.length≤2 ^ 20∧p.span.hi.length≤2 ^ 20
 key:d.job.key.length≤2 ^ 20
 parts:d.job.parts.length≤2 ^ 20∧∀t∈d.job.parts,t.length≤2 ^ 20
 span:d.job.span.lo.length≤2 ^ 20∧d.job.span.hi.length≤2 ^ 20
 wait:d.job.wait.length≤2 ^ 20
 mem:d.job.mem.length≤2 ^ 20
 cell:∀c∈d.cells,c.mem.length≤2 ^ 20
theorem YfE {l:List Int} (h:Yb1 l=true):∀n∈l,NV n:=fun n hn=>by
 have:=(Gg h).2.1 n hn;exact nv (by omega) (by omega)
theorem YeW:∀{l:List ORw} {p:Int} {x:ORw},opQ p l=true→x∈l→p<x.client∧YcI x=true
 |r::l,p,x,h,hx=>by
  simp only[opQ,Gk,GE,GH] at h;rcases GK.1 hx with rfl|hx
  ·exact⟨by omega,h.2.1⟩
  ·have:=YeW h.2.2 hx;exact⟨by omega,this.2⟩
theorem Yd5 {d:Drc} (h:Yar d=true) (hl:DrL d):DrV d:=by
 simp only[Yar,YaK,Yz,Gk,Gq,GE,GH,Gz] at h;obtain⟨⟨⟨p1,p2,p3⟩,l1,c1,o1,n1,n2,m1,j1,q1⟩,⟨c2,o2⟩,q2⟩:=h;obtain⟨l2,l3⟩:=YaS l1;have hp:=(YcP.1 p2).1;have jb:JbV d.job:=by
  simp only[Yai,Y5,Ybo,YcM,Gk,G8,Gq,GE,GH,Gz] at j1;obtain⟨⟨a1,a2,a3,a4,⟨b1,b2,b3,b4,b5,b6,b7⟩,a5,a6⟩,⟨e1,e2,e3,e4,e5⟩,-⟩:=j1;have z:(0:Int)≤0:=Int.le_refl 0;have me:∀n∈d.job.mem,NV n:=fun n hn=>by
   rcases e5 with e5|e5
   ·rw[e5] at hn;cases hn
   ·exact YfE e5 n hn
  exact⟨⟨nv (by omega) (by omega),nv (by omega) (by omega),YbV z b1,YbV z b2,YbV z b3,nv (by omega) (by omega),nv (by omega) (by omega),YbV z b4,by have:=hl.key;show _<_;omega,⟨by have:=hl.parts.1;omega,fun t ht=>by have:=hl.parts.2 t ht;show _<_;omega⟩,
   YbV z b5,YbV z b6,YbV z b7,by have:=hl.span.1;show _<_;omega,by have:=hl.span.2;show _<_;omega,⟨by have:=hl.wait;omega,fun n hn=>YbV z (a5 n hn)⟩,a6,⟨by have:=hl.mem;omega,me⟩⟩,rfl⟩
 refine⟨⟨⟨by omega,fun p hm=>?_⟩,⟨by omega,fun c hm=>?_⟩,nv (by omega) (by omega),⟨by omega,fun l hm=>?_⟩,⟨by omega,o2⟩,m1,jb,⟨by omega,fun r hm=>?_⟩⟩,rfl⟩
 ·have h0:=hp p hm;simp only[Ybs,Yag,Ybl,Gk,Gq] at h0;have:=hl.pl p hm;exact⟨⟨by show _<_;omega,by show _<_;omega,nv (by omega) (by omega),nv (by omega) (by omega),nv (by omega) (by omega)⟩,rfl⟩
 ·have h0:=c2 c hm;simp only[YcZ,Gk] at h0;exact⟨⟨YbV (by omega) h0.1,⟨by have:=hl.cell c hm;omega,YfE h0.2⟩,Gs⟩,rfl⟩
 ·have h0:=Yej l2 hm;simp only[YaZ,Gk,Gq] at h0;have:=Ydo l2 hm;exact⟨⟨nv (by omega) (by omega),nv (by omega) (by omega),h0.2.2.2⟩,rfl⟩
 ·obtain⟨h0,h1⟩:=YeW q2 hm;simp only[YcI,Gk,GE,GH] at h1;have z:(0:Int)≤0:=Int.le_refl 0;exact⟨⟨nv (by omega) (by omega),YbV z h1.2.1,YbV z h1.2.2.1,h1.2.2.2.1,nv (by omega) (by omega)⟩,rfl⟩
def kp {α:Type} (z:α) (x:Rd) (v:α) (rest:List UInt8) (e:Int):α×Rd:=if x.2=true∨e≠0 then (z,(x.1,true)) else (v,(rest,false))
def H565 (Pg:PgT):Prop:=Pg 565=some (.codeR F565 0)
theorem K565 (h:H565 Pg) (x:Rd) (v:Int) (rest:List UInt8) (e:Int):K' Pg 565 [.tuple (.lref 0 0::eRd x),iz v,.str rest,iz e]=some (.tuple [iz (kp 0 x v rest e).1,.tuple (eRd (kp 0 x v rest e).2)]):=by
 obtain⟨s,b⟩:=x;refine Y6 [.t 8] (ws:=[iz _]) h rfl rfl (Yr _) (Yr _) (Yat _) fun S ⟨r0,r,hm,m0,a0⟩=>?_;have r1:=r 0;have r2:=r 1;have r3:=r 2;simp only[JhS,JhR,Option.getD_some] at r1 r2 r3;simp only[go_sem] at hm r1;unfold kp;cases b with
 |true=>
  rw[GB (.inl rfl)];simp only[F565,c565,go_sem,r0,r1,r2,r3,hm];exact⟨_,rfl,fun _=>rfl⟩
 |false=>
 cases c:decide (e=0) with
 |false=>
  rw[GB (.inr (Gb c))];simp only[F565,c565,go_sem,r0,r1,r2,r3,hm,c];exact⟨_,rfl,fun _=>rfl⟩
 |true=>
  rw[Gv (by rintro (h|h)<;>first|(cases h;done)|exact h (Gg c))];simp only[F565,c565,go_sem,r0,r1,r2,r3,hm,c];exact⟨_,rfl,fun _=>rfl⟩
def H567 (Pg:PgT):Prop:=Pg 567=some (.codeR F567 0)
theorem K567 (h:H567 Pg) (x:Rd) (v:List UInt8) (rest:List UInt8) (e:Int):K' Pg 567 [.tuple (.lref 0 0::eRd x),.str v,.str rest,iz e]=some (.tuple [.str (kp [] x v rest e).1,.tuple (eRd (kp [] x v rest e).2)]):=by
 obtain⟨s,b⟩:=x;refine Y6 [.t 8] (ws:=[.str _]) h rfl rfl (Yr _) (Yr _) (Yat _) fun S ⟨r0,r,hm,m0,a0⟩=>?_;have r1:=r 0;have r2:=r 1;have r3:=r 2;simp only[JhS,JhR,Option.getD_some] at r1 r2 r3;simp only[go_sem] at hm r1;unfold kp;cases b with
 |true=>
  rw[GB (.inl rfl)];simp only[F567,c567,go_sem,r0,r1,r2,r3,hm];exact⟨_,rfl,fun _=>rfl⟩
 |false=>
 cases c:decide (e=0) with
 |false=>
  rw[GB (.inr (Gb c))];simp only[F567,c567,go_sem,r0,r1,r2,r3,hm,c];exact⟨_,rfl,fun _=>rfl⟩
 |true=>
  rw[Gv (by rintro (h|h)<;>first|(cases h;done)|exact h (Gg c))];simp only[F567,c567,go_sem,r0,r1,r2,r3,hm,c];exact⟨_,rfl,fun _=>rfl⟩
def H568 (Pg:PgT):Prop:=Pg 568=some (.codeR F568 0)
theorem K568 (h:H568 Pg) (x:Rd) (v:Bool) (rest:List UInt8) (e:Int):K' Pg 568 [.tuple (.lref 0 0::eRd x),.bool v,.str rest,iz e]=some (.tuple [.bool (kp false x v rest e).1,.tuple (eRd (kp false x v rest e).2)]):=by
 obtain⟨s,b⟩:=x;refine Y6 [.t 8] (ws:=[.bool _]) h rfl rfl (Yr _) (Yr _) (Yat _) fun S ⟨r0,r,hm,m0,a0⟩=>?_;have r1:=r 0;have r2:=r 1;have r3:=r 2;simp only[JhS,JhR,Option.getD_some] at r1 r2 r3;simp only[go_sem] at hm r1;unfold kp;cases b with
 |true=>
  rw[GB (.inl rfl)];simp only[F568,c568,go_sem,r0,r1,r2,r3,hm];exact⟨_,rfl,fun _=>rfl⟩
 |false=>
 cases c:decide (e=0) with
 |false=>
  rw[GB (.inr (Gb c))];simp only[F568,c568,go_sem,r0,r1,r2,r3,hm,c];exact⟨_,rfl,fun _=>rfl⟩
 |true=>
  rw[Gv (by rintro (h|h)<;>first|(cases h;done)|exact h (Gg c))];simp only[F568,c568,go_sem,r0,r1,r2,r3,hm,c];exact⟨_,rfl,fun _=>rfl⟩
def H569 (Pg:PgT):Prop:=Pg 569=some (.codeR F569 0)
theorem K569 (h:H569 Pg) (x:Rd) (v:Stamp) (rest:List UInt8) (e:Int):K' Pg 569 [.tuple (.lref 0 0::eRd x),eSt v,.str rest,iz e]=some (.tuple [eSt (kp zS x v rest e).1,.tuple (eRd (kp zS x v rest e).2)]):=by
 obtain⟨s,b⟩:=x;refine Y6 [.cell 8 (some 3)] (ws:=[eSt _]) h rfl rfl (Yr _) (Yr _) (Yat _) fun S ⟨r0,r,hm,m0,a0⟩=>?_;have r1:=r 0;have r2:=r 1;have r3:=r 2;simp only[JhS,JhR,Option.getD_some] at r1 r2 r3;have m5:=m0 5 rfl;have m8:=m0 8 rfl;have m9:=m0 9 rfl;simp only[eSt] at r1;simp only[go_sem] at hm r1;unfold kp;cases b with
 |true=>
  rw[GB (.inl rfl)];simp only[F569,c569,go_sem,r0,r1,r2,r3,hm,m5,m8,m9,eSt,zS,Yd];exact⟨_,rfl,fun _=>rfl⟩
 |false=>
 cases c:decide (e=0) with
 |false=>
  rw[GB (.inr (Gb c))];simp only[F569,c569,go_sem,r0,r1,r2,r3,hm,c,m5,m8,m9,eSt,zS,Yd];exact⟨_,rfl,fun _=>rfl⟩
 |true=>
  rw[Gv (by rintro (h|h)<;>first|(cases h;done)|exact h (Gg c))];simp only[F569,c569,go_sem,r0,r1,r2,r3,hm,c,m5,m8,m9,eSt,zS,Yd];exact⟨_,rfl,fun _=>rfl⟩
def H530 (Pg:PgT):Prop:=Pg 530=some (.codeR F530 0)∧H491 Pg∧H565 Pg
theorem K530 (h:H530 Pg) (x:Rd) (hx:x.1.length<2 ^ 62):K' Pg 530 [.tuple (.lref 0 0::eRd x)]=some (.tuple [iz (rd (tk 9) 0 x).1,.tuple (eRd (rd (tk 9) 0 x).2)]):=by
 obtain⟨h,hk,hp⟩:=h;obtain⟨e,he,k⟩:=K491 hk x.1 hx;obtain⟨s,b⟩:=x;refine Y6 [.t 2] (ws:=[iz _]) h rfl rfl (Yr _) (Yr _) (Yat _) fun S ⟨r0,r,hm,m0,a0⟩=>?_;simp only[go_sem] at hm k;cases hq:(tk 9) s with
 |none=>
  have p:=K565 hp (s,b) (0:Int) [] e;have e1:kp (0:Int) (s,b) (0:Int) [] e=((0:Int),(s,true)):=GB (.inr he);rw[e1] at p;rw[hq] at k;simp only[eTk] at k;have e2:rd (tk 9) 0 (s,b)=(0,(s,true)):=by cases b<;>simp only[rd,hq]
  rw[e2];simp only[go_sem] at p;simp only[F530,c530,go_sem,JiK,r0,hm,k,p];exact⟨_,rfl,fun _=>rfl⟩
 |some q=>
  obtain⟨n,u⟩:=q;rw[hq] at k;simp only[eTk] at k;cases b with
  |true=>
   have p:=K565 hp (s,true) (n:Int) u 0;have e1:kp (0:Int) (s,true) (n:Int) u 0=((0:Int),(s,true)):=GB (.inl rfl);rw[e1] at p;have e2:rd (tk 9) 0 (s,true)=(0,(s,true)):=rfl;rw[e2];simp only[go_sem] at p k;simp only[F530,c530,go_sem,JiK,r0,hm,k,p];exact⟨_,rfl,fun _=>rfl⟩
  |false=>
   have p:=K565 hp (s,false) (n:Int) u 0;have e1:kp (0:Int) (s,false) (n:Int) u 0=((n:Int),(u,false)):=Gv (by simp);rw[e1] at p;have e2:rd (tk 9) 0 (s,false)=(n,(u,false)):=by simp only[rd,hq]
   rw[e2];simp only[go_sem] at p k;simp only[F530,c530,go_sem,JiK,r0,hm,k,p];exact⟨_,rfl,fun _=>rfl⟩
theorem R530 (h:H530 Pg) (x:Rb):K' Pg 530 [.tuple (.lref 0 0::eR x)]=some (.tuple [iz ((uN false).v x),.tuple (eR ((uN false).n x))]):=
 (uN false).k (e:=fun a:Nat=>iz (a:Int)) (K530 h) x
def H539 (Pg:PgT):Prop:=Pg 539=some (.codeR F539 0)∧H506 Pg∧H567 Pg
theorem K539 (h:H539 Pg) (x:Rd) (hx:x.1.length<2 ^ 62):K' Pg 539 [.tuple (.lref 0 0::eRd x)]=some (.tuple [.str (rd tkT [] x).1,.tuple (eRd (rd tkT [] x).2)]):=by
 obtain⟨h,hk,hp⟩:=h;obtain⟨e,he,k⟩:=K506 hk x.1 hx;obtain⟨s,b⟩:=x;refine Y6 [.t 2] (ws:=[.str _]) h rfl rfl (Yr _) (Yr _) (Yat _) fun S ⟨r0,r,hm,m0,a0⟩=>?_;simp only[go_sem] at hm k;cases hq:tkT s with
 |none=>
  have p:=K567 hp (s,b) ([]:List UInt8) [] e;have e1:kp ([]:List UInt8) (s,b) ([]:List UInt8) [] e=(([]:List UInt8),(s,true)):=GB (.inr he);rw[e1] at p;rw[hq] at k;simp only[Ycl] at k;have e2:rd tkT [] (s,b)=([],(s,true)):=by cases b<;>simp only[rd,hq]
  rw[e2];simp only[go_sem] at p;simp only[F539,c539,go_sem,JiK,r0,hm,k,p];exact⟨_,rfl,fun _=>rfl⟩
 |some q=>
  obtain⟨n,u⟩:=q;rw[hq] at k;simp only[Ycl] at k;cases b with
  |true=>
   have p:=K567 hp (s,true) n u 0;have e1:kp ([]:List UInt8) (s,true) n u 0=(([]:List UInt8),(s,true)):=GB (.inl rfl);rw[e1] at p;have e2:rd tkT [] (s,true)=([],(s,true)):=rfl;rw[e2];simp only[go_sem] at p k;simp only[F539,c539,go_sem,JiK,r0,hm,k,p];exact⟨_,rfl,fun _=>rfl⟩
  |false=>
   have p:=K567 hp (s,false) n u 0;have e1:kp ([]:List UInt8) (s,false) n u 0=(n,(u,false)):=Gv (by simp);rw[e1] at p;have e2:rd tkT [] (s,false)=(n,(u,false)):=by simp only[rd,hq]
   rw[e2];simp only[go_sem] at p k;simp only[F539,c539,go_sem,JiK,r0,hm,k,p];exact⟨_,rfl,fun _=>rfl⟩
theorem R539 (h:H539 Pg) (x:Rb):K' Pg 539 [.tuple (.lref 0 0::eR x)]=some (.tuple [.str ((uT false).v x),.tuple (eR ((uT false).n x))]):=
 (uT false).k (e:=fun a:List UInt8=>.str a) (K539 h) x
def H541 (Pg:PgT):Prop:=Pg 541=some (.codeR F541 0)∧H507 Pg∧H568 Pg
theorem K541 (h:H541 Pg) (x:Rd) (hx:x.1.length<2 ^ 62):K' Pg 541 [.tuple (.lref 0 0::eRd x)]=some (.tuple [.bool (rd tkF false x).1,.tuple (eRd (rd tkF false x).2)]):=by
 obtain⟨h,hk,hp⟩:=h;obtain⟨e,he,k⟩:=K507 hk x.1;obtain⟨s,b⟩:=x;refine Y6 [.t 2] (ws:=[.bool _]) h rfl rfl (Yr _) (Yr _) (Yat _) fun S ⟨r0,r,hm,m0,a0⟩=>?_;simp only[go_sem] at hm k;cases hq:tkF s with
 |none=>
  have p:=K568 hp (s,b) false [] e;have e1:kp false (s,b) false [] e=(false,(s,true)):=GB (.inr he);rw[e1] at p;rw[hq] at k;simp only[Yck] at k;have e2:rd tkF false (s,b)=(false,(s,true)):=by cases b<;>simp only[rd,hq]
  rw[e2];simp only[go_sem] at p;simp only[F541,c541,go_sem,JiK,r0,hm,k,p];exact⟨_,rfl,fun _=>rfl⟩
 |some q=>
  obtain⟨n,u⟩:=q;rw[hq] at k;simp only[Yck] at k;cases b with
  |true=>
   have p:=K568 hp (s,true) n u 0;have e1:kp false (s,true) n u 0=(false,(s,true)):=GB (.inl rfl);rw[e1] at p;have e2:rd tkF false (s,true)=(false,(s,true)):=rfl;rw[e2];simp only[go_sem] at p k;simp only[F541,c541,go_sem,JiK,r0,hm,k,p];exact⟨_,rfl,fun _=>rfl⟩
  |false=>
   have p:=K568 hp (s,false) n u 0;have e1:kp false (s,false) n u 0=(n,(u,false)):=Gv (by simp);rw[e1] at p;have e2:rd tkF false (s,false)=(n,(u,false)):=by simp only[rd,hq]
   rw[e2];simp only[go_sem] at p k;simp only[F541,c541,go_sem,JiK,r0,hm,k,p];exact⟨_,rfl,fun _=>rfl⟩
theorem R541 (h:H541 Pg) (x:Rb):K' Pg 541 [.tuple (.lref 0 0::eR x)]=some (.tuple [.bool ((uF false).v x),.tuple (eR ((uF false).n x))]):=
 (uF false).k (e:=fun a:Bool=>.bool a) (K541 h) x
def H542 (Pg:PgT):Prop:=Pg 542=some (.codeR F542 0)∧H490 Pg∧H569 Pg
theorem K542 (h:H542 Pg) (x:Rd) (hx:x.1.length<2 ^ 62):K' Pg 542 [.tuple (.lref 0 0::eRd x)]=some (.tuple [eSt (rd tkS zS x).1,.tuple (eRd (rd tkS zS x).2)]):=by
 obtain⟨h,hk,hp⟩:=h;obtain⟨e,he,k⟩:=K490 hk x.1 hx;obtain⟨s,b⟩:=x;refine Y6 [.cell 2 (some 3)] (ws:=[eSt _]) h rfl rfl (Yr _) (Yr _) (Yat _) fun S ⟨r0,r,hm,m0,a0⟩=>?_;have m2:=m0 2 rfl;have m3:=m0 3 rfl;simp only[go_sem] at hm k;cases hq:tkS s with
 |none=>
  have p:=K569 hp (s,b) zS [] e;have e1:kp zS (s,b) zS [] e=(zS,(s,true)):=GB (.inr he);rw[e1] at p;rw[hq] at k;simp only[YbJ] at k;have e2:rd tkS zS (s,b)=(zS,(s,true)):=by cases b<;>simp only[rd,hq]
  rw[e2];simp only[go_sem,m2,m3,eSt,zS,Yd] at p;simp only[F542,c542,go_sem,JiK,r0,hm,k,p,m2,m3,eSt,zS,Yd];exact⟨_,rfl,fun _=>rfl⟩
 |some q=>
  obtain⟨n,u⟩:=q;rw[hq] at k;simp only[YbJ] at k;cases b with
  |true=>
   have p:=K569 hp (s,true) n u 0;have e1:kp zS (s,true) n u 0=(zS,(s,true)):=GB (.inl rfl);rw[e1] at p;have e2:rd tkS zS (s,true)=(zS,(s,true)):=rfl;rw[e2];simp only[go_sem,m2,m3,eSt,zS,Yd] at p k;simp only[F542,c542,go_sem,JiK,r0,hm,k,p,m2,m3,eSt,zS,Yd];exact⟨_,rfl,fun _=>rfl⟩
  |false=>
   have p:=K569 hp (s,false) n u 0;have e1:kp zS (s,false) n u 0=(n,(u,false)):=Gv (by simp);rw[e1] at p;have e2:rd tkS zS (s,false)=(n,(u,false)):=by simp only[rd,hq]
   rw[e2];simp only[go_sem,m2,m3,eSt,zS,Yd] at p k;simp only[F542,c542,go_sem,JiK,r0,hm,k,p,m2,m3,eSt,zS,Yd];exact⟨_,rfl,fun _=>rfl⟩
theorem R542 (h:H542 Pg) (x:Rb):K' Pg 542 [.tuple (.lref 0 0::eR x)]=some (.tuple [eSt ((uS false).v x),.tuple (eR ((uS false).n x))]):=
 (uS false).k (e:=fun a:Stamp=>eSt a) (K542 h) x
def H531 (Pg:PgT):Prop:=Pg 531=some (.codeR F531 0)∧H530 Pg
theorem K531 (h:H531 Pg) (x:Rd) (hx:x.1.length<2 ^ 62):K' Pg 531 [.tuple (.lref 0 0::eRd x)]=some (.tuple [iz (rL x).1,.tuple (eRd (rL x).2)]):=by
 obtain⟨h,h465⟩:=h;have k:=K530 h465 x hx;have hr:=fun (S:St) (hm:S.μ 0=some (eRd x,false))=>Qb (p:=20000) k hm;unfold rL;generalize rd (tk 9) 0 x=y at hr;obtain⟨n,s,b⟩:=y;simp only[go_sem] at hr;refine Y6 [.t 2] (ws:=[iz _]) h rfl rfl (Yr _) (Yr _) (Yat _) fun S ⟨r0,r,hm,m0,a0⟩=>?_;simp only[go_sem] at hm;have c:decide (((s.length:Nat):Int)<(n:Int))=decide (s.length<n):=GM.2 (by omega);simp only;by_cases h1:s.length<n
 ·have c1:decide (s.length<n)=true:=GA h1;rw[GB h1];simp only[F531,c531,go_sem,r0,hm,hr,c,c1];exact⟨_,rfl,fun _=>rfl⟩
 ·have c1:decide (s.length<n)=false:=Gp h1;rw[Gv h1];simp only[F531,c531,go_sem,r0,hm,hr,c,c1];exact⟨_,rfl,fun _=>rfl⟩
theorem YdD (h:H531 Pg) (x:Rb):K' Pg 531 [.tuple (.lref 0 0::eR x)]=some (.tuple [iz ((uL false).v x),.tuple (eR ((uL false).n x))]):=
 (uL false).k (e:=fun a:Nat=>iz (a:Int)) (K531 h) x
attribute [go_sem] Yic YjB YjC YgV YgW
def H540 (Pg:PgT):Prop:=Pg 540=some (.codeR F540 0)∧H530 Pg∧H531 Pg
theorem Yfc (h:H540 Pg) (x:Rb):K' Pg 540 [.tuple (.lref 0 0::eR x)]=some (.tuple [Yf ((uIs false).v x),.tuple (eR ((uIs false).n x))]):=by
 obtain⟨h,h530,h531⟩:=h;have k1:=R530 h530;have k2:=YdD h531 x;have hl:((uL false).v x)≤2 ^ 29:=YbY;have hv:=Rg.lst_v (D:=false) (R:=uI false) (x:=x)
 show _=some (V.tuple [Yf (((uI false).lst false).v x),V.tuple (eR (((uI false).lst false).n x))])
 rw[hv.1,hv.2];generalize (uL false).n x=y at *
 generalize (uL false).v x=m at *
 refine Ybm [.t 2] (ws:=[Yf _]) h rfl rfl (Ya2 _) (Ya2 _) (Ydx _) fun S ⟨r0,r,hm,m0,a0⟩=>?_;have a3:=a0 3;simp only[F540,c540,go_sem,JiK,r0,hm,k2,a3];unfold l540_0;refine JiY (fun (j:Nat) S=>j≤m∧S.ρ 0=.lref 0 0∧S.ρ 5=iz m∧S.ρ 6=iz j∧∃(vs:List Int) (z:Rb),vs.length=j∧(((uI false).rep false m).v y=vs++((uI false).rep false (m-j)).v z∧((uI false).rep false m).n y=((uI false).rep false (m-j)).n z)∧S.μ 0=some (eR z,false)∧S.ρ 3=.own 3 1 j∧S.A 3=some (1,vs.map fun a=>[iz a],.live)) (fun j=>m-j) 0 ?_ ?_
 ·simp only[JhU];exact⟨Gu _,by simp only[go_sem,r0],by simp only[go_sem],by simp only[go_sem],[],y,rfl,⟨rfl,rfl⟩,by simp only[go_sem],by simp only[go_sem],by simp only[go_sem,G6]⟩
 ·intro j S ⟨hj,s0,s5,s6,vs,z,hvl,hrep,hm,s3,a3⟩;cases c1:decide ((j:Int)<(m:Int)) with
  |false=>
   have hjm:j=m:=by have:=Gb c1;omega
   subst hjm;obtain⟨e1,e2⟩:=Yau hrep;simp only[go_sem,s0,s3,s5,s6,hm,a3,c1,e1,e2,hvl,Gf];exact⟨_,rfl,by simp only[go_sem,a3,hvl,Gf]⟩
  |true=>
   have hlt:=Ye c1;have hinc:=inc64q (i:=j) (by omega)
   have hone:=rep_step hlt hrep;have k:=k1 z;have hlim:j+1≤lim:=by unfold lim;omega
   simp only[go_sem,JiK,s0,s3,s5,s6,hm,a3,c1,k,hinc,hvl,hlim,JhU,Gf];exact⟨j+1,by omega,by omega,rfl,vs++[(((uN false).v z:Nat):Int)],(uN false).n z,by simp[hvl],hone,rfl,rfl,by rw[Gw];rfl⟩
def H466 (Pg:PgT):Prop:=Pg 466=some (.codeR F466 0)∧H465 Pg
theorem K466 (h:H466 Pg) (x:Rd) (hx:x.1.length<2 ^ 62):K' Pg 466 [.tuple (.lref 0 0::eRd x)]=some (.tuple [iz (rL x).1,.tuple (eRd (rL x).2)]):=by
 obtain⟨h,h465⟩:=h;have k:=K465 h465 x hx;have hr:=fun (S:St) (hm:S.μ 0=some (eRd x,false))=>Qb (p:=20000) k hm;unfold rL;generalize rd (tk 9) 0 x=y at hr;obtain⟨n,s,b⟩:=y;simp only[go_sem] at hr;refine Y6 [.t 2] (ws:=[iz _]) h rfl rfl (Yr _) (Yr _) (Yat _) fun S ⟨r0,r,hm,m0,a0⟩=>?_;simp only[go_sem] at hm;have c:decide (((s.length:Nat):Int)<(n:Int))=decide (s.length<n):=GM.2 (by omega);simp only;by_cases h1:s.length<n
 ·have c1:decide (s.length<n)=true:=GA h1;rw[GB h1];simp only[F466,c466,go_sem,r0,hm,hr,c,c1];exact⟨_,rfl,fun _=>rfl⟩
 ·have c1:decide (s.length<n)=false:=Gp h1;rw[Gv h1];simp only[F466,c466,go_sem,r0,hm,hr,c,c1];exact⟨_,rfl,fun _=>rfl⟩
theorem rep_one {α:Type} {R:Rd→α×Rd} {m j:Nat} {vs:List α} {y y':Rd} (hj:j<m) (h:YO R m y=(vs++(YO R (m-j) y').1,(YO R (m-j) y').2)) :
  YO R m y=((vs++[(R y').1])++(YO R (m-(j+1)) (R y').2).1,(YO R (m-(j+1)) (R y').2).2):=by
 rw[h,show m-j=(m-(j+1))+1 by omega]
 simp[YO]
theorem Yc6 {α:Type} {R:Rd→α×Rd} {m:Nat} {vs:List α} {y y':Rd} (h:YO R m y=(vs++(YO R (m-m) y').1,(YO R (m-m) y').2)):YO R m y=(vs,y'):=by
 rw[h,Nat.sub_self];simp[YO]
theorem YiE (h464:H464 Pg) (h493:H493 Pg) (h492:H492 Pg) {y:Rd} {m:Nat} {key:List UInt8} (hy:y.1.length≤2 ^ 20) (hm:m≤2 ^ 20) {S:St} {Q:Ex→St→Prop}
  (s0:S.ρ 0=.lref 0 0) (s4:S.ρ 4=.lref 4 0) (s49:S.ρ 49=iz m) (s50:S.ρ 50=iz 0) (n0:S.μ 0=some (eRd y,false)) (n4:S.μ 4=some ([.str key,.nslice 5],false)) (a62:S.A 62=none)
  (hq:∀S',(∀i,i≠50→i≠51→S'.ρ i=S.ρ i)→S'.μ 0=some (eRd (YO (gV false) m y).2,false)→S'.μ 4=some ([.str key,nilOr 62 5 m],false)→S'.A 62=YY 5 ((YO (gV false) m y).1.map YS) m→(YO (gV false) m y).1.length=m→
   (∀i,i≠0→i≠4→S'.μ i=S.μ i)→(∀i,i≠62→S'.A i=S.A i)→Q .norm S'):Wp (K' Pg) l467_1 S (Blk 2 Q):=by
 unfold l467_1
 refine JiY (fun (j:Nat) S'=>j≤m∧(∀i,i≠50→i≠51→S'.ρ i=S.ρ i)∧S'.ρ 50=iz j∧(∀i,i≠0→i≠4→S'.μ i=S.μ i)∧(∀i,i≠62→S'.A i=S.A i)∧∃(vs:List Ver) (y':Rd),vs.length=j∧y'.1.length≤2 ^ 20∧
  YO (gV false) m y=(vs++(YO (gV false) (m-j) y').1,(YO (gV false) (m-j) y').2)∧S'.μ 0=some (eRd y',false)∧S'.μ 4=some ([.str key,nilOr 62 5 j],false)∧S'.A 62=YY 5 (vs.map YS) j) (fun j=>m-j) 0 ?_ ?_
 ·simp only[JhU]
  exact⟨Gu _,by intros;first|rfl|trivial,s50,by intros;first|rfl|trivial,by intros;first|rfl|trivial,[],y,rfl,hy,rfl,n0,n4,a62⟩
 ·intro j S' ⟨hj,hρ,t50,hμ,hA,vs,y',hvl,hyl,hrep,m0,m4,a62⟩
  have t0:S'.ρ 0=.lref 0 0:=(hρ 0 (by omega) (by omega)).trans s0
  have t4:S'.ρ 4=.lref 4 0:=(hρ 4 (by omega) (by omega)).trans s4
  have t49:S'.ρ 49=iz m:=(hρ 49 (by omega) (by omega)).trans s49
  cases c1:decide ((j:Int)<(m:Int)) with
  |false=>
   have hjm:j=m:=by have:=Gb c1;omega
   subst hjm
   have he:=Yc6 hrep
   simp only[go_sem,t50,t49,c1]
   rw[he] at hq
   refine hq _ (fun i h1 h2=>?_) m0 m4 a62 hvl hμ hA
   show upd S'.ρ 51 _ i=_
   rw[Jfj (by simp;omega)]
   exact hρ i h1 h2
  |true=>
   have hlt:=Ye c1
   have hinc:=inc64q (i:=j) (by omega)
   have hone:=rep_one hlt hrep
   have l1:(rd tkS zS y').2.1.length≤2 ^ 20:=Gi ((cS (D:=false)).len y') hyl
   have l2:(rd tkF false (rd tkS zS y').2).2.1.length≤2 ^ 20:=Gi ((cF (D:=false)).len _) l1
   have l3:(rd tkT [] (rd tkF false (rd tkS zS y').2).2).2.1.length≤2 ^ 20:=Gi ((cT (D:=false)).len _) l2
   have k1:=K464 h464 y' (by omega)
   have k2:=K493 h493 (rd tkS zS y').2 (by omega)
   have k3:=K492 h492 (rd tkF false (rd tkS zS y').2).2 (by omega)
   have hR:gV false y'=(⟨(rd tkS zS y').1,(rd tkF false (rd tkS zS y').2).1,(rd tkT [] (rd tkF false (rd tkS zS y').2).2).1⟩,(rd tkT [] (rd tkF false (rd tkS zS y').2).2).2):=rfl
   rw[hR] at hone
   generalize rd tkS zS y'=p1 at *
   obtain⟨b1,x1⟩:=p1
   simp only at k2 k3 hone l2 l3 l1
   generalize rd tkF false x1=p2 at *
   obtain⟨b2,x2⟩:=p2
   simp only at k3 hone l3 l2
   generalize rd tkT [] x2=p3 at *
   obtain⟨b3,x3⟩:=p3
   simp only at hone l3
   have r1:=fun (S:St) (hm:S.μ 0=some (eRd y',false))=>Qb (p:=21400) k1 hm
   have r2:=fun (S:St) (hm:S.μ 0=some (eRd x1,false))=>Qb (p:=21500) k2 hm
   have r3:=fun (S:St) (hm:S.μ 0=some (eRd x2,false))=>Qb (p:=21600) k3 hm
   have hil:(vs.map YS).length=j:=by simp[hvl]
   have ha:=fun S=>YV (S:=S) (s:=62) (z:=5) (r:=YS ⟨b1,b2,b3⟩) hil (by unfold lim;omega)
   simp only[go_sem,eSt] at r1 r2 r3 m0 ha
   simp only[go_sem,t0,t4,t50,t49,c1,m0,m4,a62,r1,r2,r3,YI,ha,hinc,JhU]
   refine⟨j+1,by omega,by omega,fun i h1 h2=>?_,rfl,fun i h1 h2=>?_,fun i h1=>?_,vs++[⟨b1,b2,b3⟩],x3,by simp[hvl],l3,hone,rfl,rfl,by rw[Gw];rfl⟩
   ·rw[Jfj (by simpa using h1),Jfj (by simpa using h2)];exact hρ i h1 h2
   ·rw[Jfj (by simpa using h2),Jfj (by simpa using h1),Jfj (by simpa using h1),Jfj (by simpa using h1)];exact hμ i h1 h2
   ·rw[Jfj (by simpa using h1)];exact hA i h1
def shP (s:Shd) (e d:V):List V:=[iz s.id,iz s.epoch,.str s.span.lo,.str s.span.hi,iz s.phase,e,iz s.mark.wall,iz s.mark.tick,iz s.mark.node,iz s.top.wall,iz s.top.tick,iz s.top.node,d,iz s.hold,iz s.seen,iz s.move,iz s.closed]
def zSh:List V:=[.int .i64 0,.int .i64 0,.str [],.str [],.int .i64 0,.slice 2 [],.int .i64 0,.int .i64 0,.int .i64 0,.int .i64 0,.int .i64 0,.int .i64 0,.slice 11 [],.int .i64 0,.int .i64 0,.int .i64 0,.int .i64 0]
theorem scrub_nil {Wa:List Nat} {s z n:Nat} (h:Wa.contains s=false):Jv Wa (nilOr s z n)=nilOr s z n:=by
 unfold nilOr;split
 ·rfl
 ·simp only[Jv,h,Gx,GN]
theorem YbA {S:St} {v:Nat} {Wv Wa:List Nat} {x:Shd} {s z n s' z' n':Nat} (hm:S.μ v=some (shP x (nilOr s z n) (nilOr s' z' n'),false)) (hv:Wv.contains v=false) (h:Wa.contains s=false) (h':Wa.contains s'=false) :
  (S.head [] [] Wv Wa).μ v=some (shP x (nilOr s z n) (nilOr s' z' n'),false):=by
 show (if Wv.contains v then none else (S.μ v).map _)=_
 rw[hv,hm]
 simp only[Gx,GN,Option.map_some]
 have:(shP x (nilOr s z n) (nilOr s' z' n')).map (Jv Wa)=shP x (nilOr s z n) (nilOr s' z' n'):=by
  simp only[shP,G3,G6,scrub_nil h,scrub_nil h']
  rfl
 rw[this]
 cases Wa.isEmpty<;>rfl
theorem Yv {S:St} {Wv Wa:List Nat} {x:Nat} (h:Wa.contains x=false):(S.head [] [] Wv Wa).A x=S.A x:=by
 show (if Wa.contains x then none else S.A x)=S.A x
 rw[h];rfl
theorem YdO {S:St} {Wv Wa:List Nat} {x:Nat} (h:Wa.contains x=true):(S.head [] [] Wv Wa).A x=none:=by
 show (if Wa.contains x then none else S.A x)=none
 rw[h];rfl
theorem YcU {s z n:Nat}:(Jc (nilOr s z n)).all (fun t=>t == s)=true:=by
 unfold nilOr;split<;>simp[Jc]
structure E467 (S:St) (y:Rd) (sh:Shd) (m j:Nat) (vs:List Entr):Prop where
 r0:S.ρ 0=.lref 0 0
 r2:S.ρ 2=.lref 2 0
 r3:S.ρ 3=.lref 3 0
 m0:S.μ 0=some (eRd y,false)
 m2:S.μ 2=some (zSh,false)
 m3:S.μ 3=some (shP sh (nilOr 69 2 j) (nilOr 95 11 0),false)
 m5:S.μ 5=none
 a69:S.A 69=YY 2 (vs.map YR) j
 a95:S.A 95=none
 vl:vs.length=j
theorem Yif (h464:H464 Pg) (h493:H493 Pg) (h492:H492 Pg) (h466:H466 Pg) {y:Rd} {m:Nat} {sh:Shd} (hy:y.1.length≤2 ^ 20) (hm:m≤2 ^ 20) {S:St} {Q:Ex→St→Prop}
  (hS:E467 S y sh m 0 []) (s42:S.ρ 42=iz m) (s43:S.ρ 43=iz 0) (n4:S.μ 4=none) (a62:S.A 62=none)
  (hq:∀S',E467 S' (YO (gE false) m y).2 sh m m (YO (gE false) m y).1→Q .norm S'):Wp (K' Pg) l467_0 S (Blk 0 Q):=by
 unfold l467_0
 refine JiY (fun (j:Nat) S'=>j≤m∧S'.ρ 42=iz m∧S'.ρ 43=iz j∧S'.μ 4=none∧S'.A 62=none∧∃(vs:List Entr) (y':Rd),y'.1.length≤2 ^ 20∧
  YO (gE false) m y=(vs++(YO (gE false) (m-j) y').1,(YO (gE false) (m-j) y').2)∧E467 S' y' sh m j vs) (fun j=>m-j) 0 ?_ ?_
 ·exact⟨Gu _,JiJ s42 rfl,JiJ s43 rfl,JiH (.inl n4),YdO rfl,[],y,hy,rfl,JiJ hS.r0 rfl,JiJ hS.r2 rfl,JiJ hS.r3 rfl,JiI hS.m0 rfl rfl,JiI hS.m2 rfl rfl,YbA hS.m3 rfl rfl rfl,JiH (.inl hS.m5),(Yv rfl).trans hS.a69,(Yv rfl).trans hS.a95,rfl⟩
 ·intro j S' ⟨hj,t42,t43,m4,a62,vs,y',hyl,hrep,hE⟩
  obtain⟨t0,t2,t3,m0,m2,m3,m5,a69,a95,hvl⟩:=hE
  cases c1:decide ((j:Int)<(m:Int)) with
  |false=>
   have hjm:j=m:=by have:=Gb c1;omega
   subst hjm
   have he:=Yc6 hrep
   simp only[go_sem,t42,t43,c1]
   rw[he] at hq
   exact hq _ ⟨by simp only[go_sem,t0],by simp only[go_sem,t2],by simp only[go_sem,t3],m0,m2,m3,m5,a69,a95,hvl⟩
  |true=>
   have hlt:=Ye c1
   have hinc:=inc64q (i:=j) (by omega)
   have hone:=rep_one hlt hrep
   have l1:(rd tkT [] y').2.1.length≤2 ^ 20:=Gi ((cT (D:=false)).len y') hyl
   have k1:=K492 h492 y' (by omega)
   have k2:=K466 h466 (rd tkT [] y').2 (by omega)
   have hR:gE false y'=(⟨(rd tkT [] y').1,(YO (gV false) (rL (rd tkT [] y').2).1 (rL (rd tkT [] y').2).2).1⟩,(YO (gV false) (rL (rd tkT [] y').2).1 (rL (rd tkT [] y').2).2).2):=rfl
   rw[hR] at hone
   generalize rd tkT [] y'=p1 at *
   obtain⟨b1,x1⟩:=p1
   simp only at k2 hone l1
   have hl2:(rL x1).1≤2 ^ 20∧(rL x1).2.1.length≤2 ^ 20:=by
    have hc:=(codN).len x1;unfold rL;split
    ·exact⟨Gu _,by simp only;omega⟩
    ·exact⟨by omega,by omega⟩
   generalize rL x1=p2 at *
   obtain⟨n2,x2⟩:=p2
   simp only at k2 hone hl2
   have r1:=fun (S:St) (hm:S.μ 0=some (eRd y',false))=>Qb (p:=21200) k1 hm
   have r2:=fun (S:St) (hm:S.μ 0=some (eRd x1,false))=>Qb (p:=21300) k2 hm
   simp only[go_sem] at r1 r2 m0
   simp only[go_sem,t0,t42,t43,c1,m0,m4,r1,r2]
   refine YiE h464 h493 h492 (y:=x2) (m:=n2) (key:=b1) hl2.2 hl2.1 (by simp only[go_sem,t0]) (by simp only[go_sem]) (by simp only[go_sem]) (by simp only[go_sem]) (by simp only[go_sem]) (by simp only[go_sem]) a62 fun S2 q1 q2 q3 q4 q5 q6 q7=>?_
   have u0:S2.ρ 0=.lref 0 0:=by rw[q1 0 (by omega) (by omega)];simp only[go_sem,t0]
   have u2:S2.ρ 2=.lref 2 0:=by rw[q1 2 (by omega) (by omega)];simp only[go_sem,t2]
   have u3:S2.ρ 3=.lref 3 0:=by rw[q1 3 (by omega) (by omega)];simp only[go_sem,t3]
   have u4:S2.ρ 4=.lref 4 0:=by rw[q1 4 (by omega) (by omega)];simp only[go_sem]
   have u42:S2.ρ 42=iz m:=by rw[q1 42 (by omega) (by omega)];simp only[go_sem,t42]
   have u43:S2.ρ 43=iz j:=by rw[q1 43 (by omega) (by omega)];simp only[go_sem,t43]
   have v2:S2.μ 2=some (zSh,false):=by rw[q6 2 (by omega) (by omega)];simp only[go_sem,m2]
   have v3:S2.μ 3=some (shP sh (nilOr 69 2 j) (nilOr 95 11 0),false):=by rw[q6 3 (by omega) (by omega)];simp only[go_sem,m3]
   have v5:S2.μ 5=none:=by rw[q6 5 (by omega) (by omega)];simp only[go_sem,m5]
   have w69:S2.A 69=YY 2 (vs.map YR) j:=(q7 69 (by omega)).trans a69
   have w95:S2.A 95=none:=(q7 95 (by omega)).trans a95
   generalize hz:YO (gV false) n2 x2=z at *
   obtain⟨z1,z2⟩:=z
   simp only at q2 q4 q5 hone
   have hch:=Yq q4 (by simp[q5])
   have hst:=YcU (s:=62) (z:=5) (n:=n2)
   have hil:(vs.map YR).length=j:=by simp[hvl]
   have ha:=fun S=>YV (S:=S) (s:=69) (z:=2) (r:=YR ⟨b1,z1⟩) hil (by unfold lim;omega)
   simp only[go_sem,Yb] at ha
   simp only[shP] at v3
   simp only[go_sem,u3,u4,u42,u43,q3,v3,w69,hch,hst,YI,ha,hinc]
   have hz2:z2.1.length≤2 ^ 20:=by
    have:=Yca (cV (D:=false)) (k:=n2) (x:=x2);rw[hz] at this;exact Gi this hl2.2
   refine⟨j+1,by omega,by omega,rfl,vs++[⟨b1,z1⟩],z2,hz2,hone,JiJ (by simp only[go_sem,u0]) rfl,JiJ (by simp only[go_sem,u2]) rfl,JiJ (by simp only[go_sem,u3]) rfl,JiI (by simp only[go_sem,q2]) rfl rfl,JiI (by simp only[go_sem,v2,zSh]) rfl rfl,
    YbA (by simp only[go_sem];rfl) rfl rfl rfl,JiH (.inl (by simp only[go_sem,v5])),(Yv rfl).trans (by simp only[go_sem,Gw];rfl),(Yv rfl).trans (by simp only[go_sem,w95]),by simp[hvl]⟩
structure P467 (S:St) (y:Rd) (sh:Shd) (es:List Entr) (ds:List Done) (j:Nat):Prop where
 r0:S.ρ 0=.lref 0 0
 r2:S.ρ 2=.lref 2 0
 r3:S.ρ 3=.lref 3 0
 m0:S.μ 0=some (eRd y,false)
 m2:S.μ 2=some (zSh,false)
 m3:S.μ 3=some (shP sh (nilOr 69 2 es.length) (nilOr 95 11 j),false)
 a69:S.A 69=YY 2 (es.map YR) es.length
 a95:S.A 95=YY 11 (ds.map YM) j
 vl:ds.length=j
theorem YgT (h464:H464 Pg) (h493:H493 Pg) (h492:H492 Pg) (h465:H465 Pg) {y:Rd} {m:Nat} {sh:Shd} {es:List Entr} (hy:y.1.length≤2 ^ 20) (hm:m≤2 ^ 20) {S:St} {Q:Ex→St→Prop}
  (hS:P467 S y sh es [] 0) (s73:S.ρ 73=iz m) (s74:S.ρ 74=iz 0) (n5:S.μ 5=none)
  (hq:∀S',P467 S' (YO (gD false) m y).2 sh es (YO (gD false) m y).1 m→Q .norm S'):Wp (K' Pg) l467_2 S (Blk 4 Q):=by
 unfold l467_2
 refine JiY (fun (j:Nat) S'=>j≤m∧S'.ρ 73=iz m∧S'.ρ 74=iz j∧S'.μ 5=none∧∃(vs:List Done) (y':Rd),y'.1.length≤2 ^ 20∧
  YO (gD false) m y=(vs++(YO (gD false) (m-j) y').1,(YO (gD false) (m-j) y').2)∧P467 S' y' sh es vs j) (fun j=>m-j) 0 ?_ ?_
 ·exact⟨Gu _,JiJ s73 rfl,JiJ s74 rfl,JiH (.inl n5),[],y,hy,rfl,JiJ hS.r0 rfl,JiJ hS.r2 rfl,JiJ hS.r3 rfl,JiI hS.m0 rfl rfl,JiI hS.m2 rfl rfl,YbA hS.m3 rfl rfl rfl,(Yv rfl).trans hS.a69,(Yv rfl).trans hS.a95,rfl⟩
 ·intro j S' ⟨hj,t73,t74,m5,vs,y',hyl,hrep,hE⟩
  obtain⟨t0,t2,t3,m0,m2,m3,a69,a95,hvl⟩:=hE
  cases c1:decide ((j:Int)<(m:Int)) with
  |false=>
   have hjm:j=m:=by have:=Gb c1;omega
   subst hjm
   have he:=Yc6 hrep
   simp only[go_sem,t73,t74,c1]
   rw[he] at hq
   exact hq _ ⟨by simp only[go_sem,t0],by simp only[go_sem,t2],by simp only[go_sem,t3],m0,m2,m3,a69,a95,hvl⟩
  |true=>
   have hlt:=Ye c1
   have hinc:=inc64q (i:=j) (by omega)
   have hone:=rep_one hlt hrep
   have le:∀{α:Type} {R:Rd→α×Rd} {W:α→List UInt8} {P:α→Prop},Cod R W P→∀{x:Rd},x.1.length≤2 ^ 20→(R x).2.1.length≤2 ^ 20:=fun h x hx=>Gi (h.len x) hx
   have k1:=K465 h465 y' (by omega)
   have hR:gD false y'=(mkD ((rd (tk 9) 0 y').1,(rd (tk 9) 0 (rd (tk 9) 0 y').2).1,(rd (tk 9) 0 (rd (tk 9) 0 (rd (tk 9) 0 y').2).2).1,(rd tkS zS (rd (tk 9) 0 (rd (tk 9) 0 (rd (tk 9) 0 y').2).2).2).1,
     (rd tkF false (rd tkS zS (rd (tk 9) 0 (rd (tk 9) 0 (rd (tk 9) 0 y').2).2).2).2).1,(rd tkT [] (rd tkF false (rd tkS zS (rd (tk 9) 0 (rd (tk 9) 0 (rd (tk 9) 0 y').2).2).2).2).2).1),
     (rd tkT [] (rd tkF false (rd tkS zS (rd (tk 9) 0 (rd (tk 9) 0 (rd (tk 9) 0 y').2).2).2).2).2).2):=rfl
   rw[hR] at hone
   have l1:=le codN hyl
   generalize rd (tk 9) 0 y'=p1 at *
   obtain⟨b1,x1⟩:=p1
   simp only at hone l1
   have k2:=K465 h465 x1 (by omega)
   have l2:=le codN l1
   generalize rd (tk 9) 0 x1=p2 at *
   obtain⟨b2,x2⟩:=p2
   simp only at hone l2
   have k3:=K465 h465 x2 (by omega)
   have l3:=le codN l2
   generalize rd (tk 9) 0 x2=p3 at *
   obtain⟨b3,x3⟩:=p3
   simp only at hone l3
   have k4:=K464 h464 x3 (by omega)
   have l4:=le (cS (D:=false)) l3
   change (rd tkS zS x3).2.1.length≤2 ^ 20 at l4
   generalize rd tkS zS x3=p4 at *
   obtain⟨b4,x4⟩:=p4
   simp only at hone l4
   have k5:=K493 h493 x4 (by omega)
   have l5:=le (cF (D:=false)) l4
   change (rd tkF false x4).2.1.length≤2 ^ 20 at l5
   generalize rd tkF false x4=p5 at *
   obtain⟨b5,x5⟩:=p5
   simp only at hone l5
   have k6:=K492 h492 x5 (by omega)
   have l6:=le (cT (D:=false)) l5
   change (rd tkT [] x5).2.1.length≤2 ^ 20 at l6
   generalize rd tkT [] x5=p6 at *
   obtain⟨b6,x6⟩:=p6
   simp only at hone l6
   have r1:=fun (S:St) (hm:S.μ 0=some (eRd y',false))=>Qb (p:=21800) k1 hm
   have r2:=fun (S:St) (hm:S.μ 0=some (eRd x1,false))=>Qb (p:=21900) k2 hm
   have r3:=fun (S:St) (hm:S.μ 0=some (eRd x2,false))=>Qb (p:=22000) k3 hm
   have r4:=fun (S:St) (hm:S.μ 0=some (eRd x3,false))=>Qb (p:=22100) k4 hm
   have r5:=fun (S:St) (hm:S.μ 0=some (eRd x4,false))=>Qb (p:=22200) k5 hm
   have r6:=fun (S:St) (hm:S.μ 0=some (eRd x5,false))=>Qb (p:=22300) k6 hm
   have hil:(vs.map YM).length=j:=by simp[hvl]
   have ha:=fun S=>YV (S:=S) (s:=95) (z:=11) (r:=YM (mkD (b1,b2,b3,b4,b5,b6))) hil (by unfold lim;omega)
   have v3:=m3
   simp only[shP] at v3
   simp only[go_sem,eSt,mkD,G6] at r1 r2 r3 r4 r5 r6 m0 ha
   simp only[go_sem,t0,t3,t73,t74,c1,m0,m5,v3,a95,r1,r2,r3,r4,r5,r6,YI,ha,hinc]
   refine⟨j+1,by omega,by omega,rfl,vs++[mkD (b1,b2,b3,b4,b5,b6)],x6,l6,hone,JiJ (by simp only[go_sem,t0]) rfl,JiJ (by simp only[go_sem,t2]) rfl,JiJ (by simp only[go_sem,t3]) rfl,JiI (by simp only[go_sem]) rfl rfl,JiI (by simp only[go_sem,m2,zSh]) rfl rfl,
    YbA (by simp only[go_sem];rfl) rfl rfl rfl,(Yv rfl).trans (by simp only[go_sem,a69]),(Yv rfl).trans (by simp only[go_sem,Gw];rfl),by simp[hvl]⟩
theorem YfA {x:Rd} (hx:x.1.length≤2 ^ 20):(rL x).1≤2 ^ 20∧(rL x).2.1.length≤2 ^ 20:=by
 have hc:=(codN).len x;unfold rL;split
 ·exact⟨Gu _,by simp only;omega⟩
 ·exact⟨by omega,by omega⟩
def H467 (Pg:PgT):Prop:=Pg 467=some (.codeR F467 0)∧H464 Pg∧H493 Pg∧H492 Pg∧H465 Pg∧H466 Pg
theorem K467 (h:H467 Pg) (x:Rd) (hx:x.1.length≤2 ^ 20):K' Pg 467 [.tuple (.lref 0 0::eRd x)]=some (.tuple [.agg (Yac (gSh false x).1),.tuple (eRd (gSh false x).2)]):=by
 obtain⟨h,h464,h493,h492,h465,h466⟩:=h;have le:∀{α:Type} {R:Rd→α×Rd} {W:α→List UInt8} {P:α→Prop},Cod R W P→∀{x:Rd},x.1.length≤2 ^ 20→(R x).2.1.length≤2 ^ 20:=fun h x hx=>Gi (h.len x) hx;have hR:∀{a1 a2 a3 a4 a5 a6 a7:Nat} {b1 b2:List UInt8} {c1 c2:Stamp} {x1 x2 x3 x4 x5 x6 x7 x8 x9 x10 x11:Rd},rd (tk 9) 0 x=(a1,x1)→rd (tk 9) 0 x1=(a2,x2)→rd (tk 9) 0 x2=(a3,x3)→rd (tk 9) 0 x3=(a4,x4)→rd (tk 9) 0 x4=(a5,x5)→rd (tk 9) 0 x5=(a6,x6)→rd (tk 9) 0 x6=(a7,x7)→
   rd tkT [] x7=(b1,x8)→rd tkT [] x8=(b2,x9)→rd tkS zS x9=(c1,x10)→rd tkS zS x10=(c2,x11)→
   gSh false x=(mkS (a1,a2,a3,a4,a5,a6,a7,b1,b2,c1,c2,(YO (gE false) (rL x11).1 (rL x11).2).1,(YO (gD false) (rL (YO (gE false) (rL x11).1 (rL x11).2).2).1 (rL (YO (gE false) (rL x11).1 (rL x11).2).2).2).1),(YO (gD false) (rL (YO (gE false) (rL x11).1 (rL x11).2).2).1 (rL (YO (gE false) (rL x11).1 (rL x11).2).2).2).2):=by
  intro a1 a2 a3 a4 a5 a6 a7 b1 b2 c1 c2 x1 x2 x3 x4 x5 x6 x7 x8 x9 x10 x11 e1 e2 e3 e4 e5 e6 e7 e8 e9 e10 e11
  have d1:gN false=rd (tk 9) 0:=rfl
  have d2:gT false=rd tkT []:=rfl
  have d3:gS false=rd tkS zS:=rfl
  simp only[gSh,mapR,pairR,d1,d2,d3,e1,e2,e3,e4,e5,e6,e7,e8,e9,e10,e11]
  rfl
 have k1:=K465 h465 x (by omega);have l1:(rd (tk 9) 0 x).2.1.length≤2 ^ 20:=le codN hx;cases e1:rd (tk 9) 0 x with
 |mk a1 x1=>
 rw[e1] at k1 l1;simp only at k1 l1;have k2:=K465 h465 x1 (by omega);have l2:(rd (tk 9) 0 x1).2.1.length≤2 ^ 20:=le codN l1;cases e2:rd (tk 9) 0 x1 with
 |mk a2 x2=>
 rw[e2] at k2 l2;simp only at k2 l2;have k3:=K465 h465 x2 (by omega);have l3:(rd (tk 9) 0 x2).2.1.length≤2 ^ 20:=le codN l2;cases e3:rd (tk 9) 0 x2 with
 |mk a3 x3=>
 rw[e3] at k3 l3;simp only at k3 l3;have k4:=K465 h465 x3 (by omega);have l4:(rd (tk 9) 0 x3).2.1.length≤2 ^ 20:=le codN l3;cases e4:rd (tk 9) 0 x3 with
 |mk a4 x4=>
 rw[e4] at k4 l4;simp only at k4 l4;have k5:=K465 h465 x4 (by omega);have l5:(rd (tk 9) 0 x4).2.1.length≤2 ^ 20:=le codN l4;cases e5:rd (tk 9) 0 x4 with
 |mk a5 x5=>
 rw[e5] at k5 l5;simp only at k5 l5;have k6:=K465 h465 x5 (by omega);have l6:(rd (tk 9) 0 x5).2.1.length≤2 ^ 20:=le codN l5;cases e6:rd (tk 9) 0 x5 with
 |mk a6 x6=>
 rw[e6] at k6 l6;simp only at k6 l6;have k7:=K465 h465 x6 (by omega);have l7:(rd (tk 9) 0 x6).2.1.length≤2 ^ 20:=le codN l6;cases e7:rd (tk 9) 0 x6 with
 |mk a7 x7=>
 rw[e7] at k7 l7;simp only at k7 l7;have k8:=K492 h492 x7 (by omega);have l8:(rd tkT [] x7).2.1.length≤2 ^ 20:=le (cT (D:=false)) l7;cases e8:rd tkT [] x7 with
 |mk b1 x8=>
 rw[e8] at k8 l8;simp only at k8 l8;have k9:=K492 h492 x8 (by omega);have l9:(rd tkT [] x8).2.1.length≤2 ^ 20:=le (cT (D:=false)) l8;cases e9:rd tkT [] x8 with
 |mk b2 x9=>
 rw[e9] at k9 l9;simp only at k9 l9;have k10:=K464 h464 x9 (by omega);have l10:(rd tkS zS x9).2.1.length≤2 ^ 20:=le (cS (D:=false)) l9;cases e10:rd tkS zS x9 with
 |mk c1 x10=>
 rw[e10] at k10 l10;simp only at k10 l10;have k11:=K464 h464 x10 (by omega);have l11:(rd tkS zS x10).2.1.length≤2 ^ 20:=le (cS (D:=false)) l10;cases e11:rd tkS zS x10 with
 |mk c2 x11=>
 rw[e11] at k11 l11;simp only at k11 l11;rw[hR e1 e2 e3 e4 e5 e6 e7 e8 e9 e10 e11];have kL:=K466 h466 x11 (by omega);have lL:=YfA l11;generalize rL x11=pL at *
 obtain⟨m,y⟩:=pL;simp only at kL lL ⊢;have lE:=Gi (Yca (cE (D:=false)) (k:=m) (x:=y)) lL.2;generalize hE:YO (gE false) m y=pE at *
 obtain⟨es,y2⟩:=pE;simp only at lE ⊢;have kM:=K466 h466 y2 (by omega);have lM:=YfA lE;generalize rL y2=pM at *
 obtain⟨m2,y3⟩:=pM;simp only at kM lM ⊢;generalize hD:YO (gD false) m2 y3=pD at *
 obtain⟨ds,y4⟩:=pD;simp only;refine Ybm [.cell 2 (some 17)] (ws:=[.agg _]) h rfl rfl (Yr _) (Yr _) (Yat _) fun S ⟨r0,r,hm,m0,a0⟩=>?_;have n2:=m0 2 rfl;have n3:=m0 3 rfl;have n4:=m0 4 rfl;have n5:=m0 5 rfl;have r1:=fun (S:St) (hm:S.μ 0=some (eRd x,false))=>Qb (p:=20000) k1 hm;have r2:=fun (S:St) (hm:S.μ 0=some (eRd x1,false))=>Qb (p:=20100) k2 hm;have r3:=fun (S:St) (hm:S.μ 0=some (eRd x2,false))=>Qb (p:=20200) k3 hm;have r4:=fun (S:St) (hm:S.μ 0=some (eRd x3,false))=>Qb (p:=20300) k4 hm;have r5:=fun (S:St) (hm:S.μ 0=some (eRd x4,false))=>Qb (p:=20400) k5 hm;have r6:=fun (S:St) (hm:S.μ 0=some (eRd x5,false))=>Qb (p:=20500) k6 hm;have r7:=fun (S:St) (hm:S.μ 0=some (eRd x6,false))=>Qb (p:=20600) k7 hm;have r8:=fun (S:St) (hm:S.μ 0=some (eRd x7,false))=>Qb (p:=20700) k8 hm;have r9:=fun (S:St) (hm:S.μ 0=some (eRd x8,false))=>Qb (p:=20800) k9 hm;have r10:=fun (S:St) (hm:S.μ 0=some (eRd x9,false))=>Qb (p:=20900) k10 hm;have r11:=fun (S:St) (hm:S.μ 0=some (eRd x10,false))=>Qb (p:=21000) k11 hm;have rA:=fun (S:St) (hm:S.μ 0=some (eRd x11,false))=>Qb (p:=21100) kL hm;have rB:=fun (S:St) (hm:S.μ 0=some (eRd y2,false))=>Qb (p:=21700) kM hm;simp only[go_sem,eSt] at hm r1 r2 r3 r4 r5 r6 r7 r8 r9 r10 r11 rA rB;simp only[F467,c467,go_sem,r0,hm,n2,n3,r1,r2,r3,r4,r5,r6,r7,r8,r9,r10,r11,rA];refine Yif h464 h493 h492 h466 (y:=y) (m:=m) (sh:=mkS (a1,a2,a3,a4,a5,a6,a7,b1,b2,c1,c2,[],[])) lL.2 lL.1 ⟨by simp only[go_sem,r0],by simp only[go_sem],by simp only[go_sem],by simp only[go_sem],by simp only[go_sem,zSh],by simp only[go_sem];rfl,by simp only[go_sem,n5],a0 69,a0 95,rfl⟩ (by simp only[go_sem]) (by simp only[go_sem]) (by simp only[go_sem,n4]) (a0 62) fun S1 hE1=>?_;rw[hE] at hE1;obtain⟨t0,t2,t3,u0,u2,u3,u5,w69,w95,hvl⟩:=hE1;simp only at hvl w69 u0;simp only[go_sem] at u0;simp only[go_sem,t0,u0,rB];refine YgT h464 h493 h492 h465 (y:=y3) (m:=m2) (sh:=mkS (a1,a2,a3,a4,a5,a6,a7,b1,b2,c1,c2,[],[])) (es:=es) lM.2 lM.1 ⟨by simp only[go_sem,t0],by simp only[go_sem,t2],by simp only[go_sem,t3],by simp only[go_sem],by simp only[go_sem,u2],by simp only[go_sem,u3,hvl],by simp only[go_sem,w69,hvl],by simp only[go_sem,w95];rfl,rfl⟩ (by simp only[go_sem]) (by simp only[go_sem]) (by simp only[go_sem,u5]) fun S2 hD1=>?_;rw[hD] at hD1;obtain⟨q0,q2,q3,v0,v2,v3,z69,z95,hdl⟩:=hD1;simp only at hdl z95 v0;have hc1:=Yq z69 (by simp);have hc2:=Yq z95 (by simp[hdl]);simp only[shP,mkS] at v3;simp only[zSh] at v2;simp only[go_sem,q2,q3,v2,v3];refine⟨v0,_,rfl,?_⟩;simp only[go_sem,hc1,hc2,mkS]
theorem Yb0 {n:Int}:decide (n<1)=!decide (1≤n):=by by_cases h:1≤n<;>simp[h]<;>omega
theorem Yev {n:Int}:decide (3<n)=!decide (n≤3):=by by_cases h:n≤3<;>simp[h]<;>omega
def rgB (m n:Int):Bool:=!(decide (n<m)||decide (1099511627776<n))
theorem rg1 (n:Int):rgB 1 n=YK n:=by
 simp only[rgB,YK];by_cases h:1≤n<;>by_cases h2:n≤1099511627776<;>simp[h,h2]<;>omega
theorem rg0 (n:Int):rgB 0 n=nou n:=by
 simp only[rgB,nou];by_cases h:0≤n<;>by_cases h2:n≤1099511627776<;>simp[h,h2]<;>omega
def H313 (Pg:PgT):Prop:=Pg 313=some (.code F313)
theorem K313 (h:H313 Pg) (n m:Int):K' Pg 313 [iz n,.cptr [iz m] 0]=some (.bool (decide (n<m)||decide (1099511627776<n))):=by
 refine Qa h rfl ?_;cases c:decide (n<m)<;>simp only[go_sem,c,Gab,G4]
def H284 (Pg:PgT):Prop:=Pg 284=some (.code F284)∧H67 Pg∧H313 Pg
theorem K284 (h:H284 Pg) (m:Int) (l:List Int) (hl:l.length<2 ^ 60):K' Pg 284 [iz m,Yf l]=some (.bool (!(l.any fun n=>decide (n<m)||decide (1099511627776<n)))):=by
 obtain⟨h,h67,h313⟩:=h;have k:=K67 h67 l 313 [.cptr [iz m] 0] (fun n=>decide (n<m)||decide (1099511627776<n)) hl rfl (fun n _=>K313 h313 n m);simp only[Yf] at k;refine Qa h rfl ?_;simp only[go_sem,Yf,k]
theorem K284a (h:H284 Pg) (m a:Int):K' Pg 284 [iz m,.slice 1 [[iz a]]]=some (.bool (rgB m a)):=by
 have:=K284 h m [a] (by simp);simpa [Yf,rgB] using this
theorem K284b (h:H284 Pg) (m a b:Int):K' Pg 284 [iz m,.slice 1 [[iz a],[iz b]]]=some (.bool (rgB m a&&rgB m b)):=by
 have:=K284 h m [a,b] (by simp);simpa [Yf,rgB,Bool.and_assoc] using this
theorem K284d (h:H284 Pg) (m a b c d:Int):K' Pg 284 [iz m,.slice 1 [[iz a],[iz b],[iz c],[iz d]]]=some (.bool (rgB m a&&(rgB m b&&(rgB m c&&rgB m d)))):=by
 have:=K284 h m [a,b,c,d] (by simp);simpa [Yf,rgB,Bool.and_assoc] using this
def H298 (Pg:PgT):Prop:=Pg 298=some (.code F298)∧H171 Pg
theorem K298 (h:H298 Pg) (e:Entr) (s:Shd):K' Pg 298 [.agg (YR e),.cptr (Yac s) 0]=some (.bool (!Yax s.span e.key)):=by
 obtain⟨h,h171⟩:=h;have k:=K171 h171 s.span e.key;simp only[YG] at k;refine Qa h rfl ?_;simp only[go_sem,Yb,k]
def Ydr:List Entr→(Entr→Bool)→Nat→Int
 |[],_,_=>-1
 |a::l,p,i=>if p a then i else Ydr l p (i+1)
theorem Yd8:∀{l:List Entr} {p:Entr→Bool} {i:Nat},decide (0≤Ydr l p i)=l.any p
 |[],p,i=>by simp[Ydr]
 |a::l,p,i=>by
  simp only[Ydr];split
  ·rename_i h;simp[h]
  ·rename_i h;rw[Yd8];simp[h]
def H315 (Pg:PgT):Prop:=Pg 315=some (.code F315)
theorem K315 (h:H315 Pg) (l:List Entr) (g:Nat) (cap:List V) (p:Entr→Bool) (hl:l.length<2 ^ 60) (hg:∀x∈l,K' Pg g (.agg (YR x)::cap)=some (.bool (p x))) :
  K' Pg 315 [Yl l,.func g cap]=some (iz (Ydr l p 0)):=by
 refine Qa h rfl ?_
 simp only[YR,Yb] at hg
 simp only[go_sem]
 unfold l315_0
 refine JiY (fun (i:Nat) S=>i≤l.length∧S.ρ 0=Yl l∧S.ρ 1=.func g cap∧S.ρ 7=iz l.length∧S.ρ 8=iz i∧Ydr (l.drop i) p i=Ydr l p 0) (fun i=>l.length-i) 0 ?_ ?_
 ·simp[go_sem]
 ·intro i S ⟨hi,h0,h1,h7,h8,ho⟩
  simp only[go_sem,h7,h8]
  refine JiZ (fun h=>?_) (fun h=>?_)
  ·have h:=Ye h
   obtain⟨x,hx,hd⟩:=JiF h
   rw[hd] at ho
   have hgx:=hg x (List.mem_of_getElem? hx)
   simp only[go_sem,Yb,h0,h1,h8,hx,hgx]
   refine JiZ (fun hc=>?_) (fun hc=>?_)
   ·simp only[Ydr,hc,GO] at ho
    simp only[go_sem,←ho]
   ·simp only[Ydr,hc,Gx,GN] at ho
    simp only[go_sem,h0,h1,h7,h8]
    exact⟨i+1,by omega,by omega,by rw[Yi h hl],ho⟩
  ·have h:=Ym hi h
   subst h
   simp only[GF,Ydr] at ho
   simp only[go_sem,←ho]
def H299 (Pg:PgT):Prop:=Pg 299=some (.code F299)∧H315 Pg
theorem K299 (h:H299 Pg) (l:List Entr) (g:Nat) (cap:List V) (p:Entr→Bool) (hl:l.length<2 ^ 60) (hg:∀x∈l,K' Pg g (.agg (YR x)::cap)=some (.bool (p x))) :
  K' Pg 299 [Yl l,.func g cap]=some (.bool (l.any p)):=by
 obtain⟨h,h315⟩:=h
 have k:=K315 h315 l g cap p hl hg
 simp only[Yl] at k
 refine Qa h rfl ?_
 simp only[go_sem,k,Yd8]
theorem YgM {α:Type} {l:List α} {p:α→Bool}:(!(l.any fun x=>!p x))=l.all p:=by
 induction l with
 |nil=>rfl
 |cons a l ih=>simp only[List.any_cons,List.all_cons,←ih];cases p a<;>simp
def H244 (Pg:PgT):Prop:=Pg 244=some (.code F244)∧H28 Pg∧H81 Pg∧H186 Pg∧H203 Pg∧H284 Pg∧H298 Pg∧H299 Pg
theorem K244 (h:H244 Pg) (s:Shd) (hs:SmS s):K' Pg 244 [.agg (Yac s)]=some (.bool (shR s)):=by
 obtain⟨h,h28,h81,h186,h203,h284,h298,h299⟩:=h;have hlen:=hs.1.len;have a1:=K284b h284 1 s.id s.epoch;have a2:=K284d h284 0 s.hold s.seen s.move s.closed;have k186:=K186 h186 s.span;have k203:=K203 h203 s.ents hs.1;have kmark:=K28 h28 s.mark;have ktop:=K28 h28 s.top;have k81:=K81 h81 s.done (by have:=hs.2.1;omega);have k299:=K299 h299 s.ents 298 [.cptr (Yac s) 0] (fun e=>!Yax s.span e.key) (by omega) (fun e _=>K298 h298 e s);simp only[rg1] at a1;simp only[rg0] at a2;simp only[Yac,YG,Yd,Yl,Yn] at k186 k203 kmark ktop k81 k299;clear hs hlen h28 h81 h186 h203 h284 h298 h299;refine Qa h rfl ?_;clear h;cases c1:YK s.id with
 |false=>simp only[go_sem,shR,shR0, *]
 |true=>
 cases c2:YK s.epoch with
 |false=>simp only[go_sem,shR,shR0, *]
 |true=>
 cases c3:nou s.hold with
 |false=>simp only[go_sem,shR,shR0, *]
 |true=>
 cases c4:nou s.seen with
 |false=>simp only[go_sem,shR,shR0, *]
 |true=>
 cases c5:nou s.move with
 |false=>simp only[go_sem,shR,shR0, *]
 |true=>
 cases c6:nou s.closed with
 |false=>simp only[go_sem,shR,shR0, *]
 |true=>
 cases c7:decide (1≤s.phase) with
 |false=>simp only[go_sem,shR,shR0,Yb0, *]
 |true=>
 cases c8:decide (s.phase≤3) with
 |false=>simp only[go_sem,shR,shR0,Yb0,Yev, *]
 |true=>
 cases c9:Ys s.span with
 |false=>simp only[go_sem,shR,shR0,Yb0,Yev, *]
 |true=>
 cases c10:ixR s.ents with
 |false=>simp only[go_sem,shR,shR0,Yb0,Yev, *]
 |true=>
 cases c11:Ya s.mark with
 |false=>simp only[go_sem,shR,shR0,Yb0,Yev, *]
 |true=>
 cases c12:Ya s.top with
 |false=>simp only[go_sem,shR,shR0,Yb0,Yev, *]
 |true=>
 cases c13:YF s.done with
 |false=>simp only[go_sem,shR,shR0,Yb0,Yev, *]
 |true=>
 simp only[go_sem,shR,shR0,Yb0,Yev,YgM, *]
def H292 (Pg:PgT):Prop:=Pg 292=some (.code F292)
theorem Yji {n:Int}:decide (0<n)=decide (1≤n):=GM.2 (by omega)
theorem K292 (h:H292 Pg) (n:Int):K' Pg 292 [iz n]=some (.bool (YK n)):=by
 refine Qa h rfl ?_;simp only[go_sem,Yji];cases c1:decide (1≤n)<;>simp only[go_sem,c1,YK]
def H293 (Pg:PgT):Prop:=Pg 293=some (.code F293)∧H292 Pg
theorem K293 (h:H293 Pg) (n:Int):K' Pg 293 [iz n]=some (.bool (nou n)):=by
 obtain⟨h,h292⟩:=h;have k:=K292 h292 n;have e:nou n=(decide (n=0)||YK n):=by
  simp only[nou,YK];by_cases h1:n=0<;>by_cases h2:0≤n<;>by_cases h3:n≤1099511627776<;>by_cases h4:1≤n<;>simp[h1,h2,h3,h4]<;>omega
 refine Qa h rfl ?_;rw[e];cases c1:decide (n=0)<;>simp only[go_sem,c1,k,Gab,G4]
def H245 (Pg:PgT):Prop:=Pg 245=some (.code F245)∧H24 Pg∧H80 Pg∧H142 Pg∧H167 Pg∧H204 Pg∧H292 Pg∧H293 Pg
theorem K245 (h:H245 Pg) (s:Shd) (hs:SmS s):K' Pg 245 [.agg (Yac s)]=some (.bool (shR s)):=by
 obtain⟨h,h24,h80,h142,h167,h204,h292,h293⟩:=h;have hlen:=hs.1.len;have k292:=fun n=>K292 h292 n;have k293:=fun n=>K293 h293 n;have k167:=K167 h167 s.span;have k204:=K204 h204 s.ents hs.1;have kmark:=K24 h24 s.mark;have ktop:=K24 h24 s.top;have k80:=K80 h80 s.done (by have:=hs.2.1;omega);have k142:=fun k=>K142 h142 s.span k;simp only[YG,Yd,Yl,Yn] at k167 k204 kmark ktop k80 k142;clear hs h24 h80 h142 h167 h204 h292 h293;refine Qa h rfl ?_;clear h;cases c1:YK s.id with
 |false=>simp only[go_sem,shR,shR0, *]
 |true=>
 cases c2:YK s.epoch with
 |false=>simp only[go_sem,shR,shR0, *]
 |true=>
 cases c3:nou s.hold with
 |false=>simp only[go_sem,shR,shR0, *]
 |true=>
 cases c4:nou s.seen with
 |false=>simp only[go_sem,shR,shR0, *]
 |true=>
 cases c5:nou s.move with
 |false=>simp only[go_sem,shR,shR0, *]
 |true=>
 cases c6:nou s.closed with
 |false=>simp only[go_sem,shR,shR0, *]
 |true=>
 cases p1:decide (1≤s.phase) with
 |false=>
  have q1:decide (s.phase=1)=false:=Gp (by have:=Gb p1;omega);have q2:decide (s.phase=2)=false:=Gp (by have:=Gb p1;omega);have q3:decide (s.phase=3)=false:=Gp (by have:=Gb p1;omega);simp only[go_sem,shR,shR0, *]
 |true=>
 cases p2:decide (s.phase≤3) with
 |false=>
  have q1:decide (s.phase=1)=false:=Gp (by have:=Gb p2;omega);have q2:decide (s.phase=2)=false:=Gp (by have:=Gb p2;omega);have q3:decide (s.phase=3)=false:=Gp (by have:=Gb p2;omega);simp only[go_sem,shR,shR0, *]
 |true=>
 have fin:∀S:St,S.ρ 1=.lref 1 0→S.μ 1=some (Yac s,false)→S.ρ 3=iz 0→shR0 s=true→Wp (K' Pg) (.seq (.block 0 l245_0) (.seq (.region false r245_10) .ret)) S (fun ex S=>(ex=.norm∨ex=.ret)∧JaI F245 S=some (.bool (shR s))):=by
  intro S g1 m1 g3 hr;have e:shR s=s.ents.all fun e=>Yax s.span e.key:=by simp[shR,hr]
  rw[e];simp only[go_sem];unfold l245_0;refine JiY (fun (i:Nat) S=>i≤s.ents.length∧S.ρ 1=.lref 1 0∧S.μ 1=some (Yac s,false)∧S.ρ 3=iz i∧((s.ents.drop i).all fun e=>Yax s.span e.key)=s.ents.all fun e=>Yax s.span e.key) (fun i=>s.ents.length-i) 0 ?_ ?_
  ·simp[go_sem,g1,m1,g3]
  ·intro i S ⟨hi,g1,m1,g3,ho⟩;simp only[go_sem,g1,m1,g3];refine JiZ (fun h=>?_) (fun h=>?_)
   ·have h:=Ye h;obtain⟨x,hx,hd⟩:=JiF h;rw[hd,List.all_cons] at ho;simp only[go_sem,g1,m1,g3,hx,Yb,k142];cases c:Yax s.span x.key with
    |false=>
     rw[c,Gj] at ho;simp only[go_sem,←ho]
    |true=>
     rw[c,Gn] at ho;simp only[go_sem,g1,m1,g3];exact⟨i+1,by omega,by omega,by rw[Yi h (by omega)],ho⟩
   ·have h:=Ym hi h;subst h;rw[GF,List.all_nil] at ho;simp only[go_sem,←ho]
 have hq:∀b,(decide (s.phase=1)=true∨(decide (s.phase=1)=false∧decide (s.phase=2)=true)∨(decide (s.phase=1)=false∧decide (s.phase=2)=false∧decide (s.phase=3)=true))∨b=true:=fun b=>by
  have:=Gg p1;have:=Gg p2;left;by_cases h1:s.phase=1
  ·left;simp[h1]
  ·by_cases h2:s.phase=2
   ·right;left;simp[h2]
   ·right;right;have:s.phase=3:=by omega
    simp[this]
 have hq:=(hq false).resolve_right (by simp);rcases hq with q1|⟨q1,q2⟩|⟨q1,q2,q3⟩
 all_goals
  cases c9:Ys s.span with
  |false=>simp only[go_sem,shR,shR0, *]
  |true=>
  cases c10:ixR s.ents with
  |false=>simp only[go_sem,shR,shR0, *]
  |true=>
  cases c11:Ya s.mark with
  |false=>simp only[go_sem,shR,shR0, *]
  |true=>
  cases c12:Ya s.top with
  |false=>simp only[go_sem,shR,shR0, *]
  |true=>
  cases c13:YF s.done with
  |false=>simp only[go_sem,shR,shR0, *]
  |true=>
  have hr:shR0 s=true:=by simp only[shR0,Bool.and_self, *]
  simp only[go_sem, *,-fin,-hr]
  exact YgH (fin _ (by simp only[go_sem]) (by simp only[go_sem]) (by simp only[go_sem]) hr)
end Sg
