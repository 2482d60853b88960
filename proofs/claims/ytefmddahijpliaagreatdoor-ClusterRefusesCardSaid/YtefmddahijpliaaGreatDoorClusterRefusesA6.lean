/- ClusterRefuses, at every input: proved over a checked abstract run of the translated code; no condition. A part. -/
import Derived.Test.YtefmddahijpliaaGreatDoorClusterRefusesA5
set_option linter.unusedSimpArgs false
set_option linter.unusedVariables false
set_option linter.constructorNameAsVariable false
set_option linter.defProp false
set_option maxRecDepth 10000
set_option maxHeartbeats 4000000
namespace Sg
open _root_.Go (IntKind BinOp UnOp)
variable {Pg:PgT}
theorem YbD (h:H422 Pg) (g:List UInt8) (l:List Int) (hl:∀n∈l,0≤n∧n<2 ^ 63) (hb:g.length+9*l.length≤2 ^ 29) :
  K' Pg 422 [.tuple [.lref 0 0,.tuple [.slice 1 (g.map rowB)]],.slice 1 (l.map fun a=>[iz a])]=some (.tuple [.tuple [],.tuple [.tuple [.slice 1 ((g++Yc l).map rowB)]]]):=K422g h.1 h.2 g l hl hb
theorem YbE (h:H457 Pg) (g:List UInt8) (l:List (List UInt8)) (hl:∀n∈l,n.length≤2 ^ 30) (hb:g.length+(Ye l).length≤2 ^ 29) :
  K' Pg 457 [.tuple [.lref 0 0,.tuple [.slice 1 (g.map rowB)]],.slice 1 (l.map fun t=>[.str t])]=some (.tuple [.tuple [],.tuple [.tuple [.slice 1 ((g++Ye l).map rowB)]]]):=K457g h.1 h.2 g l hl hb
theorem Yc5 (h:H421 Pg) (g:List UInt8) (l:List Stamp) (hl:∀n∈l,Ya n=true) (hb:g.length+(Yf l).length≤2 ^ 29) :
  K' Pg 421 [.tuple [.lref 0 0,.tuple [.slice 1 (g.map rowB)]],.slice 3 (l.map Yg)]=some (.tuple [.tuple [],.tuple [.tuple [.slice 1 ((g++Yf l).map rowB)]]]):=K421g h.1 h.2 g l hl hb
def ItS (p:List UInt8×List UInt8):Prop:=p.1.length≤2 ^ 30∧p.2.length≤2 ^ 30
set_option maxHeartbeats 1000000
theorem Yey (h457:H457 Pg) {g:List UInt8} {es:List (List UInt8×List UInt8)} (he:∀e∈es,ItS e) (hc:es.length<2 ^ 60) (hb:g.length+(es.flatMap itB).length+2 ^ 25≤2 ^ 29) {S:St} {Q:Ex→St→Prop} {X:List V} (hX:X.all V.datC=true) {Y:List V} (hY:Y.all V.datC=true) (s6:S.ρ 6=.lref 6 0) (m6:S.μ 6=some (Y,false))
  (s1:S.ρ 1=.lref 1 0) (s4:S.ρ 4=.lref 4 0) (m1:S.μ 1=some (X,false)) (n10:S.μ 10=none) (hn:Fr S.A 21500) (s98:S.ρ 98=.slice 2 (es.map YcZ)) (s99:S.ρ 99=iz es.length) (s100:S.ρ 100=iz 0) {a:Nat} (ha:a<21500) (hT:HW S 4 g a)
  (hq:∀S',S'.ρ 1=.lref 1 0→S'.ρ 4=.lref 4 0→S'.μ 1=some (X,false)→S'.ρ 6=.lref 6 0→S'.μ 6=some (Y,false)→S'.μ 10=none→Fr S'.A 21500→HW S' 4 (g++es.flatMap itB) 10400→Q .norm S'):Wp (K' Pg) l529_0 S (Blk 0 Q):=by
 unfold l529_0
 refine Jms (fun (i:Nat) S=>i≤es.length∧S.ρ 1=.lref 1 0∧S.ρ 4=.lref 4 0∧S.μ 1=some (X,false)∧S.ρ 6=.lref 6 0∧S.μ 6=some (Y,false)∧S.μ 10=none∧Fr S.A 21500∧S.ρ 98=.slice 2 (es.map YcZ)∧S.ρ 99=iz es.length∧S.ρ 100=iz i∧HW S 4 (g++(es.take i).flatMap itB) 10400∧S.μ 8=none∧S.A 21400=none) (fun i=>es.length-i) 0 ?_ ?_
 ·have hh:=HW.head (Wv:=[8]) (Wa:=[21400]) (h1:=10400) hT rfl rfl
  exact⟨Gae _,Jmc s1 rfl,Jmc s4 rfl,Jmb m1 hX rfl,Jmc s6 rfl,Jmb m6 hY rfl,Jma (.inl n10),fun x hx=>hh.2.2 x (by omega) (by omega) (hn x hx),Jmc s98 rfl,Jmc s99 rfl,Jmc s100 rfl,by simpa using hh.1,Jma (.inr rfl),hh.2.1 _ rfl⟩
 ·intro i S ⟨hi,s1,s4,m1,s6,m6,n10,hn,s98,s99,s100,hT,nn,w21400⟩
  have hm:=hT.m
  have hA:=hT.a
  cases c1:decide ((i:Int)<(es.length:Int)) with
  |false=>
   have hil:i=es.length:=by have:=Gk c1;omega
   rw[hil,GP] at hT
   simp only[go_sem,s99,s100,c1]
   exact hq _ (by simp only[go_sem,s1]) (by simp only[go_sem,s4]) m1 (by simp only[go_sem,s6]) m6 n10 hn ⟨hT.m,hT.a⟩
  |true=>
   have hlt:=Yi c1
   obtain⟨e,hx,-⟩:=Jl8 hlt
   have hinc:=inc64q (i:=i) (by omega)
   have hv:=he e (List.mem_of_getElem? hx)
   have htk:es.take (i+1)=es.take i++[e]:=by rw[GT,hx];rfl
   have hbl:=YaI (W:=itB) (l:=es) (i:=i+1)
   have hfull:g++(es.take (i+1)).flatMap itB=g++(es.take i).flatMap itB++Ye [e.1,e.2]:=by rw[htk];simp[itB,Yag,Ye,Yc,Yf,nB]
   rw[htk,GZ,Gc] at hbl
   simp only[Gu,GB,Gz,itB,nB,←Yag,Gc] at hbl
   generalize hg:g++(es.take i).flatMap itB=g1 at *
   have hgl:g1.length=g.length+((es.take i).flatMap itB).length:=by rw[←hg,Gc]
   have q1:=YbE h457 (g1) [e.1,e.2] (Gg.2 ⟨hv.1,Gg.2 ⟨hv.2,fun _ h=>by cases h⟩⟩) (by simp only[Ye,Yc,Yf,Gu,GB,Gz,Gc,List.length_cons,List.length_nil];omega)
   simp only[Gq,Gt] at q1
   generalize Ye [e.1,e.2]=b1 at *
   simp only[go_sem,Jmd,s1,s4,s98,s99,s100,c1,hx,hm,hA,nn,w21400,q1,hinc,Gl]
   have h4:=fun {S:St} (h:HW S 4 (g1++b1) 21400)=>HW.head (Wv:=[8]) (Wa:=[21400]) (h1:=10400) h rfl rfl
   refine⟨i+1,by omega,by omega,Jmc (by simp only[go_sem,s1]) rfl,Jmc (by simp only[go_sem,s4]) rfl,Jmb (by simp only[go_sem,m1]) hX rfl,Jmc (by simp only[go_sem,s6]) rfl,Jmb (by simp only[go_sem,m6]) hY rfl,Jma (.inl (by simp only[go_sem,n10])),fun x hx=>(h4 ⟨?_,?_⟩).2.2 x (by omega) (by omega) ((show Fr _ 21500 from by repeat' first|exact hn|refine Fr.up ?_ (by omega)) x hx),Jmc (by simp only[go_sem,s98]) rfl,Jmc (by simp only[go_sem,s99]) rfl,Jmc (by simp only[go_sem]) rfl,(h4 ⟨?_,?_⟩).1.out hfull.symm,Jma (.inr rfl),(h4 ⟨?_,?_⟩).2.1 _ rfl⟩
   all_goals simp only[go_sem,Gc]
theorem YeK (h422:H422 Pg) (h457:H457 Pg) {g:List UInt8} {es:List Place} (he:∀e∈es,PlS e) (hc:es.length<2 ^ 60) (hb:g.length+(es.flatMap plB).length+2 ^ 25≤2 ^ 29) {S:St} {Q:Ex→St→Prop} {X:List V} (hX:X.all V.datC=true)
  (s1:S.ρ 1=.lref 1 0) (s4:S.ρ 4=.lref 4 0) (m1:S.μ 1=some (X,false))  (hn:Fr S.A 22000) (s124:S.ρ 124=.slice 5 (es.map ePl)) (s125:S.ρ 125=iz es.length) (s126:S.ρ 126=iz 0) {a:Nat} (ha:a<22000) (hT:HW S 4 g a)
  (hq:∀S',S'.ρ 1=.lref 1 0→S'.ρ 4=.lref 4 0→S'.μ 1=some (X,false)→ Fr S'.A 22000→HW S' 4 (g++es.flatMap plB) 10400→Q .norm S'):Wp (K' Pg) l529_1 S (Blk 2 Q):=by
 unfold l529_1
 refine Jms (fun (i:Nat) S=>i≤es.length∧S.ρ 1=.lref 1 0∧S.ρ 4=.lref 4 0∧S.μ 1=some (X,false)∧Fr S.A 22000∧S.ρ 124=.slice 5 (es.map ePl)∧S.ρ 125=iz es.length∧S.ρ 126=iz i∧HW S 4 (g++(es.take i).flatMap plB) 10400∧S.μ 10=none∧S.A 21800=none∧S.A 21900=none) (fun i=>es.length-i) 0 ?_ ?_
 ·have hh:=HW.head (Wv:=[10]) (Wa:=[21800,21900]) (h1:=10400) hT rfl rfl
  exact⟨Gae _,Jmc s1 rfl,Jmc s4 rfl,Jmb m1 hX rfl,fun x hx=>hh.2.2 x (by omega) (by omega) (hn x hx),Jmc s124 rfl,Jmc s125 rfl,Jmc s126 rfl,by simpa using hh.1,Jma (.inr rfl),hh.2.1 _ rfl,hh.2.1 _ rfl⟩
 ·intro i S ⟨hi,s1,s4,m1,hn,s124,s125,s126,hT,nn,w21800,w21900⟩
  have hm:=hT.m
  have hA:=hT.a
  cases c1:decide ((i:Int)<(es.length:Int)) with
  |false=>
   have hil:i=es.length:=by have:=Gk c1;omega
   rw[hil,GP] at hT
   simp only[go_sem,s125,s126,c1]
   exact hq _ (by simp only[go_sem,s1]) (by simp only[go_sem,s4]) m1 hn ⟨hT.m,hT.a⟩
  |true=>
   have hlt:=Yi c1
   obtain⟨e,hx,-⟩:=Jl8 hlt
   have hinc:=inc64q (i:=i) (by omega)
   have hv:=he e (List.mem_of_getElem? hx)
   have htk:es.take (i+1)=es.take i++[e]:=by rw[GT,hx];rfl
   have hbl:=YaI (W:=plB) (l:=es) (i:=i+1)
   have hfull:g++(es.take (i+1)).flatMap plB=g++(es.take i).flatMap plB++Ye [e.span.lo,e.span.hi]++Yc [e.shard,e.cell,e.epoch]:=by rw[htk];simp[plB,Yag,Ye,Yc,Yf,nB]
   rw[htk,GZ,Gc] at hbl
   simp only[Gu,GB,Gz,plB,nB,←Yag,Gc] at hbl
   generalize hg:g++(es.take i).flatMap plB=g1 at *
   have hgl:g1.length=g.length+((es.take i).flatMap plB).length:=by rw[←hg,Gc]
   have q1:=YbE h457 (g1) [e.span.lo,e.span.hi] (Gg.2 ⟨hv.2.1,Gg.2 ⟨hv.2.2,fun _ h=>by cases h⟩⟩) (by simp only[Ye,Yc,Yf,Gu,GB,Gz,Gc,List.length_cons,List.length_nil];omega)
   have q2:=YbD h422 (g1++Ye [e.span.lo,e.span.hi]) [e.shard,e.cell,e.epoch] (Gg.2 ⟨YX hv.1.1.2.2.1,Gg.2 ⟨YX hv.1.1.2.2.2.1,Gg.2 ⟨YX hv.1.1.2.2.2.2,fun _ h=>by cases h⟩⟩⟩) (by simp only[Ye,Yc,Yf,Gu,GB,Gz,Gc,List.length_cons,List.length_nil];omega)
   simp only[Gq,Gt] at q1 q2
   generalize Ye [e.span.lo,e.span.hi]=b1 at *
   generalize Yc [e.shard,e.cell,e.epoch]=b2 at *
   simp only[go_sem,Jmd,s1,s4,s124,s125,s126,c1,hx,hm,hA,nn,w21800,w21900,q1,q2,hinc,Gl]
   have h4:=fun {S:St} (h:HW S 4 (g1++b1++b2) 21900)=>HW.head (Wv:=[10]) (Wa:=[21800,21900]) (h1:=10400) h rfl rfl
   refine⟨i+1,by omega,by omega,Jmc (by simp only[go_sem,s1]) rfl,Jmc (by simp only[go_sem,s4]) rfl,Jmb (by simp only[go_sem,m1]) hX rfl,fun x hx=>(h4 ⟨?_,?_⟩).2.2 x (by omega) (by omega) ((show Fr _ 22000 from by repeat' first|exact hn|refine Fr.up ?_ (by omega)) x hx),Jmc (by simp only[go_sem,s124]) rfl,Jmc (by simp only[go_sem,s125]) rfl,Jmc (by simp only[go_sem]) rfl,(h4 ⟨?_,?_⟩).1.out hfull.symm,Jma (.inr rfl),(h4 ⟨?_,?_⟩).2.1 _ rfl,(h4 ⟨?_,?_⟩).2.1 _ rfl⟩
   all_goals simp only[go_sem,Gc]
theorem bt {t:List UInt8} (h:t.length≤2 ^ 24):t.length≤2 ^ 30:=by omega
def H529 (Pg:PgT):Prop:=Pg 529=some (.code F529)∧H341 Pg∧H421 Pg∧H422 Pg∧H457 Pg∧H458 Pg
theorem K529 (h:H529 Pg) (m:Msg) (hm:SmM m) (hl:MsL m) (c1:Yb2 m=true) (hb:(msB m).length≤2 ^ 23) :
  K' Pg 529 [.agg (Ya2 m)]=some (.tuple [.str (msB m),iz 0]):=by
 obtain⟨h,h341,h421,h422,h457,h458⟩:=h
 have k1:=K341 h341 m hm
 rw[c1] at k1
 simp only[go_sem] at k1
 obtain⟨⟨v1,v2,v3,v4,v5,v6,v7,v8,v9,v10,v11,v12,v13,v14,v15,v16,v17,v18,v19,v20,v21,v22,v23,v24,v25,v26,v27,v28,v29,v30⟩,-⟩:=YeG c1 hl
 have hpl:∀p∈m.places,PlS p:=fun p hp=>⟨v29.2 p hp,bt (hl.places p hp).1,bt (hl.places p hp).2⟩
 have hit:∀p∈m.ans.items,ItS p:=fun p hp=>⟨bt (hl.items p hp).1,bt (hl.items p hp).2⟩
 have hml:=v30.2
 have hmn:m.mem.length≤(Yc m.mem).length:=Y5 YdH hml
 have hil:m.ans.items.length≤(m.ans.items.flatMap itB).length:=Y5 (P:=fun _=>True) (fun e _=>by have:=YaM (t:=e.1);simp only[itB,Gc];omega) (fun _ _=>Gm)
 have hpn:m.places.length≤(m.places.flatMap plB).length:=Y5 Ycg v29.2
 have hdB:msB m=Yc [m.kind,m.from_,m.to,m.shard,m.epoch,m.move,m.lease,m.n,m.of_]++Yf [m.at_]++Ye [m.text]++Yc [m.req.client,m.req.req,m.req.kind]++Ye [m.req.key,m.req.value]++Yq m.req.had++Ye [m.req.old]++Yf [m.req.at_]++Ye [m.req.hi]++Yc [m.req.limit,m.ans.err]++Yf [m.ans.at_]++Yq m.ans.found++Ye [m.ans.val]++Yc [(m.ans.items.length:Int)]++m.ans.items.flatMap itB++Ye [m.ans.next]++Yq m.ans.more++Yc [(m.places.length:Int)]++m.places.flatMap plB++Yc [(m.mem.length:Int)]++Yc m.mem:=by
  simp only[msB,YP,Yc,Ye,Yf,nB,Gu,GB,Gz,Int.toNat_natCast,GQ]
  rfl
 rw[hdB] at hb ⊢
 simp only[Gc] at hb
 have u20:=hb
 have u19:=Nat.le_of_add_right_le u20
 have u18:=Nat.le_of_add_right_le u19
 have u17:=Nat.le_of_add_right_le u18
 have u16:=Nat.le_of_add_right_le u17
 have u15:=Nat.le_of_add_right_le u16
 have u14:=Nat.le_of_add_right_le u15
 have u13:=Nat.le_of_add_right_le u14
 have u12:=Nat.le_of_add_right_le u13
 have u11:=Nat.le_of_add_right_le u12
 have u10:=Nat.le_of_add_right_le u11
 have u9:=Nat.le_of_add_right_le u10
 have u8:=Nat.le_of_add_right_le u9
 have u7:=Nat.le_of_add_right_le u8
 have u6:=Nat.le_of_add_right_le u7
 have u5:=Nat.le_of_add_right_le u6
 have u4:=Nat.le_of_add_right_le u5
 have u3:=Nat.le_of_add_right_le u4
 have u2:=Nat.le_of_add_right_le u3
 have u1:=Nat.le_of_add_right_le u2
 have u0:=Nat.le_of_add_right_le u1
 have q0:=YbD h422 ([]) [m.kind,m.from_,m.to,m.shard,m.epoch,m.move,m.lease,m.n,m.of_] (Gg.2 ⟨YX v1,Gg.2 ⟨YX v2,Gg.2 ⟨YX v3,Gg.2 ⟨YX v4,Gg.2 ⟨YX v5,Gg.2 ⟨YX v6,Gg.2 ⟨YX v7,Gg.2 ⟨YX v8,Gg.2 ⟨YX v9,fun _ h=>by cases h⟩⟩⟩⟩⟩⟩⟩⟩⟩) (show 0+9*9≤2 ^ 29 by decide)
 simp only[Gq,Gt,List.nil_append] at q0
 have q1:=Yc5 h421 (Yc [m.kind,m.from_,m.to,m.shard,m.epoch,m.move,m.lease,m.n,m.of_]) [m.at_] (Gg.2 ⟨v10,fun _ h=>by cases h⟩) (by exact GH u1 (by decide))
 simp only[Gq,Gt] at q1
 simp only[go_sem] at q1
 have q2:=YbE h457 (Yc [m.kind,m.from_,m.to,m.shard,m.epoch,m.move,m.lease,m.n,m.of_]++Yf [m.at_]) [m.text] (Gg.2 ⟨bt hl.text,fun _ h=>by cases h⟩) (by simp only[Gc];exact GH u2 (by decide))
 simp only[Gq,Gt] at q2
 have q3:=YbD h422 (Yc [m.kind,m.from_,m.to,m.shard,m.epoch,m.move,m.lease,m.n,m.of_]++Yf [m.at_]++Ye [m.text]) [m.req.client,m.req.req,m.req.kind] (Gg.2 ⟨YX v12,Gg.2 ⟨YX v13,Gg.2 ⟨YX v14,fun _ h=>by cases h⟩⟩⟩) (by simp only[Gc];exact GH (Nat.add_le_add_right u2 (9*3)) (show 2 ^ 23+9*3≤2 ^ 29 by decide))
 simp only[Gq,Gt] at q3
 have q4:=YbE h457 (Yc [m.kind,m.from_,m.to,m.shard,m.epoch,m.move,m.lease,m.n,m.of_]++Yf [m.at_]++Ye [m.text]++Yc [m.req.client,m.req.req,m.req.kind]) [m.req.key,m.req.value] (Gg.2 ⟨bt hl.key,Gg.2 ⟨bt hl.value,fun _ h=>by cases h⟩⟩) (by simp only[Gc];exact GH u4 (by decide))
 simp only[Gq,Gt] at q4
 have q5:=Ycm h458 (Yc [m.kind,m.from_,m.to,m.shard,m.epoch,m.move,m.lease,m.n,m.of_]++Yf [m.at_]++Ye [m.text]++Yc [m.req.client,m.req.req,m.req.kind]++Ye [m.req.key,m.req.value]) m.req.had (by simp only[Gc];exact GH u4 (by decide))
 have q6:=YbE h457 (Yc [m.kind,m.from_,m.to,m.shard,m.epoch,m.move,m.lease,m.n,m.of_]++Yf [m.at_]++Ye [m.text]++Yc [m.req.client,m.req.req,m.req.kind]++Ye [m.req.key,m.req.value]++Yq m.req.had) [m.req.old] (Gg.2 ⟨bt hl.old,fun _ h=>by cases h⟩) (by simp only[Gc];exact GH u6 (by decide))
 simp only[Gq,Gt] at q6
 have q7:=Yc5 h421 (Yc [m.kind,m.from_,m.to,m.shard,m.epoch,m.move,m.lease,m.n,m.of_]++Yf [m.at_]++Ye [m.text]++Yc [m.req.client,m.req.req,m.req.kind]++Ye [m.req.key,m.req.value]++Yq m.req.had++Ye [m.req.old]) [m.req.at_] (Gg.2 ⟨v19,fun _ h=>by cases h⟩) (by simp only[Gc];exact GH u7 (by decide))
 simp only[Gq,Gt] at q7
 simp only[go_sem] at q7
 have q8:=YbE h457 (Yc [m.kind,m.from_,m.to,m.shard,m.epoch,m.move,m.lease,m.n,m.of_]++Yf [m.at_]++Ye [m.text]++Yc [m.req.client,m.req.req,m.req.kind]++Ye [m.req.key,m.req.value]++Yq m.req.had++Ye [m.req.old]++Yf [m.req.at_]) [m.req.hi] (Gg.2 ⟨bt hl.hi,fun _ h=>by cases h⟩) (by simp only[Gc];exact GH u8 (by decide))
 simp only[Gq,Gt] at q8
 have q9:=YbD h422 (Yc [m.kind,m.from_,m.to,m.shard,m.epoch,m.move,m.lease,m.n,m.of_]++Yf [m.at_]++Ye [m.text]++Yc [m.req.client,m.req.req,m.req.kind]++Ye [m.req.key,m.req.value]++Yq m.req.had++Ye [m.req.old]++Yf [m.req.at_]++Ye [m.req.hi]) [m.req.limit,m.ans.err] (Gg.2 ⟨YX v21,Gg.2 ⟨YX v22,fun _ h=>by cases h⟩⟩) (by simp only[Gc];exact GH (Nat.add_le_add_right u8 (9*2)) (show 2 ^ 23+9*2≤2 ^ 29 by decide))
 simp only[Gq,Gt] at q9
 have q10:=Yc5 h421 (Yc [m.kind,m.from_,m.to,m.shard,m.epoch,m.move,m.lease,m.n,m.of_]++Yf [m.at_]++Ye [m.text]++Yc [m.req.client,m.req.req,m.req.kind]++Ye [m.req.key,m.req.value]++Yq m.req.had++Ye [m.req.old]++Yf [m.req.at_]++Ye [m.req.hi]++Yc [m.req.limit,m.ans.err]) [m.ans.at_] (Gg.2 ⟨v23,fun _ h=>by cases h⟩) (by simp only[Gc];exact GH u10 (by decide))
 simp only[Gq,Gt] at q10
 simp only[go_sem] at q10
 have q11:=Ycm h458 (Yc [m.kind,m.from_,m.to,m.shard,m.epoch,m.move,m.lease,m.n,m.of_]++Yf [m.at_]++Ye [m.text]++Yc [m.req.client,m.req.req,m.req.kind]++Ye [m.req.key,m.req.value]++Yq m.req.had++Ye [m.req.old]++Yf [m.req.at_]++Ye [m.req.hi]++Yc [m.req.limit,m.ans.err]++Yf [m.ans.at_]) m.ans.found (by simp only[Gc];exact GH u10 (by decide))
 have q12:=YbE h457 (Yc [m.kind,m.from_,m.to,m.shard,m.epoch,m.move,m.lease,m.n,m.of_]++Yf [m.at_]++Ye [m.text]++Yc [m.req.client,m.req.req,m.req.kind]++Ye [m.req.key,m.req.value]++Yq m.req.had++Ye [m.req.old]++Yf [m.req.at_]++Ye [m.req.hi]++Yc [m.req.limit,m.ans.err]++Yf [m.ans.at_]++Yq m.ans.found) [m.ans.val] (Gg.2 ⟨bt hl.val,fun _ h=>by cases h⟩) (by simp only[Gc];exact GH u12 (by decide))
 simp only[Gq,Gt] at q12
 have q13:=YbD h422 (Yc [m.kind,m.from_,m.to,m.shard,m.epoch,m.move,m.lease,m.n,m.of_]++Yf [m.at_]++Ye [m.text]++Yc [m.req.client,m.req.req,m.req.kind]++Ye [m.req.key,m.req.value]++Yq m.req.had++Ye [m.req.old]++Yf [m.req.at_]++Ye [m.req.hi]++Yc [m.req.limit,m.ans.err]++Yf [m.ans.at_]++Yq m.ans.found++Ye [m.ans.val]) [(m.ans.items.length:Int)] (YbF v26.1) (by simp only[Gc];exact GH (Nat.add_le_add_right u12 (9*1)) (show 2 ^ 23+9*1≤2 ^ 29 by decide))
 simp only[Gq,Gt] at q13
 have q15:=YbE h457 (Yc [m.kind,m.from_,m.to,m.shard,m.epoch,m.move,m.lease,m.n,m.of_]++Yf [m.at_]++Ye [m.text]++Yc [m.req.client,m.req.req,m.req.kind]++Ye [m.req.key,m.req.value]++Yq m.req.had++Ye [m.req.old]++Yf [m.req.at_]++Ye [m.req.hi]++Yc [m.req.limit,m.ans.err]++Yf [m.ans.at_]++Yq m.ans.found++Ye [m.ans.val]++Yc [(m.ans.items.length:Int)]++m.ans.items.flatMap itB) [m.ans.next] (Gg.2 ⟨bt hl.next,fun _ h=>by cases h⟩) (by simp only[Gc];exact GH u15 (by decide))
 simp only[Gq,Gt] at q15
 have q16:=Ycm h458 (Yc [m.kind,m.from_,m.to,m.shard,m.epoch,m.move,m.lease,m.n,m.of_]++Yf [m.at_]++Ye [m.text]++Yc [m.req.client,m.req.req,m.req.kind]++Ye [m.req.key,m.req.value]++Yq m.req.had++Ye [m.req.old]++Yf [m.req.at_]++Ye [m.req.hi]++Yc [m.req.limit,m.ans.err]++Yf [m.ans.at_]++Yq m.ans.found++Ye [m.ans.val]++Yc [(m.ans.items.length:Int)]++m.ans.items.flatMap itB++Ye [m.ans.next]) m.ans.more (by simp only[Gc];exact GH u15 (by decide))
 have q17:=YbD h422 (Yc [m.kind,m.from_,m.to,m.shard,m.epoch,m.move,m.lease,m.n,m.of_]++Yf [m.at_]++Ye [m.text]++Yc [m.req.client,m.req.req,m.req.kind]++Ye [m.req.key,m.req.value]++Yq m.req.had++Ye [m.req.old]++Yf [m.req.at_]++Ye [m.req.hi]++Yc [m.req.limit,m.ans.err]++Yf [m.ans.at_]++Yq m.ans.found++Ye [m.ans.val]++Yc [(m.ans.items.length:Int)]++m.ans.items.flatMap itB++Ye [m.ans.next]++Yq m.ans.more) [(m.places.length:Int)] (YbF v29.1) (by simp only[Gc];exact GH (Nat.add_le_add_right u16 (9*1)) (show 2 ^ 23+9*1≤2 ^ 29 by decide))
 simp only[Gq,Gt] at q17
 have q19:=YbD h422 (Yc [m.kind,m.from_,m.to,m.shard,m.epoch,m.move,m.lease,m.n,m.of_]++Yf [m.at_]++Ye [m.text]++Yc [m.req.client,m.req.req,m.req.kind]++Ye [m.req.key,m.req.value]++Yq m.req.had++Ye [m.req.old]++Yf [m.req.at_]++Ye [m.req.hi]++Yc [m.req.limit,m.ans.err]++Yf [m.ans.at_]++Yq m.ans.found++Ye [m.ans.val]++Yc [(m.ans.items.length:Int)]++m.ans.items.flatMap itB++Ye [m.ans.next]++Yq m.ans.more++Yc [(m.places.length:Int)]++m.places.flatMap plB) [(m.mem.length:Int)] (YbF v30.1) (by simp only[Gc];exact GH (Nat.add_le_add_right u18 (9*1)) (show 2 ^ 23+9*1≤2 ^ 29 by decide))
 simp only[Gq,Gt] at q19
 have q20:=YbD h422 (Yc [m.kind,m.from_,m.to,m.shard,m.epoch,m.move,m.lease,m.n,m.of_]++Yf [m.at_]++Ye [m.text]++Yc [m.req.client,m.req.req,m.req.kind]++Ye [m.req.key,m.req.value]++Yq m.req.had++Ye [m.req.old]++Yf [m.req.at_]++Ye [m.req.hi]++Yc [m.req.limit,m.ans.err]++Yf [m.ans.at_]++Yq m.ans.found++Ye [m.ans.val]++Yc [(m.ans.items.length:Int)]++m.ans.items.flatMap itB++Ye [m.ans.next]++Yq m.ans.more++Yc [(m.places.length:Int)]++m.places.flatMap plB++Yc [(m.mem.length:Int)]) m.mem (fun n hn=>YX (v30.2 n hn)) (by simp only[Gc];exact GH (Nat.add_le_add u19 (Nat.mul_le_mul_left 9 hm.2.2)) (by decide))
 generalize Yc [m.kind,m.from_,m.to,m.shard,m.epoch,m.move,m.lease,m.n,m.of_]=b0 at *
 generalize Yf [m.at_]=b1 at *
 generalize Ye [m.text]=b2 at *
 generalize Yc [m.req.client,m.req.req,m.req.kind]=b3 at *
 generalize Ye [m.req.key,m.req.value]=b4 at *
 generalize Yq m.req.had=b5 at *
 generalize Ye [m.req.old]=b6 at *
 generalize Yf [m.req.at_]=b7 at *
 generalize Ye [m.req.hi]=b8 at *
 generalize Yc [m.req.limit,m.ans.err]=b9 at *
 generalize Yf [m.ans.at_]=b10 at *
 generalize Yq m.ans.found=b11 at *
 generalize Ye [m.ans.val]=b12 at *
 generalize Yc [(m.ans.items.length:Int)]=b13 at *
 generalize hI:m.ans.items.flatMap itB=b14 at *
 generalize Ye [m.ans.next]=b15 at *
 generalize Yq m.ans.more=b16 at *
 generalize Yc [(m.places.length:Int)]=b17 at *
 generalize hP:m.places.flatMap plB=b18 at *
 generalize Yc [(m.mem.length:Int)]=b19 at *
 generalize Yc m.mem=b20 at *
 refine JdB h rfl ?_
 simp only[F529,c529,go_sem,Jmd,k1,q0,q1,q2,q3,q4,q5,q6,q7,q8,q9,q10,q11,q12,q13,Gl]
 refine Yey h457 (g:=b0++b1++b2++b3++b4++b5++b6++b7++b8++b9++b10++b11++b12++b13) (es:=m.ans.items) (X:=Ya2 m) hit (Nat.lt_of_le_of_lt hm.1 (by decide)) (by rw[hI];simp only[Gc];exact GH (Nat.add_le_add_right u14 _) (by decide)) rfl (Y:=YbP m.ans) rfl (by simp only[go_sem]) (by simp only[go_sem]) (by simp only[go_sem]) (by simp only[go_sem]) (by simp only[go_sem]) (by simp only[go_sem]) (show Fr _ _ from by repeat' first|exact fun x hx=>rfl|refine Fr.up ?_ (by omega)) (by simp only[go_sem]) (by simp only[go_sem]) (by simp only[go_sem]) (a:=21300) (by omega) ⟨by simp only[go_sem,Gc],by simp only[go_sem]⟩ fun S1 t1 t4 y1 t6 y6 n10 hn1 hT1=>?_
 rw[hI] at hT1
 have hm1:=hT1.m
 have hA1:=hT1.a
 have x1:=y1
 have x6:=y6
 simp only[go_sem] at x1 x6
 have a1:=hn1 21500 (by omega)
 have a2:=hn1 21600 (by omega)
 have a3:=hn1 21700 (by omega)
 simp only[go_sem,Jmd,t1,t4,t6,x1,x6,hm1,hA1,a1,a2,a3,n10,q15,q16,q17,Gl]
 refine YeK h422 h457 (g:=b0++b1++b2++b3++b4++b5++b6++b7++b8++b9++b10++b11++b12++b13++b14++b15++b16++b17) (es:=m.places) (X:=Ya2 m) hpl (Nat.lt_of_le_of_lt hm.2.1 (by decide)) (by rw[hP];simp only[Gc];exact GH (Nat.add_le_add_right u18 _) (by decide)) rfl (by simp only[go_sem,t1]) (by simp only[go_sem,t4]) (by simp only[go_sem,y1]) (show Fr _ _ from by repeat' first|exact fun x hx=>hn1 x (by omega)|refine Fr.up ?_ (by omega)) (by simp only[go_sem]) (by simp only[go_sem]) (by simp only[go_sem]) (a:=21700) (by omega) ⟨by simp only[go_sem,Gc],by simp only[go_sem]⟩ fun S2 t1 t4 y1 hn2 hT2=>?_
 rw[hP] at hT2
 have hm2:=hT2.m
 have hA2:=hT2.a
 have x1:=y1
 simp only[go_sem] at x1
 have a4:=hn2 22000 (by omega)
 have a5:=hn2 22100 (by omega)
 have hbt:=JdZ (b0++b1++b2++b3++b4++b5++b6++b7++b8++b9++b10++b11++b12++b13++b14++b15++b16++b17++b18++b19++b20)
 simp only[Yb6] at hbt
 simp only[go_sem,Jmd,t1,t4,x1,hm2,hA2,a4,a5,q19,q20,hbt,Gl]
theorem Yaq {args:List V} {n c w t:List (List V)}:startR args 0 (eRun n c w t)=some ⟨fun i=>if i=0 then .lref 0 0 else (args[i]?).getD .undef,
  upd (fun _=>none) 0 (some ([.own 9000 38 n.length,.own 9001 18 c.length,.own 9002 1 w.length,.own 9003 1 t.length,.own 9004 25 0],false)),
  upd (upd (upd (upd (upd (fun _=>none) 9000 (some (38,n,.live))) 9001 (some (18,c,.live))) 9002 (some (1,w,.live))) 9003 (some (1,t,.live))) 9004 (some (25,[],.live))⟩:=by
 unfold startR eRun
 simp only[Jew,JhH,JlT,JfK,Option.bind_some,JhK,Nat.reduceAdd,Nat.reduceBEq]
 rfl
theorem Ydy {x:Nat} (v:V):Jah x x v=v:=by
 have hs:∀s,swp x x s=s:=fun s=>by unfold swp;split<;>simp_all
 have hc:∀v,JP x x v=v:=fun v=>by cases v<;>simp[JP,hs]
 have hm:∀l:List V,l.map (JP x x)=l:=fun l=>by simp[GS (fun a _=>hc a)]
 cases v<;>simp[Jah,hs,hm]
theorem YbU {S:St} {x:Nat}:S.ren x x=S:=by
 have hs:∀s,swp x x s=s:=fun s=>by unfold swp;split<;>simp_all
 have hc:∀v,JP x x v=v:=fun v=>by cases v<;>simp[JP,hs]
 have hm:∀l:List V,l.map (JP x x)=l:=fun l=>by simp[GS (fun a _=>hc a)]
 unfold St.ren;have h1:(fun t=>Jah x x (S.ρ t))=S.ρ:=funext fun t=>Ydy _;have h2:(fun s=>(S.μ s).map fun m=>(m.1.map (JP x x),m.2))=S.μ:=funext fun s=>by cases h:S.μ s<;>simp[hm]
 have h3:(fun t=>S.A (swp x x t))=S.A:=funext fun t=>by rw[hs]
 rw[h1,h2,h3]
structure HRun (S:St) (p:Nat) (n c w t:List (List V)):Prop where
 m:S.μ 0=some ([.own p 38 n.length,.own (p+1) 18 c.length,.own (p+2) 1 w.length,.own (p+3) 1 t.length,.own (p+4) 25 0],false)
 n:S.A p=some (38,n,.live)
 c:S.A (p+1)=some (18,c,.live)
 w:S.A (p+2)=some (1,w,.live)
 t:S.A (p+3)=some (1,t,.live)
 o:S.A (p+4)=some (25,[],.live)
theorem Yab {F:F} {S:St} {p:Nat} {n c w t:List (List V)} {vs ws:List V} (h:HRun S p n c w t) (h1:Js (resV S) F.res=some vs) (h2:∀A,Js (toD A) vs=some ws) :
  JaK F 0 S=some (.tuple [Jb6 ws,.tuple (eRun n c w t)]):=by
 have hh:∃A',Jaj [.own p 38 n.length,.own (p+1) 18 c.length,.own (p+2) 1 w.length,.own (p+3) 1 t.length,.own (p+4) 25 0] S.A=some (eRun n c w t,A'):=by
  have k:∀i j:Nat,i<j→(p+j == p+i)=false:=fun i j h=>by simp;omega
  have k0:∀j:Nat,0<j→(p+j == p)=false:=fun j h=>by simp;omega
  refine⟨upd (upd (upd (upd (upd S.A p (some (38,[],.dead))) (p+1) (some (18,[],.dead))) (p+2) (some (1,[],.dead))) (p+3) (some (1,[],.dead))) (p+4) (some (25,[],.dead)),?_⟩;simp only[Jec,Je5,JgE,h.n,Jli,GF,Option.bind_some,JhK (k0 1 (by decide)),JhK (k0 2 (by decide)),JhK (k0 3 (by decide)),JhK (k0 4 (by decide)),h.c,h.w,h.t,h.o,
   JhK (k 1 2 (by decide)),JhK (k 1 3 (by decide)),JhK (k 1 4 (by decide)),JhK (k 2 3 (by decide)),JhK (k 2 4 (by decide)),JhK (k 3 4 (by decide)),List.length_nil]
  rfl
 obtain⟨A',hh⟩:=hh
 unfold JaK
 rw[h1]
 simp only[Option.bind_some,h.m,hh,h2]
def H616 (Pg:PgT):Prop:=Pg 616=some (.codeR F616 0)
theorem K616e (h:H616 Pg) (n c w t:List (List V)):K' Pg 616 [.tuple (.lref 0 0::eRun n c w t),.slice 36 []]=some (.tuple [.tuple [],.tuple (eRun n c w t)]):=by
 have c1:decide ((0:Int)<0)=false:=rfl;refine Qa h rfl rfl Yaq ?_;simp only[F616,c616,go_sem];unfold l616_0;refine JhQ ?_;simp only[b616_0,Jl9,YbU,go_sem,c1];exact Yab (p:=9000) (vs:=[]) (ws:=[]) ⟨rfl,rfl,rfl,rfl,rfl,rfl⟩ rfl fun A=>rfl
theorem K616 (h:H616 Pg∧H529 Pg∧H570 Pg) (n c w:List (List V)) (m:Msg) (hm:SmM m) (hl:MsL m) (c1:Yb2 m=true) (hb:(msB m).length≤2 ^ 23):∃t,K' Pg 616 [.tuple (.lref 0 0::eRun n c w []),.slice 36 [Ya2 m]]=some (.tuple [.tuple [],.tuple (eRun n c w t)]):=by
 obtain⟨h,h529,h570⟩:=h;have k1:=K529 h529 m hm hl c1 hb;have c0:decide ((0:Int)<1)=true:=rfl;have c2:decide ((0:Int)=0)=true:=rfl;have c3:decide ((0:Int)<256)=true:=rfl;have c4:decide ((5:Int)=0)=false:=rfl;have c5:decide ((1:Int)<1)=false:=rfl;have w1:IntKind.i64.wrap (0+1)=1:=rfl;have l1:(1≤lim)=True:=eq_true (by decide);generalize msB m=b at k1 hb;simp only[go_sem] at k1;rcases K570 h570 b (by omega) with ⟨f,hf,k2⟩|k2
 ·refine⟨[[.str f]],Qa h rfl rfl Yaq ?_⟩;simp only[F616,c616,go_sem];unfold l616_0;refine JhQ ?_;simp only[b616_0,Jl9,YbU,go_sem,c0,c2,c3,c4,k1,k2,w1,l1];refine JhQ ?_;simp only[Jl9,YbU,go_sem,c5];exact Yab (p:=9000) (vs:=[]) (ws:=[]) ⟨rfl,rfl,rfl,rfl,rfl,rfl⟩ rfl fun A=>rfl
 ·refine⟨[],Qa h rfl rfl Yaq ?_⟩;simp only[F616,c616,go_sem];unfold l616_0;refine JhQ ?_;simp only[b616_0,Jl9,YbU,go_sem,c0,c2,c3,c4,k1,k2,w1];refine JhQ ?_;simp only[Jl9,YbU,go_sem,c5];exact Yab (p:=9000) (vs:=[]) (ws:=[]) ⟨rfl,rfl,rfl,rfl,rfl,rfl⟩ rfl fun A=>rfl
def clM (w n:Int):Msg:=⟨7,10+w,0,0,0,0,n,0,0,⟨0,0,0⟩,[],Ybz,⟨0,⟨0,0,0⟩,false,[],[],[],false⟩,[],[]⟩
def H615 (Pg:PgT):Prop:=Pg 615=some (.code F615)
theorem K615 (h:H615 Pg) (w n:Int) (h1:1≤w) (h2:w≤8) (hr:K' Pg 628 [.agg (cl w)]=some (.bool true)):K' Pg 615 [.agg (cl w),iz n]=some (if 0≤n∧n≤1099511627776 then .slice 36 [Ya2 (clM w n)] else .slice 36 []):=by
 simp only[cl] at hr;have w1:IntKind.i64.wrap (10+w)=10+w:=Jmq (by omega) (by omega);refine JdB h rfl ?_;cases c1:decide (n<0) with
 |true=>
  have c3:(0≤n∧n≤1099511627776)=False:=eq_false (by have:=Gp c1;omega);simp only[F615,c615,cl,go_sem,hr,c1,c3]
 |false=>
  cases c2:decide (1099511627776<n) with
  |true=>
   have c3:(0≤n∧n≤1099511627776)=False:=eq_false (by have:=Gp c2;omega);simp only[F615,c615,cl,go_sem,hr,c1,c2,c3]
  |false=>
   have c3:(0≤n∧n≤1099511627776)=True:=eq_true (by have:=Gk c1;have:=Gk c2;omega);simp only[F615,c615,cl,go_sem,hr,c1,c2,c3,w1,clM,Ybz,Jr,List.replicate,List.set]
theorem Yeg {w n:Int} (h1:1≤w) (h2:w≤8) (h3:0≤n) (h4:n≤1099511627776):Yb2 (clM w n)=true:=by
 have f0:∀k:Int,0≤k→k≤1099511627776→YH k=true:=fun k a b=>by simp only[YH,frQ,GJ,Bool.or_eq_false_iff,GN];omega
 simp only[Yb2,clM,Ybz,GB,Gz,List.all_cons,List.all_nil,f0 7 (by decide) (by decide),f0 (10+w) (by omega) (by omega),f0 0 (by decide) (by decide),f0 n h3 h4,Bool.and_true]
 rfl
theorem Ydi {w n:Int} (h1:1≤w) (h2:w≤8) (h3:0≤n) (h4:n≤1099511627776):(msB (clM w n)).length≤2 ^ 23:=by
 have b2:(putB n.toNat).length≤9:=YC.2 (by omega);have p0:putB 0=[UInt8.ofNat 0]:=Yam (by decide);have p7:putB 7=[UInt8.ofNat 7]:=Yam (by decide);have p1:putB (10+w).toNat=[UInt8.ofNat (10+w).toNat]:=Yam (by omega);simp only[msB,clM,Ybz,nB,Yt,Yq,YP,stB,Gc,List.length_cons,List.length_nil,GB,show Int.toNat 0=0 from rfl,show Int.toNat 7=7 from rfl,p0,p7,p1];omega
def Dn (n:Nat) (l:List V):Prop:=l.length=n∧l.all V.datC=true
@[go_sem] def eNd (i:Int) (f:List UInt8) (sid:Int) (o:List (List V)) (d:Drc) (up:Bool):List V:=[iz i,.str f,.str [],iz 0,.bool false,.bool false,iz sid,.slice 9 o,Ys d.places,YbC d.cells,iz d.next,Yv d.leases,YO d.lows,iz d.mark.wall,iz d.mark.tick,iz d.mark.node,iz d.job.kind,iz d.job.step,iz d.job.id,iz d.job.shard,iz d.job.other,iz d.job.cell,iz d.job.to,iz d.job.epoch,.str d.job.key,Ybn d.job.parts,iz d.job.of_,iz d.job.client,iz d.job.req,.str d.job.span.lo,.str d.job.span.hi,Yh d.job.wait,iz d.job.at_.wall,iz d.job.at_.tick,iz d.job.at_.node,Yh d.job.mem,Yb4 d.opened,.bool up]
def H723 (Pg:PgT):Prop:=Pg 723=some (.code F723)∧H557 Pg
theorem K723 (h:H723 Pg) {i sid:Int} {f:List UInt8} {o:List (List V)} {d:Drc} (hf:f.length≤1048576) (hr:K' Pg 556 [.agg (eNd i f sid o d true)]=some (.bool true)) (n:Int):∃r,K' Pg 723 [.agg (eNd i f sid o d true),iz n]=some r∧∃l,r=.agg l∧Dn 38 l:=by
 obtain⟨h,h557⟩:=h;obtain⟨_,k1,k,b,rfl⟩:=K557 h557 f n hf;simp only[eTp] at k1;simp only[go_sem] at hr;refine K'_codeX h rfl ?_;simp only[F723,c723,go_sem,hr,k1];exact⟨_,rfl,_,rfl,rfl,rfl⟩
theorem YdI {f:List UInt8} {x:Option V} (h:Ydu f x=true):x=some (.tuple [.agg [.str f,.str [],iz 0,.bool false,.bool false],.slice 1 [[.str (body f)]],iz 0]):=by
 unfold Ydu at h;split at h
 ·rename_i a l;simp only[Gi,Gx] at h;rw[h.1,h.2];rfl
 ·cases h
def H724 (Pg:PgT):Prop:=Pg 724=some (.code F724)∧H563 Pg
theorem K724d (h:H724 Pg) {sid:Int} {f:List UInt8} {o:List (List V)} {d:Drc} (hf:f.length≤1048576) (hr:K' Pg 556 [.agg (eNd 0 f sid o d true)]=some (.bool true))
  (h1:K' Pg 564 [.agg (eTp f [])]=some (.tuple [.agg (eTp f []),.slice 1 [[.str (body f)]],iz 0])) (h2:K' Pg 517 [.str (body f)]=some (.tuple [.agg (Y6 d),iz 0])) (n:Int) :
  K' Pg 724 [.agg (eNd 0 f sid o d true),iz n]=some (.tuple [.agg (eNd 0 f sid o d true),iz 0]):=by
 obtain⟨h,h563⟩:=h
 have k1:=K563 h563 f n hf
 generalize body f=l at h1 h2
 simp only[eTp] at k1 h1
 simp only[go_sem] at hr h2
 have c0:decide ((0:Int)=0)=true:=rfl
 have c1:decide ((1:Int)=0)=false:=rfl
 have w1:IntKind.i64.wrap (1-1)=0:=rfl
 refine JdB h rfl ?_
 simp only[F724,c724,go_sem,hr,k1,h1,h2,c0,c1,w1]
theorem K724s (h:H724 Pg) {i:Int} {f:List UInt8} {o:List (List V)} {d:Drc} (hi:i≠0) (hf:f.length≤1048576) (hr:K' Pg 556 [.agg (eNd i f i o d true)]=some (.bool true))
  (h1:K' Pg 564 [.agg (eTp f [])]=some (.tuple [.agg (eTp f []),.slice 1 [[.str (body f)]],iz 0])) (h2:K' Pg 512 [.str (body f)]=some (.tuple [.agg [iz i,.slice 9 o],iz 0])) (n:Int) :
  K' Pg 724 [.agg (eNd i f i o d true),iz n]=some (.tuple [.agg (eNd i f i o d true),iz 0]):=by
 obtain⟨h,h563⟩:=h
 have k1:=K563 h563 f n hf
 generalize body f=l at h1 h2
 simp only[eTp] at k1 h1
 simp only[go_sem] at hr
 have c0:decide ((0:Int)=0)=true:=rfl
 have c1:decide ((1:Int)=0)=false:=rfl
 have c2:decide (i=0)=false:=Ge hi
 have c3:decide (i=i)=true:=Gj rfl
 have w1:IntKind.i64.wrap (1-1)=0:=rfl
 refine JdB h rfl ?_
 simp only[F724,c724,go_sem,hr,k1,h1,h2,c0,c1,c2,c3,w1]
theorem Yd2 {n:Nat} (h:n<2 ^ 21):(putB n).length≤3:=(Ya0 2 n).2 (by simpa using h)
theorem Yd1 {n:Nat} (h:n<2 ^ 14):(putB n).length≤2:=(Ya0 1 n).2 (by simpa using h)
theorem Yd3 {n:Nat} (h:n<2 ^ 42):(putB n).length≤6:=(Ya0 5 n).2 (by simpa using h)
theorem YaP {α:Type} {W:α→List UInt8} {k:Nat}:∀{l:List α},(∀a∈l,(W a).length≤k)→(l.flatMap W).length≤k*l.length
 |[],_=>by simp
 |a::l,h=>by
  have h1:=h a (Gad ..);have h2:=YaP (l:=l) fun b hb=>h b (G1 _ hb);simp only[Gu,Gc,List.length_cons,Nat.mul_succ];omega
theorem YbW {s:Stamp} (h:Ya s=true):(stB s).length≤11:=by
 simp only[Ya,Ybg,Gi,Gx] at h;have h1:=Yd3 (n:=s.wall.toNat) (by omega);have h2:=Yd2 (n:=s.tick.toNat) (by omega);have h3:=Yd1 (n:=s.node.toNat) (by omega);simp only[stB,Gc];omega
theorem Yc1 {x:Bool}:(Yq x).length=1:=by simp[Yq]
theorem Ybj {t:List UInt8} {n:Nat} (h:t.length≤n) (hn:n≤2 ^ 30):(Yt t).length≤n+9:=by
 have:=YC.2 (show t.length<2 ^ 63 by omega);simp only[Yt,Gc];omega
theorem Yac {n:Int} (h:NV n):(nB n).length≤9:=YC.2 h.1
theorem Ycx {l:List Int} {k:Nat} (h:∀n∈l,NV n) (hl:l.length≤k) (hk:k<2 ^ 60):(YP nB l).length≤9+9*k:=by
 have h1:=YC.2 (show l.length<2 ^ 63 by omega);have h2:=YaP (W:=nB) (l:=l) (k:=9) fun n hn=>Yac (h n hn);simp only[YP,Gc];omega
theorem Yb7 {d:Drc} (h:Y3 d=true):SmE d∧d.job.parts.length≤200∧d.job.wait.length≤100∧d.job.mem.length≤40∧∀c∈d.cells,c.mem.length≤40:=by
 simp only[Y3,smI,Gi,Gx,Gv] at h;obtain⟨h1,h2,h3,h4,h5,h6,h7,h8,h9⟩:=h;exact⟨⟨by omega,by omega,by omega,by omega,by omega,⟨by omega,by omega,by omega⟩,fun c hc=>by have:=h9 c hc;omega⟩,by omega,by omega,by omega,fun c hc=>by have:=h9 c hc;omega⟩
theorem YdN {d:Drc} (h:Yaf d=true) (hs:Y3 d=true) (hl:DrL d):(drB d).length≤2 ^ 28:=by
 obtain⟨-,b1,b2,b3,b4⟩:=Yb7 hs;obtain⟨⟨⟨p1,p2⟩,⟨i1,i2⟩,nn,⟨l1,l2⟩,⟨s1,s2⟩,mk,jb,⟨r1,r2⟩⟩,-⟩:=YdF h hl;obtain⟨⟨v1,v2,v3,v4,v5,v6,v7,v8,v9,v10,v11,v12,v13,v14,v15,v16,v17,v18⟩,-⟩:=jb;simp only[Yaf,Yai,Yr,Gi,Gx,GJ,GN] at h;obtain⟨⟨⟨g1,-,-⟩,e1,g2,g3,-,-,-,-,g4⟩,-⟩:=h;have g5:=(Yap e1).2;have x1:=YC.2 p1;have x2:=YC.2 i1;have x3:=Yac nn;have x4:=YC.2 l1;have x5:=YC.2 s1;have x6:=YbW mk;have x7:=YC.2 r1;have x8:=YC.2 v10.1;have y1:=YaP (W:=plB) (l:=d.places) (k:=2097197) fun p hp=>by
  have h1:=Ybj (hl.pl p hp).1 (by decide);have h2:=Ybj (hl.pl p hp).2 (by decide);obtain⟨⟨-,-,k1,k2,k3⟩,-⟩:=p2 p hp;have:=Yac k1;have:=Yac k2;have:=Yac k3;simp only[plB,Gc];omega
 have y2:=YaP (W:=inB) (l:=d.cells) (k:=400) fun p hp=>by
  obtain⟨⟨k1,k2,-⟩,-⟩:=i2 p hp;have:=Yac k1;have:=Ycx k2.2 (b4 p hp) (by decide);have:=Yc1 (x:=p.whole);simp only[inB,Gc];omega
 have y3:=YaP (W:=leB) (l:=d.leases) (k:=29) fun p hp=>by
  obtain⟨⟨k1,k2,k3⟩,-⟩:=l2 p hp;have:=Yac k1;have:=Yac k2;have:=YbW k3;simp only[leB,Gc];omega
 have y4:=YaP (W:=stB) (l:=d.lows) (k:=11) fun p hp=>YbW (s2 p hp);have y5:=YaP (W:=Yt) (l:=d.job.parts) (k:=1048585) fun p hp=>Ybj (hl.parts.2 p hp) (by decide);have y6:=YaP (W:=orB) (l:=d.opened) (k:=47) fun p hp=>by
  obtain⟨⟨k1,k2,k3,k4,k5⟩,-⟩:=r2 p hp;have:=Yac k1;have:=Yac k2;have:=Yac k3;have:=YbW k4;have:=Yac k5;simp only[orB,Gc];omega
 have z1:=Yac v1;have z2:=Yac v2;have z3:=Yac v3;have z4:=Yac v4;have z5:=Yac v5;have z6:=Yac v6;have z7:=Yac v7;have z8:=Yac v8;have z9:=Ybj hl.key (by decide);have z11:=Yac v11;have z12:=Yac v12;have z13:=Yac v13;have z14:=Ybj hl.span.1 (by decide);have z15:=Ybj hl.span.2 (by decide);have z16:=Ycx v16.2 b2 (by decide);have z17:=YbW v17;have z18:=Ycx v18.2 b3 (by decide);simp only[drB,jbB,Gc,YP] at z16 z18 ⊢;omega
theorem Ycw {d:Drc} (h:Yaf d=true):Yr d.places=true∧d.cells.length=3∧2≤d.next∧d.next≤1099511627776∧YV d.job=true∧d.cells.all Yby=true:=by
 simp only[Yaf,Yai,Gi,GJ,Gx,GN] at h;obtain⟨⟨h1,h2,h3,h4,h5,h6,h7,h8,h9⟩,⟨h10,h11⟩,h12⟩:=h;exact⟨h1,by omega,by omega,by omega,h8,h10⟩
def H331 (Pg:PgT):Prop:=Pg 331=some (.code F331)∧H65 Pg∧H69 Pg∧H148 Pg∧H156 Pg∧H157 Pg∧H159 Pg∧H328 Pg∧H348 Pg∧H352 Pg
theorem K331 (h:H331 Pg) (d:Drc) (c:Cmd) (hd:SmD d) (hp:d.places.length≤10000) (hm:c.mem.length≤10000):K' Pg 331 [.agg (Y6 d),.agg (YdO c)]=some (eDE (Yba d c)):=by
 obtain⟨h,h65,h69,h148,h156,h157,h159,h328,h348,h352⟩:=h;have k328:=K328 h328 d hd;have k352:=K352 h352 d;simp only[Y6,Ys,YbC,Yv,YO,Ybn,Yh,Yb4,eDE] at k328 k352;cases q:Yaf d with
 |false=>
  refine JdB h rfl ?_;simp only[go_sem,k328,q,Yba]
 |true=>
 obtain⟨hr,hc3,hn2,hnM,hj,hinf⟩:=Ycw q;rw[q] at k328;cases c1:decide (c.kind<1) with
 |true=>
  refine JdB h rfl ?_;simp only[go_sem,k328,q,c1,Yba]
 |false=>
 cases c2:decide (6<c.kind) with
 |true=>
  refine JdB h rfl ?_;simp only[go_sem,k328,q,c1,c2,Yba]
 |false=>
 cases c3:decide (c.kind=4) with
 |true=>
  refine JdB h rfl ?_;simp only[go_sem,k328,q,c1,c2,c3,Yba]
 |false=>
 cases c4:decide (c.kind=6) with
 |true=>
  have e:Yba d c=Ya1 d:=by simp only[Yba,q,c1,c2,c3,c4];rfl
  rw[e];generalize Ya1 d=x at k352 ⊢;refine JdB h rfl ?_;simp only[go_sem,k328,k352,c1,c2,c3,c4]
 |false=>
 cases c5:decide (d.job.kind=0) with
 |false=>
  refine JdB h rfl ?_;simp only[go_sem,k328,q,c1,c2,c3,c4,c5,Yba]
 |true=>
 cases c6:decide (d.next=1099511627776) with
 |true=>
  refine JdB h rfl ?_;simp only[go_sem,k328,q,c1,c2,c3,c4,c5,c6,Yba]
 |false=>
 have e:Yba d c=YbL d c:=by simp only[Yba,q,c1,c2,c3,c4,c5,c6];rfl
 rw[e];clear e k352 h352;have hw:IntKind.i64.wrap (d.next+1)=d.next+1:=Jmq (by omega) (by omega);cases c7:decide (c.kind=5) with
 |true=>
  have e:YbL d c=YbG d c:=by simp only[YbL,c7];rfl
  rw[e];clear e h148 h156 h157 h159;have k348:=K348 h348 c.mem (by omega);simp only[Yh] at k348;cases d1:decide (c.to<1) with
  |true=>
   refine JdB h rfl ?_;simp only[go_sem,k328,c1,c2,c3,c4,c5,c6,c7,d1,YbG]
  |false=>
  cases d2:decide (3<c.to) with
  |true=>
   refine JdB h rfl ?_;simp only[go_sem,k328,c1,c2,c3,c4,c5,c6,c7,d1,d2,YbG]
  |false=>
  cases d3:Ya7 c.mem with
  |false=>
   refine JdB h rfl ?_;simp only[go_sem,k328,k348,c1,c2,c3,c4,c5,c6,c7,d1,d2,d3,YbG]
  |true=>
  have d1':=Gk d1;have d2':=Gk d2;obtain⟨t,ht⟩:∃t:Nat,c.to-1=(t:Int):=⟨(c.to-1).toNat,by omega⟩;have hto:IntKind.i64.wrap (c.to-1)=((t:Nat):Int):=by rw[Jmq (by omega) (by omega)];exact ht
  obtain⟨i,hi,-⟩:=Jl8 (l:=d.cells) (i:=t) (by omega);obtain⟨m0,ms,hms⟩:∃a l,c.mem=a::l:=by
   cases hc:c.mem with
   |nil=>rw[hc] at d3;cases d3
   |cons a l=>exact⟨a,l,rfl⟩
  have hv:YbG d c=if !i.whole then (d,11) else if !decide (m0∈i.mem) then (d,9) else ({d with job:={Ybe c d.next with cell:=c.to,mem:=c.mem},next:=d.next+1},0):=by
   have e1:(c.to-1).toNat=t:=by omega
   have e2:c.mem.headD 0=m0:=by rw[hms];rfl
   simp only[YbG,d1,d2,d3,e1,hi,e2]
   rfl
  rw[hv];clear hv;have k65:=K65 h65 i.mem m0 (by have:=hd.2.2.2 i (List.mem_of_getElem? hi);omega);have k69:=K69 h69 c.mem (by omega);have h0:c.mem[0]?=some m0:=by rw[hms];rfl
  simp only[Yh] at k65 k69;clear h65 h69 h348 hd hp hm;cases d4:i.whole with
  |false=>
   refine JdB h rfl ?_;simp only[go_sem,k328,k348,c1,c2,c3,c4,c5,c6,c7,d1,d2,d3,d4,hto,hi]
  |true=>
  cases d5:decide (m0∈i.mem) with
  |false=>
   refine JdB h rfl ?_;simp only[go_sem,k328,k348,k65,c1,c2,c3,c4,c5,c6,c7,d1,d2,d3,d4,d5,hto,hi,h0]
  |true=>
   refine JdB h rfl ?_;simp only[go_sem,k328,k348,k65,k69,c1,c2,c3,c4,c5,c6,c7,d1,d2,d3,d4,d5,hto,hi,h0,hw,Ybe,YaC,YaR,Gt]
 |false=>
 have k148:=K148 h148 d.places c.shard (by omega);rw[hr] at k148;simp only[GF,Ys,eOP] at k148;cases c8:decide (c.kind=1) with
 |true=>
  have k159:=K159 h159 d.places c.shard c.to d.next hp;have e:YbL d c=Yan d c (YaA d.places c.shard c.to d.next).2 {Ybe c d.next with to:=c.to}:=by simp only[YbL,c7,c8];rfl
  rw[e];clear e h65 h69 h148 h156 h157 h159 h328 h348 hd hm;generalize YaA d.places c.shard c.to d.next=x at k159 ⊢;simp only[ePE,Ys] at k159;cases d1:decide (x.2=0) with
  |false=>
   refine JdB h rfl ?_;simp only[go_sem,k328,k159,c1,c2,c3,c4,c5,c6,c7,c8,d1,Yan]
  |true=>
   refine JdB h rfl ?_;simp only[go_sem,k328,k159,k148,c1,c2,c3,c4,c5,c6,c7,c8,d1,Yan,hw,Ybe,YaC,YaR,Gt]
 |false=>
 cases c9:decide (c.kind=2) with
 |true=>
  have k156:=K156 h156 d.places c.shard c.key d.next d.next hp;have e:YbL d c=Yan d c (YG d.places c.shard c.key d.next d.next).2 {Ybe c d.next with key:=c.key,other:=d.next}:=by simp only[YbL,c7,c8,c9];rfl
  rw[e];clear e h65 h69 h148 h156 h157 h159 h328 h348 hd hm;generalize YG d.places c.shard c.key d.next d.next=x at k156 ⊢;simp only[ePE,Ys] at k156;cases d1:decide (x.2=0) with
  |false=>
   refine JdB h rfl ?_;simp only[go_sem,k328,k156,c1,c2,c3,c4,c5,c6,c7,c8,c9,d1,Yan]
  |true=>
   refine JdB h rfl ?_;simp only[go_sem,k328,k156,k148,c1,c2,c3,c4,c5,c6,c7,c8,c9,d1,Yan,hw,Ybe,YaC,YaR,Gt]
 |false=>
  have k157:=K157 h157 d.places c.shard c.other d.next hp;have e:YbL d c=Yan d c (YT d.places c.shard c.other d.next).2 {Ybe c d.next with other:=c.other}:=by simp only[YbL,c7,c8,c9];rfl
  rw[e];have c10:decide (c.kind=3)=true:=Gj (by
   have:=Gk c1;have:=Gk c2;have:=Gk c3;have:=Gk c4;have:=Gk c7;have:=Gk c8;have:=Gk c9;omega)
  clear e h65 h69 h148 h156 h157 h159 h328 h348 hd hm;generalize YT d.places c.shard c.other d.next=x at k157 ⊢;simp only[ePE,Ys] at k157;cases d1:decide (x.2=0) with
  |false=>
   refine JdB h rfl ?_;simp only[go_sem,k328,k157,c1,c2,c3,c4,c5,c6,c7,c8,c9,c10,d1,Yan]
  |true=>
   refine JdB h rfl ?_;simp only[go_sem,k328,k157,k148,c1,c2,c3,c4,c5,c6,c7,c8,c9,c10,d1,Yan,hw,Ybe,YaC,YaR,Gt]
theorem YbB {A:AA} {t:Nat} {v:V}:toD A (.iface t v)=some (.iface t v):=rfl
theorem YbO {t:Nat} {v:V}:(V.iface t v).dat=true:=rfl
theorem YbQ {t g:Nat} {l:List (Nat×Nat)}:List.find? (fun a=>a.1 == t) ((t,g)::l)=some (t,g):=by simp
def DrFew (d:Drc):Prop:=Y3 d=true∧DrL d
theorem Yc0 {d:Drc} (h:DrFew d):SmD d∧DrL d∧(Yaf d=true→(drB d).length+2 ^ 27≤2 ^ 29):=
 ⟨(Yb7 h.1).1.2.2.2,h.2,fun q=>by have:=YdN q h.1 h.2;omega⟩
def H553 (Pg:PgT):Prop:=Pg 553=some (.code F553)∧H516 Pg
theorem K553 (h:H553 Pg) (d:Drc) (hd:DrFew d):∃b:List UInt8,b.length≤2 ^ 30∧K' Pg 553 [.agg (Y6 d)]=some (.str b):=by
 obtain⟨h,h516⟩:=h;obtain⟨h1,h2,h3⟩:=Yc0 hd;have k:=K516 h516 d h1 h2 h3;simp only[go_sem] at k;cases c1:Yaf d with
 |true=>
  have:=h3 c1;simp only[c1,GF] at k;refine⟨drB d,by omega,JdB h rfl ?_⟩;simp only[F553,c553,go_sem,k]
 |false=>
  simp only[c1,Gr,GG] at k;refine⟨[],by simp,JdB h rfl ?_⟩;simp only[F553,c553,go_sem,k]
def H722 (Pg:PgT):Prop:=Pg 722=some (.code F722)
theorem K722 (h:H722 Pg) (f:List UInt8) (sid:Int) (o:List (List V)) (d:Drc) (up:Bool):K' Pg 722 [.agg (eNd 0 f sid o d up)]=some (.iface 155 (.agg (Y6 d))):=by
 have c0:decide ((0:Int)=0)=true:=rfl;refine JdB h rfl ?_;simp only[F722,c722,go_sem,c0,YbB]
def H728 (Pg:PgT):Prop:=Pg 728=some (.code F728)
theorem K728 (h:H728 Pg) (f:List UInt8) (sid:Int) (o:List (List V)) (d d':Drc) (up:Bool):K' Pg 728 [.agg (eNd 0 f sid o d up),.iface 155 (.agg (Y6 d'))]=some (.agg (eNd 0 f sid o d' up)):=by
 refine JdB h rfl ?_;simp only[F728,c728,go_sem]
def H725 (Pg:PgT):Prop:=Pg 725=some (.code F725)∧H553 Pg∧H722 Pg∧H728 Pg∧H555 Pg
theorem K725 (h:H725 Pg) (f:List UInt8) (hf:f.length≤16384) (sid:Int) (o:List (List V)) (d d':Drc) (hd:DrFew d) (hd':DrFew d') :
  ∃r,K' Pg 725 [.agg (eNd 0 f sid o d true),.iface 155 (.agg (Y6 d'))]=some r∧∃l e,r=.tuple [.agg l,iz e]∧Dn 38 l:=by
 obtain⟨h,h553,h722,h728,h555⟩:=h
 obtain⟨b,-,k1⟩:=K553 h553 d hd
 obtain⟨b',hb,k2⟩:=K553 h553 d' hd'
 obtain⟨t,e,k3⟩:=K555 h555 f b' (by omega) (by omega)
 have k4:=K722 h722 f sid o d true
 have k5:=K728 h728 t sid o d d' true
 simp only[go_sem] at k1 k2 k4 k5
 simp only[eTp] at k3
 have c2:decide ((16384:Int)<(f.length:Int))=false:=Ge (by omega)
 have w1:IntKind.i64.wrap ((f.length:Int)+0)=(f.length:Int):=by rw[Jmq (by omega) (by omega)];omega
 refine K'_codeX h rfl ?_
 cases c1:decide (b'=b) with
 |true=>
  simp only[F725,c725,go_sem,YbQ,YbB,YbO,k1,k2,k4,c1]
  exact⟨_,rfl,_,_,rfl,rfl,rfl⟩
 |false=>
  cases c3:decide (e=0) with
  |true=>
   simp only[F725,c725,go_sem,YbQ,YbB,YbO,k1,k2,k3,k4,k5,c1,c2,c3,w1]
   exact⟨_,rfl,_,_,rfl,rfl,rfl⟩
  |false=>
   simp only[F725,c725,go_sem,YbQ,YbB,YbO,k1,k2,k3,k4,k5,c1,c2,c3,w1]
   exact⟨_,rfl,_,_,rfl,rfl,rfl⟩
theorem YcN (d:Drc) (c:Cmd):(Yba d c).1=d∨(∃s,(Yba d c).1={d with job:={d.job with step:=s}})∨∃j n,(Yba d c).1={d with job:=j,next:=n}∧j.parts=[]∧j.wait=[]∧j.span=⟨[],[]⟩∧(j.key=[]∨j.key=c.key)∧(j.mem=[]∨j.mem=c.mem):=by
 have hp:∀e j,j.parts=[]→j.wait=[]→j.span=⟨[],[]⟩→(j.key=[]∨j.key=c.key)→j.mem=[]→(Yan d c e j).1=d∨∃j' n,(Yan d c e j).1={d with job:=j',next:=n}∧j'.parts=[]∧j'.wait=[]∧j'.span=⟨[],[]⟩∧(j'.key=[]∨j'.key=c.key)∧(j'.mem=[]∨j'.mem=c.mem):=by
  intro e j h1 h2 h3 h4 h5;unfold Yan;split
  ·exact .inl rfl
  ·exact .inr ⟨_,_,rfl,h1,h2,h3,h4,.inl h5⟩
 have hj:(Ybe c d.next).parts=[]∧(Ybe c d.next).wait=[]∧(Ybe c d.next).span=⟨[],[]⟩∧(Ybe c d.next).key=[]∧(Ybe c d.next).mem=[]:=⟨rfl,rfl,rfl,rfl,rfl⟩;unfold Yba;split
 ·exact .inl rfl
 split
 ·unfold Ya1;split
  ·exact .inr (.inl ⟨_,rfl⟩)
  ·split
   ·exact .inr (.inl ⟨_,rfl⟩)
   ·exact .inl rfl
 split
 ·exact .inl rfl
 split
 ·exact .inl rfl
 unfold YbL;split
 ·unfold YbG;split
  ·exact .inl rfl
  ·split
   ·exact .inl rfl
   ·split
    ·exact .inl rfl
    ·split
     ·exact .inl rfl
     ·exact .inr (.inr ⟨_,_,rfl,rfl,rfl,rfl,.inl rfl,.inr rfl⟩)
 split
 ·exact (hp _ _ rfl rfl rfl (.inl rfl) rfl).imp id .inr
 split
 ·exact (hp _ _ rfl rfl rfl (.inr rfl) rfl).imp id .inr
 ·exact (hp _ _ rfl rfl rfl (.inl rfl) rfl).imp id .inr
theorem Ydj {d:Drc} {c:Cmd} (h:DrFew d) (hk:c.key.length≤100) (hm:c.mem.length≤40):DrFew (Yba d c).1:=by
 obtain⟨h1,h2⟩:=h;have h3:=h1;simp only[Y3,Gi,Gx] at h3;obtain⟨a1,a2,a3,a4,a5,a6,a7,a8,a9⟩:=h3;rcases YcN d c with e|⟨s,e⟩|⟨j,n,e,p1,p2,p3,p4,p5⟩
 ·rw[e];exact⟨h1,h2⟩
 ·rw[e];exact⟨h1,⟨h2.pl,h2.key,h2.parts,h2.span,h2.wait,h2.mem,h2.cell⟩⟩
 ·have hk':j.key.length≤2 ^ 20:=by rcases p4 with p|p<;>rw[p]<;>first|(simp;done)|omega
  have hm':j.mem.length≤40:=by rcases p5 with p|p<;>rw[p]<;>first|(simp;done)|omega
  rw[e];refine⟨?_,⟨h2.pl,hk',by rw[p1];simp,by rw[p3];simp,by rw[p2];simp,by show j.mem.length≤_;omega,h2.cell⟩⟩;simp only[Y3,Gi,Gx];exact⟨a1,a2,a3,a4,a5,by rw[p1];simp,by rw[p2];simp,by omega,a9⟩
theorem YcG {A:AA}:∀{l:List V},l.all V.datC=true→∃l',Js (toDC A) l=some l'∧Dn l.length l'
 |[],_=>⟨[],rfl,rfl,rfl⟩
 |x::l,h=>by
  simp only[List.all_cons,Gi] at h;obtain⟨l',h1,h2,h3⟩:=YcG (A:=A) h.2;have hx:∃y,toDC A x=some y∧y.datC=true:=by
   cases x<;>first|exact⟨_,rfl,rfl⟩|(cases h.1;done)
  obtain⟨y,h4,h5⟩:=hx;exact⟨y::l',by simp only[Js,h4,h1,Option.bind_some],by simp[h2],by simp only[List.all_cons,h5,h3,Bool.and_self]⟩
def H721 (Pg:PgT):Prop:=Pg 721=some (.code F721)∧H722 Pg∧H331 Pg∧H725 Pg
theorem K721 (h:H721 Pg) (f:List UInt8) (hf:f.length≤16384) (sid:Int) (o:List (List V)) (d:Drc) (hd:DrFew d) (h8:K' Pg 558 [.agg (eNd 0 f sid o d true)]=some (iz 0)) (c:Cmd) (hk:c.key.length≤100) (hm:c.mem.length≤40) :
  ∃r,K' Pg 721 [.agg (eNd 0 f sid o d true),.agg (YdO c)]=some r∧∃l e,r=.tuple [.agg l,iz e]∧Dn 38 l:=by
 obtain⟨h,h722,h331,h725⟩:=h
 have hp:d.places.length≤40:=by
  have:=hd.1;simp only[Y3,Gi,Gx] at this;omega
 have k1:=K722 h722 f sid o d true
 have k2:=K331 h331 d c (Yc0 hd).1 (by omega) (by omega)
 obtain⟨_,k3,l,e,rfl,hl⟩:=K725 h725 f hf sid o d (Yba d c).1 hd (Ydj hd hk hm)
 simp only[go_sem] at h8 k1 k2 k3
 have c0:decide ((0:Int)=0)=true:=rfl
 refine K'_codeX h rfl ?_
 cases c1:decide ((Yba d c).2=0) with
 |true=>
  simp only[F721,c721,go_sem,YbB,YbO,h8,k1,k2,k3,c0,c1,hl.1]
  obtain⟨l',h1,h2⟩:=YcG (A:=fun _=>none) hl.2
  rw[G2 (by rw[hl.1];exact Gn _),h1]
  exact⟨_,rfl,_,_,rfl,by rw[←hl.1];exact h2⟩
 |false=>
  simp only[F721,c721,go_sem,YbB,YbO,h8,k1,k2,k3,c0,c1]
  exact⟨_,rfl,_,_,rfl,rfl,rfl⟩
structure Stp where
 kind:Int
 who:Int
 n:Int
 req:Rq
 cmd:Cmd
@[go_sem] def Y4 (s:Stp):List V:=[iz s.kind,iz s.who,iz s.n,iz s.req.client,iz s.req.req,iz s.req.kind,.str s.req.key,.str s.req.value,.bool s.req.had,.str s.req.old,iz s.req.at_.wall,iz s.req.at_.tick,iz s.req.at_.node,.str s.req.hi,iz s.req.limit,iz s.cmd.kind,iz s.cmd.shard,iz s.cmd.other,iz s.cmd.to,.str s.cmd.key,Yh s.cmd.mem]
def H601 (Pg:PgT):Prop:=Pg 601=some (.codeR F601 0)
theorem K601 (h:H601 Pg) (n c w:List (List V)) (s:Stp):K' Pg 601 [.tuple (.lref 0 0::eRun n c w []),.agg (Y4 s)]=some (.tuple [iz 7,.tuple (eRun n c w [])]):=by
 refine Qa h rfl rfl Yaq ?_;cases c1:decide (s.n<0) with
 |true=>
  simp only[F601,c601,go_sem,c1];exact Yab (p:=9000) (vs:=[iz 7]) (ws:=[iz 7]) ⟨rfl,rfl,rfl,rfl,rfl,rfl⟩ rfl fun A=>rfl
 |false=>
  have c2:decide ((0:Int)≤s.n)=true:=Gj (by have:=Gk c1;omega);simp only[F601,c601,go_sem,c1,c2];exact Yab (p:=9000) (vs:=[iz 7]) (ws:=[iz 7]) ⟨rfl,rfl,rfl,rfl,rfl,rfl⟩ rfl fun A=>rfl
def H612 (Pg:PgT):Prop:=Pg 612=some (.code F612)
theorem K612 (h:H612 Pg) (n:Int):K' Pg 612 [iz n]=some (.bool (decide (1≤n)&&decide (n≤8))):=by
 refine JdB h rfl ?_;cases c1:decide (1≤n)<;>simp only[F612,c612,go_sem,c1]
def H618 (Pg:PgT):Prop:=Pg 618=some (.code F618)
theorem K618 (h:H618 Pg) (n:Int):K' Pg 618 [iz n]=some (.bool (decide (0≤n)&&decide (n≤3))):=by
 refine JdB h rfl ?_;cases c1:decide (0≤n)<;>simp only[F618,c618,go_sem,c1]
theorem YbX {S:St} {n s i off m x}:JC S .x n (.eref s i off m) x=x.cells.bind fun xs=>if xs.length=n then (if xs.all V.datC then stE S s i off m xs (S.A s) else none) else none:=by
 unfold JC
 congr 1
theorem YQ {F:F} {S:St} {p a b d:Nat} {n c w t:List (List V)} {vs ws:List V} (hm:S.μ 0=some ([.own p 38 a,.own (p+1) 18 b,.own (p+2) 1 d,.own (p+3) 1 t.length,.own (p+4) 25 0],false))
  (hn:S.A p=some (38,n,.live)) (hc:S.A (p+1)=some (18,c,.live)) (hw:S.A (p+2)=some (1,w,.live)) (ht:S.A (p+3)=some (1,t,.live)) (ho:S.A (p+4)=some (25,[],.live))
  (h1:Js (resV S) F.res=some vs) (h2:∀A,Js (toD A) vs=some ws) (ea:n.length=a) (eb:c.length=b) (ed:w.length=d):JaK F 0 S=some (.tuple [Jb6 ws,.tuple (eRun n c w t)]):=by
 subst ea eb ed
 exact Yab ⟨hm,hn,hc,hw,ht,ho⟩ h1 h2
def IsRun (r:V):Prop:=∃e n c w t,r=.tuple [iz e,.tuple (eRun n c w t)]
def H599 (Pg:PgT):Prop:=Pg 599=some (.codeR F599 0)∧H612 Pg∧H613 Pg∧H614 Pg∧H615 Pg∧(H616 Pg∧H529 Pg∧H570 Pg)
theorem K599n (h:H599 Pg) (n c w:List (List V)) (s:Stp) (hw:¬(1≤s.who∧s.who≤8)):K' Pg 599 [.tuple (.lref 0 0::eRun n c w []),.agg (Y4 s)]=some (.tuple [iz 7,.tuple (eRun n c w [])]):=by
 obtain⟨h,h612,-⟩:=h;have k1:=K612 h612 s.who;have c1:(decide (1≤s.who)&&decide (s.who≤8))=false:=by
  cases c2:decide (1≤s.who) with
  |false=>rfl
  |true=>exact Ge fun h2=>hw ⟨Gp c2,h2⟩
 rw[c1] at k1;refine Qa h rfl rfl Yaq ?_;simp only[F599,c599,go_sem,k1];exact Yab (p:=9000) (vs:=[iz 7]) (ws:=[iz 7]) ⟨rfl,rfl,rfl,rfl,rfl,rfl⟩ rfl fun A=>rfl
theorem K599 (h:H599 Pg) (n c w:List (List V)) (s:Stp) (h1:1≤s.who) (h2:s.who≤8) (hc:c.length=8) (hx:c[(s.who-1).toNat]?=some (cl s.who)) (hk:s.kind=1∨s.kind=2∨s.kind=3∨s.kind=4)
  (k626:K' Pg 626 [.agg (cl s.who)]=some (iz 0)) (k628:K' Pg 628 [.agg (cl s.who)]=some (.bool true))
  (k617:∃n' c' w' t',K' Pg 617 [.tuple (.lref 0 0::eRun n c w []),iz s.who]=some (.tuple [.tuple [],.tuple (eRun n' c' w' t')])) :
  ∃r,K' Pg 599 [.tuple (.lref 0 0::eRun n c w []),.agg (Y4 s)]=some r∧IsRun r:=by
 obtain⟨h,h612,h613,h614,h615,h616⟩:=h
 have k1:=K612 h612 s.who
 have c1:decide (1≤s.who)=true:=Gj h1
 have c2:decide (s.who≤8)=true:=Gj h2
 have w1:IntKind.i64.wrap (s.who-1)=(((s.who-1).toNat:Nat):Int):=by rw[Jmq (by omega) (by omega)];omega
 have l1:((s.who-1).toNat<c.length)=True:=eq_true (by omega)
 simp only[c1,c2,Bool.and_self] at k1
 refine Yb3 h rfl rfl Yaq ?_
 rcases hk with hk|hk|hk|hk
 ·obtain⟨_,k2,w',n',q,o',t,e,rfl⟩:=K613 h613 s.who h1 h2 k626 s.req
  simp only[go_sem,cl] at k2 hx
  have d1:decide (s.kind=1)=true:=Gj hk
  simp only[F599,c599,go_sem,k1,w1,l1,hx,k2,d1,YbX]
  exact⟨_,YQ (p:=9000) (vs:=[iz e]) (ws:=[iz e]) rfl rfl rfl rfl rfl rfl rfl (fun A=>rfl) rfl (GV ..) rfl,e,_,_,_,_,rfl⟩
 ·obtain⟨_,k2,w',n',q,o',t,e,rfl⟩:=K614 h614 s.who h1 h2 k626 s.req.key s.req.hi
  simp only[go_sem,cl] at k2 hx
  have d1:decide (s.kind=1)=false:=Ge (by omega)
  have d2:decide (s.kind=2)=true:=Gj hk
  simp only[F599,c599,go_sem,k1,w1,l1,hx,k2,d1,d2,YbX]
  exact⟨_,YQ (p:=9000) (vs:=[iz e]) (ws:=[iz e]) rfl rfl rfl rfl rfl rfl rfl (fun A=>rfl) rfl (GV ..) rfl,e,_,_,_,_,rfl⟩
 ·have k2:=K615 h615 s.who s.n h1 h2 k628
  have d1:decide (s.kind=1)=false:=Ge (by omega)
  have d2:decide (s.kind=2)=false:=Ge (by omega)
  have d3:decide (s.kind=3)=true:=Gj hk
  have k3:∃l t,K' Pg 615 [.agg (cl s.who),iz s.n]=some (.slice 36 l)∧K' Pg 616 [.tuple (.lref 0 0::eRun n c w []),.slice 36 l]=some (.tuple [.tuple [],.tuple (eRun n c w t)]):=by
   split at k2
   ·rename_i h3;obtain⟨t,k3⟩:=K616 h616 n c w (clM s.who s.n) ⟨by simp[clM],by simp[clM],by simp[clM]⟩ ⟨by simp[clM],by simp[clM,Ybz],by simp[clM,Ybz],by simp[clM,Ybz],by simp[clM,Ybz],by simp[clM],by simp[clM],by simp[clM],by simp[clM]⟩ (Yeg h1 h2 h3.1 h3.2) (Ydi h1 h2 h3.1 h3.2);exact⟨_,t,k2,k3⟩
   ·exact⟨_,[],k2,K616e h616.1 n c w []⟩
  obtain⟨l,t,k4,k5⟩:=k3
  simp only[go_sem,cl,eRun] at k4 k5 hx
  simp only[F599,c599,go_sem,k1,w1,l1,hx,k4,k5,d1,d2,d3,YbX,Jmd]
  exact⟨_,YQ (p:=20000) (vs:=[iz 0]) (ws:=[iz 0]) rfl rfl rfl rfl rfl rfl rfl (fun A=>rfl) rfl (GV ..) rfl,0,_,_,_,_,rfl⟩
 ·obtain⟨n',c',w',t',k2⟩:=k617
  have d1:decide (s.kind=1)=false:=Ge (by omega)
  have d2:decide (s.kind=2)=false:=Ge (by omega)
  have d3:decide (s.kind=3)=false:=Ge (by omega)
  have d4:decide (s.kind=4)=true:=Gj hk
  simp only[go_sem,cl,eRun] at k2 hx
  simp only[F599,c599,go_sem,k1,w1,l1,hx,k2,d1,d2,d3,d4,YbX,Jmd]
  exact⟨_,YQ (p:=20100) (vs:=[iz 0]) (ws:=[iz 0]) rfl rfl rfl rfl rfl rfl rfl (fun A=>rfl) rfl rfl rfl,0,_,_,_,_,rfl⟩
def H600 (Pg:PgT):Prop:=Pg 600=some (.codeR F600 0)∧H618 Pg
theorem K600n (h:H600 Pg) (n c w:List (List V)) (s:Stp) (hw:¬(0≤s.who∧s.who≤3)):K' Pg 600 [.tuple (.lref 0 0::eRun n c w []),.agg (Y4 s)]=some (.tuple [iz 7,.tuple (eRun n c w [])]):=by
 obtain⟨h,h618⟩:=h;have k1:=K618 h618 s.who;have c1:(decide (0≤s.who)&&decide (s.who≤3))=false:=by
  cases c2:decide (0≤s.who) with
  |false=>rfl
  |true=>exact Ge fun h2=>hw ⟨Gp c2,h2⟩
 rw[c1] at k1;refine Qa h rfl rfl Yaq ?_;simp only[F600,c600,go_sem,k1];exact Yab (p:=9000) (vs:=[iz 7]) (ws:=[iz 7]) ⟨rfl,rfl,rfl,rfl,rfl,rfl⟩ rfl fun A=>rfl
theorem K600 (h:H600 Pg) (n c w:List (List V)) (s:Stp) {k:Nat} (hw:s.who=(k:Int)) (hk4:k<4) (hn:n.length=4) {x:List V} (hx:n[k]?=some x) (hd:Dn 38 x) (hwl:w.length=4) (hwk:w[k]?=some [iz 0]) (hk:s.kind=5∨s.kind=9∨s.kind=10∨s.kind=11)
  (k619:∃e n' c' w' t',K' Pg 619 [.tuple (.lref 0 0::eRun n c w []),iz k]=some (.tuple [iz e,.tuple (eRun n' c' w' t')]))
  (k723:∃r,K' Pg 723 [.agg x,iz s.n]=some r∧∃l,r=.agg l∧Dn 38 l)
  (k724:∃r,K' Pg 724 [.agg x,iz s.n]=some r∧∃l e,r=.tuple [.agg l,iz e]∧Dn 38 l) :
  ∃r,K' Pg 600 [.tuple (.lref 0 0::eRun n c w []),.agg (Y4 s)]=some r∧IsRun r:=by
 obtain⟨h,h618⟩:=h
 have k1:=K618 h618 s.who
 have c1:decide (0≤s.who)=true:=Gj (by omega)
 have c2:decide (s.who≤3)=true:=Gj (by omega)
 rw[c1,c2] at k1
 simp only[Bool.and_self,hw] at k1
 have l1:(k<n.length)=True:=eq_true (by omega)
 have l2:(k<w.length)=True:=eq_true (by omega)
 have tx:List.take 38 x=x:=G2 (by rw[hd.1];exact Gn _)
 have dx:List.drop 38 x=[]:=List.drop_of_length_le (by rw[hd.1];exact Gn _)
 have lx:=hd.1
 have ax:=hd.2
 refine Yb3 h rfl rfl Yaq ?_
 rcases hk with hk|hk|hk|hk
 ·obtain⟨e,n',c',w',t',k2⟩:=k619
  have d1:decide (s.kind=5)=true:=Gj hk
  simp only[eRun] at k2
  simp only[F600,c600,go_sem,hw,k1,l1,hx,tx,lx,k2,d1,YbX,Jmd]
  exact⟨_,YQ (p:=20000) (vs:=[iz e]) (ws:=[iz e]) rfl rfl rfl rfl rfl rfl rfl (fun A=>rfl) rfl rfl rfl,e,_,_,_,_,rfl⟩
 ·have d1:decide (s.kind=5)=false:=Ge (by omega)
  have d2:decide (s.kind=9)=true:=Gj hk
  cases d3:decide (s.n<0) with
  |true=>
   simp only[F600,c600,go_sem,hw,k1,l1,hx,tx,lx,d1,d2,d3,YbX]
   exact⟨_,YQ (p:=9000) (vs:=[iz 1]) (ws:=[iz 1]) rfl rfl rfl rfl rfl rfl rfl (fun A=>rfl) rfl rfl rfl,1,_,_,_,_,rfl⟩
  |false=>
   cases d4:decide (1099511627776<s.n) with
   |true=>
    simp only[F600,c600,go_sem,hw,k1,l1,hx,tx,lx,d1,d2,d3,d4,YbX]
    exact⟨_,YQ (p:=9000) (vs:=[iz 1]) (ws:=[iz 1]) rfl rfl rfl rfl rfl rfl rfl (fun A=>rfl) rfl rfl rfl,1,_,_,_,_,rfl⟩
   |false=>
    simp only[F600,c600,go_sem,hw,k1,l1,l2,hx,hwk,tx,dx,lx,ax,d1,d2,d3,d4,YbX]
    exact⟨_,YQ (p:=9000) (vs:=[iz 0]) (ws:=[iz 0]) rfl rfl rfl rfl rfl rfl rfl (fun A=>rfl) (GV ..) rfl (GV ..),0,_,_,_,_,rfl⟩
 ·obtain⟨_,k2,l,rfl,hl⟩:=k723
  have lh:=hl.1
  have lt:=hl.2
  have tl:List.take 38 l=l:=G2 (by rw[hl.1];exact Gn _)
  have d1:decide (s.kind=5)=false:=Ge (by omega)
  have d2:decide (s.kind=9)=false:=Ge (by omega)
  have d3:decide (s.kind=10)=true:=Gj hk
  simp only[F600,c600,go_sem,hw,k1,l1,hx,tx,dx,lx,ax,lh,lt,tl,k2,d1,d2,d3,YbX]
  exact⟨_,YQ (p:=9000) (vs:=[iz 0]) (ws:=[iz 0]) rfl rfl rfl rfl rfl rfl rfl (fun A=>rfl) (GV ..) rfl rfl,0,_,_,_,_,rfl⟩
 ·obtain⟨_,k2,l,e,rfl,hl⟩:=k724
  have lh:=hl.1
  have lt:=hl.2
  have tl:List.take 38 l=l:=G2 (by rw[hl.1];exact Gn _)
  have d1:decide (s.kind=5)=false:=Ge (by omega)
  have d2:decide (s.kind=9)=false:=Ge (by omega)
  have d3:decide (s.kind=10)=false:=Ge (by omega)
  have d4:decide (s.kind=11)=true:=Gj hk
  simp only[F600,c600,go_sem,hw,k1,l1,hx,tx,dx,lx,ax,lh,lt,tl,k2,d1,d2,d3,d4,YbX]
  exact⟨_,YQ (p:=9000) (vs:=[iz e]) (ws:=[iz e]) rfl rfl rfl rfl rfl rfl rfl (fun A=>rfl) (GV ..) rfl rfl,e,_,_,_,_,rfl⟩
@[go_sem] def eCu (n c w:List (List V)):List V:=[.slice 38 n,.slice 18 c,.slice 1 w,.slice 1 []]
def H597 (Pg:PgT):Prop:=Pg 597=some (.prim (some 0) (cloneQ 38))
def H598 (Pg:PgT):Prop:=Pg 598=some (.prim (some 0) (cloneQ 18))
theorem YD {f z:Nat} {n:List (List V)} (h:Pg f=some (.prim (some 0) (cloneQ z))) (hn:n.length≤8):K' Pg f [.slice z n]=some (.slice z n):=by
 rw[JfU h];have:n.length≤lim:=GH hn (by decide);simp only[cloneQ,this,and_self,GF]
def H592 (Pg:PgT):Prop:=Pg 592=some (.code F592)∧H597 Pg∧H598 Pg∧Pg 69=some (.prim (some 0) (cloneQ 1))∧Pg 380=some (.prim (some 0) (cloneQ 1))∧H599 Pg∧H600 Pg∧H601 Pg
theorem YdQ {s z m k}:Ja9 z (.own s z m) (.int k 0)=if 0<m then some (.eref s 0 0 m) else none:=Jlj (n:=0)
theorem K592n (h:H592 Pg) {n c w:List (List V)} (hn:n.length≤8) (hc:c.length≤8) (hw:w.length≤8) (h6:K' Pg 596 [.agg (eCu n c w)]=some (.bool true)) (s:Stp) (hk:s.kind<1∨13<s.kind) :
  K' Pg 592 [.agg (eCu n c w),.agg (Y4 s)]=some (.tuple [.agg (eCu n c w),.slice 25 [],iz 1]):=by
 obtain⟨h,h597,h598,h69,h380,h599,h600,h601⟩:=h
 have k1:=YD h597 hn
 have k2:=YD h598 hc
 have k3:=YD h69 hw
 have k4:=YD (n:=[]) h380 (by simp)
 simp only[go_sem] at h6
 have d:∀k:Int,1≤k→k≤13→decide (s.kind=k)=false:=fun k a b=>Ge (by omega)
 have d1:=d 1 (by decide) (by decide)
 have d2:=d 2 (by decide) (by decide)
 have d3:=d 3 (by decide) (by decide)
 have d4:=d 4 (by decide) (by decide)
 have d5:=d 5 (by decide) (by decide)
 have d6:=d 6 (by decide) (by decide)
 have d7:=d 7 (by decide) (by decide)
 have d8:=d 8 (by decide) (by decide)
 have d9:=d 9 (by decide) (by decide)
 have d10:=d 10 (by decide) (by decide)
 have d11:=d 11 (by decide) (by decide)
 have d12:=d 12 (by decide) (by decide)
 have d13:=d 13 (by decide) (by decide)
 refine JdB h rfl ?_
 simp only[F592,c592,go_sem,h6,k1,k2,k3,k4,d1,d2,d3,d4,d5,d6,d7,d8,d9,d10,d11,d12,d13]
 rfl
theorem K592a (h:H592 Pg) {n c w:List (List V)} (hn:n.length≤8) (hc:c.length≤8) (hw:w.length≤8) (h6:K' Pg 596 [.agg (eCu n c w)]=some (.bool true)) (s:Stp) (hk:s.kind=1∨s.kind=2∨s.kind=3∨s.kind=4) {e:Int} {n' c' w' t':List (List V)} (kr:K' Pg 599 [.tuple (.lref 0 0::eRun n c w []),.agg (Y4 s)]=some (.tuple [iz e,.tuple (eRun n' c' w' t')])) :
  K' Pg 592 [.agg (eCu n c w),.agg (Y4 s)]=some (.tuple [.agg [.slice 38 n',.slice 18 c',.slice 1 w',.slice 1 t'],.slice 25 [],iz e]):=by
 obtain⟨h,h597,h598,h69,h380,h599,h600,h601⟩:=h
 have k1:=YD h597 hn
 have k2:=YD h598 hc
 have k3:=YD h69 hw
 have k4:=YD (n:=[]) h380 (by simp)
 simp only[go_sem] at h6
 simp only[go_sem,eRun] at kr
 rcases hk with hk|hk|hk|hk
 ·have d1:decide (s.kind=1)=true:=Gj hk
  refine JdB h rfl ?_
  simp only[F592,c592,go_sem,Jmd,h6,k1,k2,k3,k4,d1,kr]
 ·have d1:decide (s.kind=1)=false:=Ge (by omega)
  have d2:decide (s.kind=2)=true:=Gj hk
  refine JdB h rfl ?_
  simp only[F592,c592,go_sem,Jmd,h6,k1,k2,k3,k4,d1,d2,kr]
 ·have d1:decide (s.kind=1)=false:=Ge (by omega)
  have d2:decide (s.kind=2)=false:=Ge (by omega)
  have d3:decide (s.kind=3)=true:=Gj hk
  refine JdB h rfl ?_
  simp only[F592,c592,go_sem,Jmd,h6,k1,k2,k3,k4,d1,d2,d3,kr]
 ·have d1:decide (s.kind=1)=false:=Ge (by omega)
  have d2:decide (s.kind=2)=false:=Ge (by omega)
  have d3:decide (s.kind=3)=false:=Ge (by omega)
  have d4:decide (s.kind=4)=true:=Gj hk
  refine JdB h rfl ?_
  simp only[F592,c592,go_sem,Jmd,h6,k1,k2,k3,k4,d1,d2,d3,d4,kr]
theorem K592b (h:H592 Pg) {n c w:List (List V)} (hn:n.length≤8) (hc:c.length≤8) (hw:w.length≤8) (h6:K' Pg 596 [.agg (eCu n c w)]=some (.bool true)) (s:Stp) (hk:s.kind=5∨s.kind=9∨s.kind=10∨s.kind=11) {e:Int} {n' c' w' t':List (List V)} (kr:K' Pg 600 [.tuple (.lref 0 0::eRun n c w []),.agg (Y4 s)]=some (.tuple [iz e,.tuple (eRun n' c' w' t')])) :
  K' Pg 592 [.agg (eCu n c w),.agg (Y4 s)]=some (.tuple [.agg [.slice 38 n',.slice 18 c',.slice 1 w',.slice 1 t'],.slice 25 [],iz e]):=by
 obtain⟨h,h597,h598,h69,h380,h599,h600,h601⟩:=h
 have k1:=YD h597 hn
 have k2:=YD h598 hc
 have k3:=YD h69 hw
 have k4:=YD (n:=[]) h380 (by simp)
 simp only[go_sem] at h6
 simp only[go_sem,eRun] at kr
 rcases hk with hk|hk|hk|hk
 ·have d1:decide (s.kind=1)=false:=Ge (by omega)
  have d2:decide (s.kind=2)=false:=Ge (by omega)
  have d3:decide (s.kind=3)=false:=Ge (by omega)
  have d4:decide (s.kind=4)=false:=Ge (by omega)
  have d5:decide (s.kind=5)=true:=Gj hk
  refine JdB h rfl ?_
  simp only[F592,c592,go_sem,Jmd,h6,k1,k2,k3,k4,d1,d2,d3,d4,d5,kr]
 ·have d1:decide (s.kind=1)=false:=Ge (by omega)
  have d2:decide (s.kind=2)=false:=Ge (by omega)
  have d3:decide (s.kind=3)=false:=Ge (by omega)
  have d4:decide (s.kind=4)=false:=Ge (by omega)
  have d5:decide (s.kind=5)=false:=Ge (by omega)
  have d9:decide (s.kind=9)=true:=Gj hk
  refine JdB h rfl ?_
  simp only[F592,c592,go_sem,Jmd,h6,k1,k2,k3,k4,d1,d2,d3,d4,d5,d9,kr]
 ·have d1:decide (s.kind=1)=false:=Ge (by omega)
  have d2:decide (s.kind=2)=false:=Ge (by omega)
  have d3:decide (s.kind=3)=false:=Ge (by omega)
  have d4:decide (s.kind=4)=false:=Ge (by omega)
  have d5:decide (s.kind=5)=false:=Ge (by omega)
  have d9:decide (s.kind=9)=false:=Ge (by omega)
  have d10:decide (s.kind=10)=true:=Gj hk
  refine JdB h rfl ?_
  simp only[F592,c592,go_sem,Jmd,h6,k1,k2,k3,k4,d1,d2,d3,d4,d5,d9,d10,kr]
 ·have d1:decide (s.kind=1)=false:=Ge (by omega)
  have d2:decide (s.kind=2)=false:=Ge (by omega)
  have d3:decide (s.kind=3)=false:=Ge (by omega)
  have d4:decide (s.kind=4)=false:=Ge (by omega)
  have d5:decide (s.kind=5)=false:=Ge (by omega)
  have d9:decide (s.kind=9)=false:=Ge (by omega)
  have d10:decide (s.kind=10)=false:=Ge (by omega)
  have d11:decide (s.kind=11)=true:=Gj hk
  refine JdB h rfl ?_
  simp only[F592,c592,go_sem,Jmd,h6,k1,k2,k3,k4,d1,d2,d3,d4,d5,d9,d10,d11,kr]
theorem K592c (h:H592 Pg) {n c w:List (List V)} (hn:n.length≤8) (hc:c.length≤8) (hw:w.length≤8) (h6:K' Pg 596 [.agg (eCu n c w)]=some (.bool true)) (s:Stp) (hk:s.kind=6∨s.kind=7∨s.kind=8) {e:Int} {n' c' w' t':List (List V)} (kr:K' Pg 601 [.tuple (.lref 0 0::eRun n c w []),.agg (Y4 s)]=some (.tuple [iz e,.tuple (eRun n' c' w' t')])) :
  K' Pg 592 [.agg (eCu n c w),.agg (Y4 s)]=some (.tuple [.agg [.slice 38 n',.slice 18 c',.slice 1 w',.slice 1 t'],.slice 25 [],iz e]):=by
 obtain⟨h,h597,h598,h69,h380,h599,h600,h601⟩:=h
 have k1:=YD h597 hn
 have k2:=YD h598 hc
 have k3:=YD h69 hw
 have k4:=YD (n:=[]) h380 (by simp)
 simp only[go_sem] at h6
 simp only[go_sem,eRun] at kr
 rcases hk with hk|hk|hk
 ·have d1:decide (s.kind=1)=false:=Ge (by omega)
  have d2:decide (s.kind=2)=false:=Ge (by omega)
  have d3:decide (s.kind=3)=false:=Ge (by omega)
  have d4:decide (s.kind=4)=false:=Ge (by omega)
  have d5:decide (s.kind=5)=false:=Ge (by omega)
  have d9:decide (s.kind=9)=false:=Ge (by omega)
  have d10:decide (s.kind=10)=false:=Ge (by omega)
  have d11:decide (s.kind=11)=false:=Ge (by omega)
  have d6:decide (s.kind=6)=true:=Gj hk
  refine JdB h rfl ?_
  simp only[F592,c592,go_sem,Jmd,h6,k1,k2,k3,k4,d1,d2,d3,d4,d5,d9,d10,d11,d6,kr]
 ·have d1:decide (s.kind=1)=false:=Ge (by omega)
  have d2:decide (s.kind=2)=false:=Ge (by omega)
  have d3:decide (s.kind=3)=false:=Ge (by omega)
  have d4:decide (s.kind=4)=false:=Ge (by omega)
  have d5:decide (s.kind=5)=false:=Ge (by omega)
  have d9:decide (s.kind=9)=false:=Ge (by omega)
  have d10:decide (s.kind=10)=false:=Ge (by omega)
  have d11:decide (s.kind=11)=false:=Ge (by omega)
  have d6:decide (s.kind=6)=false:=Ge (by omega)
  have d7:decide (s.kind=7)=true:=Gj hk
  refine JdB h rfl ?_
  simp only[F592,c592,go_sem,Jmd,h6,k1,k2,k3,k4,d1,d2,d3,d4,d5,d9,d10,d11,d6,d7,kr]
 ·have d1:decide (s.kind=1)=false:=Ge (by omega)
  have d2:decide (s.kind=2)=false:=Ge (by omega)
  have d3:decide (s.kind=3)=false:=Ge (by omega)
  have d4:decide (s.kind=4)=false:=Ge (by omega)
  have d5:decide (s.kind=5)=false:=Ge (by omega)
  have d9:decide (s.kind=9)=false:=Ge (by omega)
  have d10:decide (s.kind=10)=false:=Ge (by omega)
  have d11:decide (s.kind=11)=false:=Ge (by omega)
  have d6:decide (s.kind=6)=false:=Ge (by omega)
  have d7:decide (s.kind=7)=false:=Ge (by omega)
  have d8:decide (s.kind=8)=true:=Gj hk
  refine JdB h rfl ?_
  simp only[F592,c592,go_sem,Jmd,h6,k1,k2,k3,k4,d1,d2,d3,d4,d5,d9,d10,d11,d6,d7,d8,kr]
theorem K592d (h:H592 Pg) {n c w:List (List V)} (hn:n.length≤8) (hc:c.length≤8) (hw:w.length≤8) (h6:K' Pg 596 [.agg (eCu n c w)]=some (.bool true)) (s:Stp) (hk:s.kind=12) {x l:List V} {e:Int} (h0:0<n.length) (hx:n[0]?=some x) (hd:Dn 38 x) (hl:Dn 38 l) (kr:K' Pg 721 [.agg x,.agg (YdO s.cmd)]=some (.tuple [.agg l,iz e])) :
  K' Pg 592 [.agg (eCu n c w),.agg (Y4 s)]=some (.tuple [.agg [.slice 38 (n.set 0 l),.slice 18 c,.slice 1 w,.slice 1 []],.slice 25 [],iz e]):=by
 obtain⟨h,h597,h598,h69,h380,h599,h600,h601⟩:=h
 have k1:=YD h597 hn
 have k2:=YD h598 hc
 have k3:=YD h69 hw
 have k4:=YD (n:=[]) h380 (by simp)
 simp only[go_sem] at h6
 simp only[go_sem] at kr
 have tx:List.take 38 x=x:=G2 (by rw[hd.1];exact Gn _)
 have dx:List.drop 38 x=[]:=List.drop_of_length_le (by rw[hd.1];exact Gn _)
 have lx:=hd.1
 have ax:=hd.2
 have lh:=hl.1
 have lt:=hl.2
 have l1:(0<n.length)=True:=eq_true h0
 have d1:decide (s.kind=1)=false:=Ge (by omega)
 have d2:decide (s.kind=2)=false:=Ge (by omega)
 have d3:decide (s.kind=3)=false:=Ge (by omega)
 have d4:decide (s.kind=4)=false:=Ge (by omega)
 have d5:decide (s.kind=5)=false:=Ge (by omega)
 have d9:decide (s.kind=9)=false:=Ge (by omega)
 have d10:decide (s.kind=10)=false:=Ge (by omega)
 have d11:decide (s.kind=11)=false:=Ge (by omega)
 have d6:decide (s.kind=6)=false:=Ge (by omega)
 have d7:decide (s.kind=7)=false:=Ge (by omega)
 have d8:decide (s.kind=8)=false:=Ge (by omega)
 have d12:decide (s.kind=12)=true:=Gj hk
 refine JdB h rfl ?_
 simp only[F592,c592,go_sem,Jmd,h6,k1,k2,k3,k4,d1,d2,d3,d4,d5,d9,d10,d11,d6,d7,d8,d12,kr,tx,dx,lx,ax,lh,lt,l1,hx,YbX,YdQ,GV]
 rfl
theorem K592e (h:H592 Pg) {n c w:List (List V)} (hn:n.length≤8) (hc:c.length≤8) (hw:w.length≤8) (h6:K' Pg 596 [.agg (eCu n c w)]=some (.bool true)) (s:Stp) (hk:s.kind=13) {n' c' w' t':List (List V)} (kr:K' Pg 603 [.tuple (.lref 0 0::eRun n c w [])]=some (.tuple [.tuple [],.tuple (eRun n' c' w' t')])) :
  K' Pg 592 [.agg (eCu n c w),.agg (Y4 s)]=some (.tuple [.agg [.slice 38 n',.slice 18 c',.slice 1 w',.slice 1 t'],.slice 25 [],iz 0]):=by
 obtain⟨h,h597,h598,h69,h380,h599,h600,h601⟩:=h
 have k1:=YD h597 hn
 have k2:=YD h598 hc
 have k3:=YD h69 hw
 have k4:=YD (n:=[]) h380 (by simp)
 simp only[go_sem] at h6
 simp only[go_sem,eRun] at kr
 have d1:decide (s.kind=1)=false:=Ge (by omega)
 have d2:decide (s.kind=2)=false:=Ge (by omega)
 have d3:decide (s.kind=3)=false:=Ge (by omega)
 have d4:decide (s.kind=4)=false:=Ge (by omega)
 have d5:decide (s.kind=5)=false:=Ge (by omega)
 have d9:decide (s.kind=9)=false:=Ge (by omega)
 have d10:decide (s.kind=10)=false:=Ge (by omega)
 have d11:decide (s.kind=11)=false:=Ge (by omega)
 have d6:decide (s.kind=6)=false:=Ge (by omega)
 have d7:decide (s.kind=7)=false:=Ge (by omega)
 have d8:decide (s.kind=8)=false:=Ge (by omega)
 have d12:decide (s.kind=12)=false:=Ge (by omega)
 have d13:decide (s.kind=13)=true:=Gj hk
 refine JdB h rfl ?_
 simp only[F592,c592,go_sem,Jmd,h6,k1,k2,k3,k4,d1,d2,d3,d4,d5,d9,d10,d11,d6,d7,d8,d12,d13,kr]
end Sg
