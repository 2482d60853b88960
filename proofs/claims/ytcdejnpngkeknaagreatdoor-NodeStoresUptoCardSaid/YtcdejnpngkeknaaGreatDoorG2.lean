/- A checked abstract run of translated code is sound: for every program and input that pass its checks. A general part, used by the proofs of this seat. -/
import Derived.Laws.BytesArg
import Derived.Lib.SliceRun
import Derived.Orders
import Derived.Attr
import Derived.IntWalk
import Derived.Shelf.Unicode.DecodeAny
import Derived.Lib.OthersKept
import Derived.Lib.AppendZeros
import Derived.Lib.AppendZerosOnto
import Derived.DataReads
import Derived.WideShapes
import Derived.ChangeSlices
import Derived.ChangeSame
import Derived.JoinedOf
import Derived.JoinedAt
import Derived.Carry
import Derived.Test.YtcdejnpngkeknaaGreatDoorG1
set_option linter.unusedSimpArgs false
set_option linter.unusedVariables false
set_option linter.constructorNameAsVariable false
set_option linter.defProp false
set_option maxRecDepth 100000
namespace Sg
open Go Go.RowKit
section
variable {P:Program} {cx:Cx} {B:Nat->Prop} {X:Nat->Prop} {S:St} {w:World} {β:Nat->Nat} {α:Nat->Value} {M:Nat->Prop}
variable {a:Act} {ds:List (Option Nat)} {e:Nat->V} {κ:Nat->List V->Option V} {aL:Nat->Option Nat}
theorem AM:∀(j:List Field) (pl:List (Nat×Nat)),eM P j=some pl->(j.mapM fun f=>do pure (f.offset,<-Go.sizeOf f.type):Sem (List (Nat×Nat))).run P w=.ok pl w
 |[],pl,h=>by simp only[eM,Ga] at h;subst h;simp
 |f::j,pl,h=>by
  simp only[eM,Gc,Ga] at h;obtain⟨n,o,r,p,rfl⟩:=h;have q:=AM j r p;simp only[List.mapM_cons,Sem.run_bind,Jf o w,Result.andThen,Sem.run_pure,q]
def EA {t:TypeId} {pl:List (Nat×Nat)} (h:uD P t=some pl):∃j,P.underlying t=some (.struct j)/\(j.mapM fun f=>do pure (f.offset,<-Go.sizeOf f.type):Sem (Array (Nat×Nat))).run P w=.ok pl.toArray w:=by
 unfold uD at h;split at h
 ·rename_i j hu;refine⟨j,hu,?_⟩;rw[Array.mapM_eq_mapM_toList];have:=AM (w:=w) j.toList pl h;simp only[map_eq_pure_bind,Sem.run_bind,this,Result.andThen,Sem.run_pure]
 ·simp at h
def eJ (h:aO cx B X S w β α M) {z n:Nat} {rows:List (List V)} {cells:Array Value} {el:TypeId} (hdr:DR cx w (aI X M) z cells.toList rows) (cK:rows.length=n) :
  bP cx B X S w β α M S (.slice z rows) (.slice (some ⟨w.heap.size,0,none⟩) n n) {w with heap:=w.heap.push (.cells cells el)}:=by
 have jj:=Bh w (.cells cells el)
 have hat:=Bv w (.cells cells el)
 have hbel:=AS (B:=B) w (.cells cells el) h.size
 have hlt:w.heap.size<({w with heap:=w.heap.push (.cells cells el)}:World).heap.size:=by simp
 generalize ({w with heap:=w.heap.push (.cells cells el)}:World)=w2 at *
 have hw:=h.grow jj (M':=M) (fun _ h=>h) (fun _ h=>.inl h)
 have hD:∀u x,aB cx w (aI X M) u x->aB cx w2 (aI X M) u x:=fun _ _ hr=>J3 jj (fun _ h=>.inl h) hr
 have hdr':=hdr.mono hD
 refine⟨β,α,M,hw,fun u x hu=>aG.tr hD (dn.refl S α) (fun s hs=>⟨hs,rfl⟩) hu,?_,hbel⟩
 refine uz (o:=0) (c:=cells) (e:=el) (fr:=(0,0)) hlt ?_ hat (by omega) hdr'.2.1 (fun i j hi hj=>?_) cK
 ·rintro (hx|hm)
  ·exact Nat.lt_irrefl _ (h.size _ (h.xb _ hx))
  ·have:=(h.m _ hm).2;omega
 ·obtain⟨u,q1,q2,q3⟩:=hdr'.2.2 i j hi hj
  exact⟨u,by simpa using q1,q2,q3⟩
def A7 {P:Program} {w:World} {t el:TypeId} {x y:Operand} {j:Option Addr} {n c:Nat} (h:P.underlying t=some (.slice el)) :
  (do eqGuard .eql t x y (.slice j n c) (.slice none 0 0);Go.binOp .eql t (.slice j n c) (.slice none 0 0):Sem Value).run P w=.ok (.bool j.isNone) w:=by
 have o:(eqGuard .eql t x y (.slice j n c) (.slice none 0 0)).run P w=.ok () w:=by
  unfold eqGuard
  rfl
 simp only[Sem.run_bind,o,Result.andThen]
 exact Lib.run_eql_slice_nil w t el j n c 0 0 h
def fC (aL:Nat->Option Nat):K->Bool
 |.call (.k f) _ own _=>own.isNone||own == aL f
 |.call (.v _) _ own _=>own.isNone
 |.ins f _ z _ _ _=>decide (z<1000)&&aL f == some (1000+z)
 |.del f _ z _ _ _=>decide (z<1000)&&aL f == some (2000+z)
 |.rcall f _ k _ _=>decide (k<1000)&&aL f == some (3000+k)
 |_=>true
def Hg {op:Go.Op} {f s z:Nat} {x y i:aQ} (h:aV P cx ds op (.ins f s z x i y)=true):∃c:Call,op=.call c/\c.callee=.value (.func (cx.fm f))/\Jg cx ds c.args.toList [x,i,y]=true:=by
 unfold aV at h;split at h<;>first|(simp_all;done)|skip
 all_goals (rename_i f' args ts o u D p b' q j;simp only[K.ins.injEq] at j;obtain⟨rfl,rfl,rfl,rfl,rfl,rfl⟩:=j;simp only[Bool.and_eq_true,beq_iff_eq] at h;exact⟨_,rfl,by rw[<-h.1],h.2⟩)
def F2 {op:Go.Op} {f s z:Nat} {x y i:aQ} (h:aV P cx ds op (.del f s z x i y)=true):∃c:Call,op=.call c/\c.callee=.value (.func (cx.fm f))/\Jg cx ds c.args.toList [x,i,y]=true:=by
 unfold aV at h;split at h<;>first|(simp_all;done)|skip
 all_goals (rename_i f' args ts o u D p b' q j;simp only[K.del.injEq] at j;obtain⟨rfl,rfl,rfl,rfl,rfl,rfl⟩:=j;simp only[Bool.and_eq_true,beq_iff_eq] at h;exact⟨_,rfl,by rw[<-h.1],h.2⟩)
def Bj {o:Oper} {c:Call} {f:FuncId} (u:o.op=.call c) (q:c.callee=.value (.func f)) (p:jG P f):(execOp a.eval o).run P w=.ok (.enter f (c.args.map a.eval)) w:=by
 have j:(resolve a.eval c o.type).run P w=.ok {target:=.fn (.func f) #[],args:=#[]++c.args.map a.eval} w:=by
  unfold resolve;rw[q];rfl
 unfold execOp;simp only[u,Sem.run_bind,j,Result.andThen,invoke];rw[JE p];simp
def Bb (L:∀t,aG cx w (aI X M) S β α (a.tmps.getD t undef) (S.ρ t)) (p:∀i d,ds[i]?=some (some d)->aG cx w (aI X M) S β α (a.tmps.getD d undef) (e i))
  {c:Call} {x y z:aQ} (h:Jg cx ds c.args.toList [x,y,z]=true):∃q u D,c.args.map a.eval=#[q,u,D]/\aG cx w (aI X M) S β α q (aD e S.ρ x)/\aG cx w (aI X M) S β α u (aD e S.ρ y)/\aG cx w (aI X M) S β α D (aD e S.ρ z):=by
 obtain⟨o,j⟩:=JK L p _ _ h
 obtain⟨q,H,N⟩:=j 0 (by simp)
 obtain⟨u,I,O⟩:=j 1 (by simp)
 obtain⟨D,J,Q⟩:=j 2 (by simp)
 refine⟨q,u,D,?_,N,O,Q⟩
 have p:(c.args.toList.map a.eval).length=3:=by simpa using o
 generalize E:c.args.toList.map a.eval=l at H I J p
 match l,p with
 |[a1,a2,a3],_=>
  simp at H I J
  subst H;subst I;subst J
  apply Array.ext'
  simpa using E
theorem wN {v:Value} {k:IntKind} {n:Int} (h:aG cx w (aI X M) S β α v (.int k n)):v=.int k n:=by
 simp only[aG] at h;cases h;rfl
structure nW (P:Program) (cx:Cx) (aL:Nat->Option Nat) (κ:Nat->List V->Option V):Prop where
 call:∀f args r,κ f args=some r->gi P cx (aL f) f args r
 ins:∀f z,z<1000->aL f=some (1000+z)->∃tS el,gK P (cx.fm f) z tS el
 del:∀f z,z<1000->aL f=some (2000+z)->kV P (cx.fm f) z
 rf:∀f k,k<1000->aL f=some (3000+k)->∀args r,κ f args=some r->jF P cx k f args r
def ot {P:Program} {cx:Cx} {w:World} {Y:Nat->Prop} {u:Value} {rows:List (List V)} {l:List UInt8} {src dst e:TypeId} (hr:aB cx w Y u (.slice 1 rows)) (hl:bT rows=some l)
  (hs:P.underlying src=some (.slice e)) (he:P.underlying e=some (.int .u8)) (hd:P.underlying dst=some .string) :
  ∃q,(Go.convert src dst u).run P w=.ok q w/\aB cx w Y q (.str l):=by
 have hx:∀(rows:List (List V)) (l:List UInt8),bT rows=some l->∃xs:List Int,rows=xs.map (fun n=>[V.int .u8 n])/\l=xs.map fun n=>UInt8.ofNat n.toNat:=by
  intro rows
  induction rows with
  |nil=>intro l h;simp only[bT,Ga] at h;exact⟨[],rfl,h.symm⟩
  |cons r rs ih=>
   intro l h;unfold bT at h;split at h
   ·rename_i h0;simp at h0
   ·rename_i n rs' ji;simp only[List.cons.injEq] at ji;obtain⟨rfl,rfl⟩:=ji;simp only[Gc,Ga] at h;obtain⟨l',h1,rfl⟩:=h;obtain⟨xs,rfl,rfl⟩:=ih l' h1;exact⟨n::xs,rfl,rfl⟩
   ·simp at h
 obtain⟨xs,rfl,rfl⟩:=hx rows l hl
 have hq:aB cx w Y (.string (strOfNums xs)) (.str (xs.map fun n=>UInt8.ofNat n.toNat)):=by
  have:=aB.str (cx:=cx) (w:=w) (X:=Y) (strOfNums xs);rwa [strOfNums_data] at this
 refine⟨_,?_,hq⟩
 rcases JC hr with ⟨⟨a,rfl⟩,hn⟩|⟨b,o,aJ,c,el,fr,rfl,hb,hX,hw,gY,hz,hc⟩
 ·have hxs:xs=[]:=by simpa using hn
  subst hxs
  cases a with
  |none=>rw[run_convert_bytes_nil w src e hs he 0 0 dst hd];rfl
  |some a=>
   rw[run_convert_bytes_string w src dst e _ 0 0 hs he hd,run_bytesToString w a 0 0 [] (by
    have:=run_loadCells_list (P:=P) w a [] (fun j v hj=>by simp at hj);simpa using this)]
   rfl
 ·have cK:(xs.map (fun n=>[V.int .u8 n])).length=xs.length:=by simp
  rw[cK]
  refine run_convert_bytes_arg w src e hs he b o xs.length aJ xs rfl (fun i hi=>?_) dst hd
  obtain⟨u,p,q,r⟩:=hc i 0 (by rw[cK];exact hi) (by omega)
  have hg:gv (gr (xs.map (fun n=>[V.int .u8 n])) i) 0=.int .u8 (xs.getD i 0):=by
   simp[gr,gv,hi]
  rw[hg] at r
  cases r
  simp only[Nat.mul_one,Nat.add_zero] at p
  simp[World.cell?,hw,p]
def El {o:Oper} {k:K} {d:Nat} {r:V} {S1:St} (h:aO cx B X S w β α M)
  (hg:∀t,aG cx w (aI X M) S β α (a.tmps.getD t undef) (S.ρ t)) (hl:∀i d,ds[i]?=some (some d)->aG cx w (aI X M) S β α (a.tmps.getD d undef) (e i))
  (hκ:nW P cx aL κ) (H:aV P cx ds o.op k=true) (Q:fC aL k=true)
  (D:ev κ d e S k=some (r,S1)):gB P o a w (bP cx B X S w β α M S1 r):=by
 have arg:=fun {x:Operand} {y:aQ} (h:Ja cx ds x y=true)=>J1 hg hl h
 cases k with
 |mov y=>
  obtain⟨x,hop,hx⟩:=Hn H
  simp only[ev,Ga,Gi] at D
  obtain⟨rfl,rfl⟩:=D
  refine .inl ⟨a.eval x,w,?_,.pure h (arg hx)⟩
  rcases hop with hop|hop<;>simp[execOp,hop]
 |pick c x y=>
  obtain⟨c',x',y',hop,h1,L,O⟩:=FI H
  simp only[ev] at D
  have hc:=arg h1
  split at D<;>try (simp at D;done)
  rename_i t ht
  rw[ht] at hc
  simp only[Ga,Gi] at D
  obtain⟨rfl,rfl⟩:=D
  refine .inl ⟨if t then a.eval x' else a.eval y',w,?_,.pure h ?_⟩
  ·simp[execOp,hop,JZ hc,asBool]
  ·cases t
   ·exact arg O
   ·exact arg L
 |box y=>
  obtain⟨t,x,hop,hx⟩:=F1 H
  simp only[ev] at D
  split at D
  ·simp at D
  ·rename_i hd
   simp only[Gc,Ga,Gi] at D
   obtain⟨cs,ad,rfl,rfl⟩:=D
   have:=dY (t:=t) h hd (dE (arg hx) ad)
   rw[Array.toArray_toList] at this
   exact .value (s:=Instr.box t (a.eval x)) (by simp[execOp,hop]) (by simp[Instr.box,newVar,newRow,Result.andThen]) this
 |alloc z=>
  obtain⟨t,hop,hz⟩:=Es H
  simp only[ev] at D
  split at D
  ·simp at D
  ·rename_i hd
   simp only[Ga,Gi] at D
   obtain⟨rfl,rfl⟩:=D
   obtain⟨v,N,ak⟩:=uy (P:=P) (w:=w) hz
   have:=dY (t:=t) h hd (uE ak)
   rw[Array.toArray_toList] at this
   exact .value (s:=Instr.alloc t true (.tuple #[])) (by simp[execOp,hop]) (by simp[Instr.alloc,N,newVar,newRow,Result.andThen]) this
 |build z qs=>
  obtain⟨t,ps,hop,hz,au⟩:=Et H
  simp only[ev,Gc,Ga,Gi] at D
  obtain⟨cs,ad,rfl,rfl⟩:=D
  obtain⟨v,N,ak⟩:=uy (P:=P) (w:=w) hz
  rcases au with ⟨pl,bh,a7⟩|⟨ah,rfl,rfl⟩
  rotate_left
  ·simp only[GF,mv,Ga] at ad
   subst ad
   unfold oq at ah
   split at ah
   ·rename_i m e hu
    obtain⟨sz,ap⟩:=GL.1 ah
    have av:=uE (cx:=cx) (w:=w) (X:=aI X M) (S:=S) (α:=α) ak
    refine .value (s:=Instr.build t ((#[]:Array (Nat×Operand)).map fun (i,x)=>(i,a.eval x))) (v:=.agg v.cells) (by simp only[execOp,hop]) ?_ (.pure h (by simpa using av.agg (β:=β)))
    unfold Instr.build
    simp only[Sem.run_bind,N,Result.andThen,run_underlying hu w,Jf ap w,Array.toList_map,GF,Instr.fill,Sem.run_pure]
   ·simp at ah
  obtain⟨cells,hf,av⟩:=Br hg hl ps.toList qs v.cells z cs a7 (uE ak) ad
  obtain⟨fs,hu,a8⟩:=EA (w:=w) bh
  refine .value (s:=Instr.build t (ps.map fun (i,x)=>(i,a.eval x))) (v:=.agg cells) (by simp only[execOp,hop]) ?_ (.pure h (by simpa using av.agg (β:=β)))
  unfold Instr.build
  simp only[Sem.run_bind,N,Result.andThen,run_underlying hu w,a8,Array.toList_map,List.getElem?_toArray,hf,Sem.run_pure]
 |mks z n zero qs=>
  simp only[ev,Gc,Ga,Gi] at D
  obtain⟨rows,U,rfl,rfl⟩:=D
  rcases Bt H with ⟨t,len,ps,el,hop,h1,L,O,h4,h5,h6,h7,h8⟩|⟨t,el,ie,hop,h1,L,O,h4,h5,h6,rfl,h7,h8,h9⟩
  rotate_left
  ·simp only[GF,Jj,Ga] at U
   subst U
   obtain⟨cells,E,hdr⟩:=mg (cx:=cx) (w:=w) (X:=aI X M) h1 L O h4 h5 h7 h8 h9 h6
   have J:=eJ (el:=el) (n:=n) h hdr (by simp)
   generalize ({w with heap:=w.heap.push (.cells cells el)}:World)=w2 at E J
   refine .inl ⟨_,w2,?_,J⟩
   unfold execOp
   rw[hop]
   simp only[Sem.run_bind,Act.eval]
   erw [E]
   rfl
  obtain⟨cells,E,hdr,ai⟩:=kn hg hl h1 L O h4 h5 h6 h7 h8 U
  have e1:(ps.toList.map fun (i,x)=>(i,a.eval x)).toArray=ps.map fun (i,x)=>(i,a.eval x):=by apply Array.ext';simp
  rw[e1] at E
  have J:=eJ (el:=el) h hdr ai
  generalize ({w with heap:=w.heap.push (.cells cells el)}:World)=w2 at E J
  refine .inl ⟨_,w2,?_,J⟩
  unfold execOp
  rw[hop]
  simp only[Sem.run_bind]
  erw [E]
  rfl
 |mko z=>
  obtain⟨x,hop,rfl⟩:=Hm H
  simp only[ev] at D
  split at D
  ·simp at D
  ·rename_i hd
   simp only[Ga,Gi] at D
   obtain⟨rfl,rfl⟩:=D
   refine .inl ⟨.slice none 0 0,w,by rcases hop with hop|hop<;>simp[execOp,hop,Act.eval],?_⟩
   have ae:=h.addArr (d:=d) (z0:=z) (rows0:=[]) (v0:=.slice none 0 0) hd ⟨fun i hi=>by simp at hi,.inl ⟨rfl,rfl⟩⟩ (fun b hb=>by simp[hdr] at hb) (fun s b _ hb=>by simp[hdr] at hb) (fun s z' r f _ _ b hb=>by simp[hdr] at hb)
   have hT:dn S {S with A:=aE S.A d (some (z,[],.live))} α (aE α d (.slice none 0 0)):=fun s z' r f T=>by
    have:s≠d:=fun e=>by rw[e,hd] at T;simp at T
    exact⟨r,f,by simp[aE,this,T],fun hf=>⟨hf,Gt _,fun _=>by simp[aE,this]⟩⟩
   exact⟨β,_,M,ae,fun u x hu=>aG.tr (fun _ _ h=>h) hT (fun s T=>⟨T,rfl⟩) hu,⟨[],.live,none,0,by simp[aE],rfl,by simp,fun _=>⟨by simp,fun _=>by simp[aE]⟩⟩,bC.refl _ _⟩
 |mkb z n zero qs=>
  rcases Bt (Hl H) with ⟨t,len,ps,el,hop,h1,L,O,h4,h5,h6,h7,h8⟩|⟨t,el,ie,hop,-⟩
  rotate_left
  ·rw[hop] at H
   simp[aV] at H
  simp only[ev,Gc] at D
  obtain⟨rows,U,D⟩:=D
  obtain⟨cells,E,hdr,ai⟩:=kn hg hl h1 L O h4 h5 h6 h7 h8 U
  have e1:(ps.toList.map fun (i,x)=>(i,a.eval x)).toArray=ps.map fun (i,x)=>(i,a.eval x):=by apply Array.ext';simp
  rw[e1] at E
  have be:(w.heap.push (.cells cells el):Array Obj)[w.heap.size]?=some (.cells cells el):=by simp
  have hold:∀k,k<w.heap.size->(w.heap.push (.cells cells el):Array Obj)[k]?=w.heap[k]?:=fun k hk=>by
   rw[Array.getElem?_push];simp[Nat.ne_of_lt hk]
  have a2:Below w.heap.size w {w with heap:=w.heap.push (.cells cells el)}:=⟨rfl,rfl,rfl,by simp,hold⟩
  have hD:∀u x,aB cx w (aI X M) u x->aB cx {w with heap:=w.heap.push (.cells cells el)} (aI (aI X M) fun b=>b=w.heap.size) u x:=fun u x hr=>
   hr.mono (by simp) (fun b hb _=>hold b hb) (fun b hb hn hx=>by
    rcases hx with hx|hx
    ·exact hn hx
    ·omega)
  have am:=hdr.mono hD
  have bj:i7 cx w {w with heap:=w.heap.push (.cells cells el)} (aI X M) (some 0) (.slice (some ⟨w.heap.size,0,none⟩) n n) (.slice z rows):=
   ⟨_,z,rows,fun b=>b=w.heap.size,fun b hb=>by subst hb;exact⟨Gt _,by simp⟩,fun b hb=>by simpa [Sg.hdr,eq_comm] using hb,
    aX.of_DR be am (fun k hk=>by simp) (by omega) (by
     have:=hdr.1;rw[Array.length_toList,ai] at this;omega) ai,.inl ⟨rfl,rfl⟩⟩
  have J:=eE (own:=some 0) h a2 (.inr rfl) bj (fun b hb=>by
   rcases hb with hb|hb
   ·exact h.size b (h.xb b hb)
   ·exact (h.m b hb).2) D
  generalize ({w with heap:=w.heap.push (.cells cells el)}:World)=w2 at E J
  refine .inl ⟨_,w2,?_,J⟩
  unfold execOp
  rw[hop]
  simp only[Sem.run_bind]
  erw [E]
  rfl
 |frz s y=>
  obtain⟨x,hop,h1⟩:=Hd H
  simp only[ev] at D
  have I:=arg h1
  split at D<;>try (simp at D;done)
  rename_i s' z n hy
  split at D<;>try (simp at D;done)
  rename_i e0
  subst e0
  simp only[Gc,Ga,Gi] at D
  obtain⟨v,N,rfl,rfl⟩:=D
  rw[hy] at I
  obtain⟨M',f1,f2,f3,f4⟩:=dy [s'] h
  refine .inl ⟨a.eval x,w,by simp[execOp,hop],β,α,M',f1,fun u x hu=>aG.tr (S':={S with A:=Jk S.A [s']}) (fun _ _ hr=>ju f2 hr) f3 (fun s T=>⟨T,rfl⟩) hu,
   .of_data (bB h (x:=.own s' z n) I N (fun b hb=>hb.imp id (f2 b)) (fun s T b hb ab hn=>?_)),bC.refl _ _⟩
  rcases hn with hx|hm
  ·obtain⟨z,rows,f,e1,e2⟩:=ab
   exact ((h.arr s z rows f e1 e2).2 b hb).1 (h.xb b hx)
  ·exact f4 s (by simpa [Jc] using T) b hb ab hm
 |nilq y=>
  obtain⟨t,x,t',el,hop,h1,L⟩:=FH H
  simp only[ev] at D
  have I:=arg h1
  split at D<;>simp only[Ga,Gi,reduceCtorEq] at D
  ·rename_i z hz
   obtain⟨rfl,rfl⟩:=D
   rw[hz] at I
   simp only[aG] at I
   generalize N:a.eval x=v at I
   cases I
   exact .value (s:=do eqGuard .eql t x (.const (.slice none 0 0)) (a.eval x) (.slice none 0 0);Go.binOp .eql t (a.eval x) (.slice none 0 0)) (v:=.bool true) (by simp only[execOp,hop];rfl) (by rw[N];exact A7 L) (.pure h (aB.bool _))
  ·rename_i z rows hz
   obtain⟨rfl,rfl⟩:=D
   rw[hz] at I
   simp only[aG] at I
   generalize N:a.eval x=v at I
   cases I
   exact .value (s:=do eqGuard .eql t x (.const (.slice none 0 0)) (a.eval x) (.slice none 0 0);Go.binOp .eql t (a.eval x) (.slice none 0 0)) (v:=.bool false) (by simp only[execOp,hop];rfl) (by rw[N];exact A7 L) (.pure h (aB.bool _))
 |load l n y=>
  obtain⟨t,p,hop,hp,hu,hn⟩:=FE H
  simp only[ev,Gc,Ga,Gi] at D
  obtain⟨v,N,rfl,rfl⟩:=D
  obtain⟨q,E,Z⟩:=wL (l:=l) h (arg hp) hu hn N
  exact .value (s:=Instr.loadAt t (a.eval p)) (by simp[execOp,hop]) E (.pure h Z)
 |ldf s v n y=>
  obtain⟨t,p,hop,hp,hu,hn⟩:=Hi H
  simp only[ev,Gc] at D
  obtain⟨x,hx,D⟩:=D
  split at D<;>try (simp at D;done)
  rename_i am
  simp only[Gc,Ga,Gi] at D
  obtain⟨y',R,rfl,rfl⟩:=D
  obtain⟨q,E,Z⟩:=wL (l:=.v v) h (arg hp) hu hn hx
  obtain⟨M',f1,f2,f3,f4⟩:=dy [s] h
  refine .inl ⟨q,w,by simp[execOp,hop,E,Result.andThen],β,α,M',f1,fun u x hu=>aG.tr (S':={S with A:=Jk S.A [s]}) (fun _ _ hr=>ju f2 hr) f3 (fun s T=>⟨T,rfl⟩) hu,
   .of_data (oG h Z R (fun b hb=>hb.imp id (f2 b)) (fun s' T b hb ab hn=>?_)),bC.refl _ _⟩
  have bk:s'=s:=GT.1 (Gx.1 am s' T)
  subst bk
  rcases hn with hx|hm
  ·obtain⟨z,rows,f,e1,e2⟩:=ab
   exact ((h.arr s' z rows f e1 e2).2 b hb).1 (h.xb b hx)
  ·exact f4 s' (by simp) b hb ab hm
 |store l n y z=>
  obtain⟨t,p,x,hop,hp,hx,hz⟩:=Ey H
  simp only[ev,Gc,Ga,Gi] at D
  obtain⟨S2,N,rfl,rfl⟩:=D
  obtain⟨w',E,J⟩:=kt (l:=l) h (arg hp) (arg hx) hz N
  exact .inr (.inl ⟨w',by simp[execOp,hop,E,Result.andThen],J⟩)
 |bin o' y z=>
  obtain⟨t,x,x',t',hop,h1,L⟩:=F0 H
  simp only[ev,Gc,Ga,Gi] at D
  obtain⟨v,N,rfl,rfl⟩:=D
  obtain⟨q,E,Z⟩:=ou (P:=P) (t:=t) (p:=x) (q:=x') (arg h1) (arg L) N
  exact .value (by simp only[execOp,hop]) E (.pure h (.of_data Z))
 |eqa ne sh y z=>
  obtain⟨t,x,x',t',hop,h1,L,O,h4,h5⟩:=F8 H
  simp only[ev] at D
  have I:=arg h1
  have r2:=arg L
  split at D<;>try (simp at D;done)
  rename_i xs ys e1 e2
  rw[e1] at I
  rw[e2] at r2
  simp only[Gc,Ga,Gi] at D
  obtain⟨b,hb,rfl,rfl⟩:=D
  exact .value (by simp only[execOp,hop]) (Im (p:=x) (q:=x') O h4 h5 I r2 hb) (.pure h (aB.bool _))
 |eqb ne y z=>
  obtain⟨t,x,x',t',hop,h1,L,O⟩:=F9 H
  simp only[ev] at D
  have I:=arg h1
  have r2:=arg L
  split at D<;>try (simp at D;done)
  rename_i xs ys e1 e2
  rw[e1] at I
  rw[e2] at r2
  simp only[Ga,Gi] at D
  obtain⟨rfl,rfl⟩:=D
  have E:=In (P:=P) (w:=w) (ne:=ne) (a:=xs) (b:=ys) (p:=x) (q:=x') O
  rw[<-JZ I,<-JZ r2] at E
  exact .value (by simp only[execOp,hop]) E (.pure h (aB.bool _))
 |sh o' y z=>
  obtain⟨t,x,x',t',hop,h1,L⟩:=Ks H
  simp only[ev,Gc,Ga,Gi] at D
  obtain⟨v,N,rfl,rfl⟩:=D
  obtain⟨q,E,Z⟩:=KH (P:=P) (t:=t) (p:=x) (q:=x') (arg h1) (arg L) N
  exact .value (by simp only[execOp,hop]) E (.pure h (.of_data Z))
 |mm mx y z=>
  obtain⟨x,x',ts,hop,h1,L⟩:=Kr H
  simp only[ev] at D
  have I:=arg h1
  have r2:=arg L
  split at D<;>try (simp at D;done)
  rename_i k1 b1 k2 b2 e1 e2
  rw[e1] at I
  rw[e2] at r2
  split at D<;>try (simp at D;done)
  rename_i hk
  subst hk
  simp only[Ga,Gi] at D
  obtain⟨rfl,rfl⟩:=D
  have E:=KB (P:=P) (w:=w) (mx:=mx) (k:=k1) (a:=b1) (b:=b2) (ts:=ts) (ty:=o.type)
  refine .inl ⟨_,w,?_,.pure h (aB.int _ _)⟩
  cases mx
  ·simp only[Gv,GO] at hop E
   simp[execOp,hop,resolve,invoke,builtin,Jp I,Jp r2,E,Result.andThen]
  ·simp only[GS] at hop E
   simp[execOp,hop,resolve,invoke,builtin,Jp I,Jp r2,E,Result.andThen]
 |un o' y=>
  obtain⟨t,x,hop,h1⟩:=Ku H
  simp only[ev,Gc,Ga,Gi] at D
  obtain⟨v,N,rfl,rfl⟩:=D
  obtain⟨q,E,Z⟩:=Lt (P:=P) (arg h1) N
  exact .value (by simp only[execOp,hop]) E (.pure h (.of_data Z))
 |conv c y=>
  simp only[ev,Gc,Ga,Gi] at D
  obtain⟨v,N,rfl,rfl⟩:=D
  cases c with
  |int k=>
   obtain⟨s,d',x,dd,hop,h1,L,O⟩:=Eu H
   have I:=arg h1
   cases hy:aD e S.ρ y<;>rw[hy] at N I<;>simp only[rI,Ga,reduceCtorEq] at N
   rename_i k1 n
   subst N
   have E:=EP (P:=P) (w:=w) (n:=n) (k':=k1) L O
   rw[<-Jp I] at E
   exact .value (by simp only[execOp,hop]) E (.pure h (aB.int _ _))
  |same=>
   obtain⟨s,d',x,hop,h1,L,O⟩:=Ev H
   have I:=arg h1
   cases hy:aD e S.ρ y<;>rw[hy] at N I<;>simp only[rI,Ga,reduceCtorEq] at N
   rename_i l
   subst N
   obtain⟨b,hb,rfl⟩:=J7 I
   have E:=EQ (P:=P) (w:=w) (n:=b) L O
   rw[<-hb] at E
   exact .value (by simp only[execOp,hop]) E (.pure h (by rw[hb];exact aB.str _))
 |fn f bc bo=>
  obtain⟨aJ,hop,h1⟩:=Kq H
  have:=tZ h hg hl h1 (by simpa only [ev] using D)
  refine .inl ⟨_,w,?_,this⟩
  have e1:(aJ.toList.map a.eval).toArray=aJ.map a.eval:=by apply Array.ext';simp
  simp[execOp,hop,Instr.makeFunc,e1]
 |sl st z y lo hi=>
  obtain⟨t,x,bb,a5,hop,h1,L,O,h4⟩:=Kt H
  simp only[ev,Gc,Ga,Gi] at D
  obtain⟨v,N,rfl,rfl⟩:=D
  have af:∀{o:Option Operand} {y:Option aQ},JH cx ds o y=true->(o.map a.eval=none/\y.map (aD e S.ρ)=none)\/∃p q,o.map a.eval=some p/\y.map (aD e S.ρ)=some q/\aG cx w (aI X M) S β α p q:=by
   intro o y aa;unfold JH at aa;split at aa
   ·exact .inl ⟨rfl,rfl⟩
   ·exact .inr ⟨_,_,rfl,rfl,arg aa⟩
   ·simp at aa
  obtain⟨q,E,Z⟩:=wQ (P:=P) h4 (arg h1) (af L) (af O) N
  exact .value (by simp only[execOp,hop,Option.map_none]) E (.pure h (.of_data Z))
 |fad y off=>
  obtain⟨s,x,i,hop,h1,L⟩:=Hb H
  simp only[ev,Gc,Ga,Gi] at D
  obtain⟨v,N,rfl,rfl⟩:=D
  obtain⟨q,E,Z⟩:=Ip (P:=P) (arg h1) L N
  exact .value (by simp only[execOp,hop]) E (.pure h Z)
 |iad z y i=>
  obtain⟨t,x,x',el,hop,h1,L,O,h4⟩:=He H
  simp only[ev,Gc,Ga,Gi] at D
  obtain⟨v,N,rfl,rfl⟩:=D
  obtain⟨q,E,Z⟩:=HV (P:=P) O h4 (arg h1) (arg L) N
  exact .value (by simp only[execOp,hop]) E (.pure h Z)
 |iada z n y i=>
  obtain⟨t,x,x',el,hop,h1,L,O,h4⟩:=FD H
  simp only[ev,Gc,Ga,Gi] at D
  obtain⟨v,N,rfl,rfl⟩:=D
  obtain⟨q,E,Z⟩:=HF (P:=P) O h4 (arg h1) (arg L) N
  exact .value (by simp only[execOp,hop]) E (.pure h Z)
 |idx y i=>
  obtain⟨t,x,x',hop,h1,L,O⟩:=Hf H
  simp only[ev,Gc,Ga,Gi] at D
  obtain⟨v,N,rfl,rfl⟩:=D
  obtain⟨q,E,Z⟩:=Ka (P:=P) O (arg h1) (arg L) N
  exact .value (by simp only[execOp,hop]) E (.pure h (.of_data Z))
 |ext y i=>
  obtain⟨x,hop,h1⟩:=Ha H
  simp only[ev,Gc,Ga,Gi] at D
  obtain⟨v,N,rfl,rfl⟩:=D
  obtain⟨q,E,Z⟩:=Io (P:=P) (arg h1) N
  exact .value (by simp only[execOp,hop]) E (.pure h Z)
 |len st y=>
  obtain⟨x,t,hop,h1,L⟩:=Hj H
  simp only[ev,Gc,Ga,Gi] at D
  obtain⟨v,N,rfl,rfl⟩:=D
  obtain⟨q,E,Z⟩:=Kh (P:=P) (ty:=o.type) L (arg h1) N
  refine .inl ⟨q,w,?_,.pure h (.of_data Z)⟩
  simp[execOp,hop,resolve,invoke,builtin,E,Result.andThen]
 |app s z y y'=>
  obtain⟨x,x',t,t',el,ie,zv,hop,h1,L,O,h4,h5,h6,h7,h8,h9,aj,al⟩:=wM H
  simp only[ev] at D
  have I:=arg h1
  have r2:=arg L
  by_cases aq:∃z',aD e S.ρ y=.nslice z'
  ·obtain⟨z',aq⟩:=aq
   rw[aq] at D I
   simp only[fZ] at D
   split at D<;>try (simp at D;done)
   rename_i ba
   split at D<;>try (simp at D;done)
   rename_i hd
   have I:aB cx w (aI X M) _ (.nslice z'):=I
   generalize bl:a.eval x=v1 at I
   cases I
   have ae:=h.addArr (d:=s) (z0:=z) (rows0:=[]) (v0:=.slice none 0 0) hd ⟨fun i hi=>by simp at hi,.inl ⟨rfl,rfl⟩⟩ (fun b hb=>by simp[hdr] at hb) (fun s b _ hb=>by simp[hdr] at hb) (fun s z' r f _ _ b hb=>by simp[hdr] at hb)
   have hT:dn S {S with A:=aE S.A s (some (z,[],.live))} α (aE α s (.slice none 0 0)):=fun s' z' r f T=>by
    have:s'≠s:=fun e=>by rw[e,hd] at T;simp at T
    exact⟨r,f,by simp[aE,this,T],fun hf=>⟨hf,Gt _,fun _=>by simp[aE,this]⟩⟩
   have a6:∀u x,aG cx w (aI X M) S β α u x->aG cx w (aI X M) {S with A:=aE S.A s (some (z,[],.live))} β (aE α s (.slice none 0 0)) u x:=
    fun u x hu=>aG.tr (fun _ _ h=>h) hT (fun s T=>⟨T,rfl⟩) hu
   have bn:aG cx w (aI X M) {S with A:=aE S.A s (some (z,[],.live))} β (aE α s (.slice none 0 0)) (.slice none 0 0) (.own s z 0):=
    ⟨[],.live,none,0,by simp[aE],rfl,by simp,fun _=>⟨by simp,fun _=>by simp[aE]⟩⟩
   have a4:JY {S with A:=aE S.A s (some (z,[],.live))} s z (.own s z 0) (aD e S.ρ y')=some (r,S1):=by
    rw[<-D];have eu:∀q:Option (Nat×List (List V)×Fz),aE (aE S.A s (some (z,[],.live))) s q=aE S.A s q:=fun q=>by funext k;simp only[aE];split<;>rfl
    have e0:aE S.A s (some (z,[],.live)) s=some (z,[],.live):=by simp[aE]
    simp only[JY,and_self,GS,e0,List.length_nil,Nat.zero_add,List.nil_append,eu]
   obtain⟨q,w',E,J⟩:=rH (ty:=o.type) ae bn (a6 _ _ r2) O h4 h5 h7 h8 h9 al aj a4
   refine .inl ⟨q,w',by simp[execOp,hop,resolve,invoke,builtin,bl,E,Result.andThen],?_⟩
   obtain⟨β',α',M',p1,p2,p3,p4⟩:=J
   exact⟨β',α',M',p1,fun u x hu=>p2 u x (a6 u x hu),p3,p4⟩
  have bd:fZ S s z (aD e S.ρ y) (aD e S.ρ y')=JY S s z (aD e S.ρ y) (aD e S.ρ y'):=by
   unfold fZ;split
   ·rename_i z' ba;exact absurd ⟨z',ba⟩ aq
   ·rfl
  rw[bd] at D
  have hx:∃n,aD e S.ρ y=.own s z n:=by
   unfold JY at D;split at D
   ·split at D
    ·rename_i hc;obtain⟨rfl,rfl⟩:=hc;rename_i n hy;exact⟨n,hy⟩
    ·simp at D
   ·simp at D
  obtain⟨n,hx⟩:=hx
  rw[hx] at I D
  obtain⟨q,w',E,J⟩:=rH (ty:=o.type) h I r2 O h4 h5 h7 h8 h9 al aj D
  exact .inl ⟨q,w',by simp[execOp,hop,resolve,invoke,builtin,E,Result.andThen],J⟩
 |apf s z y y'=>
  obtain⟨x,x',t,t',el,ie,zv,hop,h1,L,O,h4,h5,h6,h7,h8,h9,aj,al⟩:=wM (HL H)
  simp only[ev,Gc,Ga,Gi] at D
  obtain⟨⟨v1,S1⟩,D,v2,N,rfl,rfl⟩:=D
  have I:=arg h1
  have r2:=arg L
  have hx:∃n m,aD e S.ρ y=.own s z n/\v1=.own s z m:=by
   unfold JY at D;split at D
   ·split at D
    ·rename_i hc;obtain⟨rfl,rfl⟩:=hc;rename_i n hy;refine⟨n,?_⟩;split at D
     ·split at D
      ·simp only[Gc] at D;obtain⟨ys,_,D⟩:=D;split at D
       ·simp only[Ga,Gi] at D;exact⟨_,hy,D.1.symm⟩
       ·simp at D
      ·simp at D
     ·simp at D
    ·simp at D
   ·simp at D
  obtain⟨n,m,hx,rfl⟩:=hx
  rw[hx] at I D
  obtain⟨q,w',E,J⟩:=rH (ty:=o.type) h I r2 O h4 h5 h7 h8 h9 al aj D
  obtain⟨β1,α1,M1,g1,g2,g3,g4⟩:=J
  obtain⟨M',f1,f2,f3,f4⟩:=dy [s] g1
  refine .inl ⟨q,w',by simp[execOp,hop,resolve,invoke,builtin,E,Result.andThen],β1,α1,M',f1,fun u x hu=>aG.tr (S':={S1 with A:=Jk S1.A [s]}) (fun _ _ hr=>ju f2 hr) f3 (fun s T=>⟨T,rfl⟩) (g2 u x hu),
   .of_data (bB g1 (x:=.own s z m) g3 N (fun b hb=>hb.imp id (f2 b)) (fun s T b hb ab hn=>?_)),g4⟩
  rcases hn with hx|hm
  ·obtain⟨z,rows,f,e1,e2⟩:=ab
   exact ((g1.arr s z rows f e1 e2).2 b hb).1 (g1.xb b hx)
  ·exact f4 s (by simpa [Jc] using T) b hb ab hm
 |ins f s z x i y=>
  obtain⟨c,hop,hc,W⟩:=Hg H
  simp only[fC,Gg,Gn,GT] at Q
  obtain⟨tS,el,hI⟩:=hκ.ins f z Q.1 Q.2
  obtain⟨u1,u2,u3,hu,I,r2,r3⟩:=Bb hg hl W
  have E:=Bj (a:=a) (w:=w) hop hc hI.ent
  rw[hu] at E
  refine .inr (.inr ⟨_,_,_,E,?_⟩)
  simp only[ev] at D
  split at D<;>try (simp at D;done)
  rename_i s' z' n k ar ys hx hi hy
  split at D<;>try (simp at D;done)
  rename_i ap
  obtain⟨rfl,rfl,rfl⟩:=ap
  split at D<;>try (simp at D;done)
  rename_i z3 rows hA
  split at D<;>try (simp at D;done)
  rename_i ag
  obtain⟨rfl,hn,bf,bq,ao⟩:=ag
  simp only[Ga,Gi] at D
  obtain⟨rfl,rfl⟩:=D
  rw[hx] at I
  rw[hi] at r2
  rw[hy] at r3
  have hk:k=((k.toNat:Nat):Int):=by omega
  rw[wN r2,hk]
  have:=Kb hI h hA hn (k:=k.toNat) (by omega) ao I r3
  exact this
 |del f s z x i j=>
  obtain⟨c,hop,hc,W⟩:=F2 H
  simp only[fC,Gg,Gn,GT] at Q
  have hI:=hκ.del f z Q.1 Q.2
  obtain⟨u1,u2,u3,hu,I,r2,r3⟩:=Bb hg hl W
  have E:=Bj (a:=a) (w:=w) hop hc hI.ent
  rw[hu] at E
  refine .inr (.inr ⟨_,_,_,E,?_⟩)
  simp only[ev] at D
  split at D<;>try (simp at D;done)
  rename_i s' z' n k m hx hi hy
  split at D<;>try (simp at D;done)
  rename_i ap
  obtain⟨rfl,rfl⟩:=ap
  split at D<;>try (simp at D;done)
  rename_i z3 rows hA hd
  split at D<;>try (simp at D;done)
  rename_i ag
  obtain⟨rfl,hn,bf,bp,br,ao⟩:=ag
  simp only[Ga,Gi] at D
  obtain⟨rfl,rfl⟩:=D
  rw[hx] at I
  rw[hi] at r2
  rw[hy] at r3
  have hk:k=((k.toNat:Nat):Int):=by omega
  have hm:m=((m.toNat:Nat):Int):=by omega
  rw[wN r2,wN r3,hk,hm]
  have:=Ik hI h hA hd hn (k:=k.toNat) (m:=m.toNat) (by omega) (by omega) ao I
  exact this
 |rcall f avs k s b0=>
  obtain⟨c,hop,an,W⟩:=Ew H
  simp only[fC,Gg,Gn,GT] at Q
  exact FJ h hg hl (hκ.rf f k Q.1 Q.2) hop an W (by simpa only [ev] using D)
 |allo z b=>
  obtain⟨t,hop,hz⟩:=Fy H
  simp only[ev] at D
  split at D
  ·simp at D
  ·rename_i hd
   simp only[Gc,Ga,Gi] at D
   obtain⟨⟨cells,A'⟩,ht,rfl,rfl⟩:=D
   obtain⟨v,N,ak⟩:=uy (P:=P) (w:=w) hz
   have:=eK (t:=t) h hd (uE ak) ht
   rw[Array.toArray_toList] at this
   exact .value (s:=Instr.alloc t true (.tuple #[])) (by simp[execOp,hop]) (by simp[Instr.alloc,N,newVar,newRow,Result.andThen]) this
 |boxo y b=>
  obtain⟨t,x,hop,hx⟩:=FB H
  simp only[ev] at D
  split at D
  ·simp at D
  ·rename_i hd
   split at D<;>try (simp at D;done)
   rename_i cs ad
   split at D<;>try (simp at D;done)
   rename_i ac
   simp only[Gc,Ga,Gi] at D
   obtain⟨⟨cells,A'⟩,ht,rfl,rfl⟩:=D
   have I:=arg hx
   rw[ad] at I
   have:=eK (t:=t) h hd (dE (x:=.agg cs) I rfl) ht
   rw[Array.toArray_toList] at this
   exact .value (s:=Instr.box t (a.eval x)) (by simp[execOp,hop]) (by simp[Instr.box,newVar,newRow,Result.andThen]) this
 |appd z y y'=>
  obtain⟨x,x',t,t',el,ie,zv,hop,h1,L,O,h4,h5,h6,h7,h8,h9,aj,al⟩:=wM (FA (s:=0) H)
  simp only[ev,lV] at D
  have I:=arg h1
  have r2:=arg L
  split at D<;>try (simp at D;done)
  rename_i s z' n hx
  have bm:z'=z:=by
   unfold JY at D;rw[hx] at D;simp only at D;split at D
   ·rename_i hc;exact hc.2
   ·simp at D
  subst bm
  rw[hx] at I D
  obtain⟨q,w',E,J⟩:=rH (ty:=o.type) h I r2 O h4 h5 h7 h8 h9 al aj D
  exact .inl ⟨q,w',by simp[execOp,hop,resolve,invoke,builtin,E,Result.andThen],J⟩
 |slf z y lo hi=>
  obtain⟨t,x,bb,a5,hop,h1,L,O,h4⟩:=Ho H
  simp only[ev,Gc,Ga,Gi] at D
  obtain⟨y',R,v,N,rfl,rfl⟩:=D
  obtain⟨M',f1,f2,f3,f4⟩:=dy (Jc (aD e S.ρ y)) h
  have hT:∀u x,aG cx w (aI X M) S β α u x->aG cx w (aI X M') {S with A:=Jk S.A (Jc (aD e S.ρ y))} β α u x:=
   fun u x hu=>aG.tr (S':={S with A:=Jk S.A (Jc (aD e S.ρ y))}) (fun _ _ hr=>ju f2 hr) f3 (fun s T=>⟨T,rfl⟩) hu
  have af:∀{o:Option Operand} {y0:Option aQ},JH cx ds o y0=true->(o.map a.eval=none/\y0.map (aD e S.ρ)=none)\/∃p q,o.map a.eval=some p/\y0.map (aD e S.ρ)=some q/\aG cx w (aI X M') {S with A:=Jk S.A (Jc (aD e S.ρ y))} β α p q:=by
   intro o y0 aa;unfold JH at aa;split at aa
   ·exact .inl ⟨rfl,rfl⟩
   ·exact .inr ⟨_,_,rfl,rfl,hT _ _ (arg aa)⟩
   ·simp at aa
  have ax:bW cx w (aI X M) S α (a.eval x) (aD e S.ρ y):=by
   have:=arg h1
   revert this R
   generalize aD e S.ρ y=q;intro R h;cases q<;>first|exact h|(simp[aY,V.datC] at R)
  have ac:aB cx w (aI X M') (a.eval x) y':=bB h ax R (fun b hb=>hb.imp id (f2 b)) (fun s T b hb ab hn=>by
   rcases hn with hx|hm
   ·obtain⟨z,rows,f,e1,e2⟩:=ab;exact ((h.arr s z rows f e1 e2).2 b hb).1 (h.xb b hx)
   ·exact f4 s T b hb ab hm)
  obtain⟨q,E,Z⟩:=wQ (P:=P) h4 (.of_data ac) (af L) (af O) N
  exact .value (by simp only[execOp,hop,Option.map_none]) E ⟨β,α,M',f1,hT,.of_data Z,bC.refl _ _⟩
 |mkoz z s=>
  have hop:=FF H
  simp only[ev] at D
  split at D
  ·simp at D
  ·rename_i hd
   simp only[Ga,Gi] at D
   obtain⟨rfl,rfl⟩:=D
   obtain⟨M',f1,f2,f3,f4⟩:=dy [s] h
   refine .inl ⟨.slice none 0 0,w,by simp[execOp,hop,Act.eval],?_⟩
   have ae:=f1.addArr (d:=d) (z0:=z) (rows0:=[]) (v0:=.slice none 0 0) hd ⟨fun i hi=>by simp at hi,.inl ⟨rfl,rfl⟩⟩ (fun b hb=>by simp[hdr] at hb) (fun s b _ hb=>by simp[hdr] at hb) (fun s z' r f _ _ b hb=>by simp[hdr] at hb)
   have hT:dn {S with A:=Jk S.A [s]} {S with A:=aE (Jk S.A [s]) d (some (z,[],.live))} α (aE α d (.slice none 0 0)):=fun s' z' r f T=>by
    have:s'≠d:=fun e=>by rw[e] at T;simp only at T;rw[hd] at T;simp at T
    exact⟨r,f,by simp only[aE,Gu this];exact T,fun hf=>⟨hf,Gt _,fun _=>by simp[aE,this]⟩⟩
   exact⟨β,_,M',ae,fun u x hu=>aG.tr (S:=S) (fun _ _ hr=>ju f2 hr) (f3.trans hT) (fun s T=>⟨T,rfl⟩) hu,⟨[],.live,none,0,by simp[aE],rfl,by simp,fun _=>⟨by simp,fun _=>by simp[aE]⟩⟩,bC.refl _ _⟩
 |slr s z y lo hi=>
  obtain⟨t,x,bb,a5,hop,h1,L,O,h4⟩:=Hp H
  simp only[ev,Gc,Ga,Gi] at D
  obtain⟨y',R,v,N,rfl,rfl⟩:=D
  have af:∀{o:Option Operand} {y:Option aQ},JH cx ds o y=true->(o.map a.eval=none/\y.map (aD e S.ρ)=none)\/∃p q,o.map a.eval=some p/\y.map (aD e S.ρ)=some q/\aG cx w (aI X M) S β α p q:=by
   intro o y aa;unfold JH at aa;split at aa
   ·exact .inl ⟨rfl,rfl⟩
   ·exact .inr ⟨_,_,rfl,rfl,arg aa⟩
   ·simp at aa
  have I:=arg h1
  unfold gX at R
  split at R<;>try (simp at R;done)
  rename_i s' z' n hx
  split at R<;>try (simp at R;done)
  rename_i e0;subst e0
  split at R<;>try (simp at R;done)
  rename_i ar rows hA
  split at R<;>simp only[Ga,reduceCtorEq] at R
  rename_i hc
  obtain⟨rfl,hn⟩:=hc
  subst R
  rw[hx] at I
  have ac:aB cx w (aI X M) (a.eval x) (.slice ar rows):=bB h (x:=.own s' ar n) I (by simp[aY,hA,hn]) (fun b hb=>hb) (fun s T b hb ab hn=>by
   have:s=s':=by simpa [Jc] using T
   subst this;have p2:=(h.arr s ar rows .frz hA (by simp)).2 b hb;rcases hn with hx|hm
   ·exact p2.1 (h.xb b hx)
   ·exact p2.2.2 rfl hm)
  obtain⟨q,E,Z⟩:=wQ (P:=P) h4 (.of_data ac) (af L) (af O) N
  exact .value (by simp only[execOp,hop,Option.map_none]) E (.pure h (.of_data Z))
 |fld y off n=>
  obtain⟨s,x,i,fs,f,hop,h1,L,O,h4,h5,h6⟩:=Hc H
  simp only[ev] at D
  have I:=arg h1
  split at D<;>try (simp at D;done)
  rename_i cs ad
  simp only[Gc,Ga,Gi] at D
  obtain⟨v,N,rfl,rfl⟩:=D
  rw[ad] at I
  obtain⟨q,E,Z⟩:=Iq I L O h4 h5 h6 N
  exact .value (by simp only[execOp,hop]) E (.pure h Z)
 |b2s y=>
  obtain⟨s,d,x,e',hop,h1,L,O,h4⟩:=HN H
  simp only[ev,Gc,Ga,Gi] at D
  obtain⟨v,N,rfl,rfl⟩:=D
  unfold wV at N
  split at N<;>try (simp at N;done)
  rename_i rows U
  simp only[Gc,Ga] at N
  obtain⟨l,bg,rfl⟩:=N
  have ax:bW cx w (aI X M) S α (a.eval x) (aD e S.ρ y):=by
   have:=arg h1
   revert this U
   generalize aD e S.ρ y=q;intro R h;cases q<;>first|exact h|(simp[aY,V.datC] at R)
  have ac:aB cx w (fun _=>False) (a.eval x) (.slice 1 rows):=bB h ax U (fun b hb=>hb.elim) (fun s T b hb ab hn=>hn)
  obtain⟨q,E,Z⟩:=ot (dst:=d) ac bg L h4 O
  have bi:aB cx w (aI X M) q (.str l):=by cases Z;exact .str _
  exact .value (by simp only[execOp,hop]) E (.pure h bi)
 |mif t y=>
  obtain⟨x,hop,h1,L⟩:=Hk H
  simp only[ev] at D
  split at D<;>simp only[Ga,Gi,reduceCtorEq] at D
  rename_i hd
  obtain⟨rfl,rfl⟩:=D
  have I:aB cx w (aI X M) (a.eval x) (aD e S.ρ y):=(arg h1).data hd
  exact .value (by simp only[execOp,hop]) (HJ L) (.pure h (.of_data (.iface t _ _ I)))
 |asr t z y=>
  obtain⟨x,xt,ok,hop,h1,L,O⟩:=HM H
  have I:=arg h1
  simp only[ev] at D
  have a1:∀{u:Value} {v:V} {b:Bool},aB cx w (aI X M) u v->aB cx w (aI X M) (.tuple #[u,.bool b]) (.tuple [v,.bool b]):=fun {u v b} hr=>
   .tuple _ _ (fun i=>if i=0 then u else .bool b) rfl (fun i hi=>by match i,hi with|0,_=>rfl|1,_=>rfl|n+2,hi=>simp at hi;omega)
    (fun i hi=>by match i,hi with|0,_=>exact hr|1,_=>exact .bool _|n+2,hi=>simp at hi;omega)
  split at D<;>try (simp at D;done)
  ·rename_i t' v hy
   rw[hy] at I
   have I:aB cx w (aI X M) (a.eval x) (.iface t' v):=I
   obtain⟨u,hu,a9⟩:∃u,a.eval x=.iface (cx.tm t') u/\aB cx w (aI X M) u v:=by
    generalize a.eval x=p at I;cases I with
    |iface t u v hr=>exact⟨u,rfl,hr⟩
   split at D
   ·rename_i ay
    subst ay
    simp only[Ga,Gi] at D
    obtain⟨rfl,rfl⟩:=D
    have E:=Fl (P:=P) (w:=w) (xt:=xt) (v:=u) (ok:=ok) L
    rw[<-hu] at E
    rcases O with ⟨rfl,rfl⟩|⟨z',rfl,rfl,_⟩
    ·exact .value (by simp only[execOp,hop]) E (.pure h (.of_data a9))
    ·exact .value (by simp only[execOp,hop]) E (.pure h (.of_data (a1 a9)))
   ·rename_i ay
    simp only[Gc,Ga,Gi] at D
    obtain⟨z',rfl,rfl,rfl⟩:=D
    rcases O with ⟨_,O⟩|⟨z2,rfl,O,hz⟩
    ·simp at O
    ·simp only[Ga] at O
     subst O
     obtain⟨zv,az,a0⟩:=Bn (w:=w) (cx:=cx) (Y:=aI X M) hz
     have E:=EJ (P:=P) (w:=w) (xt:=xt) (v:=u) L (fun e=>ay (cx.tinj _ _ e)) az
     rw[<-hu] at E
     exact .value (by simp only[execOp,hop]) E (.pure h (.of_data (a1 a0)))
  ·rename_i hy
   rw[hy] at I
   have I:aB cx w (aI X M) (a.eval x) .niface:=I
   have hu:a.eval x=.nilIface:=by
    generalize a.eval x=p at I;cases I;rfl
   simp only[Gc,Ga,Gi] at D
   obtain⟨z',rfl,rfl,rfl⟩:=D
   rcases O with ⟨_,O⟩|⟨z2,rfl,O,hz⟩
   ·simp at O
   ·simp only[Ga] at O
    subst O
    obtain⟨zv,az,a0⟩:=Bn (w:=w) (cx:=cx) (Y:=aI X M) hz
    have E:=Fm (P:=P) (w:=w) (xt:=xt) L az
    rw[<-hu] at E
    exact .value (by simp only[execOp,hop]) E (.pure h (.of_data (a1 a0)))
 |inv l y avs=>
  obtain⟨x,name,c,hop,an,h1,L,O⟩:=Hh H
  exact Ke h hg hl hκ.call hop an h1 L O D
 |bad=>simp[ev] at D
 |call f cv own bc=>
  obtain⟨x,c,hop,an,a3,W⟩:=FC H
  refine EZ h hg hl hκ.call ?_ hop an a3 W (by simpa only [ev] using D)
  cases f with
  |k f=>simp only[fC,kZ,GT,pk] at Q;exact Q.imp id (fun h=>⟨f,rfl,h⟩)
  |v y=>simp only[fC,pk] at Q;exact .inl Q
 |nilc y=>
  obtain⟨x,hop,h1⟩:=FG H
  have I:=arg h1
  simp only[ev] at D
  split at D<;>simp only[Ga,Gi,reduceCtorEq] at D
  ·rename_i s' o' hy
   obtain⟨rfl,rfl⟩:=D
   rw[hy] at I
   obtain⟨q1,q2⟩:=I
   exact .inl ⟨_,w,by simp[execOp,hop,q2],.pure h ⟨q1,rfl⟩⟩
  ·rename_i s' i' o' n' hy
   obtain⟨rfl,rfl⟩:=D
   rw[hy] at I
   have r2:=I
   obtain⟨_,_,_,_,_,_,_,q2,_⟩:=I
   exact .inl ⟨a.eval x,w,by simp[execOp,hop,q2],.pure h r2⟩
  ·rename_i cs o' hy
   obtain⟨rfl,rfl⟩:=D
   rw[hy] at I
   have r2:=I
   simp only[aG] at I
   obtain⟨b,bs,c,el,fr,q2,_⟩:=ux I
   exact .inl ⟨a.eval x,w,by simp[execOp,hop,q2],.pure h r2⟩
end
end Sg
namespace Sg
def aQ.lr:aQ->List Nat
 |.l i=>[i]
 |_=>[]
def aQ.gr:aQ->List Nat
 |.g t=>[t]
 |_=>[]
def kU.args:kU->List aQ
 |.v x=>[x]
 |.k _=>[]
def K.args:K->List aQ
 |.mov x|.frz _ x|.box x|.nilq x|.un _ x|.conv _ x|.fad x _|.ext x _|.len _ x|.nilc x=>[x]
 |.pick c a b=>[c,a,b]
 |.alloc _|.mko _|.bad=>[]
 |.build _ ps=>ps.map (·.2.2)
 |.mks _ _ _ ps|.mkb _ _ _ ps=>ps.map (·.2)
 |.load _ _ p|.ldf _ _ _ p=>[p]
 |.store _ _ p x=>[p,x]
 |.bin _ x y|.eqa _ _ x y|.eqb _ x y|.sh _ x y|.mm _ x y|.iad _ x y|.iada _ _ x y|.idx x y|.app _ _ x y|.apf _ _ x y=>[x,y]
 |.fn _ aJ _=>aJ
 |.sl _ _ x lo hi=>x::(lo.toList++hi.toList)
 |.ins _ _ _ x i y|.del _ _ _ x i y=>[x,i,y]
 |.rcall _ xs _ _ _=>xs
 |.allo _ _|.mkoz _ _=>[]
 |.boxo x _|.b2s x|.fld x _ _|.mif _ x|.asr _ _ x=>[x]
 |.inv _ x xs=>x::xs
 |.appd _ x y=>[x,y]
 |.slf _ x lo hi|.slr _ _ x lo hi=>x::(lo.toList++hi.toList)
 |.call f _ _ xs=>f.args++xs
def K.vs (d:Nat):K->List Nat
 |.box _|.alloc _|.allo _ _|.boxo _ _=>[d]
 |.rcall _ _ _ s _=>[s]
 |.load (.v s) _ _|.store (.v s) _ _ _|.ldf _ s _ _=>[s]
 |.fn _ _ sites=>sites
 |_=>[]
def K.vw (d:Nat):K->List Nat
 |.load ..|.ldf ..=>[]
 |k=>k.vs d
def K.avs (d:Nat):K->Option (List Nat)
 |.mko _|.mkb ..=>some [d]
 |.mkoz _ s=>some [s,d]
 |.slr s _ _ _ _=>some [s]
 |.load (.e s) _ _|.store (.e s) _ _ _|.app s _ _ _|.apf s _ _ _|.ins _ s _ _ _ _|.frz s _|.ldf s _ _ _=>some [s]
 |.del _ s _ _ _ _=>some [s,d]
 |.call _ .no none _=>some []
 |.call _ .no (some _) _=>some [d]
 |.call ..=>none
 |.rcall ..|.allo ..|.boxo ..|.appd ..|.slf ..|.b2s _|.load .x _ _=>none
 |_=>some []
def K.aw (d:Nat):K->Option (List Nat)
 |.load ..|.call _ .borrow _ _|.b2s _|.slr ..=>some []
 |k=>k.avs d
def aU (s:Nat):Option (List Nat)->Prop
 |none=>True
 |some l=>s∈l
section
variable (κ:Nat->List V->Option V)
def j8 (d:Nat) (k:K) (S S':St):Option (V×St)->Option (V×St)->Prop
 |none,none=>True
 |some (v,T),some (v',T')=>v=v'/\T.ρ=S.ρ/\T'.ρ=S'.ρ/\(∀s,s∈k.vw d->T.μ s=T'.μ s)/\(∀s,s∉k.vw d->T.μ s=S.μ s/\T'.μ s=S'.μ s)/\
   (∀s,aU s (k.aw d)->T.A s=T'.A s)/\(∀s,¬aU s (k.aw d)->T.A s=S.A s/\T'.A s=S'.A s)
 |_,_=>False
def j8.pure {d:Nat} {k:K} {S S':St} {v:V} (h1:∀s,s∈k.vw d->S.μ s=S'.μ s) (j:∀s,aU s (k.aw d)->S.A s=S'.A s):j8 d k S S' (some (v,S)) (some (v,S')):=
 ⟨rfl,rfl,rfl,h1,fun _ _=>⟨rfl,rfl⟩,j,fun _ _=>⟨rfl,rfl⟩⟩
def j8.bindV {d:Nat} {k:K} {S S':St} {o:Option V} (h1:∀s,s∈k.vw d->S.μ s=S'.μ s) (j:∀s,aU s (k.aw d)->S.A s=S'.A s) :
  j8 d k S S' (o.bind fun v=>some (v,S)) (o.bind fun v=>some (v,S')):=by
 cases o with
 |none=>exact Gs
 |some v=>exact .pure h1 j
def AL {α β:Type} {f g:α->Option β} {l:List α} (h:∀x∈l,f x=g x):Jo f l=Jo g l:=by
 induction l with
 |nil=>rfl
 |cons a l o=>
  simp only[Jo,h a (by simp)];rw[o fun x j=>h x (by simp[j])]
def Hy (l:List Nat):∀(μ μ':Nat->Option (List V×Bool)) (s:Nat),μ s=μ' s->gj μ l s=gj μ' l s:=by
 induction l with
 |nil=>intro μ μ' s h;exact h
 |cons a l j=>
  intro μ μ' s h
  show gj (aE μ a _) l s=gj (aE μ' a _) l s
  refine j _ _ s ?_;simp only[aE];split
  ·rename_i e;subst e;rw[h]
  ·exact h
def A4 (l:List Nat):∀(μ:Nat->Option (List V×Bool)) (s:Nat),s∉l->gj μ l s=μ s:=by
 induction l with
 |nil=>intro μ s _;rfl
 |cons a l o=>
  intro μ s h
  show gj (aE μ a _) l s=μ s
  rw[o _ s (fun j=>h (by simp[j]))];simp only[aE];rw[Gu (fun e=>h (by simp[e]))]
def EI {A j:Nat->Option (Nat×List (List V)×Fz)} {x:V} (h:∀s∈Jc x,A s=j s):aY A x=aY j x:=by
 cases x<;>try rfl
 rename_i s z n;have:=h s (by simp[Jc]);simp only[aY,this]
theorem Fe {A j:Nat->Option (Nat×List (List V)×Fz)} {x:V} (h:∀s∈Jd x,A s=j s):dv A x=dv j x:=by
 cases x with
 |agg cs=>
  simp only[dv];rw[AL fun y p=>EI fun s o=>h s (mq.2 ⟨y,p,o⟩)]
 |own s z n=>
  have:=h s (by simp[Jd,Jc]);simp only[dv,aY,this]
 |_=>rfl
def Bq (d:Nat) (k:K) (e D:Nat->V) (S S':St) (w:∀x∈k.args,aD e S.ρ x=aD D S'.ρ x) (J:∀s,s∈k.vs d->S.μ s=S'.μ s) (H:∀s,aU s (k.avs d)->S.A s=S'.A s) :
  j8 d k S S' (ev κ d e S k) (ev κ d D S' k):=by
 cases k with
 |mov x=>simp only[ev,w x (by simp[K.args])];exact .pure (by simp[K.vw,K.vs]) (by simp[K.aw,K.avs,aU])
 |pick c a b=>
  simp only[ev,w c (by simp[K.args]),w a (by simp[K.args]),w b (by simp[K.args])]
  split
  ·exact .pure (by simp[K.vw,K.vs]) (by simp[K.aw,K.avs,aU])
  ·exact Gs
 |box x=>
  simp only[ev,w x (by simp[K.args]),J d (by simp[K.vs])]
  split
  ·exact Gs
  ·cases (aD D S'.ρ x).cells with
   |none=>exact Gs
   |some cs=>
    refine⟨rfl,rfl,rfl,fun s u=>?_,fun s u=>?_,fun s u=>by simp[K.aw,K.avs,aU] at u,fun s u=>⟨rfl,rfl⟩⟩
    ·simp[K.vw,K.vs] at u;simp[aE,u]
    ·simp[K.vw,K.vs] at u;simp[aE,u]
 |alloc z=>
  simp only[ev,J d (by simp[K.vs])]
  split
  ·exact Gs
  ·refine⟨rfl,rfl,rfl,fun s u=>?_,fun s u=>?_,fun s u=>by simp[K.aw,K.avs,aU] at u,fun s u=>⟨rfl,rfl⟩⟩
   ·simp[K.vw,K.vs] at u;simp[aE,u]
   ·simp[K.vw,K.vs] at u;simp[aE,u]
 |build z ps=>
  have:ps.map (fun p=>(p.1,p.2.1,aD e S.ρ p.2.2))=ps.map (fun p=>(p.1,p.2.1,aD D S'.ρ p.2.2)):=G6 fun p U=>by rw[w p.2.2 (by simp only[K.args,List.mem_map];exact⟨p,U,rfl⟩)]
  simp only[ev,this]
  cases mv z (ps.map fun p=>(p.1,p.2.1,aD D S'.ρ p.2.2)) with
  |none=>exact Gs
  |some cs=>exact .pure (by simp[K.vw,K.vs]) (by simp[K.aw,K.avs,aU])
 |mks z n zero ps=>
  have:ps.map (fun p=>(p.1,aD e S.ρ p.2))=ps.map (fun p=>(p.1,aD D S'.ρ p.2)):=G6 fun p U=>by rw[w p.2 (by simp only[K.args,List.mem_map];exact⟨p,U,rfl⟩)]
  simp only[ev,this]
  cases Jj z (List.replicate n zero) (ps.map fun p=>(p.1,aD D S'.ρ p.2)) with
  |none=>exact Gs
  |some cs=>exact .pure (by simp[K.vw,K.vs]) (by simp[K.aw,K.avs,aU])
 |mko z=>
  simp only[ev,H d (by simp[K.avs,aU])]
  split
  ·exact Gs
  ·refine⟨rfl,rfl,rfl,fun s u=>by simp[K.vw,K.vs] at u,fun s u=>⟨rfl,rfl⟩,fun s u=>?_,fun s u=>?_⟩
   ·simp[K.aw,K.avs,aU] at u;simp[aE,u]
   ·simp[K.aw,K.avs,aU] at u;simp[aE,u]
 |load l n p=>
  have:Jx S l n (aD e S.ρ p)=Jx S' l n (aD D S'.ρ p):=by
   rw[w p (by simp[K.args])];generalize aD D S'.ρ p=p';unfold Jx;cases l with
   |v s=>
    have h1:=J s (by simp[K.vs]);cases p'<;>simp only[h1]
   |e s=>
    have h1:=H s (by simp[K.avs,aU]);cases p'<;>simp only[h1]
   |c=>cases p'<;>rfl
   |x=>
    have h1:S.A=S'.A:=funext fun s=>H s (by simp[K.avs,aU]);cases p'<;>simp only[h1]
  simp only[ev,this]
  exact .bindV (by simp[K.vw]) (by simp[K.aw,aU])
 |store l n p x=>
  simp only[ev,w p (by simp[K.args]),w x (by simp[K.args])]
  generalize aD D S'.ρ p=p'
  generalize aD D S'.ρ x=x'
  unfold JA
  cases x'.cells with
  |none=>exact Gs
  |some xs=>
   simp only[Option.bind_some]
   split
   ·cases l with
    |v s=>
     cases p'<;>try exact Gs
     rename_i W off
     simp only
     split
     ·rw[J s (by simp[K.vs])]
      split
      ·rename_i cs _
       cases J0 cs off xs with
       |none=>exact Gs
       |some di=>
        refine⟨rfl,rfl,rfl,fun s u=>?_,fun s u=>?_,fun s u=>by simp[K.aw,K.avs,aU] at u,fun s u=>⟨rfl,rfl⟩⟩
        ·simp[K.vw,K.vs] at u;simp[aE,u]
        ·simp[K.vw,K.vs] at u;simp[aE,u]
      ·exact Gs
     ·exact Gs
    |e s=>
     cases p'<;>try exact Gs
     rename_i W i off m
     simp only
     split
     ·rw[H s (by simp[K.avs,aU])]
      split
      ·rename_i z rows _
       split
       ·cases rows[i]? with
        |none=>exact Gs
        |some r=>
         simp only[Option.bind_some]
         cases J0 r off xs with
         |none=>exact Gs
         |some r'=>
          refine⟨rfl,rfl,rfl,fun s u=>by simp[K.vw,K.vs] at u,fun s u=>⟨rfl,rfl⟩,fun s u=>?_,fun s u=>?_⟩
          ·simp[K.aw,K.avs,aU] at u;simp[aE,u]
          ·simp[K.aw,K.avs,aU] at u;simp[aE,u]
       ·exact Gs
      ·exact Gs
     ·exact Gs
    |c=>cases p'<;>exact Gs
    |x=>cases p'<;>exact Gs
   ·exact Gs
 |bin o x y=>simp only[ev,w x (by simp[K.args]),w y (by simp[K.args])];exact .bindV (by simp[K.vw,K.vs]) (by simp[K.aw,K.avs,aU])
 |eqa ne sh x y=>
  simp only[ev,w x (by simp[K.args]),w y (by simp[K.args])]
  split
  ·rename_i xs P _ _
   cases kC sh xs P with
   |none=>exact Gs
   |some b=>exact .pure (by simp[K.vw,K.vs]) (by simp[K.aw,K.avs,aU])
  ·exact Gs
 |eqb ne x y=>
  simp only[ev,w x (by simp[K.args]),w y (by simp[K.args])]
  split
  ·exact .pure (by simp[K.vw,K.vs]) (by simp[K.aw,K.avs,aU])
  ·exact Gs
 |sh o x y=>simp only[ev,w x (by simp[K.args]),w y (by simp[K.args])];exact .bindV (by simp[K.vw,K.vs]) (by simp[K.aw,K.avs,aU])
 |mm mx x y=>
  simp only[ev,w x (by simp[K.args]),w y (by simp[K.args])]
  split
  ·split
   ·exact .pure (by simp[K.vw,K.vs]) (by simp[K.aw,K.avs,aU])
   ·exact Gs
  ·exact Gs
 |un o x=>simp only[ev,w x (by simp[K.args])];exact .bindV (by simp[K.vw,K.vs]) (by simp[K.aw,K.avs,aU])
 |conv c x=>simp only[ev,w x (by simp[K.args])];exact .bindV (by simp[K.vw,K.vs]) (by simp[K.aw,K.avs,aU])
 |fn f aJ B=>
  have Z:aJ.map (aD e S.ρ)=aJ.map (aD D S'.ρ):=G6 fun x O=>w x (by simp[K.args,O])
  have hd:B.all (JL S.μ)=B.all (JL S'.μ):=by
   rw[Bool.eq_iff_iff,Gx,Gx];constructor<;>intro h s u
   ·have:=h s u;simp only[JL] at this ⊢;rwa [<-J s (by simpa [K.vs] using u)]
   ·have:=h s u;simp only[JL] at this ⊢;rwa [J s (by simpa [K.vs] using u)]
  have T:∀x:V,eX S.μ B x=eX S'.μ B x:=fun x=>by
   unfold eX;split
   ·rename_i s;by_cases u:s∈B
    ·rw[J s (by simpa [K.vs] using u)]
    ·have:B.contains s=false:=by simpa using u
     rw[this];cases S.μ s<;>cases S'.μ s<;>simp
   ·rfl
  simp only[ev,Z,hd,AL (fun x _=>T x)]
  split
  ·cases Jo (eX S'.μ B) (aJ.map (aD D S'.ρ)) with
   |none=>exact Gs
   |some cs=>
    refine⟨rfl,rfl,rfl,fun s u=>?_,fun s u=>?_,fun s u=>by simp[K.aw,K.avs,aU] at u,fun s u=>⟨rfl,rfl⟩⟩
    ·exact Hy B _ _ s (J s u)
    ·exact⟨A4 B _ s u,A4 B _ s u⟩
  ·exact Gs
 |sl st z x lo hi=>
  have N:lo.map (aD e S.ρ)=lo.map (aD D S'.ρ):=by cases lo with|none=>rfl|some a=>simp[w a (by simp[K.args])]
  have M:hi.map (aD e S.ρ)=hi.map (aD D S'.ρ):=by cases hi with|none=>rfl|some a=>simp[w a (by simp[K.args])]
  simp only[ev,w x (by simp[K.args]),N,M];exact .bindV (by simp[K.vw,K.vs]) (by simp[K.aw,K.avs,aU])
 |fad x off=>simp only[ev,w x (by simp[K.args])];exact .bindV (by simp[K.vw,K.vs]) (by simp[K.aw,K.avs,aU])
 |iad z x i=>simp only[ev,w x (by simp[K.args]),w i (by simp[K.args])];exact .bindV (by simp[K.vw,K.vs]) (by simp[K.aw,K.avs,aU])
 |iada z n x i=>simp only[ev,w x (by simp[K.args]),w i (by simp[K.args])];exact .bindV (by simp[K.vw,K.vs]) (by simp[K.aw,K.avs,aU])
 |idx x i=>simp only[ev,w x (by simp[K.args]),w i (by simp[K.args])];exact .bindV (by simp[K.vw,K.vs]) (by simp[K.aw,K.avs,aU])
 |ext x i=>simp only[ev,w x (by simp[K.args])];exact .bindV (by simp[K.vw,K.vs]) (by simp[K.aw,K.avs,aU])
 |len st x=>simp only[ev,w x (by simp[K.args])];exact .bindV (by simp[K.vw,K.vs]) (by simp[K.aw,K.avs,aU])
 |app s z x y=>
  simp only[ev,w x (by simp[K.args]),w y (by simp[K.args])]
  generalize aD D S'.ρ x=x'
  generalize aD D S'.ρ y=y'
  unfold fZ JY
  cases x'<;>try exact Gs
  case nslice z'=>
   simp only
   split
   ·rw[H s (by simp[K.avs,aU])]
    split
    ·cases V.rowsOf z y' with
     |none=>exact Gs
     |some P=>
      simp only[Option.bind_some]
      split
      ·refine⟨rfl,rfl,rfl,fun s u=>by simp[K.vw,K.vs] at u,fun s u=>⟨rfl,rfl⟩,fun s u=>?_,fun s u=>?_⟩
       ·simp[K.aw,K.avs,aU] at u;simp[aE,u]
       ·simp[K.aw,K.avs,aU] at u;simp[aE,u]
      ·exact Gs
    ·exact Gs
   ·exact Gs
  rename_i W z' n
  simp only
  split
  ·rw[H s (by simp[K.avs,aU])]
   split
   ·rename_i ab rows _
    split
    ·cases V.rowsOf z y' with
     |none=>exact Gs
     |some P=>
      simp only[Option.bind_some]
      split
      ·refine⟨rfl,rfl,rfl,fun s u=>by simp[K.vw,K.vs] at u,fun s u=>⟨rfl,rfl⟩,fun s u=>?_,fun s u=>?_⟩
       ·simp[K.aw,K.avs,aU] at u;simp[aE,u]
       ·simp[K.aw,K.avs,aU] at u;simp[aE,u]
      ·exact Gs
    ·exact Gs
   ·exact Gs
  ·exact Gs
 |apf s z x y=>
  simp only[ev,w x (by simp[K.args]),w y (by simp[K.args])]
  generalize aD D S'.ρ x=x'
  generalize aD D S'.ρ y=y'
  unfold JY
  cases x'<;>try exact Gs
  rename_i W z' n
  simp only
  split
  ·rw[H s (by simp[K.avs,aU])]
   split
   ·rename_i ab rows _
    split
    ·cases V.rowsOf z y' with
     |none=>exact Gs
     |some P=>
      simp only[Option.bind_some]
      split
      ·rename_i ac
       have L:∀A:Nat->Option (Nat×List (List V)×Fz),aY (aE A s (some (z,rows++P,.live))) (.own s z (rows.length+P.length))=some (.slice z (rows++P)):=fun A=>by simp[aY,aE]
       simp only[L,Option.bind_some]
       refine⟨rfl,rfl,rfl,fun s u=>by simp[K.vw,K.vs] at u,fun s u=>⟨rfl,rfl⟩,fun s u=>?_,fun s u=>?_⟩
       ·simp[K.aw,K.avs,aU] at u;simp[Jk,aE,u]
       ·simp[K.aw,K.avs,aU] at u;simp[Jk,aE,u]
      ·exact Gs
    ·exact Gs
   ·exact Gs
  ·exact Gs
 |ins f s z x i y=>
  simp only[ev,w x (by simp[K.args]),w i (by simp[K.args]),w y (by simp[K.args])]
  split
  ·split
   ·rw[H s (by simp[K.avs,aU])]
    split
    ·split
     ·refine⟨rfl,rfl,rfl,fun s u=>by simp[K.vw,K.vs] at u,fun s u=>⟨rfl,rfl⟩,fun s u=>?_,fun s u=>?_⟩
      ·simp[K.aw,K.avs,aU] at u;simp[aE,u]
      ·simp[K.aw,K.avs,aU] at u;simp[aE,u]
     ·exact Gs
    ·exact Gs
   ·exact Gs
  ·exact Gs
 |del f s z x i j=>
  simp only[ev,w x (by simp[K.args]),w i (by simp[K.args]),w j (by simp[K.args])]
  split
  ·split
   ·rw[H s (by simp[K.avs,aU]),H d (by simp[K.avs,aU])]
    split
    ·split
     ·refine⟨rfl,rfl,rfl,fun s u=>by simp[K.vw,K.vs] at u,fun s u=>⟨rfl,rfl⟩,fun t ht=>?_,fun t ht=>?_⟩
      ·simp[K.aw,K.avs,aU] at ht
       by_cases L:t=d
       ·simp[aE,L]
       ·have:t=s:=by rcases ht with h|h<;>simp_all
        subst this;simp[aE,L]
      ·simp[K.aw,K.avs,aU] at ht
       simp[aE,ht.1,ht.2]
     ·exact Gs
    ·exact Gs
   ·exact Gs
  ·exact Gs
 |call f cv own xs=>
  have Z:callee e S.ρ f=callee D S'.ρ f:=by
   cases f with
   |k f=>rfl
   |v x=>simp only[callee,w x (by simp[K.args,kU.args])]
  have O:xs.map (aD e S.ρ)=xs.map (aD D S'.ρ):=G6 fun x O=>w x (by simp[K.args,O])
  simp only[ev,Z,O]
  cases callee D S'.ρ f with
  |none=>exact Gs
  |some Q=>
   simp only[Option.bind_some]
   generalize xs.map (aD D S'.ρ)=avs
   unfold eo
   cases cv with
   |no=>
    simp only
    split
    ·cases κ Q.1 (avs++Q.2) with
     |none=>exact Gs
     |some r=>
      simp only[Option.bind_some]
      cases own with
      |none=>exact .pure (by simp[K.vw,K.vs]) (by simp[K.aw,K.avs,aU])
      |some j=>
       simp only[dx,H d (by simp[K.avs,aU])]
       split
       ·exact Gs
       ·split
        ·refine⟨rfl,rfl,rfl,fun s u=>by simp[K.vw,K.vs] at u,fun s u=>⟨rfl,rfl⟩,fun s u=>?_,fun s u=>?_⟩
         ·simp[K.aw,K.avs,aU] at u;simp[aE,u]
         ·simp[K.aw,K.avs,aU] at u;simp[aE,u]
        ·split
         ·refine⟨rfl,rfl,rfl,fun s u=>by simp[K.vw,K.vs] at u,fun s u=>⟨rfl,rfl⟩,fun s u=>?_,fun s u=>?_⟩
          ·simp[K.aw,K.avs,aU] at u;simp[aE,u]
          ·simp[K.aw,K.avs,aU] at u;simp[aE,u]
         ·exact Gs
        ·exact Gs
    ·exact Gs
   |borrow=>
    have:S.A=S'.A:=funext fun s=>H s (by simp[K.avs,aU])
    simp only[this]
    cases Jo (dv S'.A) avs with
    |none=>exact Gs
    |some X=>
     simp only[Option.bind_some]
     cases κ Q.1 (X++Q.2) with
     |none=>exact Gs
     |some r=>
      simp only[Option.bind_some]
      split
      ·exact .pure (by simp[K.vw,K.vs]) (by simp[K.aw,aU])
      ·exact Gs
   |freeze=>
    have E:S.A=S'.A:=funext fun s=>H s (by simp[K.avs,aU])
    simp only[E]
    cases Jo (dv S'.A) avs with
    |none=>exact Gs
    |some X=>
     simp only[Option.bind_some]
     cases κ Q.1 (X++Q.2) with
     |none=>exact Gs
     |some r=>
      simp only[Option.bind_some]
      unfold dx
      cases own with
      |none=>exact⟨rfl,rfl,rfl,fun s u=>by simp[K.vw,K.vs] at u,fun s u=>⟨rfl,rfl⟩,fun s u=>rfl,fun s u=>by simp[K.aw,K.avs,aU] at u⟩
      |some j=>
       simp only
       split
       ·exact Gs
       ·split
        ·exact⟨rfl,rfl,rfl,fun s u=>by simp[K.vw,K.vs] at u,fun s u=>⟨rfl,rfl⟩,fun s u=>rfl,fun s u=>by simp[K.aw,K.avs,aU] at u⟩
        ·split
         ·exact⟨rfl,rfl,rfl,fun s u=>by simp[K.vw,K.vs] at u,fun s u=>⟨rfl,rfl⟩,fun s u=>rfl,fun s u=>by simp[K.aw,K.avs,aU] at u⟩
         ·exact Gs
        ·exact Gs
 |nilc x=>
  simp only[ev,w x (by simp[K.args])]
  split<;>first|exact Gs|exact .pure (by simp[K.vw,K.vs]) (by simp[K.aw,K.avs,aU])
 |nilq x=>
  simp only[ev,w x (by simp[K.args])]
  split<;>first|exact Gs|exact .pure (by simp[K.vw,K.vs]) (by simp[K.aw,K.avs,aU])
 |frz s x=>
  simp only[ev,w x (by simp[K.args])]
  have I:S.A s=S'.A s:=H s (by simp[K.avs,aU])
  split
  ·rename_i W z n O
   split
   ·have L:aY S.A (.own s z n)=aY S'.A (.own s z n):=by simp only[aY,I]
    rw[L]
    cases aY S'.A (.own s z n) with
    |none=>exact Gs
    |some v=>exact⟨rfl,rfl,rfl,fun s u=>by simp[K.vw,K.vs] at u,fun s u=>⟨rfl,rfl⟩,fun t ht=>by
      simp[K.aw,K.avs,aU] at ht;subst ht;simp[Jk,aE,I],fun t ht=>by
      simp[K.aw,K.avs,aU] at ht;exact⟨by simp[Jk,aE,ht],by simp[Jk,aE,ht]⟩⟩
   ·exact Gs
  ·exact Gs
 |ldf s v n p=>
  have e0:Jx S (.v v) (some n) (aD e S.ρ p)=Jx S' (.v v) (some n) (aD D S'.ρ p):=by
   rw[w p (by simp[K.args])];generalize aD D S'.ρ p=p';unfold Jx;have h1:=J v (by simp[K.vs]);cases p'<;>simp only[h1]
  have I:S.A s=S'.A s:=H s (by simp[K.avs,aU])
  simp only[ev,e0]
  cases Jx S' (.v v) (some n) (aD D S'.ρ p) with
  |none=>exact Gs
  |some x=>
   simp only[Option.bind_some]
   split
   ·rename_i R
    have L:dv S.A x=dv S'.A x:=Fe fun t ht=>by
     have:=Gx.1 R t ht;rw[GT.1 this];exact I
    rw[L]
    cases dv S'.A x with
    |none=>exact Gs
    |some y=>exact⟨rfl,rfl,rfl,fun s u=>by simp[K.vw] at u,fun s u=>⟨rfl,rfl⟩,fun t ht=>by
      simp[K.aw,K.avs,aU] at ht;subst ht;simp[Jk,aE,I],fun t ht=>by
      simp[K.aw,K.avs,aU] at ht;exact⟨by simp[Jk,aE,ht],by simp[Jk,aE,ht]⟩⟩
   ·exact Gs
 |mkb z n zero ps=>
  have:ps.map (fun p=>(p.1,aD e S.ρ p.2))=ps.map (fun p=>(p.1,aD D S'.ρ p.2)):=G6 fun p U=>by rw[w p.2 (by simp only[K.args,List.mem_map];exact⟨p,U,rfl⟩)]
  have I:S.A d=S'.A d:=H d (by simp[K.avs,aU])
  simp only[ev,this,dx,<-I]
  cases Jj z (List.replicate n zero) (ps.map fun p=>(p.1,aD D S'.ρ p.2)) with
  |none=>exact Gs
  |some rows=>
   simp only[Option.bind_some]
   cases S.A d with
   |some x=>exact Gs
   |none=>exact⟨rfl,rfl,rfl,fun s u=>by simp[K.vw,K.vs] at u,fun s u=>⟨rfl,rfl⟩,fun s u=>by
     simp[K.aw,K.avs,aU] at u;subst u;simp[aE],fun s u=>by
     simp[K.aw,K.avs,aU] at u;exact⟨by simp[aE,u],by simp[aE,u]⟩⟩
 |rcall f xs k s b=>
  have O:xs.map (aD e S.ρ)=xs.map (aD D S'.ρ):=G6 fun x O=>w x (by simp[K.args,O])
  have E:S.A=S'.A:=funext fun s=>H s (by simp[K.avs,aU])
  have h1:S.μ s=S'.μ s:=J s (by simp[K.vs])
  simp only[ev,O]
  generalize xs.map (aD D S'.ρ)=avs
  have Y:dQ S k s avs=dQ S' k s avs:=by unfold dQ;simp only[E,h1]
  unfold kz
  rw[Y]
  cases dQ S' k s avs with
  |none=>exact Gs
  |some q=>
   simp only[Option.bind_some]
   cases κ f q.1 with
   |none=>exact Gs
   |some r=>
    simp only[Option.bind_some]
    unfold fD
    split
    ·rename_i us
     cases JI b us q.2 with
     |none=>exact Gs
     |some t=>
      refine⟨rfl,rfl,rfl,fun s u=>?_,fun s u=>?_,fun s u=>rfl,fun s u=>by simp[K.aw,K.avs,aU] at u⟩
      ·simp[K.vw,K.vs] at u;simp[aE,u]
      ·simp[K.vw,K.vs] at u;simp[aE,u]
    ·exact Gs
 |allo z b=>
  have E:S.A=S'.A:=funext fun s=>H s (by simp[K.avs,aU])
  simp only[ev,J d (by simp[K.vs]),E]
  split
  ·exact Gs
  ·cases JI b (z.map dA) S'.A with
   |none=>exact Gs
   |some t=>
    refine⟨rfl,rfl,rfl,fun s u=>?_,fun s u=>?_,fun s u=>rfl,fun s u=>by simp[K.aw,K.avs,aU] at u⟩
    ·simp[K.vw,K.vs] at u;simp[aE,u]
    ·simp[K.vw,K.vs] at u;simp[aE,u]
 |boxo x b=>
  have E:S.A=S'.A:=funext fun s=>H s (by simp[K.avs,aU])
  simp only[ev,J d (by simp[K.vs]),E,w x (by simp[K.args])]
  split
  ·exact Gs
  ·split
   ·rename_i cs _
    split
    ·cases JI b (cs.map dA) S'.A with
     |none=>exact Gs
     |some t=>
      refine⟨rfl,rfl,rfl,fun s u=>?_,fun s u=>?_,fun s u=>rfl,fun s u=>by simp[K.aw,K.avs,aU] at u⟩
      ·simp[K.vw,K.vs] at u;simp[aE,u]
      ·simp[K.vw,K.vs] at u;simp[aE,u]
    ·exact Gs
   ·exact Gs
 |appd z x y=>
  have E:S.A=S'.A:=funext fun s=>H s (by simp[K.avs,aU])
  simp only[ev,w x (by simp[K.args]),w y (by simp[K.args])]
  generalize aD D S'.ρ x=x'
  generalize aD D S'.ρ y=y'
  unfold lV JY
  cases x'<;>try exact Gs
  simp only[E]
  split
  ·split
   ·split
    ·cases V.rowsOf z y' with
     |none=>exact Gs
     |some P=>
      simp only[Option.bind_some]
      split
      ·exact⟨rfl,rfl,rfl,fun s u=>by simp[K.vw,K.vs] at u,fun s u=>⟨rfl,rfl⟩,fun s u=>rfl,fun s u=>by simp[K.aw,K.avs,aU] at u⟩
      ·exact Gs
    ·exact Gs
   ·exact Gs
  ·exact Gs
 |slf z x lo hi=>
  have E:S.A=S'.A:=funext fun s=>H s (by simp[K.avs,aU])
  have N:lo.map (aD e S.ρ)=lo.map (aD D S'.ρ):=by cases lo with|none=>rfl|some a=>simp[w a (by simp[K.args])]
  have M:hi.map (aD e S.ρ)=hi.map (aD D S'.ρ):=by cases hi with|none=>rfl|some a=>simp[w a (by simp[K.args])]
  simp only[ev,w x (by simp[K.args]),N,M,E]
  cases aY S'.A (aD D S'.ρ x) with
  |none=>exact Gs
  |some y=>
   simp only[Option.bind_some]
   cases kr false z y (lo.map (aD D S'.ρ)) (hi.map (aD D S'.ρ)) with
   |none=>exact Gs
   |some v=>exact⟨rfl,rfl,rfl,fun s u=>by simp[K.vw,K.vs] at u,fun s u=>⟨rfl,rfl⟩,fun s u=>rfl,fun s u=>by simp[K.aw,K.avs,aU] at u⟩
 |mkoz z s=>
  have h1:S.A s=S'.A s:=H s (by simp[K.avs,aU])
  have h2:S.A d=S'.A d:=H d (by simp[K.avs,aU])
  have h3:Jk S.A [s] d=Jk S'.A [s] d:=by simp only[Jk,List.foldl_cons,List.foldl_nil,aE,h1,h2]
  simp only[ev,h3]
  split
  ·exact Gs
  ·refine⟨rfl,rfl,rfl,fun s u=>by simp[K.vw,K.vs] at u,fun s u=>⟨rfl,rfl⟩,fun t ht=>?_,fun t ht=>?_⟩
   ·simp[K.aw,K.avs,aU] at ht
    by_cases L:t=d
    ·simp[aE,L]
    ·have:t=s:=by rcases ht with h|h<;>simp_all
     subst this;simp[aE,L,Jk,h1]
   ·simp[K.aw,K.avs,aU] at ht
    simp[aE,Jk,ht.1,ht.2]
 |slr s z x lo hi=>
  have I:S.A s=S'.A s:=H s (by simp[K.avs,aU])
  have N:lo.map (aD e S.ρ)=lo.map (aD D S'.ρ):=by cases lo with|none=>rfl|some a=>simp[w a (by simp[K.args])]
  have M:hi.map (aD e S.ρ)=hi.map (aD D S'.ρ):=by cases hi with|none=>rfl|some a=>simp[w a (by simp[K.args])]
  have hf:∀x,gX S.A s x=gX S'.A s x:=fun x=>by cases x<;>simp only[gX,I]
  simp only[ev,w x (by simp[K.args]),N,M,hf]
  cases gX S'.A s (aD D S'.ρ x) with
  |none=>exact Gs
  |some y=>
   simp only[Option.bind_some]
   exact .bindV (by simp[K.vw,K.vs]) (by simp[K.aw,aU])
 |fld x off n=>
  simp only[ev,w x (by simp[K.args])]
  split
  ·exact .bindV (by simp[K.vw,K.vs]) (by simp[K.aw,K.avs,aU])
  ·exact Gs
 |b2s x=>
  have E:S.A=S'.A:=funext fun s=>H s (by simp[K.avs,aU])
  simp only[ev,w x (by simp[K.args]),E]
  exact .bindV (by simp[K.vw,K.vs]) (by simp[K.aw,aU])
 |mif t x=>
  simp only[ev,w x (by simp[K.args])]
  split
  ·exact .pure (by simp[K.vw,K.vs]) (by simp[K.aw,K.avs,aU])
  ·exact Gs
 |asr t z x=>
  simp only[ev,w x (by simp[K.args])]
  split
  ·split
   ·exact .pure (by simp[K.vw,K.vs]) (by simp[K.aw,K.avs,aU])
   ·cases z with
    |none=>exact Gs
    |some z=>exact .pure (by simp[K.vw,K.vs]) (by simp[K.aw,K.avs,aU])
  ·cases z with
   |none=>exact Gs
   |some z=>exact .pure (by simp[K.vw,K.vs]) (by simp[K.aw,K.avs,aU])
  ·exact Gs
 |inv l x xs=>
  have aa:xs.map (aD e S.ρ)=xs.map (aD D S'.ρ):=G6 fun y hy=>w y (by simp[K.args,hy])
  simp only[ev,w x (by simp[K.args]),aa]
  split
  ·split
   ·rename_i t v _ _
    cases l.find? (·.1 == t) with
    |none=>exact Gs
    |some f=>
     simp only[Option.bind_some]
     cases κ f.2 (v::xs.map (aD D S'.ρ)) with
     |none=>exact Gs
     |some r=>exact .pure (by simp[K.vw,K.vs]) (by simp[K.aw,K.avs,aU])
   ·exact Gs
  ·exact Gs
 |bad=>exact Gs
def Op.gw (o:Op):List Nat:=if o.gl then o.dst.toList else []
def Op.d (o:Op):Nat:=o.dst.getD 0
def Op.lr (o:Op):List Nat:=(o.gd.toList.map (·.1))++o.k.args.flatMap aQ.lr
def Op.gr (o:Op):List Nat:=o.k.args.flatMap aQ.gr
structure pj (o:Op) (e e':Nat->V) (S S':St):Prop where
 l:∀i,i∈o.lr->e i=e' i
 g:∀t,t∈o.gr->S.ρ t=S'.ρ t
 v:∀s,s∈o.k.vs o.d->S.μ s=S'.μ s
 a:∀s,aU s (o.k.avs o.d)->S.A s=S'.A s
def fa (o:Op) (S S':St):Option (V×St)->Option (V×St)->Prop
 |none,none=>True
 |some (v,T),some (v',T')=>v=v'/\(∀t,t∈o.gw->T.ρ t=T'.ρ t)/\(∀t,t∉o.gw->T.ρ t=S.ρ t/\T'.ρ t=S'.ρ t)/\
   (∀s,s∈o.k.vw o.d->T.μ s=T'.μ s)/\(∀s,s∉o.k.vw o.d->T.μ s=S.μ s/\T'.μ s=S'.μ s)/\
   (∀s,aU s (o.k.aw o.d)->T.A s=T'.A s)/\(∀s,¬aU s (o.k.aw o.d)->T.A s=S.A s/\T'.A s=S'.A s)
 |_,_=>False
def BM {d:Nat} {k:K} {s:Nat} (h:s∈k.vw d):s∈k.vs d:=by
 cases k<;>simp_all [K.vw]
def BJ {d:Nat} {k:K} {s:Nat} (h:aU s (k.aw d)):aU s (k.avs d):=by
 cases k<;>try (exact h)
 ·simp[K.aw,aU] at h
 ·rename_i f j own xs;cases j
  ·exact h
  ·simp[K.aw,aU] at h
  ·exact h
 ·simp[K.aw,aU] at h
 ·simp[K.aw,aU] at h
def uP (S:St) (o:Op) (v:V):(∀t,t∈o.gw->(S.put o v).ρ t=v)/\(∀t,t∉o.gw->(S.put o v).ρ t=S.ρ t)/\(S.put o v).μ=S.μ/\(S.put o v).A=S.A:=by
 unfold St.put Op.gw;cases o.gl<;>cases o.dst<;>simp[aE];intro t ht e;exact absurd e ht
def wv (o:Op) (e u:Nat->V) (S S':St) (h:pj o e u S S'):fa o S S' (step κ o e S) (step κ o u S'):=by
 have hw:Jl e o.gd=Jl u o.gd:=by
  unfold Jl;cases W:o.gd with
  |none=>rfl
  |some X=>obtain⟨j,b⟩:=X;simp only;rw[h.l j (by simp[Op.lr,W])]
 unfold step;rw[hw];have U:∀x∈o.k.args,aD e S.ρ x=aD u S'.ρ x:=fun x L=>by
  cases x with
  |g t=>exact h.g t (by simp only[Op.gr,mq];exact⟨_,L,by simp[aQ.gr]⟩)
  |l i=>exact h.l i (by simp only[Op.lr,GV,mq];exact .inr ⟨_,L,by simp[aQ.lr]⟩)
  |c v=>rfl
  |f k=>rfl
 split
 ·exact Gs
 ·obtain⟨E,H,w,y⟩:=uP S o .un;obtain⟨I,J,z,B⟩:=uP S' o .un;refine⟨rfl,fun t ht=>by rw[E t ht,I t ht],fun t ht=>⟨H t ht,J t ht⟩,fun s p=>by rw[w,z];exact h.v s (BM p),fun s p=>by rw[w,z];exact⟨rfl,rfl⟩,
   fun s p=>by rw[y,B];exact h.a s (BJ p),fun s p=>by rw[y,B];exact⟨rfl,rfl⟩⟩
 ·have q:=Bq κ o.d o.k e u S S' U h.v h.a
  show fa o S S' ((ev κ o.d e S o.k).bind _) ((ev κ o.d u S' o.k).bind _)
  generalize ev κ o.d e S o.k=r at q;generalize ev κ o.d u S' o.k=D at q;cases r with
  |none=>cases D with
   |none=>exact Gs
   |some _=>exact q.elim
  |some r=>cases D with
   |none=>exact q.elim
   |some D=>
    obtain⟨v,T⟩:=r
    obtain⟨v',M⟩:=D
    obtain⟨rfl,h1,N,O,P,Q,R⟩:=q
    obtain⟨E,H,w,y⟩:=uP T o v
    obtain⟨I,J,z,B⟩:=uP M o v
    exact⟨rfl,fun t ht=>by rw[E t ht,I t ht],fun t ht=>⟨by rw[H t ht,h1],by rw[J t ht,N]⟩,fun s p=>by rw[w,z];exact O s p,fun s p=>by rw[w,z];exact P s p,
     fun s p=>by rw[y,B];exact Q s p,fun s p=>by rw[y,B];exact R s p⟩
def uV:Option (List Nat)->Option (List Nat)->Bool
 |some [],_=>true
 |_,some []=>true
 |some l,some m=>l.all fun s=>!m.contains s
 |_,_=>false
def Bd {a b:Option (List Nat)} (h:uV a b=true) (s:Nat) (j:aU s a):¬aU s b:=by
 unfold uV at h;split at h
 ·simp[aU] at j
 ·simp[aU]
 ·rw[Gx] at h;have:=h s j;simpa [aU] using this
 ·simp at h
def Ls (l:List Nat) (x:Nat):l.contains x=false↔x∉l:=by simp
def fA (i j:Nat) (p q:Op):Bool:=
 !q.lr.contains i&&!p.lr.contains j &&
 (p.gw.all fun t=>!q.gr.contains t&&!q.gw.contains t)&&(q.gw.all fun t=>!p.gr.contains t) &&
 ((p.k.vw p.d).all fun s=>!(q.k.vs q.d).contains s)&&((q.k.vw q.d).all fun s=>!(p.k.vs p.d).contains s) &&
 uV (p.k.aw p.d) (q.k.avs q.d)&&uV (q.k.aw q.d) (p.k.avs p.d)
def fa.refl {o:Op} {e:Nat->V} {S:St}:fa o S S (step κ o e S) (step κ o e S):=wv κ o e e S S ⟨fun _ _=>rfl,fun _ _=>rfl,fun _ _=>rfl,fun _ _=>rfl⟩
def St.ext' {S T:St} (h1:∀t,S.ρ t=T.ρ t) (j:∀s,S.μ s=T.μ s) (o:∀s,S.A s=T.A s):S=T:=by
 cases S;cases T;congr<;>funext x<;>simp_all
def EH {i j:Nat} (aa:i≠j) {p q:Op} (h:fA i j p q=true) (e:Nat->V) (S:St) :
  ((step κ p e S).bind fun r=>(step κ q (aE e i r.1) r.2).bind fun J=>some (aE (aE e i r.1) j J.1,J.2))=
  ((step κ q e S).bind fun r=>(step κ p (aE e j r.1) r.2).bind fun J=>some (aE (aE e j r.1) i J.1,J.2)):=by
 simp only[fA,Gg,Gx,GI,Ls] at h
 obtain⟨⟨⟨⟨⟨⟨⟨h1,h2⟩,h3⟩,h4⟩,h5⟩,h6⟩,h7⟩,h8⟩:=h
 have a7:=Bd h7
 have a8:=Bd h8
 -- q behind p
 have Q:∀v T,step κ p e S=some (v,T)->fa q S T (step κ q e S) (step κ q (aE e i v) T):=fun v T M=>by
  have:=fa.refl κ (o:=p) (e:=e) (S:=S);rw[M] at this;obtain⟨-,-,g,-,m,-,a⟩:=this;refine wv κ q e (aE e i v) S T ⟨fun k W=>?_,fun t ht=>?_,fun s I=>?_,fun s I=>?_⟩
  ·have:k≠i:=fun O=>h1 (O▸W);simp[aE,this]
  ·exact (g t (fun R=>(h3 t R).1 ht)).1.symm
  ·exact (m s (fun hm=>h5 s hm I)).1.symm
  ·exact (a s (fun N=>a7 s N I)).1.symm
 have P:∀v T,step κ q e S=some (v,T)->fa p S T (step κ p e S) (step κ p (aE e j v) T):=fun v T H=>by
  have:=fa.refl κ (o:=q) (e:=e) (S:=S);rw[H] at this;obtain⟨-,-,g,-,m,-,a⟩:=this;refine wv κ p e (aE e j v) S T ⟨fun k W=>?_,fun t ht=>?_,fun s I=>?_,fun s I=>?_⟩
  ·have:k≠j:=fun O=>h2 (O▸W);simp[aE,this]
  ·exact (g t (fun R=>h4 t R ht)).1.symm
  ·exact (m s (fun hm=>h6 s hm I)).1.symm
  ·exact (a s (fun N=>a8 s N I)).1.symm
 cases M:step κ p e S with
 |none=>
  cases H:step κ q e S with
  |none=>rfl
  |some r=>
   have:=P r.1 r.2 (by rw[H])
   rw[M] at this
   cases z:step κ p (aE e j r.1) r.2 with
   |none=>simp[z]
   |some _=>rw[z] at this;exact this.elim
 |some r=>
  obtain⟨v,T⟩:=r
  have D:=Q v T M
  cases H:step κ q e S with
  |none=>
   rw[H] at D
   cases z:step κ q (aE e i v) T with
   |none=>simp[z]
   |some _=>rw[z] at D;exact D.elim
  |some J=>
   obtain⟨u,U⟩:=J
   have L:=P u U H
   rw[H] at D
   rw[M] at L
   cases z:step κ q (aE e i v) T with
   |none=>rw[z] at D;exact D.elim
   |some x=>
    cases E:step κ p (aE e j u) U with
    |none=>rw[E] at L;exact L.elim
    |some y=>
     obtain⟨u',T2⟩:=x
     obtain⟨v',U2⟩:=y
     rw[z] at D
     rw[E] at L
     obtain⟨rfl,q1,X,q3,Y,q5,Z⟩:=D
     obtain⟨rfl,p1,p2,p3,p4,p5,p6⟩:=L
     simp only[Option.bind_some,z,E,Ga,Gi]
     refine⟨?_,St.ext' (fun t=>?_) (fun s=>?_) (fun s=>?_)⟩
     ·funext k;simp only[aE];split<;>split<;>simp_all
     ·by_cases w:t∈p.gw
      ·rw[<-p1 t w];exact (X t (h3 t w).2).2
      ·rw[(p2 t w).2]
       by_cases B:t∈q.gw
       ·exact (q1 t B).symm
       ·rw[(X t B).2,(X t B).1,(p2 t w).1]
     ·by_cases w:s∈p.k.vw p.d
      ·rw[<-p3 s w];exact (Y s (fun z=>h5 s w (BM z))).2
      ·rw[(p4 s w).2]
       by_cases B:s∈q.k.vw q.d
       ·exact (q3 s B).symm
       ·rw[(Y s B).2,(Y s B).1,(p4 s w).1]
     ·by_cases w:aU s (p.k.aw p.d)
      ·rw[<-p5 s w];exact (Z s (fun z=>a7 s w (BJ z))).2
      ·rw[(p6 s w).2]
       by_cases B:aU s (q.k.aw q.d)
       ·exact (q5 s B).symm
       ·rw[(Z s B).2,(Z s B).1,(p6 s w).1]
def cG (ops:List Op):List Nat->(Nat->V)->St->Option St
 |[],_,S=>some S
 |i::l,e,S=>match ops[i]? with
  |none=>cG ops l e S
  |some o=>(step κ o e S).bind fun r=>cG ops l (aE e i r.1) r.2
def D3 {o:List Op} {i j:Nat} (u:i≠j) (h:∀p q,o[i]?=some p->o[j]?=some q->fA i j p q=true) (l:List Nat) (e:Nat->V) (S:St) :
  cG κ o (i::j::l) e S=cG κ o (j::i::l) e S:=by
 simp only[cG]
 cases hi:o[i]? with
 |none=>cases w:o[j]?<;>rfl
 |some p=>cases w:o[j]? with
  |none=>rfl
  |some q=>
   have:=EH κ u (h p q hi w) e S
   have c:=fp (fun x=>x.bind fun r:(Nat->V)×St=>cG κ o l r.1 r.2) this
   simpa [Option.bind_assoc] using c
def jr (a:Nat):List Nat->List Nat
 |[]=>[a]
 |b::l=>if a<=b then a::b::l else b::jr a l
def jU:List Nat->List Nat
 |[]=>[]
 |a::l=>jr a (jU l)
def A6 {a x:Nat} {l:List Nat}:x∈jr a l↔x=a\/x∈l:=by
 induction l with
 |nil=>simp[jr]
 |cons b l j=>
  simp only[jr];split
  ·simp
  ·simp[j];constructor
   ·rintro (h|h|h)<;>simp_all
   ·rintro (h|h|h)<;>simp_all
def EY {x:Nat} {l:List Nat}:x∈jU l↔x∈l:=by
 induction l with
 |nil=>simp[jU]
 |cons a l j=>simp[jU,A6,j]
theorem wu {j:List Op} {a:Nat}:∀(s:List Nat) (e:Nat->V) (S:St),(∀b∈s,b<a->∀p q,j[a]?=some p->j[b]?=some q->fA a b p q=true)->
  cG κ j (a::s) e S=cG κ j (jr a s) e S
 |[],e,S,_=>rfl
 |b::s,e,S,h=>by
  simp only[jr];split
  ·rfl
  ·rename_i u;rw[D3 κ (by omega) (h b (by simp) (by omega))];simp only[cG];cases j[b]? with
   |none=>exact wu s e S fun c o=>h c (by simp[o])
   |some q=>
    simp only;cases step κ q e S with
    |none=>rfl
    |some r=>exact wu s _ _ fun c o=>h c (by simp[o])
theorem eA {ops:List Op}:∀(l:List Nat) (e:Nat->V) (S:St),(l.Pairwise fun a b=>b<a->∀p q,ops[a]?=some p->ops[b]?=some q->fA a b p q=true)->
  cG κ ops l e S=cG κ ops (jU l) e S
 |[],e,S,_=>rfl
 |a::l,e,S,h=>by
  rw[G8] at h;have h1:cG κ ops (a::l) e S=cG κ ops (a::jU l) e S:=by
   simp only[cG];cases ops[a]? with
   |none=>exact eA l e S h.2
   |some p=>
    simp only;cases step κ p e S with
    |none=>rfl
    |some r=>exact eA l _ _ h.2
  rw[h1];exact wu κ (jU l) e S fun b hb=>h.1 b (EY.1 hb)
def Ed {a:Nat} {l:List Nat} (h:l.Pairwise (·<=·)):(jr a l).Pairwise (·<=·):=by
 induction l with
 |nil=>simp[jr]
 |cons b l o=>
  rw[G8] at h;simp only[jr];split
  ·rename_i j;rw[G8];exact⟨fun c hc=>by rcases GN.1 hc with rfl|hc;exact j;exact Gj j (h.1 c hc),G8.2 h⟩
  ·rename_i j;rw[G8];refine⟨fun c hc=>?_,o h.2⟩;rcases A6.1 hc with rfl|hc
   ·omega
   ·exact h.1 c hc
def D8 (l:List Nat):(jU l).Pairwise (·<=·):=by
 induction l with
 |nil=>simp[jU]
 |cons a l j=>exact Ed j
def Ez (a:Nat) (l:List Nat):(jr a l).Perm (a::l):=by
 induction l with
 |nil=>exact .refl _
 |cons b l j=>
  simp only[jr];split
  ·exact .refl _
  ·exact (j.cons b).trans (.swap a b l)
def Ef (l:List Nat):(jU l).Perm l:=by
 induction l with
 |nil=>exact .refl _
 |cons a l j=>exact (Ez a _).trans (j.cons a)
def Ec {l:List Nat} {n:Nat} (h:l.Perm (List.range n)):jU l=List.range n:=by
 refine List.Perm.eq_of_pairwise (le:=(·<=·)) (fun a b _ _ h1 j=>Nat.le_antisymm h1 j) (D8 l) ?_ ((Ef l).trans h);exact List.pairwise_le_range
theorem Bi {p:List Op}:∀(l:List Op) (i:Nat) (e:Nat->V) (S:St),(∀j,l[j]?=p[i+j]?)->Js κ l i e S=cG κ p (List.range' i l.length) e S
 |[],i,e,S,_=>rfl
 |o::l,i,e,S,h=>by
  have h0:p[i]?=some o:=by simpa using (h 0).symm
  simp only[Js,List.length_cons,List.range'_succ,cG,h0];cases step κ o e S with
  |none=>rfl
  |some r=>exact Bi l (i+1) _ _ fun j=>by have:=h (j+1);simpa [G5,Nat.add_comm 1 j] using this
end
end Sg
namespace Sg
open Go
def gW (e:Edge):Bool:=Region.binds .any e
def eL (ops:Array Oper):Bool:=
 (List.range ops.size).all fun i=>match ops[i]? with
  |some o=>o.after.toList.all fun e=>!gW e||decide (e.on<i)
  |none=>true
def Jh (o:Oper):List Nat:=(o.after.toList.filter gW).map (·.on)
def JS {p:Array Oper} (h:eL p=true) {i:Nat} {o:Oper} (u:p[i]?=some o) {j:Nat} (q:j∈Jh o):j<i:=by
 have hi:i<p.size:=by
  rcases GD i p.size with h'|h'
  ·exact h'
  ·simp[Array.getElem?_eq_none h'] at u
 have:=Gx.1 h i (G2.2 hi);rw[u] at this;simp only[Jh,List.mem_map,kY] at q;obtain⟨e,⟨y,w⟩,rfl⟩:=q;have:=Gx.1 this e y;rw[w] at this;simpa using this
def left (n:Nat) (listed:Array Bool):List Nat:=(List.range n).filter fun i=>!listed.getD i true
def Fx {n i:Nat} {o:Array Bool} (D:o.size=n) (hi:i∈left n o) :
  (left n (o.setIfInBounds i true)).length+1=(left n o).length/\∀j,j∈left n (o.setIfInBounds i true)↔j∈left n o/\j≠i:=by
 have p:∀j,j∈left n (o.setIfInBounds i true)↔j∈left n o/\j≠i:=by
  intro j;simp only[left,kY,G2,GI];by_cases e:j=i
  ·subst e;simp only[left,kY,G2] at hi;have:j<o.size:=by omega
   simp[this]
  ·have y:i≠j:=fun h=>e h.symm;rw[getD_set_ne true y];simp[e]
 refine⟨?_,p⟩
 have u:(left n o).Nodup:=List.Nodup.sublist pp List.nodup_range
 have w:(left n (o.setIfInBounds i true)).Nodup:=List.Nodup.sublist pp List.nodup_range
 have B:(left n o).Perm (i::left n (o.setIfInBounds i true)):=by
  refine (List.perm_ext_iff_of_nodup u (mt.2 ⟨fun z=>((p i).1 z).2 rfl,w⟩)).2 fun j=>?_;rw[GN,p];constructor
  ·intro q;by_cases e:j=i
   ·exact .inl e
   ·exact .inr ⟨q,e⟩
  ·rintro (rfl|⟨q,_⟩)
   ·exact hi
   ·exact q
 have:=B.length_eq
 simpa using this.symm
def Ki {q:Array Oper} (U:eL q=true):∀(w t:Nat) (listed:Array Bool),listed.size=q.size->(left q.size listed).length<=w->
  (Region.linearise.go .any q w t listed []).Perm (left q.size listed)/\
  ∀y i post,Region.linearise.go .any q w t listed []=y++i::post->∀o,q[i]?=some o->∀j∈Jh o,j∈y\/j∉left q.size listed:=by
 intro w
 induction w with
 |zero=>
  intro t listed W hl
  have h0:left q.size listed=[]:=List.length_eq_zero_iff.1 (by omega)
  simp only[Region.linearise.go,List.reverse_nil,h0]
  exact⟨.refl _,fun y i post h=>by simp at h⟩
 |succ w ih=>
  intro t listed W hl
  simp only[Region.linearise.go]
  change (match (Region.ready .any q listed)[t % (Region.ready .any q listed).length]? with
   |some i=>Region.linearise.go .any q w (t / (Region.ready .any q listed).length) (listed.setIfInBounds i true) [i]
   |none=>[].reverse).Perm _/\∀y i post,(match (Region.ready .any q listed)[t % (Region.ready .any q listed).length]? with
   |some i=>Region.linearise.go .any q w (t / (Region.ready .any q listed).length) (listed.setIfInBounds i true) [i]
   |none=>[].reverse)=y++i::post->_
  cases hi:(Region.ready .any q listed)[t % (Region.ready .any q listed).length]? with
  |none=>
   have P:Region.ready .any q listed=[]:=by
    cases hr:Region.ready .any q listed with
    |nil=>rfl
    |cons x xs=>
     rw[hr] at hi;have M:t % (x::xs).length<(x::xs).length:=Nat.mod_lt _ (by simp);rw[List.getElem?_eq_getElem M] at hi;simp at hi
   have h0:left q.size listed=[]:=by
    rcases ox:left q.size listed with _|⟨a,avs⟩
    ·rfl
    ·exfalso
     -- the least that is left is ready
     have O:∃m,m∈left q.size listed/\∀k,k∈left q.size listed->m<=k:=by
      refine⟨a,by rw[ox];simp,fun k hk=>?_⟩;have hp:(left q.size listed).Pairwise (·<=·):=List.Pairwise.sublist pp List.pairwise_le_range;rw[ox,G8] at hp;rw[ox] at hk;rcases GN.1 hk with rfl|hk
      ·exact Gt _
      ·exact hp.1 k hk
     obtain⟨m,hm,T⟩:=O;have z:=hm;simp only[left,kY,G2,GI] at z;have:m∈Region.ready .any q listed:=mem_ready.2 ⟨z.2,q[m]'z.1,by simp[z.1],fun e R Q=>by
      have M:e.on<m:=JS U (i:=m) (o:=q[m]'z.1) (by simp[z.1]) (by simp only[Jh,List.mem_map,kY];exact⟨e,⟨by simpa using R,Q⟩,rfl⟩);have hn:e.on∉left q.size listed:=fun B=>by have:=T _ B;omega
      simp only[left,kY,G2,GI,not_and,Bool.not_eq_false] at hn;have:=hn (by omega);have I:e.on<listed.size:=by omega
      simpa [I] using this⟩
     rw[P] at this;simp at this
   simp only[List.reverse_nil,h0]
   exact⟨.refl _,fun y i post h=>by simp at h⟩
  |some i=>
   have N:=List.mem_of_getElem? hi
   obtain⟨S,o,ho,E⟩:=mem_ready.1 N
   have L:i<q.size:=by
    rcases GD i q.size with h'|h'
    ·exact h'
    ·simp[Array.getElem?_eq_none h'] at ho
   have J:i∈left q.size listed:=by simp only[left,kY,G2];exact⟨L,by simpa using S⟩
   obtain⟨s1,s2⟩:=Fx W J
   simp only[]
   rw[linearise_go_acc,List.reverse_singleton,List.singleton_append]
   obtain⟨X,Y⟩:=ih (t / (Region.ready .any q listed).length) (listed.setIfInBounds i true) (by simpa using W) (by omega)
   refine⟨?_,fun y k post u o' D j H=>?_⟩
   ·refine (X.cons i).trans ?_
    have Z:(left q.size listed).Nodup:=List.Nodup.sublist pp List.nodup_range
    have aa:(left q.size (listed.setIfInBounds i true)).Nodup:=List.Nodup.sublist pp List.nodup_range
    refine (List.perm_ext_iff_of_nodup (mt.2 ⟨fun B=>((s2 i).1 B).2 rfl,aa⟩) Z).2 fun j=>?_
    rw[GN,s2]
    constructor
    ·rintro (rfl|⟨H,_⟩)
     ·exact J
     ·exact H
    ·intro H
     by_cases e:j=i
     ·exact .inl e
     ·exact .inr ⟨H,e⟩
   ·cases y with
    |nil=>
     simp only[List.nil_append,List.cons.injEq] at u
     obtain⟨rfl,-⟩:=u
     rw[ho] at D
     simp only[Ga] at D
     subst D
     simp only[Jh,List.mem_map,kY] at H
     obtain⟨e,⟨R,Q⟩,rfl⟩:=H
     have:=E e (by simpa using R) Q
     refine .inr fun B=>?_
     simp only[left,kY,G2,GI] at B
     have I:e.on<listed.size:=by omega
     simp[I] at this B
     rw[this] at B;simp at B
    |cons p y=>
     simp only[List.cons_append,List.cons.injEq] at u
     obtain⟨rfl,u⟩:=u
     rcases Y y k post u o' D j H with h'|h'
     ·exact .inl (nh _ h')
     ·rw[s2] at h'
      by_cases e:j=i
      ·exact .inl (by simp[e])
      ·exact .inr fun B=>h' ⟨B,e⟩
def km {ops:Array Oper} (hok:eL ops=true) (t:Nat) :
  (Region.linearise .any ops t).Perm (List.range ops.size)/\∀pre i post,Region.linearise .any ops t=pre++i::post->∀o,ops[i]?=some o->∀j∈Jh o,j∈pre:=by
 have hall:left ops.size (Array.replicate ops.size false)=List.range ops.size:=by
  unfold left;rw[List.filter_eq_self];intro i hi;have:=G2.1 hi;simp[this]
 obtain⟨h1,h2⟩:=Ki hok ops.size t (Array.replicate ops.size false) (by simp) (by rw[hall];simp)
 rw[hall] at h1 h2
 refine⟨h1,fun pre i post hs o ho j hj=>(h2 pre i post hs o ho j hj).resolve_right fun hn=>hn (G2.2 ?_)⟩
 have:=JS hok ho hj
 have hi:i<ops.size:=by
  rcases GD i ops.size with h'|h'
  ·exact h'
  ·simp[Array.getElem?_eq_none h'] at ho
 omega
def cR:List Oper->List (List Nat)->List (List Nat)
 |[],bN=>bN
 |o::os,bN=>cR os (bN++[Jh o++(Jh o).flatMap fun j=>bN.getD j []])
theorem wA:∀(os:List Oper) (bN:List (List Nat)) (i:Nat),i<bN.length->(cR os bN).getD i []=bN.getD i []
 |[],bN,i,_=>rfl
 |o::os,bN,i,h=>by
  simp only[cR];rw[wA os _ i (by simp;omega)];simp only[List.getD_eq_getElem?_getD];rw[List.getElem?_append_left h]
theorem wE:∀(os:List Oper) (bN:List (List Nat)) (k:Nat) (o:Oper),os[k]?=some o->(∀j∈Jh o,j<bN.length+k)->
  ∀x,x∈(cR os bN).getD (bN.length+k) []->x∈Jh o\/∃j∈Jh o,x∈(cR os bN).getD j []
 |[],bN,k,o,h,_=>by simp at h
 |o'::os,bN,0,o,h,hb=>by
  simp only[List.getElem?_cons_zero,Ga] at h;subst h;intro x p;simp only[cR,Nat.add_zero] at p ⊢;rw[wA os _ bN.length (by simp)] at p;have:(bN++[Jh o'++(Jh o').flatMap fun j=>bN.getD j []]).getD bN.length []=Jh o'++(Jh o').flatMap fun j=>bN.getD j []:=by
   simp[List.getD_eq_getElem?_getD]
  rw[this,GV,mq] at p;rcases p with p|⟨j,q,p⟩
  ·exact .inl p
  ·refine .inr ⟨j,q,?_⟩;have u:=hb j q;rw[wA os _ j (by simp;omega)];simp only[List.getD_eq_getElem?_getD];rw[List.getElem?_append_left (by omega)];simpa [List.getD_eq_getElem?_getD] using p
 |o'::os,bN,k+1,o,h,hb=>by
  simp only[List.getElem?_cons_succ] at h;have:=wE os (bN++[Jh o'++(Jh o').flatMap fun j=>bN.getD j []]) k o h (fun j q=>by have:=hb j q;simp;omega);simp only[Gb,List.length_cons,List.length_nil] at this;intro x p;simp only[cR] at p ⊢;rw[show bN.length+(k+1)=bN.length+(0+1)+k by omega] at p;exact this x p
def eF:List Oper->List Nat->List Nat
 |[],bN=>bN
 |o::os,bN=>eF os (bN++[(Jh o).foldl (fun m j=>(m ||| bN.getD j 0) ||| (1 <<< j)) 0])
theorem AK {accB:List Nat} {b:Nat}:∀(l:List Nat) (m:Nat),(l.foldl (fun m j=>(m ||| accB.getD j 0) ||| (1 <<< j)) m).testBit b=true->m.testBit b=true\/∃j∈l,b=j\/(accB.getD j 0).testBit b=true
 |[],m,h=>.inl h
 |j::l,m,h=>by
  rcases AK l _ h with h|⟨k,o,h⟩
  ·simp only[Nat.testBit_or,kZ] at h;rcases h with (h|h)|h
   ·exact .inl h
   ·exact .inr ⟨j,by simp,.inr h⟩
   ·refine .inr ⟨j,by simp,.inl ?_⟩;rw[Nat.one_shiftLeft,Nat.testBit_two_pow] at h;exact (Gk h).symm
  ·exact .inr ⟨k,by simp[o],h⟩
theorem AT:∀(os:List Oper) (bN:List (List Nat)) (accB:List Nat),bN.length=accB.length->(∀i b,(accB.getD i 0).testBit b=true->b∈bN.getD i [])->
  ∀i b,((eF os accB).getD i 0).testBit b=true->b∈(cR os bN).getD i []
 |[],bN,accB,_,h,i,b,p=>h i b p
 |o::os,bN,accB,hl,h,i,b,p=>by
  simp only[eF] at p;simp only[cR];refine AT os _ _ (by simp[hl]) (fun i b p=>?_) i b p;rcases Nat.lt_trichotomy i accB.length with hi|hi|hi
  ·have h0:=h i b;simp only[List.getD_eq_getElem?_getD] at p h0 ⊢;rw[List.getElem?_append_left hi] at p;rw[List.getElem?_append_left (by omega)];exact h0 p
  ·subst hi;rw[List.getD_eq_getElem?_getD,List.getElem?_append_right (Gt _)] at p;rw[List.getD_eq_getElem?_getD,List.getElem?_append_right (by omega)];simp only[hl,Nat.sub_self] at p ⊢;have p:((Jh o).foldl (fun m j=>(m ||| accB.getD j 0) ||| (1 <<< j)) 0).testBit b=true:=p
   show b∈Jh o++(Jh o).flatMap fun j=>bN.getD j []
   rw[GV,mq];rcases AK _ _ p with h0|⟨j,q,h0⟩
   ·simp at h0
   ·rcases h0 with rfl|h0
    ·exact .inl q
    ·exact .inr ⟨j,q,h j b h0⟩
  ·rw[List.getD_eq_getElem?_getD,List.getElem?_eq_none (by simp;omega)] at p;simp at p
def kq (os:List Oper) (ps:List Op):Bool:=
 let cl:=eF os []
 (List.range ps.length).all fun a=>(List.range a).all fun b=>(cl.getD a 0).testBit b||(match ps[a]?,ps[b]? with|some p,some q=>fA a b p q|_,_=>true)
def Ej {os:Array Oper} {ps:List Op} (E:eL os=true) (W:ps.length=os.size) (hd:kq os.toList ps=true) (t:Nat) :
  (Region.linearise .any os t).Pairwise fun a b=>b<a->∀p q,ps[a]?=some p->ps[b]?=some q->fA a b p q=true:=by
 obtain⟨u,w⟩:=km E t
 -- what a hangs on,near and H,stands ahead of it
 have H:∀n,∀a,a<=n->∀pre post,Region.linearise .any os t=pre++a::post->∀x,x∈(cR os.toList []).getD a []->x∈pre:=by
  intro n
  induction n with
  |zero=>
   intro a N pre post D x S;obtain rfl:a=0:=by omega
   have:(0:Nat)∈List.range os.size:=u.mem_iff.1 (by rw[D];simp);have h0:=G2.1 this;have M:os.toList[0]?=some os[0]:=by simp[h0]
   have y:Jh os[0]=[]:=by
    rcases hdd:Jh os[0] with _|⟨j,js⟩
    ·rfl
    ·have:=JS E (i:=0) (o:=os[0]) (by simp[h0]) (j:=j) (by rw[hdd];simp);omega
   have:=wE os.toList [] 0 os[0] M (fun j z=>by rw[y] at z;simp at z) x (by simpa using S);rw[y] at this;simp at this
  |succ n U=>
   intro a N pre post D x S;have:a∈List.range os.size:=u.mem_iff.1 (by rw[D];simp);have h0:=G2.1 this;have M:os[a]?=some os[a]:=by simp[h0]
   have B:∀j∈Jh os[a],j<a:=fun j z=>JS E M z;have:=wE os.toList [] a os[a] (by simp[h0]) (fun j z=>by have:=B j z;simp;omega) x (by simpa using S);rcases this with J|⟨j,z,T⟩
   ·exact w pre a post D _ M x J
   ·have R:=w pre a post D _ M j z;obtain⟨p1,p2,rfl⟩:=List.append_of_mem R;have:=U j (by have:=B j z;omega) p1 (p2++a::post) (by rw[D];simp) x T;simp[this]
 have Z:(Region.linearise .any os t).Nodup:=u.nodup_iff.2 List.nodup_range
 -- split by places
 rw[List.pairwise_iff_forall_sublist]
 intro a b O B p q X hq
 have Q:∃pre post,Region.linearise .any os t=pre++a::post/\b∈post:=by
  have:∀(l:List Nat),[a,b].Sublist l->∃pre post,l=pre++a::post/\b∈post:=by
   intro l
   induction l with
   |nil=>intro h;simp at h
   |cons c l U=>
    intro h;rcases List.sublist_cons_iff.1 h with h|⟨r,Y,h⟩
    ·obtain⟨pre,post,rfl,I⟩:=U h;exact⟨c::pre,post,rfl,I⟩
    ·simp only[List.cons.injEq] at Y;obtain⟨rfl,rfl⟩:=Y;exact⟨[],l,rfl,List.singleton_sublist.1 h⟩
  exact this _ O
 obtain⟨pre,post,D,I⟩:=Q
 have L:b∉(cR os.toList []).getD a []:=fun P=>by
  have h1:=H a a (Gt _) pre post D b P;rw[D,oF] at Z;exact Z.2.2 b h1 b (by simp[I]) rfl
 have N:a<ps.length:=by
  rcases GD a ps.length with h'|h'
  ·exact h'
  ·simp[List.getElem?_eq_none h'] at X
 have:=Gx.1 (Gx.1 hd a (G2.2 N)) b (G2.2 B)
 rw[X,hq] at this
 simp only[kZ] at this
 exact this.resolve_left fun P=>L (AT os.toList [] [] rfl (fun i b I=>by simp at I) a b P)
end Sg
namespace Sg
open Go Go.RowKit
def oR (pin:Option (Nat×Nat)) (S:St) (β:Nat->Nat):Prop:=∀k b,pin=some (k,b)->(S.μ k).isSome/\β k=b
def oR.tr {cx:Cx} {w w':World} {Y o:Nat->Prop} {S S':St} {β β':Nat->Nat} {α α':Nat->Value} {pin:Option (Nat×Nat)} (h:oR pin S β)
  (y:∀u x,aG cx w Y S β α u x->aG cx w' o S' β' α' u x):oR pin S' β':=fun k b z=>by
 obtain⟨h1,p⟩:=h k b z
 obtain⟨q,j⟩:=y (.pointer (some ⟨b,0,none⟩)) (.lref k 0) ⟨h1,by rw[p]⟩
 simp only[Value.pointer.injEq,Ga,Addr.mk.injEq] at j
 exact⟨q,j.1.symm⟩
def FR (cx:Cx) (B:Nat->Prop) (X:Nat->Prop) (pin:Option (Nat×Nat)) (G:List Nat) (ds:List (Option Nat)) (e:Nat->V) (S:St) (tm:Array Value) (w:World):Prop:=
 (∀t,t∉G->S.ρ t=.undef)/\∃β α M,aO cx B X S w β α M/\(∀t,aG cx w (aI X M) S β α (tm.getD t undef) (S.ρ t))/\
  (∀i d,ds[i]?=some (some d)->aG cx w (aI X M) S β α (tm.getD d undef) (e i))/\oR pin S β
section
variable (P:Program) (cx:Cx) (aL:Nat->Option Nat) (G:List Nat) (N:Nat)
def fB (ds:List (Option Nat)) (o:Oper) (p:Op):Bool:=
 o.dst == p.dst&&o.guard == p.gd&&(match p.dst with|some d=>p.gl == G.contains d&&decide (d<N)|none=>true) &&
 (match p.gd with|some (j,_)=>(match ds[j]? with|some (some _)=>true|_=>false)|none=>true) &&
 aV P cx ds o.op p.k&&fC aL p.k
def J5 (ds:List (Option Nat)):List Oper->List Op->Bool
 |[],[]=>true
 |o::os,p::ps=>fB P cx aL G N ds o p&&J5 ds os ps
 |_,_=>false
def bD:List (Option Nat)->Bool
 |[]=>true
 |none::ds=>bD ds
 |some d::ds=>!ds.contains (some d)&&bD ds
def wt (j:Bool) (os:Array Oper) (o:Bool) (ps:List Op):Bool:=
 let ds:=ps.map (·.dst)
 J5 P cx aL G N ds os.toList ps&&bD ds&&j == o&&(!j||(eL os&&kq os.toList ps))
end
theorem wC {P:Program} {cx:Cx} {aL:Nat->Option Nat} {G:List Nat} {N:Nat} {ds:List (Option Nat)}:∀{os:List Oper} {ps:List Op},J5 P cx aL G N ds os ps=true->
  os.length=ps.length/\∀(i:Nat) (o:Oper) (p:Op),os[i]?=some o->ps[i]?=some p->fB P cx aL G N ds o p=true
 |[],[],_=>⟨rfl,fun i o p h=>by simp at h⟩
 |o::os,p::ps,h=>by
  simp only[J5,Gg] at h;obtain⟨h1,u⟩:=wC h.2;refine⟨by simp[h1],fun i w y j q=>?_⟩;cases i with
  |zero=>simp at j q;subst j;subst q;exact h.1
  |succ i=>exact u i w y (by simpa using j) (by simpa using q)
 |[],_::_,h=>by simp[J5] at h
 |_::_,[],h=>by simp[J5] at h
theorem AV:∀{ds:List (Option Nat)},bD ds=true->∀(i j:Nat) (d:Nat),ds[i]?=some (some d)->ds[j]?=some (some d)->i=j
 |[],_,i,j,d,h,_=>by simp at h
 |x::ds,hd,i,j,d,hi,hj=>by
  have p:bD ds=true:=by cases x<;>simp_all [bD]
  have q:∀o,x=some o->some o∉ds:=fun o e=>by subst e;simp[bD] at hd;exact hd.1
  cases i with
  |zero=>cases j with
   |zero=>rfl
   |succ j=>
    simp at hi hj
    exact absurd (List.mem_of_getElem? hj) (q d hi)
  |succ i=>cases j with
   |zero=>
    simp at hi hj
    exact absurd (List.mem_of_getElem? hi) (q d hj)
   |succ j=>rw[AV p i j d (by simpa using hi) (by simpa using hj)]
section
variable {P:Program} {cx:Cx} {aL:Nat->Option Nat} {G:List Nat} {N:Nat} {B:Nat->Prop} {X:Nat->Prop} {pin:Option (Nat×Nat)} {κ:Nat->List V->Option V}
def A5 {tm:Array Value} {d t:Nat} {u:Value} (j:d<tm.size):(tm.setIfInBounds d u).getD t undef=if t=d then u else tm.getD t undef:=by
 by_cases e:t=d
 ·subst e;simp[j]
 ·have:d≠t:=fun h=>e h.symm;simp[e,Array.getElem?_setIfInBounds_ne this]
def FR.put {ds:List (Option Nat)} {e:Nat->V} {S S1:St} {a:Act} {w w':World} {i:Nat} {o:Oper} {p:Op} {v:V} {u:Value} {β α M}
  (hG:∀t,t∉G->S.ρ t=.undef) (hρ:S1.ρ=S.ρ) (hsz:a.tmps.size=N)
  (hg:∀t,aG cx w (aI X M) S β α (a.tmps.getD t undef) (S.ρ t)) (hl:∀i d,ds[i]?=some (some d)->aG cx w (aI X M) S β α (a.tmps.getD d undef) (e i))
  (hpin:oR pin S β) (hp:bP cx B X S w β α M S1 v u w') (hdi:ds[i]?=some p.dst) (hdist:bD ds=true) (hdst:o.dst=p.dst)
  (hgl:∀d,p.dst=some d->p.gl=G.contains d/\d<N):FR cx B X pin G ds (aE e i v) (S1.put p v) (a.put o.dst u).tmps w':=by
 obtain⟨β',α',M',q1,q2,q3,-⟩:=hp
 have hw':aO cx B X (S1.put p v) w' β' α' M':=by
  have:(S1.put p v).μ=S1.μ/\(S1.put p v).A=S1.A:=by unfold St.put;split<;>exact⟨rfl,rfl⟩
  obtain⟨e1,e2⟩:=this;have:S1.put p v={ρ:=(S1.put p v).ρ,μ:=S1.μ,A:=S1.A}:=by rw[<-e1,<-e2]
  rw[this];exact⟨q1.xb,q1.glob,q1.size,q1.m,q1.var,q1.varInj,q1.arr,q1.arrInj,q1.arrVar⟩
 have hT:∀{u x},aG cx w' (aI X M') S1 β' α' u x->aG cx w' (aI X M') (S1.put p v) β' α' u x:=by
  intro u x h;have:(S1.put p v).μ=S1.μ/\(S1.put p v).A=S1.A:=by unfold St.put;split<;>exact⟨rfl,rfl⟩
  obtain⟨e1,e2⟩:=this;exact aG.tr (S:=S1) (S':=S1.put p v) (fun _ _ h=>h) (fun s z rows f hs=>⟨rows,f,by rw[e2];exact hs,fun hf=>⟨hf,Gt _,fun _=>rfl⟩⟩) (fun s hs=>⟨by rw[e1];exact hs,rfl⟩) h
 have hP:oR pin (S1.put p v) β':=(hpin.tr q2).tr (S':=S1.put p v) (β':=β') (fun _ _ h=>hT h)
 cases hd:p.dst with
 |none=>
  rw[hdst,hd]
  have hS:(S1.put p v).ρ=S.ρ:=by unfold St.put;rw[hd];cases p.gl<;>exact hρ
  refine⟨fun t ht=>by rw[hS];exact hG t ht,β',α',M',hw',fun t=>?_,fun j d hj=>?_,hP⟩
  ·rw[hS];exact hT (q2 _ _ (hg t))
  ·have hne:j≠i:=fun e'=>by subst e';rw[hdi,hd] at hj;simp at hj
   simp only[aE,Gu hne]
   exact hT (q2 _ _ (hl j d hj))
 |some d=>
  obtain⟨g1,g2⟩:=hgl d hd
  rw[hdst,hd]
  have hlt:d<a.tmps.size:=by omega
  have hput:(a.put (some d) u).tmps=a.tmps.setIfInBounds d u:=rfl
  rw[hput]
  have hSρ:∀t,(S1.put p v).ρ t=if t=d/\d∈G then v else S.ρ t:=by
   intro t;unfold St.put;rw[hd,g1];by_cases hin:d∈G
   ·have:G.contains d=true:=by simpa using hin
    rw[this];simp only[aE,hρ,hin,and_true]
   ·have:G.contains d=false:=by simpa using hin
    rw[this];simp only[hρ,hin,and_false,GO]
  refine⟨fun t ht=>?_,β',α',M',hw',fun t=>?_,fun j d' hj=>?_,hP⟩
  ·rw[hSρ,Gu (show ¬(t=d/\d∈G) from fun h=>ht (by rw[h.1];exact h.2))];exact hG t ht
  ·rw[hSρ,A5 hlt]
   by_cases e1:t=d
   ·subst e1
    by_cases hin:t∈G
    ·simp only[hin,and_self,GS];exact hT q3
    ·simp only[hin,and_false,GO,GS];rw[hG t hin];exact aB.undef _
   ·simp only[e1,false_and,GO];exact hT (q2 _ _ (hg t))
  ·rw[A5 hlt]
   by_cases e1:j=i
   ·subst e1
    rw[hdi,hd] at hj
    simp only[Ga] at hj
    subst hj
    simp only[aE,GS];exact hT q3
   ·have e2:d'≠d:=fun e'=>e1 (AV hdist j i d (e'▸hj) (by rw[hdi,hd]))
    simp only[aE,Gu e1,Gu e2]
    exact hT (q2 _ _ (hl j d' hj))
def iM {ops:Array Oper} {ps:List Op} (hκ:nW P cx aL κ)
  (hok:J5 P cx aL G N (ps.map (·.dst)) ops.toList ps=true) (hdist:bD (ps.map (·.dst))=true) {Q:Exit->Act->World->Prop} {S':St} {w0:World}
  (hQ:∀(a:Act) (w:World) (e:Nat->V),FR cx B X pin G (ps.map (·.dst)) e S' a.tmps w->a.defers=[]->a.tmps.size=N->bC B w0 w->Q .normal a w) :
  ∀(l:List Nat) (e:Nat->V) (S:St) (a:Act) (w:World),FR cx B X pin G (ps.map (·.dst)) e S a.tmps w->a.defers=[]->a.tmps.size=N->bC B w0 w->
   cG κ ps l e S=some S'->wpOps P ops Q l a w:=by
 obtain⟨cK,hget⟩:=wC hok
 intro l
 induction l with
 |nil=>
  intro e S a w hF hd hs hb hr
  simp only[cG,Ga] at hr
  subst hr
  exact hQ a w e hF hd hs hb
 |cons i l ih=>
  intro e S a w hF hd hs hb hr
  simp only[cG] at hr
  simp only[wpOps]
  cases hp:ps[i]? with
  |none=>
   rw[hp] at hr
   have:ops[i]?=none:=by
    have:ps.length<=i:=by
     rcases GD i ps.length with h'|h'
     ·simp[h'] at hp
     ·exact h'
    have h2:ops.size<=i:=by simpa using (by omega:ops.toList.length<=i)
    simp[h2]
   rw[this]
   exact ih e S a w hF hd hs hb hr
  |some p=>
   rw[hp] at hr
   have hi:i<ops.size:=by
    have:i<ps.length:=by
     rcases GD i ps.length with h'|h'
     ·exact h'
     ·simp[List.getElem?_eq_none h'] at hp
    simpa using (by omega:i<ops.toList.length)
   have ho:ops[i]?=some ops[i]:=by simp[hi]
   simp only[ho]
   have hoo:=hget i ops[i] p (by simp[hi]) hp
   simp only[fB,Gg,GT] at hoo
   obtain⟨⟨⟨⟨⟨o1,o2⟩,o3⟩,o4⟩,o5⟩,o6⟩:=hoo
   have hgl:∀d,p.dst=some d->p.gl=G.contains d/\d<N:=fun d hd=>by
    rw[hd] at o3;simpa using o3
   have hdi:(ps.map (·.dst))[i]?=some p.dst:=by simp[hp]
   simp only[Gc] at hr
   obtain⟨r,hst,hr⟩:=hr
   obtain⟨hG,β,α,M,hW,hg,hl,hpin⟩:=hF
   unfold step at hst
   have hwant:∀b,Jl e p.gd=some b->Region.wanted ops[i] (yielded ops a.tmps)=b:=by
    intro b hb';unfold Region.wanted;rw[o2];unfold Jl at hb';cases hgd:p.gd with
    |none=>rw[hgd] at hb';simpa using hb'
    |some jb=>
     obtain⟨j,want⟩:=jb;rw[hgd] at hb' o4;simp only at hb' o4 ⊢;split at hb'<;>simp only[Ga,reduceCtorEq] at hb'
     rotate_left
     ·rename_i hej;subst hb';split at o4
      ·rename_i d hdj;have hr:=hl j d hdj;rw[hej] at hr;obtain⟨cs,hv,hsz,-⟩:=hr;have hcs:cs=#[]:=Array.eq_empty_of_size_eq_zero hsz;have hyd:yielded ops a.tmps j=none:=by
        unfold yielded;split
        ·rename_i t hb
         exfalso
         simp only[Gc] at hb;obtain⟨d',⟨o',ho',hd'⟩,ht⟩:=hb;have hj:j<ops.size:=by
          rcases GD j ops.size with h'|h'
          ·exact h'
          ·simp[Array.getElem?_eq_none h'] at ho'
         have hpj:∃q,ps[j]?=some q/\q.dst=some d:=by
          simp only[List.getElem?_map,G9] at hdj;exact hdj
         obtain⟨q,hq1,hq2⟩:=hpj;have hoj:=hget j o' q (by simpa using ho') hq1;simp only[fB,Gg,GT] at hoj;have:o'.dst=some d:=by rw[hoj.1.1.1.1.1];exact hq2
         rw[this] at hd';simp only[Ga] at hd';subst hd';rw[Array.getD_eq_getD_getElem?,ht] at hv;simp at hv
        ·rfl
       rw[hyd];rfl
      ·simp at o4
     rename_i t hej;subst hb';split at o4
     ·rename_i d hdj;have hr:=hl j d hdj;rw[hej] at hr;have hv:=JZ hr;have hj:j<ops.size:=by
       have:j<(ps.map (·.dst)).length:=by
        rcases GD j (ps.map (·.dst)).length with h'|h'
        ·exact h'
        ·simp[List.getElem?_eq_none h'] at hdj
       simp only[Gf] at this;simpa using (by omega:j<ops.toList.length)
      have hpj:∃q,ps[j]?=some q/\q.dst=some d:=by
       simp only[List.getElem?_map,G9] at hdj;exact hdj
      obtain⟨q,hq1,hq2⟩:=hpj;have hoj:=hget j ops[j] q (by simp[hj]) hq1;simp only[fB,Gg,GT] at hoj;have hdj':ops[j].dst=some d:=by rw[hoj.1.1.1.1.1];exact hq2
      have hyd:yielded ops a.tmps j=some t:=by
       unfold yielded;have hoj':ops[j]?=some ops[j]:=by simp[hj]
       rw[hoj'];simp only[Option.bind_some,hdj'];have hin:d<a.tmps.size:=by
        rcases GD d a.tmps.size with h'|h'
        ·exact h'
        ·simp[h',undef] at hv
       simp only[hin,Array.getD_eq_getD_getElem?,Array.getElem?_eq_getElem,Option.getD_some] at hv;simp[hin,hv]
      rw[hyd];cases t<;>cases want<;>rfl
     ·simp at o4
   split at hst
   ·simp at hst
   ·rename_i hw
    rw[hwant false hw]
    simp only[Ga] at hst
    subst hst
    simp only[Gv,GO]
    have hpost:bP cx B X S w β α M S .un undef w:=.pure hW ⟨#[],rfl,rfl,fun i hi=>by simp at hi⟩
    have hF':=FR.put (G:=G) (N:=N) (o:=ops[i]) hG rfl hs hg hl hpin hpost hdi hdist o1 hgl
    refine ih _ _ _ _ hF' ?_ ?_ hb hr
    ·unfold Act.put;cases ops[i].dst<;>exact hd
    ·unfold Act.put;cases ops[i].dst
     ·exact hs
     ·simpa using hs
   ·rename_i hw
    rw[hwant true hw]
    simp only[GS]
    simp only[Gc,Ga] at hst
    obtain⟨⟨v,S1⟩,hev,rfl⟩:=hst
    have hdoes:=El hW hg hl hκ o5 o6 hev
    refine .inl (hdoes.wp fun u w' hpost=>?_)
    have hρ:S1.ρ=S.ρ:=by
     have:=Bq κ (p.dst.getD 0) p.k e e S S (fun _ _=>rfl) (fun _ _=>rfl) (fun _ _=>rfl);rw[hev] at this;exact this.2.1
    have hF':=FR.put (G:=G) (N:=N) (o:=ops[i]) hG hρ hs hg hl hpin hpost hdi hdist o1 hgl
    obtain⟨_,_,_,_,_,_,hbel⟩:=hpost
    refine ih _ _ _ _ hF' ?_ ?_ (hb.trans hbel) hr
    ·unfold Act.put;cases ops[i].dst<;>exact hd
    ·unfold Act.put;cases ops[i].dst
     ·exact hs
     ·simpa using hs
def FR.start {ds o:List (Option Nat)} {e:Nat->V} {S:St} {tm:Array Value} {w:World} (h:FR cx B X pin G ds e S tm w):FR cx B X pin G o (fun _=>.undef) S tm w:=by
 obtain⟨p,β,α,M,q,u,y,j⟩:=h;exact⟨p,β,α,M,q,u,fun _ _ _=>CR.undef _,j⟩
def FR.drew {ds:List (Option Nat)} {e:Nat->V} {S:St} {tm:Array Value} {w w':World} (h:FR cx B X pin G ds e S tm w) (q:w'.heap=w.heap):FR cx B X pin G ds e S tm w':=by
 obtain⟨y,β,α,M,z,E,H,o⟩:=h;have j:dS w w':=⟨by rw[q];exact Gt _,fun b _=>by rw[q]⟩;have p:∀u x,aB cx w (aI X M) u x->aB cx w' (aI X M) u x:=fun _ _ I=>J3 j (fun _ h=>.inl h) I;exact⟨y,β,α,M,z.grow j (fun _ h=>h) (fun _ h=>.inl h),fun t=>(E t).tr p (dn.refl S α) (fun _ h=>⟨h,rfl⟩),fun i d D=>(H i d D).tr p (dn.refl S α) (fun _ h=>⟨h,rfl⟩),o⟩
def D0 {id:Nat} {u:Array Oper} {q Y:Bool} {ps:List Op} (hm:P.follows .mixedOrders=true) (H:nW P cx aL κ)
  (E:wt P cx aL G N q u Y ps=true) {S S':St} {a:Act} {w:World} {Q:Exit->Act->World->Prop}
  (T:FR cx B X pin G [] (fun _=>.undef) S a.tmps w) (U:a.defers=[]) (W:a.tmps.size=N) (hr:Js κ ps 0 (fun _=>.undef) S=some S')
  (Z:∀(p:Act) (w':World),FR cx B X pin G [] (fun _=>.undef) S' p.tmps w'->p.defers=[]->p.tmps.size=N->bC B w w'->Q .normal p w') :
  (Code.region id u q).wp P Q a w:=by
 simp only[wt,Gg,GT] at E
 obtain⟨⟨⟨h1,R⟩,rfl⟩,I⟩:=E
 obtain⟨D,-⟩:=wC h1
 have o:ps.length=u.size:=by simpa using D.symm
 have z:cG κ ps (List.range ps.length) (fun _=>.undef) S=some S':=by
  rw[List.range_eq_range',<-Bi κ ps 0 _ _ (fun j=>by simp)];exact hr
 have y:∀(p:Act) (w':World) (e:Nat->V),FR cx B X pin G (ps.map (·.dst)) e S' p.tmps w'->p.defers=[]->p.tmps.size=N->bC B w w'->Q .normal p w':=
  fun p w' e J M O L=>Z p w' J.start M O L
 cases q with
 |false=>
  refine wp_region (iM H h1 R y _ _ _ _ _ T.start U W (bC.refl _ _) ?_)
  rw[<-o];exact z
 |true=>
  simp only[GR,jI,Gg] at I
  refine wp_region_draw fun t=>?_
  simp only[Region.schedule,hm,ky,GS]
  refine iM H h1 R y _ (fun _=>.undef) S _ _ (T.start.drew rfl) U W ⟨rfl,rfl,rfl,Gt _,fun _ _=>rfl⟩ ?_
  rw[eA κ _ _ _ (Ej I.1 o I.2 t),Ec (km I.1 t).1,<-o]
  exact z
end
section
variable (P:Program) (cx:Cx) (aL:Nat->Option Nat) (G:List Nat) (N:Nat)
def fi:Code->C->Bool
 |.skip,.skip=>true
 |.region _ ops draw,.region dr ps=>wt P cx aL G N draw ops dr ps
 |.seq a b,.seq a' b'=>fi a a'&&fi b b'
 |.cond x a b,.cond y a' b'=>Ja cx [] x y&&fi a a'&&fi b b'
 |.block id c,.block id' c'=>id == id'&&fi c c'
 |.loop c,.loop _ _ _ _ c'=>fi c c'
 |.exit id,.exit id'=>id == id'
 |.ret,.ret=>true
 |_,_=>false
end
section
variable {P:Program} {cx:Cx} {aL:Nat->Option Nat} {G:List Nat} {N:Nat} {B:Nat->Prop} {X:Nat->Prop} {pin:Option (Nat×Nat)} {κ:Nat->List V->Option V}
def By {S:St} {W Wv Wa:List Nat} {s:Nat} (h:s∉Wa):(S.scrub W Wv Wa).A s=S.A s:=by
 simp[St.scrub,h]
def JU {S:St} {W Wv Wa:List Nat} {s:Nat} {x} (h:(S.scrub W Wv Wa).A s=some x):s∉Wa/\S.A s=some x:=by
 simp only[St.scrub] at h;split at h
 ·simp at h
 ·rename_i j;exact⟨by simpa using j,h⟩
def Bz {S:St} {W Wv Wa:List Nat} {α:Nat->Value} {v:Value} {s z n:Nat} (h:ew S α v s z n) (o:s∉Wa):ew (S.scrub W Wv Wa) α v s z n:=by
 obtain⟨rows,f,a,aJ,j,h⟩:=h;exact⟨rows,f,a,aJ,by rw[By o];exact j,h⟩
def wI {S:St} {W Wv Wa:List Nat} {α:Nat->Value} {w:World} {Y:Nat->Prop} {v:Value} {x:V} (h:bW cx w Y S α v x):bW cx w Y (S.scrub W Wv Wa) α v (Jv Wa x):=by
 cases x with
 |own s z n=>
  simp only[Jv];split
  ·exact aB.undef _
  ·rename_i j;exact Bz h (by simpa using j)
 |_=>exact h
def HQ {S:St} {W Wv Wa:List Nat} {α:Nat->Value} {β:Nat->Nat} {w:World} {Y:Nat->Prop} {v:Value} {x:V} (h:aG cx w Y S β α v x):aG cx w Y (S.scrub W Wv Wa) β α v (Ji Wv Wa x):=by
 cases x with
 |own s z n=>
  simp only[Ji];split
  ·exact aB.undef _
  ·rename_i y;exact Bz h (by simpa using y)
 |lref s o=>
  simp only[Ji];split
  ·exact aB.undef _
  ·rename_i y;obtain⟨h1,I⟩:=h;refine⟨?_,I⟩;have:Wv.contains s=false:=by simpa using y
   simp only[St.scrub,this];cases hm:S.μ s with
   |none=>simp[hm] at h1
   |some m=>simp
 |eref s i o m=>
  simp only[Ji];split
  ·exact aB.undef _
  ·rename_i y;obtain⟨z,rows,f,b,L,aJ,J,h⟩:=h;exact⟨z,rows,f,b,L,aJ,by rw[By (by simpa using y)];exact J,h⟩
 |agg vs=>
  simp only[Ji];split
  ·rename_i E;have j:Wa=[]:=by simpa using E
   subst j;obtain⟨cs,rfl,H,D⟩:=h;refine⟨cs,rfl,H,fun i hi=>?_⟩;obtain⟨u,p,q,r⟩:=D i hi;refine⟨u,p,q,?_⟩;have:=wI (W:=W) (Wv:=Wv) (Wa:=[]) r;have e:Jv [] (gv vs i)=gv vs i:=by cases gv vs i<;>simp[Jv]
   rwa [e] at this
  ·exact aB.undef _
 |tuple vs=>
  simp only[Ji];split
  ·rename_i E;have j:Wa=[]:=by simpa using E
   subst j;obtain⟨cs,rfl,H,D⟩:=h;refine⟨cs,rfl,H,fun i hi=>?_⟩;obtain⟨u,p,r⟩:=D i hi;refine⟨u,p,?_⟩;have:=wI (W:=W) (Wv:=Wv) (Wa:=[]) r;have e:Jv [] (gv vs i)=gv vs i:=by cases gv vs i<;>simp[Jv]
   rwa [e] at this
  ·exact aB.undef _
 |_=>exact h
def HR {S:St} {W Wv Wa:List Nat} {α:Nat->Value} {β:Nat->Nat} {w:World} {M:Nat->Prop} (h:aO cx B X S w β α M):aO cx B X (S.scrub W Wv Wa) w β α M:=by
 have hm:∀s cs f,(S.scrub W Wv Wa).μ s=some (cs,f)->∃j,S.μ s=some (j,f)/\cs=(bif Wa.isEmpty then j else j.map (Jv Wa)):=by
  intro s cs f o;simp only[St.scrub] at o;split at o
  ·simp at o
  ·cases hm:S.μ s with
   |none=>simp[hm] at o
   |some m=>
    simp only[hm,Option.map_some,Ga,Gi] at o;obtain⟨rfl,rfl⟩:=o;exact⟨m.1,rfl,rfl⟩
 have hi:∀s,((S.scrub W Wv Wa).μ s).isSome->(S.μ s).isSome:=fun s o=>by
  obtain⟨x,Q⟩:=GL.1 o;obtain⟨j,h0,-⟩:=hm s x.1 x.2 Q;simp[h0]
 refine⟨h.xb,h.glob,h.size,h.m,fun s cs f o=>?_,fun s I o D T=>h.varInj s I (hi s o) (hi I D) T,fun s z rows f o E=>h.arr s z rows f (JU o).2 E,
  fun s I z rows f U rows' f' o E D L=>h.arrInj s I z rows f U rows' f' (JU o).2 E (JU D).2 L,fun s z rows f I o E D=>h.arrVar s z rows f I (JU o).2 E (hi I D)⟩
 obtain⟨j,h0,rfl⟩:=hm s cs f o;obtain⟨a1,a2,a3,c,e,a4,a5,a6⟩:=h.var s j f h0;have H:(bif Wa.isEmpty then j else j.map (Jv Wa)).length=j.length:=by cases Wa.isEmpty<;>simp
 have O:∀i,i<j.length->gv (bif Wa.isEmpty then j else j.map (Jv Wa)) i=Jv Wa (gv j i):=by
  intro i y;cases R:Wa.isEmpty with
  |true=>
   have:Wa=[]:=by simpa using R
   subst this;simp only[cond_true];cases gv j i<;>simp[Jv]
  |false=>simp[gv,y]
 refine⟨a1,a2,fun E=>⟨(a3 E).1,?_⟩,c,e,a4,by rw[H];exact a5,fun i y=>?_⟩
 ·have J:=(a3 E).2;cases Wa.isEmpty with
  |true=>exact J
  |false=>
   simp only[cond_false,List.all_map,Gx,Function.comp] at J ⊢;intro x Q;have:=J x Q;cases x<;>simp_all [Jv,V.datC]
 ·rw[H] at y;obtain⟨u,p,q,r⟩:=a6 i y;exact⟨u,p,q,by rw[O i y];exact wI r⟩
def oI (x h t:Nat):cJ x h (cJ x h t)=t:=by
 unfold cJ;by_cases j:t=x
 ·subst j;simp only[GS];split
  ·rename_i e;exact e
  ·rfl
 ·rw[Gu j];by_cases o:t=h
  ·subst o;simp
  ·rw[Gu o,Gu j,Gu o]
def Ir {x h s t:Nat} (e:cJ x h s=cJ x h t):s=t:=by rw[<-oI x h s,e,oI]
section
variable {S:St} {α:Nat->Value} {β:Nat->Nat} {w:World} {Y:Nat->Prop} {x0 h0:Nat}
def BL {v:Value} {s z n:Nat} (h:ew S α v s z n):ew (S.ren x0 h0) (fun t=>α (cJ x0 h0 t)) v (cJ x0 h0 s) z n:=by
 obtain⟨rows,f,a,aJ,j,h⟩:=h;exact⟨rows,f,a,aJ,by simp only[St.ren,oI];exact j,by simpa only [oI] using h⟩
def wU {v:Value} {x:V} (h:bW cx w Y S α v x):bW cx w Y (S.ren x0 h0) (fun t=>α (cJ x0 h0 t)) v (JT x0 h0 x):=by
 cases x with
 |own s z n=>exact BL h
 |_=>exact h
def KD {v:Value} {x:V} (h:aG cx w Y S β α v x):aG cx w Y (S.ren x0 h0) β (fun t=>α (cJ x0 h0 t)) v (ip x0 h0 x):=by
 cases x with
 |own s z n=>exact BL h
 |lref s o=>
  obtain⟨h1,E⟩:=h;exact⟨by simp only[St.ren,Option.isSome_map];exact h1,E⟩
 |eref s i o m=>
  obtain⟨z,rows,f,b,I,aJ,H,h⟩:=h;exact⟨z,rows,f,b,I,aJ,by simp only[St.ren,oI];exact H,by simpa only [oI] using h⟩
 |agg vs=>
  obtain⟨cs,rfl,D,y⟩:=h;refine⟨cs,rfl,by simpa using D,fun i hi=>?_⟩;have j:i<vs.length:=by simpa using hi
  obtain⟨u,p,q,r⟩:=y i j;refine⟨u,p,q,?_⟩;have:=wU (x0:=x0) (h0:=h0) r;have e:gv (vs.map (JT x0 h0)) i=JT x0 h0 (gv vs i):=by simp[gv,j]
  rwa [<-e] at this
 |tuple vs=>
  obtain⟨cs,rfl,D,y⟩:=h;refine⟨cs,rfl,by simpa using D,fun i hi=>?_⟩;have j:i<vs.length:=by simpa using hi
  obtain⟨u,p,r⟩:=y i j;refine⟨u,p,?_⟩;have:=wU (x0:=x0) (h0:=h0) r;have e:gv (vs.map (JT x0 h0)) i=JT x0 h0 (gv vs i):=by simp[gv,j]
  rwa [<-e] at this
 |_=>exact h
def FK {x:V} (h:x.datC=true):JT x0 h0 x=x:=by cases x<;>simp_all [JT,V.datC]
def KE {M:Nat->Prop} (h:aO cx B X S w β α M):aO cx B X (S.ren x0 h0) w β (fun t=>α (cJ x0 h0 t)) M:=by
 have hm:∀s cs f,(S.ren x0 h0).μ s=some (cs,f)->∃o,S.μ s=some (o,f)/\cs=o.map (JT x0 h0):=by
  intro s cs f j;simp only[St.ren,G9,Gi] at j;obtain⟨m,hm,rfl,rfl⟩:=j;exact⟨m.1,hm,rfl⟩
 have hi:∀s,((S.ren x0 h0).μ s).isSome->(S.μ s).isSome:=fun s j=>by simpa [St.ren] using j
 refine⟨h.xb,h.glob,h.size,h.m,fun s cs f j=>?_,fun s H j y T=>h.varInj s H (hi s j) (hi H y) T,fun s z rows f j D=>h.arr (cJ x0 h0 s) z rows f j D,
  fun s H z rows f U rows' f' j D y O b R J=>Ir (h.arrInj (cJ x0 h0 s) (cJ x0 h0 H) z rows f U rows' f' j D y O b R J),fun s z rows f H j D y=>h.arrVar (cJ x0 h0 s) z rows f H j D (hi H y)⟩
 obtain⟨o,I,rfl⟩:=hm s cs f j;obtain⟨a1,a2,a3,c,e,a4,a5,a6⟩:=h.var s o f I;refine⟨a1,a2,fun D=>⟨(a3 D).1,?_⟩,c,e,a4,by simpa using a5,fun i E=>?_⟩
 ·have L:=(a3 D).2;simp only[List.all_map,Gx,Function.comp] at L ⊢;intro x Q;rw[FK (L x Q)];exact L x Q
 ·simp only[Gf] at E;obtain⟨u,p,q,r⟩:=a6 i E;have e:gv (o.map (JT x0 h0)) i=JT x0 h0 (gv o i):=by simp[gv,E]
  exact⟨u,p,q,by rw[e];exact wU r⟩
end
structure Cd (cx:Cx) (B X:Nat->Prop) (w:World) (β:Nat->Nat) (M:Nat->Prop) (S S':St) (α α':Nat->Value):Prop where
 hw:aO cx B X S w β α M->aO cx B X S' w β α' M
 ht:∀t u,aG cx w (aI X M) S β α u (S.ρ t)->aG cx w (aI X M) S' β α' u (S'.ρ t)
 hm:∀k,(S.μ k).isSome->(S'.μ k).isSome
 hu:∀t,S.ρ t=.undef->S'.ρ t=.undef
def FY {w:World} {β:Nat->Nat} {M:Nat->Prop} (S:St) (α:Nat->Value) (s j h:Nat):∃α',Cd cx B X w β M S (S.swp1 s j h) α α':=by
 unfold St.swp1;split
 ·split
  ·exact⟨_,⟨KE,fun t u h=>KD h,fun k o=>by simpa [St.ren] using o,fun t ht=>by simp[St.ren,ht,ip]⟩⟩
  ·exact⟨α,⟨fun h=>h,fun _ _ h=>h,fun _ h=>h,fun _ h=>h⟩⟩
 ·exact⟨α,⟨fun h=>h,fun _ _ h=>h,fun _ h=>h,fun _ h=>h⟩⟩
def Is {w:World} {β:Nat->Nat} {M:Nat->Prop}:∀(n:Nat) (L:List Nat) (S:St) (α:Nat->Value),L.length<=n->∃α',Cd cx B X w β M S (S.swps L) α α':=by
 intro n
 induction n with
 |zero=>
  intro L S α p;have:L=[]:=GA (by omega);subst this;exact⟨α,⟨fun h=>h,fun _ _ h=>h,fun _ h=>h,fun _ h=>h⟩⟩
 |succ n y=>
  intro L S α p
  match L,p with
  |[],_=>exact⟨α,⟨fun h=>h,fun _ _ h=>h,fun _ h=>h,fun _ h=>h⟩⟩
  |[a],_=>exact⟨α,⟨fun h=>h,fun _ _ h=>h,fun _ h=>h,fun _ h=>h⟩⟩
  |[a,b],_=>exact⟨α,⟨fun h=>h,fun _ _ h=>h,fun _ h=>h,fun _ h=>h⟩⟩
  |s::j::h::l,p=>
   obtain⟨α1,h1⟩:=FY (cx:=cx) (B:=B) (X:=X) (w:=w) (β:=β) (M:=M) S α s j h;obtain⟨α2,o⟩:=y l (S.swp1 s j h) α1 (by simp at p;omega);exact⟨α2,⟨fun h=>o.hw (h1.hw h),fun t u h=>o.ht t u (h1.ht t u h),fun k q=>o.hm k (h1.hm k q),fun t ht=>o.hu t (h1.hu t ht)⟩⟩
def g6 (k:Nat):C->Bool
 |.seq a b=>g6 k a&&g6 k b
 |.cond _ a b=>g6 k a&&g6 k b
 |.block _ c=>g6 k c
 |.loop _ _ Wv _ c=>!Wv.contains k&&g6 k c
 |_=>true
def uJ (pin:Option (Nat×Nat)) (c:C):Prop:=∀k b,pin=some (k,b)->g6 k c=true
def FR.head {W L Wv Wa:List Nat} {ds:List (Option Nat)} {e:Nat->V} {S:St} {tm:Array Value} {w:World} (j:∀k b,pin=some (k,b)->Wv.contains k=false) (h:FR cx B X pin G ds e S tm w):FR cx B X pin G [] (fun _=>.undef) (S.head W L Wv Wa) tm w:=by
 obtain⟨u,β,α,M,y,D,E,q⟩:=h;obtain⟨α',o⟩:=Is (cx:=cx) (B:=B) (X:=X) (w:=w) (β:=β) (M:=M) L.length L S α (Gt _);refine⟨fun t ht=>?_,β,α',M,HR (o.hw y),fun t=>?_,fun i d z=>by simp at z,fun k b p=>⟨?_,(q k b p).2⟩⟩
 ·simp only[St.head,St.scrub,o.hu t (u t ht),Ji];split<;>rfl
 ·simp only[St.head,St.scrub];split
  ·exact aB.undef _
  ·exact HQ (o.ht t _ (D t))
 ·have h1:=o.hm k (q k b p).1;simp only[St.head,St.scrub,j k b p,Gv,GO,Option.isSome_map];exact h1
def jE (cx:Cx) (B:Nat->Prop) (X:Nat->Prop) (pin:Option (Nat×Nat)) (G:List Nat) (N:Nat) (w:World) (S':St) (ex:Ex):Exit->Act->World->Prop:=fun e a' w'=>
 (match ex with|.norm=>e=.normal|.ret=>e=.ret|.exit id=>e=.exit id)/\FR cx B X pin G [] (fun _=>.undef) S' a'.tmps w'/\a'.defers=[]/\a'.tmps.size=N/\bC B w w'
def gJ (P:Program) (c:Code) (Q:Exit->Act->World->Prop) (a:Act) (w:World):Prop:=
 ∀(b:Frame) (k:List Item) (cs:List Frame),∃e a' w',Q e a' w'/\Arrives P (lone (b.at a (.code c::.inLoop c::k)) cs w) b k cs e a' w'
def gJ.loop {c:Code} {Q:Exit->Act->World->Prop} {a:Act} {w:World} (h:gJ P c Q a w):(Code.loop c).wp P Q a w:=fun b k cs=>by
 obtain⟨e,o,w',p,j⟩:=h b k cs;exact⟨e,o,w',p,.of_steps (.one step_loop) j⟩
def gJ.round {c:Code} {Q:Exit->Act->World->Prop} {a:Act} {w:World} (h:c.wp P (Exit.then (gJ P c Q) Q) a w):gJ P c Q a w:=fun b k cs=>by
 obtain⟨e,o,p,y,j⟩:=h b (.inLoop c::k) cs;cases e with
 |normal=>
  obtain⟨D,z,E,u,q⟩:=y b k cs;exact⟨D,z,E,u,.of_steps (Steps.trans j (.one step_inLoop)) q⟩
 |exit id=>exact⟨_,o,p,y,.pass (x:=.inLoop c) rfl (fun _ _=>.inl (by simp)) j⟩
 |goto l=>exact⟨_,o,p,y,.pass (x:=.inLoop c) rfl (fun _ _=>.inl (by simp)) j⟩
 |ret=>exact⟨_,o,p,y,.pass (x:=.inLoop c) rfl (fun _ _=>.inl (by simp)) j⟩
 |panic H=>exact⟨_,o,p,y,.pass (x:=.inLoop c) rfl (fun _ _=>.inl (by simp)) j⟩
 |outgrown=>exact⟨_,o,p,y,.pass (x:=.inLoop c) rfl (fun _ _=>.inl (by simp)) j⟩
def AX (hm:P.follows .mixedOrders=true) (hκ:nW P cx aL κ):∀(m:Nat),
  (∀(c:Code) (c':C) (S S':St) (E:Ex) (a:Act) (w:World),fi P cx aL G N c c'=true->uJ pin c'->Je κ m c' S=some (E,S')->FR cx B X pin G [] (fun _=>.undef) S a.tmps w->a.defers=[]->a.tmps.size=N->
   c.wp P (jE cx B X pin G N w S' E) a w)/\
  (∀(c:Code) (W L Wv Wa:List Nat) (c':C) (S S':St) (E:Ex) (a:Act) (w:World),fi P cx aL G N c c'=true->uJ pin (.loop W L Wv Wa c')->Je κ m (.loop W L Wv Wa c') S=some (E,S')->FR cx B X pin G [] (fun _=>.undef) S a.tmps w->a.defers=[]->a.tmps.size=N->
   gJ P c (jE cx B X pin G N w S' E) a w):=by
 intro m
 induction m with
 |zero=>exact⟨fun c c' S S' E a w _ _ h=>by simp[Je] at h,fun c W L Wv Wa c' S S' E a w _ _ h=>by simp[Je] at h⟩
 |succ m ih=>
  obtain⟨J,ad⟩:=ih
  have loop:∀(c:Code) (W L Wv Wa:List Nat) (c':C) (S S':St) (E:Ex) (a:Act) (w:World),fi P cx aL G N c c'=true->uJ pin (.loop W L Wv Wa c')->Je κ (m+1) (.loop W L Wv Wa c') S=some (E,S')->FR cx B X pin G [] (fun _=>.undef) S a.tmps w->a.defers=[]->a.tmps.size=N->
    gJ P c (jE cx B X pin G N w S' E) a w:=by
   intro c W L Wv Wa c' S S' E a w j u o U H Z
   have ab:uJ pin c':=fun k b I=>by have:=u k b I;simp only[g6,Gg] at this;exact this.2
   have ac:∀k b,pin=some (k,b)->Wv.contains k=false:=fun k b I=>by have:=u k b I;simp only[g6,Gg,GI] at this;exact this.1
   simp only[Je,Gc] at o
   obtain⟨⟨x,S2⟩,h1,p⟩:=o
   refine gJ.round (wp_mono (J c c' _ S2 x a w j ab h1 (U.head ac) H Z) fun e a' w' hp=>?_)
   obtain⟨D,O,Q,R,T⟩:=hp
   cases x with
   |norm=>
    simp only at D p
    subst D
    intro b k cs
    obtain⟨e2,a2,w2,q,r⟩:=ad c W L Wv Wa c' S2 S' E a' w' j u p O Q R b k cs
    obtain⟨q1,q2,q3,q4,q5⟩:=q
    exact⟨e2,a2,w2,⟨q1,q2,q3,q4,T.trans q5⟩,r⟩
   |ret=>
    simp only[Ga,Gi] at D p
    obtain⟨rfl,rfl⟩:=p
    subst D
    exact⟨rfl,O,Q,R,T⟩
   |exit id=>
    simp only[Ga,Gi] at D p
    obtain⟨rfl,rfl⟩:=p
    subst D
    exact⟨rfl,O,Q,R,T⟩
  refine⟨fun c c' S S' E a w j u o U H Z=>?_,loop⟩
  cases c' with
  |skip=>
   cases c<;>try (simp[fi] at j;done)
   simp only[Je,Ga,Gi] at o
   obtain⟨rfl,rfl⟩:=o
   exact wp_skip ⟨rfl,U,H,Z,bC.refl _ _⟩
  |ret=>
   cases c<;>try (simp[fi] at j;done)
   simp only[Je,Ga,Gi] at o
   obtain⟨rfl,rfl⟩:=o
   exact wp_ret ⟨rfl,U,H,Z,bC.refl _ _⟩
  |exit id=>
   cases c<;>try (simp[fi] at j;done)
   simp only[fi,GT] at j
   subst j
   simp only[Je,Ga,Gi] at o
   obtain⟨rfl,rfl⟩:=o
   exact wp_exit ⟨rfl,U,H,Z,bC.refl _ _⟩
  |region dr ps=>
   cases c<;>try (simp[fi] at j;done)
   simp only[fi] at j
   simp only[Je,Gc,Ga,Gi] at o
   obtain⟨S2,hr,rfl,rfl⟩:=o
   exact D0 hm hκ j U H Z hr fun a' w' q1 q2 q3 q4=>⟨rfl,q1,q2,q3,q4⟩
  |seq x y=>
   cases c<;>try (simp[fi] at j;done)
   rename_i af ag
   simp only[fi,Gg] at j
   simp only[Je,Gc] at o
   obtain⟨⟨e1,S2⟩,h1,p⟩:=o
   refine wp_seq (wp_mono (J _ x S S2 e1 a w j.1 (fun k b I=>by have:=u k b I;simp only[g6,Gg] at this;exact this.1) h1 U H Z) fun e a' w' hp=>?_)
   obtain⟨D,O,Q,R,T⟩:=hp
   cases e1 with
   |norm=>
    simp only at D p
    subst D
    exact wp_mono (J _ y S2 S' E a' w' j.2 (fun k b I=>by have:=u k b I;simp only[g6,Gg] at this;exact this.2) p O Q R) fun e ae aj ⟨q1,q2,q3,q4,q5⟩=>⟨q1,q2,q3,q4,T.trans q5⟩
   |ret=>
    simp only[Ga,Gi] at D p
    obtain⟨rfl,rfl⟩:=p
    subst D
    exact⟨rfl,O,Q,R,T⟩
   |exit id=>
    simp only[Ga,Gi] at D p
    obtain⟨rfl,rfl⟩:=p
    subst D
    exact⟨rfl,O,Q,R,T⟩
  |cond x y z=>
   cases c<;>try (simp[fi] at j;done)
   simp only[fi,Gg] at j
   simp only[Je] at o
   split at o<;>try (simp at o;done)
   rename_i t ht
   have aa:=U
   obtain⟨hG,β,α,M,hW,hg,hl,ah⟩:=U
   have hr:=J1 (a:=a) (ds:=[]) (e:=fun _=>.undef) hg (fun i d H=>by simp at H) j.1.1
   rw[ht] at hr
   refine wp_cond (JZ hr) ?_
   cases t
   ·exact J _ z S S' E a w j.2 (fun k b I=>by have:=u k b I;simp only[g6,Gg] at this;exact this.2) (by simpa using o) aa H Z
   ·exact J _ y S S' E a w j.1.2 (fun k b I=>by have:=u k b I;simp only[g6,Gg] at this;exact this.1) (by simpa using o) aa H Z
  |block id x=>
   cases c<;>try (simp[fi] at j;done)
   simp only[fi,Gg,GT] at j
   obtain⟨rfl,j⟩:=j
   simp only[Je,Gc] at o
   obtain⟨⟨e1,S2⟩,h1,p⟩:=o
   refine wp_block (wp_mono (J _ x S S2 e1 a w j (fun k b I=>by have:=u k b I;simpa only [g6] using this) h1 U H Z) fun e a' w' hp=>?_)
   obtain⟨D,O,Q,R,T⟩:=hp
   cases e1 with
   |norm=>
    simp only[Ga,Gi] at D p
    obtain⟨rfl,rfl⟩:=p
    subst D
    exact⟨rfl,O,Q,R,T⟩
   |ret=>
    simp only[Ga,Gi] at D p
    obtain⟨rfl,rfl⟩:=p
    subst D
    exact⟨rfl,O,Q,R,T⟩
   |exit ai=>
    simp only at D p
    subst D
    simp only[Exit.inBlock]
    split at p
    ·rename_i he
     simp only[Ga,Gi] at p
     obtain⟨rfl,rfl⟩:=p
     rw[GE he]
     exact⟨rfl,O,Q,R,T⟩
    ·rename_i he
     simp only[Ga,Gi] at p
     obtain⟨rfl,rfl⟩:=p
     rw[Gu he]
     exact⟨rfl,O,Q,R,T⟩
  |loop W L Wv Wa x=>
   cases c<;>try (simp[fi] at j;done)
   simp only[fi] at j
   exact (loop _ W L Wv Wa x S S' E a w j u o U H Z).loop
end
def aL (Pg:Nat->Option Fn) (f:Nat):Option Nat:=
 match Pg f with
 |some (.code F)=>F.own
 |some (.prim own _)=>own
 |some (.codeR _ k)=>some (3000+k)
 |none=>none
section
variable (P:Program) (cx:Cx) (Pg:Nat->Option Fn)
def jt (o:List ResultVar) (j:List nZ):Bool:=
 match o,j with
 |[],[]=>true
 |.tmp t::o,.t t'::j=>t == t'&&jt o j
 |.cell a t::o,.cell a' n::j=>a == a'&&(P.underlying t).isSome&&(if Jt P t then dl P t == n&&n.isSome else n.isNone)&&jt o j
 |_,_=>false
def fQ (f:FuncId) (F:F):Bool:=
 match P.funcs[f]? with
 |some fn=>(fn.name == "runtime.NumGoroutine") == false&&(match fn.body with|some c=>fi P cx (aL Pg) F.gl fn.ntmps c F.body|none=>false) &&
   decide (F.np<=fn.ntmps)&&(List.range F.np).all (F.gl.contains ·)&&jt P fn.results.toList F.res&&(match F.own with|some j=>decide (j<F.res.length)&&decide (j<1000)|none=>true)
 |none=>false
end
section
variable {P:Program} {cx:Cx} {Pg:Nat->Option Fn} {X:Nat->Prop}
theorem AO {α β:Type} {f:Nat->α->Option β}:∀{l:List α} {r:List β} {k:Nat},J4 f k l=some r->r.length=l.length/\∀(i:Nat) (x:α),l[i]?=some x->∃y,r[i]?=some y/\f (k+i) x=some y
 |[],r,k,h=>by simp only[J4,Ga] at h;subst h;exact⟨rfl,fun i x j=>by simp at j⟩
 |a::l,r,k,h=>by
  simp only[J4,Gc,Ga] at h;obtain⟨y,q,u,o,rfl⟩:=h;obtain⟨h1,p⟩:=AO o;refine⟨by simp[h1],fun i x j=>?_⟩;cases i with
  |zero=>simp at j;subst j;exact⟨y,rfl,q⟩
  |succ i=>have:=p i x (by simpa using j);simpa [G5,Nat.add_comm 1 i] using this
theorem ez {B:Nat->Prop} {S:St} {w:World} {β:Nat->Nat} {α:Nat->Value} {M:Nat->Prop} {tm:Array Value} (hW:aO cx B X S w β α M) (hg:∀t,aG cx w (aI X M) S β α (tm.getD t undef) (S.ρ t)) :
  ∀(rs:List ResultVar) (qs:List nZ) (vs:List V),jt P rs qs=true->Jo (fL S) qs=some vs->
   ∃us:List Value,(rs.mapM fun|.tmp t=>pure (tm.getD t undef)|.cell a t=>do loadVar t (<-asAddr (tm.getD a undef)):Sem (List Value)).run P w=.ok us w/\
    us.length=vs.length/\∀i,i<vs.length->∃u,us[i]?=some u/\aG cx w (aI X M) S β α u (gv vs i)
 |[],[],vs,_,h=>by
  simp only[Jo,Ga] at h;subst h;exact⟨[],by simp,rfl,fun i hi=>by simp at hi⟩
 |r::rs,q::qs,vs,hok,h=>by
  simp only[Jo,Gc,Ga] at h;obtain⟨v,hv,ws,hws,rfl⟩:=h;have hok':jt P rs qs=true:=by
   unfold jt at hok;split at hok<;>simp_all
  obtain⟨us,h1,h2,h3⟩:=ez hW hg rs qs ws hok' hws;have key:∃u,((match r with|.tmp t=>pure (tm.getD t undef)|.cell a t=>do loadVar t (<-asAddr (tm.getD a undef))):Sem Value).run P w=.ok u w/\aG cx w (aI X M) S β α u v:=by
   cases r with
   |tmp t=>
    cases q with
    |cell a n=>simp[jt] at hok
    |t t'=>
     simp only[jt,Gg,GT] at hok;obtain⟨rfl,-⟩:=hok;simp only[fL,Ga] at hv;subst hv;exact⟨tm.getD t undef,by simp,hg t⟩
   |cell a t=>
    cases q with
    |t t'=>simp[jt] at hok
    |cell a' n=>
     simp only[jt,Gg,GT] at hok;obtain⟨⟨⟨rfl,hu⟩,hn⟩,-⟩:=hok;have ha:=hg a;simp only[fL] at hv;split at hv<;>try (simp at hv;done)
     rename_i s hs;split at hv<;>try (simp at hv;done)
     rename_i cs f hm;rw[hs] at ha;have hld:=wL (P:=P) (t:=t) (n:=n) (l:=.v s) (p:=.lref s 0) (r:=v) hW ha hu hn (by simp[Jx,hm,hv]);obtain⟨u,hrun,hr⟩:=hld;refine⟨u,?_,hr⟩
     show (do let x <-asAddr (tm.getD a undef);loadVar t x:Sem Value).run P w=_
     rw[A8 ha] at hrun ⊢;simpa [Instr.loadAt,Instr.sureAddr,asAddr] using hrun
  obtain⟨u,hrun,hr⟩:=key;refine⟨u::us,?_,by simp[h2],fun i hi=>?_⟩
  ·rw[List.mapM_cons,Sem.run_bind,hrun];simp only[Result.andThen,Sem.run_bind,h1,Sem.run_pure]
  ·cases i with
   |zero=>exact⟨u,rfl,by simpa [gv] using hr⟩
   |succ i=>obtain⟨x,p,q⟩:=h3 i (by simpa using hi);exact⟨x,by simpa using p,by simpa [gv] using q⟩
 |[],_::_,vs,hok,h=>by simp[jt] at hok
 |_::_,[],vs,hok,h=>by
  unfold jt at hok;split at hok<;>simp_all
def Hz (l:List V) (j:Nat) (h:j<l.length):l[j]?=some (gv l j):=by simp[gv,h]
def oz {S:St} {w w':World} {β:Nat->Nat} {α:Nat->Value} {M:Nat->Prop} {own:Option Nat} {vs rs:List V} {us:List Value} (hW:aO cx (·<w.heap.size) X S w' β α M)
  (cK:us.length=vs.length) (hr:∀i,i<vs.length->∃u,us[i]?=some u/\aG cx w' (aI X M) S β α u (gv vs i)) (ho:J4 (jV S.A own) 0 vs=some rs) (hown:∀j,own=some j->j<vs.length) :
  i7 cx w w' X own (if us.length=1 then us.getD 0 undef else .tuple us.toArray) (jv rs):=by
 obtain⟨h1,h2⟩:=AO ho
 have at_:∀i,i<rs.length->∃u,us[i]?=some u/\aG cx w' (aI X M) S β α u (gv vs i)/\jV S.A own i (gv vs i)=some (gv rs i):=fun i hi=>by
  have hi':i<vs.length:=by omega
  obtain⟨u,p,q⟩:=hr i hi';obtain⟨y,y1,y2⟩:=h2 i vs[i] (by simp[hi']);refine⟨u,p,q,?_⟩;have e1:gv vs i=vs[i]:=by simp[gv,hi']
  have e2:gv rs i=y:=by simp[gv,y1]
  rw[e1,e2];simpa using y2
 have hxb:∀s b,hdr (α s)=some b->(∃z rows f,S.A s=some (z,rows,f)/\f≠.dead)->¬X b:=fun s b hb hex hx=>by
  obtain⟨z,rows,f,e1,e2⟩:=hex;exact ((hW.arr s z rows f e1 e2).2 b hb).1 (hW.xb b hx)
 cases own with
 |none=>
  have hd:∀i,i<rs.length->∃u,us[i]?=some u/\aB cx w' X u (gv rs i):=fun i hi=>by
   obtain⟨u,p,q,r⟩:=at_ i hi;simp only[jV,reduceCtorEq,GO,GS] at r;exact⟨u,p,oG hW q r (fun b hb=>.inl hb) (fun s _ b hb hex=>hxb s b hb hex)⟩
  match rs,hd,h1 with
  |[r],hd,h1=>
   obtain⟨u,p,q⟩:=hd 0 (by simp)
   have:us.length=1:=by simp at h1;omega
   rw[GE this]
   simp only[jv]
   have:us.getD 0 undef=u:=by simp[List.getD_eq_getElem?_getD,p]
   rw[this];exact q
  |[],hd,h1=>
   have:us=[]:=GA (by simp at h1;omega)
   subst this
   exact aB.tuple #[] [] (fun _=>undef) rfl (fun i hi=>by simp at hi) (fun i hi=>by simp at hi)
  |r::r'::rs,hd,h1=>
   rw[Gu (by simp at h1;omega)]
   obtain⟨u,hu⟩:=jT hd
   exact aB.tuple us.toArray _ u (by simp at h1 ⊢;omega) (fun i hi=>by simpa using (hu i hi).1) (fun i hi=>(hu i hi).2)
 |some j=>
  have hj:j<rs.length:=by have:=hown j rfl;omega
  ·obtain⟨u,p,q,r⟩:=at_ j hj
   simp only[jV,GS] at r
   split at r<;>try (simp at r;done)
   rename_i s z n hs
   split at r<;>try (simp at r;done)
   rename_i z' rows hA
   split at r<;>simp only[Ga,reduceCtorEq] at r
   rename_i hc
   obtain⟨rfl,hn⟩:=hc
   rw[hs] at q
   obtain⟨rows',f,a,aJ,hA',rfl,ha,hoo⟩:=q
   rw[hA] at hA'
   simp only[Ga,Gi] at hA'
   obtain⟨-,rfl,rfl⟩:=hA'
   have hα:=(hoo (by simp)).2 hn
   obtain⟨a1,a2⟩:=hW.arr s z' rows .live hA (by simp)
   have hsub:∀b,hdr (α s)=some b->M b:=fun b hb=>(a2 b hb).2.1 rfl
   have hE:∀u x,aB cx w' (aI X M) u x->aB cx w' (aI X (fun b=>hdr (α s)=some b)) u x:=fun _ _ hr=>ju hsub hr
   refine⟨α s,z',rows,fun b=>hdr (α s)=some b,fun b hb=>⟨Nat.le_of_not_lt (a2 b hb).1,a1.lt hb⟩,fun b hb=>hb,a1.tr hE (fun _ _=>rfl),?_⟩
   have oth:∀i,i<rs.length->i≠j->∃u,us[i]?=some u/\aB cx w' (aI X (fun b=>hdr (α s)=some b)) u (gv rs i):=fun i hi hne=>by
    obtain⟨u,p,q,r⟩:=at_ i hi;simp only[jV,Ga,Ne.symm hne,GO,reduceCtorEq] at r;split at r<;>try (simp at r;done)
    rename_i hd;refine⟨u,p,oG hW q r (fun b hb=>hb.imp id (hsub b)) (fun t ht b hb hex hn=>?_)⟩;rcases hn with hx|hx
    ·exact hxb t b hb hex hx
    ·have h1:=Gx.1 hd t ht;obtain⟨z1,rows1,f1,e1,e2⟩:=hex;rw[e1] at h1;have hf:f1=.frz:=by cases f1<;>simp[BT] at h1<;>rfl
     subst hf;exact ((hW.arr t z1 rows1 .frz e1 e2).2 b hb).2.2 rfl (hsub b hx)
   match rs,at_,h1,hj,r,oth with
   |[r0],at_,h1,hj,r,oth=>
    have:us.length=1:=by simp at h1;omega
    rw[GE this]
    have hj0:j=0:=by simp at hj;exact hj
    subst hj0
    refine .inl ⟨by simpa [jv,gv] using r.symm,?_⟩
    rw[<-hα];simp[List.getD_eq_getElem?_getD,p]
   |r0::r1::rs,at_,h1,hj,r,oth=>
    rw[Gu (by simp at h1;omega)]
    refine .inr ⟨r0::r1::rs,us.toArray,rfl,rfl,by simp at h1 ⊢;omega,hj,?_,by rw[<-hα];simpa using p,fun i hi hne=>?_⟩
    ·exact (Hz _ j hj).trans (by rw[<-r])
    ·obtain⟨u',p',q'⟩:=oth i hi hne
     exact⟨u',by simpa using p',q'⟩
   |[],at_,h1,hj,r,oth=>simp at hj
theorem En {f : Nat} {F : F} {κ : Nat -> List V -> Option V} {n : Nat} {args : List V} {r : V} (hm : P.follows .mixedOrders = true) (hκ : nW P cx (aL Pg) κ)
    (y : fQ P cx Pg (cx.fm f) F = true) (hF : Pg f = some (.code F)) (ad : args.length = F.np)
    (hr : ((Je κ n F.body (JD args)).bind fun r => match r.1 with
          | .norm | .ret => mu F r.2
          | .exit _ => none) = some r) : gi P cx (aL Pg f) f args r := by
  unfold fQ at y
  split at y <;> try (simp at y; done)
  rename_i fn H
  simp only [Gg, GT, Gn] at y
  obtain ⟨⟨⟨⟨⟨k1, k2⟩, k3⟩, k4⟩, k5⟩, k6⟩ := y
  split at k2 <;> try (simp at k2; done)
  rename_i c hc
  have I : aL Pg f = F.own := by simp [aL, hF]
  refine ⟨⟨fn, H, k1, by simp [hc]⟩, fun w X vs hX U hG ae J => ?_⟩
  simp only [Gc] at hr
  obtain ⟨⟨ex, S'⟩, T, o⟩ := hr
  have R : aO cx (· < w.heap.size) X (JD args) w (fun _ => 0) (fun _ => undef) (fun _ => False) :=
    ⟨hX, ⟨fun b S => GY S U, hG⟩, fun _ h => h, fun b S => S.elim, fun s cs f B => by simp [JD] at B, fun s s' B => by simp [JD] at B, fun s z rows f B => by simp [JD] at B, fun s s' z rows f z' rows' f' B => by simp [JD] at B, fun s z rows f s' B => by simp [JD] at B⟩
  have Q : FR cx (· < w.heap.size) X none F.gl [] (fun _ => .undef) (JD args) (vs ++ Array.replicate (fn.ntmps - vs.size) undef) w := by
    refine ⟨fun t ht => ?_, _, _, _, R, fun t => ?_, fun i d hd => by simp at hd, fun k b W => by simp at W⟩
    · have : ¬ t < F.np := fun Y => ht (by
        have := Gx.1 k4 t (G2.2 Y);simpa using this)
      simp only [JD]
      rw [List.getElem?_eq_none (by omega)]; rfl
    · by_cases ht : t < args.length
      · obtain ⟨u, p, q⟩ := J t ht
        have : (vs ++ Array.replicate (fn.ntmps - vs.size) undef).getD t undef = u := by
          rw [Array.getD_eq_getD_getElem?, Array.getElem?_append_left (by omega), p]; rfl
        rw [this]
        have : (JD args).ρ t = gv args t := by simp [JD, gv, List.getD_eq_getElem?_getD]
        rw [this]
        exact .of_data (q.mono (Gt _) (fun _ _ _ => rfl) (fun b _ hn hx => hn (hx.resolve_right id)))
      · have : (JD args).ρ t = .undef := by simp only [JD]; rw [List.getElem?_eq_none (by omega)]; rfl
        rw [this]; exact aB.undef _
  refine calls_of_wp H hc (wp_mono ((AX (N := fn.ntmps) hm hκ n).1 c F.body (JD args) S' ex _ w k2 (fun k b W => by simp at W) T Q rfl (by simp; omega)) fun e a' w' hp => ?_)
  obtain ⟨p1, p2, p3, p4, p5⟩ := hp
  have E : mu F S' = some r /\ (e = .normal \/ e = .ret) := by
    cases ex with
    | norm => exact ⟨o, .inl p1⟩
    | ret => exact ⟨o, .inr p1⟩
    | exit id => simp at o
  obtain ⟨o, he⟩ := E
  unfold mu at o
  simp only [Gc, Ga] at o
  obtain ⟨ac, O, rs, aa, rfl⟩ := o
  obtain ⟨hG, β, α, M, hW, hg, hl, -⟩ := p2
  obtain ⟨us, L, Z, ab⟩ := ez (P := P) hW hg fn.results.toList F.res ac k5 O
  have D : (results fn a'.tmps).run P w' = .ok (if us.length = 1 then us.getD 0 undef else .tuple us.toArray) w' := by
    unfold results;rw [Array.mapM_eq_mapM_toList];simp only [map_eq_pure_bind, bind_assoc, pure_bind, Sem.run_bind]
    erw [L]
    simp only [Result.andThen, Sem.run_pure, kX]
    congr 1
    split
    · rename_i h1
      rw [List.getD_eq_getElem?_getD]
      simp [h1]
    · rfl
  have af := (JB O).1
  have hR := oz hW Z ab aa (fun j hj => by rw [hj] at k6; simp only [Gg, Gn] at k6; omega)
  rw [I]
  rcases he with rfl | rfl
  · exact ⟨p3, _, D, _, rfl, p5.below fun _ h => h, hR⟩
  · exact ⟨p3, _, D, _, rfl, p5.below fun _ h => h, hR⟩
def Fd {A j:AA} (J:eV A j) {x y:V} (h:dv j x=some y):dv A x=some y/\∀s∈Jd x,∃z rows f,j s=some (z,rows,f)/\f≠.dead:=by
 have one:∀{x y:V},aY j x=some y->aY A x=some y/\∀s∈Jc x,∃z rows f,j s=some (z,rows,f)/\f≠.dead:=by
  intro x y h;cases x with
  |own s z n=>
   simp only[aY] at h;split at h
   ·rename_i N rows f w;split at h<;>simp only[Ga,reduceCtorEq] at h;rename_i q;have:=J.keep w q.2.2;refine⟨by simp only[aY,this,GE q,h],fun t ht=>?_⟩;simp only[Jc,GN,List.not_mem_nil,or_false] at ht;subst ht;exact⟨N,rows,f,w,q.2.2⟩
   ·simp at h
  |_=>exact⟨h,fun s hs=>by simp[Jc] at hs⟩
 cases x with
 |agg cs=>
  simp only[dv,G9] at h ⊢;obtain⟨p,L,rfl⟩:=h;have:∀(l:List V) (p:List V),Jo (aY j) l=some p->Jo (aY A) l=some p/\∀s∈l.flatMap Jc,∃z rows f,j s=some (z,rows,f)/\f≠.dead:=by
   intro l
   induction l with
   |nil=>intro p h;exact⟨h,fun s hs=>by simp at hs⟩
   |cons a l M=>
    intro p h;simp only[Jo,Gc,Ga] at h;obtain⟨y,h1,u,I,rfl⟩:=h;obtain⟨a1,a2⟩:=one h1;obtain⟨B,D⟩:=M u I;refine⟨by simp only[Jo,a1,B,Option.bind_some],fun s hs=>?_⟩;simp only[GH,GV] at hs;rcases hs with hs|hs
    ·exact a2 s hs
    ·exact D s hs
  obtain⟨E,H⟩:=this cs p L;exact⟨⟨p,E,rfl⟩,fun s hs=>H s (by simpa [Jd] using hs)⟩
 |own s z n=>exact one (x:=.own s z n) h
 |undef=>exact⟨h,fun s hs=>by simp[Jd,Jc] at hs⟩
 |bool b=>exact⟨h,fun s hs=>by simp[Jd,Jc] at hs⟩
 |int k n=>exact⟨h,fun s hs=>by simp[Jd,Jc] at hs⟩
 |str s=>exact⟨h,fun s hs=>by simp[Jd,Jc] at hs⟩
 |slice z r=>exact⟨h,fun s hs=>by simp[Jd,Jc] at hs⟩
 |tuple c=>simp[dv,aY,V.datC] at h
 |func f c=>exact⟨h,fun s hs=>by simp[Jd,Jc] at hs⟩
 |cptr c o=>exact⟨h,fun s hs=>by simp[Jd,Jc] at hs⟩
 |lref s o=>simp[dv,aY,V.datC] at h
 |eref s i o n=>simp[dv,aY,V.datC] at h
 |iface t v=>exact⟨h,fun s hs=>by simp[Jd,Jc] at hs⟩
 |niface=>exact⟨h,fun s hs=>by simp[Jd,Jc] at hs⟩
 |nslice z=>exact⟨h,fun s hs=>by simp[Jd,Jc] at hs⟩
 |xslice z r=>exact⟨h,fun s hs=>by simp[Jd,Jc] at hs⟩
theorem jh {f k : Nat} {F : F} {κ : Nat -> List V -> Option V} {n : Nat} {args cs : List V} {S0 : St} {r : V} (hm : P.follows .mixedOrders = true) (hκ : nW P cx (aL Pg) κ)
    (hok : fQ P cx Pg (cx.fm f) F = true) (hown : F.own = none) (hns : g6 k F.body = true) (cK : args.length = F.np) (hk : args[k]? = some (.tuple (.lref 0 0 :: cs))) (h0 : ea args k cs = some S0)
    (hr : ((Je κ n F.body S0).bind fun r => match r.1 with
          | .norm | .ret => nM F k r.2
          | .exit _ => none) = some r) : jF P cx k f args r := by
  unfold fQ at hok
  split at hok <;> try (simp at hok; done)
  rename_i fn hfn
  simp only [Gg, GT, Gn] at hok
  obtain ⟨⟨⟨⟨⟨k1, k2⟩, k3⟩, k4⟩, k5⟩, k6⟩ := hok
  split at k2 <;> try (simp at k2; done)
  rename_i c hc
  refine ⟨⟨fn, hfn, k1, by simp [hc]⟩, fun w X N b vs di hX hN hgn hG hsz hk' hvk hRef hrel => ?_⟩
  rw [hk] at hk'
  simp only [Ga, V.tuple.injEq, List.cons.injEq, true_and] at hk'
  subst hk'
  obtain ⟨hNb, l, el, hwb, hTr, hnd⟩ := hRef
  obtain ⟨hnd1, hnd2⟩ := mt.1 hnd
  simp only [Gc] at hr
  obtain ⟨⟨ex, S'⟩, hex, hfin⟩ := hr
  simp only [ea, Gc, Ga] at h0
  obtain ⟨⟨cells, A0⟩, ht0, rfl⟩ := h0
  have hBN : ∀ b, N b -> ¬ (b < w.heap.size /\ ¬ N b) := fun b h1 h2 => h2.2 h1
  have hRE : aO cx (fun b => b < w.heap.size /\ ¬ N b) X ⟨fun i => if i = k then .lref k 0 else (args[i]?).getD .undef, fun _ => none, fun _ => none⟩ w (fun _ => 0) (fun _ => undef) N :=
    ⟨fun b hb => ⟨hX b hb, fun hh => (hN b hh).2.1 hb⟩, ⟨fun b hb => ⟨GY hb hgn, fun hh => by have := (hN b hh).2.2; omega⟩, hG⟩, fun b hb => hb.1, fun b hb => ⟨hBN b hb, (hN b hb).1⟩,
      fun s cs f hs => by simp at hs, fun s s' hs => by simp at hs, fun s z rows f hs => by simp at hs, fun s s' z rows f z' rows' f' hs => by simp at hs, fun s z rows f s' hs => by simp at hs⟩
  obtain ⟨α0, t1, t2, t3, t4⟩ := eP cs 9000 _ (fun _ => undef) A0 cells l hRE ht0 hTr hnd2 (fun h hh => ⟨fun s hs => by simp at hs, fun s z rows f hs => by simp at hs⟩)
  have hRW := t1.addVar (d := k) (b0 := b) (cs := cells) rfl hNb hwb (by simpa using t2.1) (fun i hi => by obtain ⟨u, p, q, r⟩ := t2.2 i hi; exact ⟨u, by simpa using p, q, r⟩)
    (fun s hs => by simp at hs) (fun s z rows f hs hf hx => by
      rcases t4 s z rows f hs hf _ hx with h' | ⟨z1, r1, f1, b1, b2, b3⟩
      · exact hnd1 h'
      · simp at b1)
  have hkl : k < args.length := by
    rcases GD k args.length with h' | h'
    · exact h'
    · rw [List.getElem?_eq_none h'] at hk; simp at hk
  have hFR : FR cx (fun b => b < w.heap.size /\ ¬ N b) X (some (k, b)) F.gl [] (fun _ => .undef) ⟨fun i => if i = k then .lref k 0 else (args[i]?).getD .undef, aE (fun _ => none) k (some (cells, false)), A0⟩ (vs ++ Array.replicate (fn.ntmps - vs.size) undef) w := by
    have hin : ∀ t, t < F.np -> t ∈ F.gl := fun t hlt => by
      have := Gx.1 k4 t (G2.2 hlt);simpa using this
    refine ⟨fun t ht => ?_, _, _, _, hRW, fun t => ?_, fun i d hd => by simp at hd, fun k' b' hkb => ?_⟩
    · have : ¬ t < F.np := fun hlt => ht (hin t hlt)
      have hne : t ≠ k := by omega
      simp only [Gu hne]
      rw [List.getElem?_eq_none (by omega)]; rfl
    · by_cases hne : t = k
      · subst hne
        simp only [GS]
        refine ⟨by simp [aE], ?_⟩
        have : t < vs.size := by omega
        rw [Array.getD_eq_getD_getElem?, Array.getElem?_append_left this, hvk]
        simp [aE]
      · simp only [Gu hne]
        by_cases ht : t < args.length
        · obtain ⟨u, p, q⟩ := hrel t ht hne
          have : (vs ++ Array.replicate (fn.ntmps - vs.size) undef).getD t undef = u := by
            rw [Array.getD_eq_getD_getElem?, Array.getElem?_append_left (by omega), p]; rfl
          rw [this]
          have : (args[t]?).getD .undef = gv args t := by simp [gv, List.getD_eq_getElem?_getD]
          rw [this]
          exact .of_data q
        · rw [List.getElem?_eq_none (by omega)]; exact aB.undef _
    · simp only [Ga, Gi] at hkb
      obtain ⟨rfl, rfl⟩ := hkb
      exact ⟨by simp [aE], by simp [aE]⟩
  refine calls_of_wp hfn hc (wp_mono ((AX (N := fn.ntmps) hm hκ n).1 c F.body _ S' ex _ w k2 (fun k' b' hkb => by
    simp only [Ga, Gi] at hkb; obtain ⟨rfl, rfl⟩ := hkb; exact hns) hex hFR rfl (by simp; omega)) fun e a' w' hp => ?_)
  obtain ⟨p1, p2, p3, p4, p5⟩ := hp
  have hfin' : nM F k S' = some r /\ (e = .normal \/ e = .ret) := by
    cases ex with
    | norm => exact ⟨hfin, .inl p1⟩
    | ret => exact ⟨hfin, .inr p1⟩
    | exit id => simp at hfin
  obtain ⟨hfin, he⟩ := hfin'
  unfold nM at hfin
  simp only [Gc] at hfin
  obtain ⟨vs1, hv1, hfin⟩ := hfin
  split at hfin <;> try (simp at hfin; done)
  rename_i cs1 hmk
  simp only [Gc, Ga] at hfin
  obtain ⟨⟨ts, A1⟩, hh, ws, hws, rfl⟩ := hfin
  obtain ⟨hG, β, α, M, hW, hg, hl, hpin⟩ := p2
  obtain ⟨hk1, hk2⟩ := hpin k b rfl
  obtain ⟨us, hrun, hlu, hru⟩ := ez (P := P) hW hg fn.results.toList F.res vs1 k5 hv1
  have kj : (results fn a'.tmps).run P w' = .ok (if us.length = 1 then us.getD 0 undef else .tuple us.toArray) w' := by
    unfold results;rw [Array.mapM_eq_mapM_toList];simp only [map_eq_pure_bind, bind_assoc, pure_bind, Sem.run_bind]
    erw [hrun]
    simp only [Result.andThen, Sem.run_pure, kX]
    congr 1
    split
    · rename_i h1
      rw [List.getD_eq_getElem?_getD]
      simp [h1]
    · rfl
  obtain ⟨a1, a2, a3, cb, el1, a4, a5, a6⟩ := hW.var k cs1 false hmk
  rw [hk2] at a4
  have hcr : CR cx w' (aI X M) S' α cb.toList cs1 := ⟨by simpa using a5, fun i hi => by obtain ⟨u, p, q, r⟩ := a6 i hi; exact ⟨u, by simpa using p, q, r⟩⟩
  obtain ⟨q1, q2, q3, q4⟩ := f5 cs1 S' cb.toList ts A1 (fun s z rows f hs hf => ⟨(hW.arr s z rows f hs hf).1, fun b hb hl => ((hW.arr s z rows f hs hf).2 b hb).2.1 hl⟩)
    (fun s s' z rows f z' rows' f' hs hf hs' hf' b hb hb' => hW.arrInj s s' z rows f z' rows' f' hs hf hs' hf' b hb hb') hcr hh
  generalize hH : Jq cb.toList ts = H at q3 q4
  have hMb : M b := hk2 ▸ a2 rfl
  have hNM : ∀ x, (x = b \/ x ∈ H) -> M x := fun x hx => by
    rcases hx with rfl | hx
    · exact hMb
    · exact (q1.hdr x (hH ▸ hx)).1
  have hHs : b ∉ H := fun hb => by
    obtain ⟨t, z, rows, e1, e2, e3⟩ := q4 _ hb;exact hW.arrVar t z rows .live k e1 (by simp) hk1 (by rw [hk2]; exact e3)
  have hsub : ∀ u x, aB cx w' (aI X M) u x -> aB cx w' (aI X fun x => x = b \/ x ∈ H) u x := fun u x hr => ju hNM hr
  have hd : ∀ i, i < ws.length -> ∃ u, us[i]? = some u /\ aB cx w' (aI X fun x => x = b \/ x ∈ H) u (gv ws i) := fun i hi => by
    obtain ⟨m1, m2⟩ := JB hws;have hi' : i < vs1.length := by omega
    obtain ⟨u, p, q⟩ := hru i hi';obtain ⟨y, y1, y2⟩ := m2 i vs1[i] (by simp [hi']);have e1 : gv vs1 i = vs1[i] := by simp [gv, hi']
    have e2 : gv ws i = y := by simp [gv, y1]
    rw [e1] at q;rw [e2];obtain ⟨d1, d2⟩ := Fd q2 y2;refine ⟨u, p, oG hW q d1 (fun b hb => hb.imp id (hNM b)) (fun s hs b1 hb1 hex hn => ?_)⟩;obtain ⟨z, rows, f, g1, g2⟩ := d2 s hs;have g3 := q2.keep g1 g2;rcases hn with hx | hx | hx
    · exact ((hW.arr s z rows f g3 g2).2 b1 hb1).1 (hW.xb b1 hx)
    · exact hW.arrVar s z rows f k g3 g2 hk1 (by rw [hk2, <- hx]; exact hb1)
    · obtain ⟨t, z', rows', e1, e2, e3⟩ := q4 _ hx
      have := hW.arrInj s t z rows f z' rows' .live g3 g2 e1 (by simp) b1 hb1 e3
      subst this
      rw [g1] at e2
      simp only [Ga, Gi] at e2
      exact g2 e2.2.2
  have hwl : us.length = ws.length := by rw [hlu, (JB hws).1]
  have hR : aB cx w' (aI X fun x => x = b \/ x ∈ H) (if us.length = 1 then us.getD 0 undef else .tuple us.toArray) (jv ws) := by
    match ws, hd, hwl with
    | [r], hd, h1 =>
      obtain ⟨u, p, q⟩ := hd 0 (by simp);have : us.length = 1 := by simpa using h1
      rw [GE this];simp only [jv];have : us.getD 0 undef = u := by simp [List.getD_eq_getElem?_getD, p]
      rw [this]; exact q
    | [], hd, h1 =>
      have : us = [] := GA (by simpa using h1);subst this;exact aB.tuple #[] [] (fun _ => undef) rfl (fun i hi => by simp at hi) (fun i hi => by simp at hi)
    | r :: r' :: rs, hd, h1 =>
      rw [Gu (by simp at h1; omega)];obtain ⟨u, hu⟩ := jT hd;exact aB.tuple us.toArray _ u (by simp at h1 ⊢; omega) (fun i hi => by simpa using (hu i hi).1) (fun i hi => (hu i hi).2)
  have hpost : ∃ v r0 di N', Ending.returned (if us.length = 1 then us.getD 0 undef else .tuple us.toArray) = .returned v /\ V.tuple [jv ws, .tuple ts] = .tuple [r0, .tuple di] /\ bC (fun b => b < w.heap.size /\ ¬ N b) w w' /\
      (∀ b, N' b -> N b \/ (w.heap.size <= b /\ b < w'.heap.size)) /\ j7 cx w' (aI X N') N' b di /\ aB cx w' (aI X N') v r0 := by
    refine ⟨_, _, _, fun x => x = b \/ x ∈ H, rfl, rfl, p5, fun x hx => ?_, ⟨.inl rfl, cb.toList, el1, by simpa using a4, q1.mono hsub (fun x hx => .inr (hH ▸ hx)), ?_⟩, hR⟩
    · obtain ⟨h1, h2⟩ := hW.m x (hNM x hx)
      by_cases hNx : N x
      · exact .inl hNx
      · refine .inr ⟨?_, h2⟩
        rcases GD x w.heap.size with h' | h'
        · exact absurd ⟨h', hNx⟩ h1
        · exact h'
    · rw [hH]; exact mt.2 ⟨hHs, q3⟩
  rcases he with rfl | rfl
  · exact ⟨p3, _, kj, hpost⟩
  · exact ⟨p3, _, kj, hpost⟩
theorem J2 (hm:P.follows .mixedOrders=true) (y:∀f F,Pg f=some (.code F)->fQ P cx Pg (cx.fm f) F=true)
  (E:∀f own p,Pg f=some (.prim own p)->∀args r,p args=some r->gi P cx own f args r)
  (J:∀f z p,z<1000->Pg f=some (.prim (some (1000+z)) p)->∃tS el,gK P (cx.fm f) z tS el) (H:∀f z p,Pg f=some (.prim (some (2000+z)) p)->kV P (cx.fm f) z)
  (B:∀f F k,Pg f=some (.codeR F k)->fQ P cx Pg (cx.fm f) F=true/\F.own=none/\g6 k F.body=true)
  (O:∀f own p,Pg f=some (.prim own p)->∀k,k<1000->own≠some (3000+k)) :
  ∀(n f:Nat) (args:List V) (r:V),Jn Pg n f args=some r->gi P cx (aL Pg f) f args r/\∀k,k<1000->aL Pg f=some (3000+k)->jF P cx k f args r
 |0,f,args,r,h=>by simp[Jn] at h
 |n+1,f,args,r,h=>by
  have D:∀g G j,Pg g=some (.code G)->G.own=some j->j<1000:=fun g G j R hj=>by
   have:=y g G R;unfold fQ at this;split at this
   ·simp only[Gg,hj,Gn] at this;exact this.2.2
   ·simp at this
  have U:nW P cx (aL Pg) (Jn Pg n):=⟨fun f args r h=>(J2 hm y E J H B O n f args r h).1,fun g z hz o=>by
    simp only[aL] at o;split at o
    ·rename_i G N;have:=D g G _ N o;omega
    ·rename_i own p N;subst o;exact J g z p hz N
    ·simp only[Ga] at o;omega
    ·simp at o,fun g z hz o=>by
    simp only[aL] at o;split at o
    ·rename_i G N;have:=D g G _ N o;omega
    ·rename_i own p N;subst o;exact H g z p N
    ·simp only[Ga] at o;omega
    ·simp at o,fun f k M o args r h=>(J2 hm y E J H B O n f args r h).2 k M o⟩
  simp only[Jn] at h;split at h
  ·simp at h
  ·rename_i own p I;have:aL Pg f=own:=by simp[aL,I]
   rw[this];exact⟨E f own p I args r h,fun k M o=>absurd o (O f own p I k M)⟩
  ·rename_i F k I;have T:aL Pg f=some (3000+k):=by simp[aL,I]
   split at h<;>try (simp at h;done)
   rename_i L;split at h<;>try (simp at h;done)
   rename_i cs M;simp only[Gc] at h;obtain⟨S0,h0,r1,h1,h2⟩:=h;obtain⟨Y,Z,c3⟩:=B f F k I;have W:jF P cx k f args r:=jh hm U Y Z c3 L M h0 (by simp only[Gc];exact⟨r1,h1,h2⟩);refine⟨⟨W.1,fun w X vs hX aa N ac Q=>?_⟩,fun k' ab o=>?_⟩
   ·exfalso
    have S:k<args.length:=by
     rcases GD k args.length with h'|h'
     ·exact h'
     ·rw[List.getElem?_eq_none h'] at M;simp at M
    obtain⟨u,p,q⟩:=Q k S;have R:gv args k=.tuple (.lref 0 0::cs):=by simp[gv,M]
    rw[R] at q;cases q with
    |tuple di ad u' hl hc hr=>
     have:=hr 0 (by simp);simp only[gv,po] at this;generalize u' 0=q at this;cases this
   ·rw[T] at o;simp only[Ga] at o;have:k=k':=by omega
    subst this;exact W
  ·rename_i F I;split at h<;>try (simp at h;done)
   rename_i L;refine⟨En hm U (y f F I) I L h,fun k M o=>?_⟩;simp only[aL,I] at o;have:=D f F _ I o;omega
end
end Sg
namespace Sg
def Le (κ κ':Nat->List V->Option V):Prop:=∀f a r,κ f a=some r->κ' f a=some r
def Hx {κ κ':Nat->List V->Option V} (h:Le κ κ') {d:Nat} {e:Nat->V} {S:St} {k:K} {r} (o:ev κ d e S k=some r):ev κ' d e S k=some r:=by
 cases k<;>try exact o
 rotate_left
 ·simp only[ev,kz,Gc] at o ⊢;obtain⟨q,h1,x,j,p⟩:=o;exact⟨q,h1,x,h _ _ _ j,p⟩
 ·simp only[ev] at o ⊢;split at o<;>try (simp at o;done)
  split at o<;>try (simp at o;done)
  rename_i y;rw[GE y];simp only[Gc] at o ⊢;obtain⟨f,h1,x,j,p⟩:=o;exact⟨f,h1,x,h _ _ _ j,p⟩
 rename_i f z own xs;simp only[ev,Gc] at o ⊢;obtain⟨B,h1,j⟩:=o;refine⟨B,h1,?_⟩;unfold eo at j ⊢;cases z<;>simp only at j ⊢
 ·split at j<;>try (simp at j;done)
  rename_i y;rw[GE y];simp only[Gc] at j ⊢;obtain⟨x,j,p⟩:=j;exact⟨x,h _ _ _ j,p⟩
 ·simp only[Gc] at j ⊢;obtain⟨u,j,x,p,w⟩:=j;exact⟨u,j,x,h _ _ _ p,w⟩
 ·simp only[Gc] at j ⊢;obtain⟨u,j,x,p,w⟩:=j;exact⟨u,j,x,h _ _ _ p,w⟩
def Bl {κ κ':Nat->List V->Option V} (h:Le κ κ') {o:Op} {e:Nat->V} {S:St} {r} (j:step κ o e S=some r):step κ' o e S=some r:=by
 unfold step at j ⊢;split at j
 ·simp at j
 ·exact j
 ·simp only[Gc] at j ⊢;obtain⟨x,h1,p⟩:=j;exact⟨x,Hx h h1,p⟩
theorem wD {κ κ':Nat->List V->Option V} (h:Le κ κ'):∀{j:List Op} {i:Nat} {e:Nat->V} {S:St} {r},Js κ j i e S=some r->Js κ' j i e S=some r
 |[],_,_,_,_,hr=>hr
 |o::os,i,e,S,r,hr=>by
  simp only[Js,Gc] at hr ⊢;obtain⟨x,h1,p⟩:=hr;exact⟨x,Bl h h1,wD h p⟩
theorem Jr {κ κ':Nat->List V->Option V} (h:Le κ κ'):∀{m m':Nat} {c:C} {S:St} {r},m<=m'->Je κ m c S=some r->Je κ' m' c S=some r
 |0,_,_,_,_,_,hr=>by simp[Je] at hr
 |m+1,0,_,_,_,hm,_=>by omega
 |m+1,m'+1,c,S,r,hm,hr=>by
  have q:m<=m':=by omega
  have o:=fun {c S r}=>Jr h (m:=m) (m':=m') (c:=c) (S:=S) (r:=r) q;cases c with
  |skip=>simpa [Je] using hr
  |region d u=>
   simp only[Je,Gc] at hr ⊢;obtain⟨x,h1,j⟩:=hr;exact⟨x,wD h h1,j⟩
  |seq a b=>
   simp only[Je,Gc] at hr ⊢;obtain⟨⟨p,x⟩,h1,j⟩:=hr;refine⟨_,o h1,?_⟩;cases p<;>simp only at j ⊢
   ·exact o j
   ·exact j
   ·exact j
  |cond x a b=>
   simp only[Je] at hr ⊢;split at hr
   ·rename_i t ht;cases t<;>exact o hr
   ·simp at hr
  |block id c=>
   simp only[Je,Gc] at hr ⊢;obtain⟨x,h1,j⟩:=hr;exact⟨_,o h1,j⟩
  |loop W L Wv Wa c=>
   simp only[Je,Gc] at hr ⊢;obtain⟨⟨p,x⟩,h1,j⟩:=hr;refine⟨_,o h1,?_⟩;cases p<;>simp only at j ⊢
   ·exact o j
   ·exact j
   ·exact j
  |exit id=>simpa [Je] using hr
  |ret=>simpa [Je] using hr
def Le.refl (κ:Nat->List V->Option V):Le κ κ:=fun _ _ _ h=>h
theorem wz (Pg:Nat->Option Fn):∀n,Le (Jn Pg n) (Jn Pg (n+1))
 |0=>fun f a r h=>by simp[Jn] at h
 |n+1=>fun f a r h=>by
  rw[Jn] at h ⊢;split at h
  ·simp at h
  ·exact h
  ·split at h<;>try (simp at h;done)
   rename_i o;rw[GE o];split at h<;>try (simp at h;done)
   simp only[Gc] at h ⊢;obtain⟨x,h0,y,h1,j⟩:=h;exact⟨x,h0,y,Jr (wz Pg n) (Nat.le_succ n) h1,j⟩
  ·split at h<;>try (simp at h;done)
   rename_i o;rw[GE o];simp only[Gc] at h ⊢;obtain⟨x,h1,j⟩:=h;exact⟨x,Jr (wz Pg n) (Nat.le_succ n) h1,j⟩
def Jy (Pg:Nat->Option Fn) {n m:Nat} (h:n<=m):Le (Jn Pg n) (Jn Pg m):=by
 induction h with
 |refl=>exact .refl _
 |step _ o=>exact fun f a r j=>wz Pg _ f a r (o f a r j)
open Classical in
noncomputable def K' (Pg:Nat->Option Fn) (f:Nat) (args:List V):Option V:=
 if h:∃n r,Jn Pg n f args=some r then some h.choose_spec.choose else none
def oJ {Pg:Nat->Option Fn} {n f:Nat} {args:List V} {r:V} (h:Jn Pg n f args=some r):K' Pg f args=some r:=by
 have j:∃n r,Jn Pg n f args=some r:=⟨n,r,h⟩;unfold K';rw[dif_pos j];have h1:=j.choose_spec.choose_spec;have p:=Jy Pg (mr j.choose n) _ _ _ h1;have o:=Jy Pg (mo j.choose n) _ _ _ h;rw[p] at o;exact o
def dO {Pg:Nat->Option Fn} {f:Nat} {args:List V} {r:V}:K' Pg f args=some r↔∃n,Jn Pg n f args=some r:=by
 constructor
 ·intro h;unfold K' at h;split at h
  ·rename_i j;simp only[Ga] at h;exact⟨j.choose,by rw[j.choose_spec.choose_spec,h]⟩
  ·simp at h
 ·exact fun⟨n,h⟩=>oJ h
def ow {Pg:Nat->Option Fn} {d:Nat} {e:Nat->V} {S:St} {k:K} {r} (hr:ev (K' Pg) d e S k=some r):∃n,ev (Jn Pg n) d e S k=some r:=by
 cases k<;>try exact⟨0,hr⟩
 rotate_left
 ·simp only[ev,kz,Gc] at hr ⊢;obtain⟨q,h1,x,h2,h3⟩:=hr;obtain⟨n,hn⟩:=dO.1 h2;exact⟨n,q,h1,x,hn,h3⟩
 ·simp only[ev] at hr ⊢;split at hr<;>try (simp at hr;done)
  split at hr<;>try (simp at hr;done)
  rename_i hc;simp only[GE hc,Gc] at hr ⊢;obtain⟨f,h1,x,h2,h3⟩:=hr;obtain⟨n,hn⟩:=dO.1 h2;exact⟨n,f,h1,x,hn,h3⟩
 rename_i f cv own xs;simp only[ev,Gc] at hr;obtain⟨fc,h1,h2⟩:=hr;have key:∃n,eo (Jn Pg n) d S cv own fc (xs.map (aD e S.ρ))=some r:=by
  unfold eo at h2 ⊢;cases cv<;>simp only at h2 ⊢
  ·split at h2<;>try (simp at h2;done)
   rename_i hc;simp only[GE hc,Gc] at h2 ⊢;obtain⟨x,h2,h3⟩:=h2;obtain⟨n,hn⟩:=dO.1 h2;exact⟨n,x,hn,h3⟩
  ·simp only[Gc] at h2 ⊢;obtain⟨bs,h2,x,h3,h4⟩:=h2;obtain⟨n,hn⟩:=dO.1 h3;exact⟨n,bs,h2,x,hn,h4⟩
  ·simp only[Gc] at h2 ⊢;obtain⟨bs,h2,x,h3,h4⟩:=h2;obtain⟨n,hn⟩:=dO.1 h3;exact⟨n,bs,h2,x,hn,h4⟩
 obtain⟨n,hn⟩:=key;exact⟨n,by simp only[ev,Gc];exact⟨fc,h1,hn⟩⟩
def Fc {Pg:Nat->Option Fn} {o:Op} {e:Nat->V} {S:St} {r} (j:step (K' Pg) o e S=some r):∃n,step (Jn Pg n) o e S=some r:=by
 unfold step at j ⊢;split at j
 ·simp at j
 ·exact⟨0,j⟩
 ·simp only[Gc] at j ⊢;obtain⟨x,h1,p⟩:=j;obtain⟨n,q⟩:=ow h1;exact⟨n,x,q,p⟩
theorem AN {Pg:Nat->Option Fn}:∀{j:List Op} {i:Nat} {e:Nat->V} {S:St} {r},Js (K' Pg) j i e S=some r->∃n,Js (Jn Pg n) j i e S=some r
 |[],_,_,_,_,hr=>⟨0,hr⟩
 |o::os,i,e,S,r,hr=>by
  simp only[Js,Gc] at hr ⊢;obtain⟨x,h1,p⟩:=hr;obtain⟨n,q⟩:=Fc h1;obtain⟨m,hm⟩:=AN p;exact⟨max n m,x,Bl (Jy Pg (mr n m)) q,wD (Jy Pg (mo n m)) hm⟩
theorem JO {Pg:Nat->Option Fn}:∀{m:Nat} {c:C} {S:St} {r},Je (K' Pg) m c S=some r->∃n,Je (Jn Pg n) m c S=some r
 |0,_,_,_,hr=>by simp[Je] at hr
 |m+1,c,S,r,hr=>by
  have up:=fun {n p m c S r} (h:n<=p)=>Jr (Jy Pg h) (m:=m) (m':=m) (c:=c) (S:=S) (r:=r) (Gt m);cases c with
  |skip=>exact⟨0,by simpa [Je] using hr⟩
  |region d w=>
   simp only[Je,Gc] at hr ⊢;obtain⟨x,h1,j⟩:=hr;obtain⟨n,o⟩:=AN h1;exact⟨n,x,o,j⟩
  |seq a b=>
   simp only[Je,Gc] at hr ⊢;obtain⟨⟨u,x⟩,h1,j⟩:=hr;obtain⟨n,o⟩:=JO h1;cases u<;>simp only at j
   ·obtain⟨p,q⟩:=JO j;exact⟨max n p,_,up (mr n p) o,up (mo n p) q⟩
   ·exact⟨n,_,o,j⟩
   ·exact⟨n,_,o,j⟩
  |cond x a b=>
   simp only[Je] at hr ⊢;split at hr
   ·rename_i t ht;cases t<;>exact JO hr
   ·simp at hr
  |block id c=>
   simp only[Je,Gc] at hr ⊢;obtain⟨x,h1,j⟩:=hr;obtain⟨n,o⟩:=JO h1;exact⟨n,_,o,j⟩
  |loop W L Wv Wa c=>
   simp only[Je,Gc] at hr ⊢;obtain⟨⟨u,x⟩,h1,j⟩:=hr;obtain⟨n,o⟩:=JO h1;cases u<;>simp only at j
   ·obtain⟨p,q⟩:=JO j;exact⟨max n p,_,up (mr n p) o,up (mo n p) q⟩
   ·exact⟨n,_,o,j⟩
   ·exact⟨n,_,o,j⟩
  |exit id=>exact⟨0,by simpa [Je] using hr⟩
  |ret=>exact⟨0,by simpa [Je] using hr⟩
def Wp (κ:Nat->List V->Option V) (c:C) (S:St) (Q:Ex->St->Prop):Prop:=∃m ex S',Je κ m c S=some (ex,S')/\Q ex S'
def fU (κ:Nat->List V->Option V) (b:C) (Q:Ex->St->Prop):Ex->St->Prop
 |.norm,S=>Wp κ b S Q
 |x,S=>Q x S
def dU (id:Nat) (Q:Ex->St->Prop):Ex->St->Prop
 |.exit id',S=>if id'=id then Q .norm S else Q (.exit id') S
 |x,S=>Q x S
section
variable {κ:Nat->List V->Option V} {S:St} {Q:Ex->St->Prop}
def Wp.mono {c:C} {Q':Ex->St->Prop} (h:Wp κ c S Q) (p:∀j S',Q j S'->Q' j S'):Wp κ c S Q':=by
 obtain⟨m,j,S',h1,o⟩:=h;exact⟨m,j,S',h1,p _ _ o⟩
def wp_skip (h:Q .norm S):Wp κ .skip S Q:=⟨1,.norm,S,rfl,h⟩
def wp_exit {id:Nat} (h:Q (.exit id) S):Wp κ (.exit id) S Q:=⟨1,.exit id,S,rfl,h⟩
def wp_ret (h:Q .ret S):Wp κ .ret S Q:=⟨1,.ret,S,rfl,h⟩
def wp_region {d:Bool} {j:List Op} (h:∃S',Js κ j 0 (fun _=>.undef) S=some S'/\Q .norm S'):Wp κ (.region d j) S Q:=by
 obtain⟨S',h1,o⟩:=h;exact⟨1,.norm,S',by simp[Je,h1],o⟩
def wp_seq {a b:C} (h:Wp κ a S (fU κ b Q)):Wp κ (.seq a b) S Q:=by
 obtain⟨m,j,S',h1,o⟩:=h;cases j with
 |norm=>
  obtain⟨m',j,S'',p,q⟩:=o;refine⟨max m m'+1,j,S'',?_,q⟩;simp only[Je,Jr (.refl κ) (mr m m') h1,Option.bind_some];exact Jr (.refl κ) (mo m m') p
 |ret=>exact⟨m+1,_,_,by simp[Je,h1],o⟩
 |exit id=>exact⟨m+1,_,_,by simp[Je,h1],o⟩
def wp_cond {x:aQ} {a b:C} (t:Bool) (ht:aD (fun _=>.undef) S.ρ x=.bool t) (h1:t=true->Wp κ a S Q) (j:t=false->Wp κ b S Q):Wp κ (.cond x a b) S Q:=by
 cases t with
 |true=>
  obtain⟨m,o,S',h1,j⟩:=h1 rfl;exact⟨m+1,o,S',by simp[Je,ht,h1],j⟩
 |false=>
  obtain⟨m,o,S',h1,j⟩:=j rfl;exact⟨m+1,o,S',by simp[Je,ht,h1],j⟩
def wp_block {id:Nat} {c:C} (h:Wp κ c S (dU id Q)):Wp κ (.block id c) S Q:=by
 obtain⟨m,p,S',h1,j⟩:=h;cases p with
 |norm=>exact⟨m+1,_,_,by simp[Je,h1],j⟩
 |ret=>exact⟨m+1,_,_,by simp[Je,h1],j⟩
 |exit o=>
  simp only[dU] at j;split at j
  ·rename_i e;exact⟨m+1,.norm,S',by simp[Je,h1,e],j⟩
  ·rename_i e;exact⟨m+1,.exit o,S',by simp[Je,h1,e],j⟩
def Iz {W L Wv Wa:List Nat} {c:C} (h:Wp κ c (S.head W L Wv Wa) (fU κ (.loop W L Wv Wa c) Q)):Wp κ (.loop W L Wv Wa c) S Q:=by
 obtain⟨m,j,S',h1,o⟩:=h;cases j with
 |norm=>
  obtain⟨m',j,S'',p,q⟩:=o;refine⟨max m m'+1,j,S'',?_,q⟩;simp only[Je,Jr (.refl κ) (mr m m') h1,Option.bind_some];exact Jr (.refl κ) (mo m m') p
 |ret=>exact⟨m+1,_,_,by simp[Je,h1],o⟩
 |exit id=>exact⟨m+1,_,_,by simp[Je,h1],o⟩
theorem oD {W L Wv Wa:List Nat} {c:C} {σ:Type} (I:σ->St->Prop) (μ:σ->Nat) (s:σ) (h0:I s (S.head W L Wv Wa))
  (hstep:∀s S,I s S->Wp κ c S fun ex S'=>match ex with
   |.norm=>∃s',μ s'<μ s/\I s' (S'.head W L Wv Wa)
   |x=>Q x S'):Wp κ (.loop W L Wv Wa c) S Q:=by
 suffices ∀n s S,μ s=n->I s (S.head W L Wv Wa)->Wp κ (.loop W L Wv Wa c) S Q from this _ s S rfl h0
 intro n
 induction n using Nat.strongRecOn with
 |_ n ih=>
  intro s S hn hI
  refine Iz ((hstep s _ hI).mono fun ex S' hq=>?_)
  cases ex with
  |norm=>
   obtain⟨s',h1,h2⟩:=hq
   exact ih _ (hn▸h1) s' S' rfl h2
  |ret=>exact hq
  |exit id=>exact hq
end
def aA {Pg:Nat->Option Fn} {f:Nat} {F:F} {args:List V} {r:V} (hF:Pg f=some (.code F)) (hl:args.length=F.np)
  (h:Wp (K' Pg) F.body (JD args) fun ex S=>(ex=.norm\/ex=.ret)/\mu F S=some r):K' Pg f args=some r:=by
 obtain⟨m,ex,S',h1,h2,h3⟩:=h
 obtain⟨n,hn⟩:=JO h1
 have h4:Je (Jn Pg (max n m)) (max n m) F.body (JD args)=some (ex,S'):=Jr (Jy Pg (mr n m)) (mo n m) hn
 refine oJ (n:=max n m+1) ?_
 simp only[Jn,hF,GE hl,h4,Option.bind_some]
 rcases h2 with rfl|rfl<;>exact h3
def fq {Pg:Nat->Option Fn} {f k:Nat} {F:F} {args cs:List V} {r:V} {S0:St} (hF:Pg f=some (.codeR F k)) (hl:args.length=F.np)
  (hk:args[k]?=some (.tuple (.lref 0 0::cs))) (h0:ea args k cs=some S0)
  (h:Wp (K' Pg) F.body S0 fun ex S=>(ex=.norm\/ex=.ret)/\nM F k S=some r):K' Pg f args=some r:=by
 obtain⟨m,ex,S',h1,h2,h3⟩:=h
 obtain⟨n,hn⟩:=JO h1
 have h4:Je (Jn Pg (max n m)) (max n m) F.body S0=some (ex,S'):=Jr (Jy Pg (mr n m)) (mo n m) hn
 refine oJ (n:=max n m+1) ?_
 simp only[Jn,hF,GE hl,hk,h0,h4,Option.bind_some]
 rcases h2 with rfl|rfl<;>exact h3
def xd {Pg:Nat->Option Fn} {f:Nat} {own:Option Nat} {p:List V->Option V} {args:List V} (j:Pg f=some (.prim own p)):K' Pg f args=p args:=by
 cases h:p args with
 |some r=>exact oJ (n:=1) (by simp[Jn,j,h])
 |none=>
  cases o:K' Pg f args with
  |none=>rfl
  |some r=>
   obtain⟨n,q⟩:=dO.1 o;cases n<;>simp[Jn,j,h] at q
def cQ (z0:Nat) (args:List V):Option V:=match args with
 |[.slice z rows]=>if rows.length<=dj/\z=z0 then some (.slice z rows) else none
 |_=>none
def Wr (κ:Nat->List V->Option V) (ops:List Op) (i:Nat) (e:Nat->V) (S:St) (Q:St->Prop):Prop:=∃S',Js κ ops i e S=some S'/\Q S'
def io (gl:Bool) (dst:Option Nat) (S:St) (v:V):St:=
 match gl,dst with
 |true,some d=>⟨aE S.ρ d v,S.μ,S.A⟩
 |_,_=>S
def sK (κ:Nat->List V->Option V) (dst:Option Nat) (gl:Bool) (ops:List Op) (i:Nat) (e:Nat->V) (Q:St->Prop):Option (V×St)->Prop
 |none=>False
 |some (v,S)=>Wr κ ops (i+1) (aE e i v) (io gl dst S v) Q
def i9 (κ:Nat->List V->Option V) (o:Op) (ops:List Op) (i:Nat) (e:Nat->V) (S:St) (Q:St->Prop) (b:Bool):V->Prop
 |.tuple []=>Wr κ ops (i+1) (aE e i .un) (io o.gl o.dst S .un) Q
 |.bool t=>(t=b->Wr κ ({o with gd:=none}::ops) i e S Q)/\(t=!b->Wr κ ops (i+1) (aE e i .un) (io o.gl o.dst S .un) Q)
 |_=>False
def oa (κ:Nat->List V->Option V) (a b:C) (S:St) (Q:Ex->St->Prop):V->Prop
 |.bool t=>(t=true->Wp κ a S Q)/\(t=false->Wp κ b S Q)
 |_=>False
section
variable {κ:Nat->List V->Option V} {S:St} {Q:St->Prop} {R:Ex->St->Prop} {e:Nat->V} {i:Nat} {ops:List Op}
def wJ {dst:Option Nat} {gl:Bool} {k:K} {gd} {v:V}:S.put ⟨dst,gl,k,gd⟩ v=io gl dst S v:=by
 cases gl<;>cases dst<;>rfl
theorem IN {d:Nat} {v:V} {ρ μ A}:io true (some d) ⟨ρ,μ,A⟩ v=⟨aE ρ d v,μ,A⟩:=rfl
theorem Hq {d:Nat} {v:V}:io true (some d) S v=⟨aE S.ρ d v,S.μ,S.A⟩:=rfl
theorem Kx {d:Option Nat} {v:V}:io false d S v=S:=rfl
def Ky {gl:Bool} {v:V}:io gl none S v=S:=by cases gl<;>rfl
def Lf {d:Bool}:Wp κ (.region d ops) S R=Wr κ ops 0 (fun _=>.undef) S (R .norm):=by
 refine propext ⟨fun h=>?_,fun h=>wp_region h⟩;obtain⟨m,o,S',h1,j⟩:=h;cases m with
 |zero=>simp[Je] at h1
 |succ m=>
  simp only[Je,Gc,Ga,Gi] at h1;obtain⟨x,h1,rfl,rfl⟩:=h1;exact⟨x,h1,j⟩
def BH {a b:C}:Wp κ (.seq a b) S R=Wp κ a S (fU κ b R):=by
 refine propext ⟨fun h=>?_,wp_seq⟩;obtain⟨m,q,S',h1,o⟩:=h;cases m with
 |zero=>simp[Je] at h1
 |succ m=>
  simp only[Je,Gc] at h1;obtain⟨⟨x,p⟩,h1,j⟩:=h1;refine⟨m,x,p,h1,?_⟩;cases x with
  |norm=>exact⟨m,q,S',j,o⟩
  |ret=>simp only[Ga,Gi] at j;obtain⟨rfl,rfl⟩:=j;exact o
  |exit id=>simp only[Ga,Gi] at j;obtain⟨rfl,rfl⟩:=j;exact o
def Bo {id:Nat} {c:C}:Wp κ (.block id c) S R=Wp κ c S (dU id R):=by
 refine propext ⟨fun h=>?_,wp_block⟩;obtain⟨m,q,S',h1,o⟩:=h;cases m with
 |zero=>simp[Je] at h1
 |succ m=>
  simp only[Je,Gc] at h1;obtain⟨⟨x,p⟩,h1,j⟩:=h1;refine⟨m,x,p,h1,?_⟩;cases x with
  |norm=>simp only[Ga,Gi] at j;obtain⟨rfl,rfl⟩:=j;exact o
  |ret=>simp only[Ga,Gi] at j;obtain⟨rfl,rfl⟩:=j;exact o
  |exit id=>
   simp only at j;simp only[dU];split at j<;>simp only[Ga,Gi] at j<;>obtain⟨rfl,rfl⟩:=j
   ·rename_i e;rw[GE e];exact o
   ·rename_i e;rw[Gu e];exact o
def IA:Wp κ .ret S R=R .ret S:=propext ⟨fun⟨m,o,S',h1,j⟩=>by
 cases m<;>simp[Je] at h1;obtain⟨rfl,rfl⟩:=h1;exact j,wp_ret⟩
def Fg {id:Nat}:Wp κ (.exit id) S R=R (.exit id) S:=propext ⟨fun⟨m,o,S',h1,j⟩=>by
 cases m<;>simp[Je] at h1;obtain⟨rfl,rfl⟩:=h1;exact j,wp_exit⟩
def Fh:Wp κ .skip S R=R .norm S:=propext ⟨fun⟨m,o,S',h1,j⟩=>by
 cases m<;>simp[Je] at h1;obtain⟨rfl,rfl⟩:=h1;exact j,wp_skip⟩
theorem EU {b:C}:fU κ b R .norm S=Wp κ b S R:=rfl
theorem EO {b:C}:fU κ b R .ret S=R .ret S:=rfl
theorem ET {b:C} {id:Nat}:fU κ b R (.exit id) S=R (.exit id) S:=rfl
theorem EM {id:Nat}:dU id R .norm S=R .norm S:=rfl
theorem Fo {id:Nat}:dU id R .ret S=R .ret S:=rfl
theorem EK {id j:Nat}:dU id R (.exit j) S=if j=id then R .norm S else R (.exit j) S:=rfl
def Ff {x:aQ} {a b:C}:Wp κ (.cond x a b) S R=oa κ a b S R (aD (fun _=>.undef) S.ρ x):=by
 refine propext ⟨fun h=>?_,fun h=>?_⟩
 ·obtain⟨m,j,S',h1,o⟩:=h;cases m with
  |zero=>simp[Je] at h1
  |succ m=>
   simp only[Je] at h1;split at h1
   ·rename_i t ht;rw[ht];refine⟨fun e=>?_,fun e=>?_⟩<;>subst e
    ·exact⟨m,j,S',h1,o⟩
    ·exact⟨m,j,S',h1,o⟩
   ·simp at h1
 ·unfold oa at h;split at h
  ·rename_i t ht;exact wp_cond t ht h.1 h.2
  ·exact h.elim
def Lv {a b:C}:oa κ a b S R (.bool true)=Wp κ a S R:=by simp[oa]
def Lu {a b:C}:oa κ a b S R (.bool false)=Wp κ b S R:=by simp[oa]
def Lh:Wr κ [] i e S Q=Q S:=by simp[Wr,Js]
def wS {dst:Option Nat} {gl:Bool} {k:K}:Wr κ (⟨dst,gl,k,none⟩::ops) i e S Q=sK κ dst gl ops i e Q (ev κ (dst.getD 0) e S k):=by
 unfold Wr sK;simp only[Js,step,Jl,Option.bind_assoc];cases ev κ (dst.getD 0) e S k with
 |none=>simp
 |some r=>
  obtain⟨v,j⟩:=r;simp only[Option.bind_some,wJ,Wr]
theorem Fi {dst:Option Nat} {gl:Bool} {v:V}:sK κ dst gl ops i e Q (some (v,S))=Wr κ ops (i+1) (aE e i v) (io gl dst S v) Q:=rfl
def wH {o:Op} (h:Jl e o.gd=some false):Wr κ (o::ops) i e S Q=Wr κ ops (i+1) (aE e i .un) (io o.gl o.dst S .un) Q:=by
 obtain⟨dst,gl,k,gd⟩:=o;unfold Wr;simp only[Js,step,h,wJ,Option.bind_some]
def BN {o:Op} (h:Jl e o.gd=some true):Wr κ (o::ops) i e S Q=Wr κ ({o with gd:=none}::ops) i e S Q:=by
 obtain⟨dst,gl,k,gd⟩:=o;have h0:Jl e (Op.mk dst gl k none).gd=some true:=rfl;unfold Wr;simp only[Js,step,h,h0,wJ]
def Lw {dst:Option Nat} {gl:Bool} {k:K} {j:Nat} {b:Bool}:Wr κ (⟨dst,gl,k,some (j,b)⟩::ops) i e S Q=i9 κ ⟨dst,gl,k,some (j,b)⟩ ops i e S Q b (e j):=by
 have u:∀t b':Bool,t≠b'->t=!b':=by decide
 unfold i9;split
 ·rename_i w;exact wH (by simp[Jl,w])
 ·rename_i t ht;refine propext ⟨fun h=>⟨fun p=>?_,fun p=>?_⟩,fun⟨h1,q⟩=>?_⟩
  ·rwa [BN (by simp[Jl,ht,p])] at h
  ·rwa [wH (by simp[Jl,ht,p])] at h
  ·by_cases o:t=b
   ·rw[BN (by simp[Jl,ht,o])];exact h1 o
   ·rw[wH (by simp[Jl,ht,o])];exact q (u _ _ o)
 ·rename_i h1 q;refine propext ⟨fun h=>?_,fun h=>h.elim⟩;obtain⟨S',h,-⟩:=h;simp only[Js,step] at h;have:Jl e (some (j,b))=none:=by
   unfold Jl;simp only
  rw[this] at h;simp at h
theorem Lm {dst:Option Nat} {gl:Bool} {k:K} {gd} {b}:i9 κ ⟨dst,gl,k,gd⟩ ops i e S Q b (.tuple [])=Wr κ ops (i+1) (aE e i .un) (io gl dst S .un) Q:=rfl
def Ll {dst:Option Nat} {gl:Bool} {k:K} {gd}:i9 κ ⟨dst,gl,k,gd⟩ ops i e S Q true (.bool true)=Wr κ (⟨dst,gl,k,none⟩::ops) i e S Q:=by simp[i9]
def Li {dst:Option Nat} {gl:Bool} {k:K} {gd}:i9 κ ⟨dst,gl,k,gd⟩ ops i e S Q false (.bool false)=Wr κ (⟨dst,gl,k,none⟩::ops) i e S Q:=by simp[i9]
def Lk {dst:Option Nat} {gl:Bool} {k:K} {gd}:i9 κ ⟨dst,gl,k,gd⟩ ops i e S Q true (.bool false)=Wr κ ops (i+1) (aE e i .un) (io gl dst S .un) Q:=by simp[i9]
def Lj {dst:Option Nat} {gl:Bool} {k:K} {gd}:i9 κ ⟨dst,gl,k,gd⟩ ops i e S Q false (.bool true)=Wr κ ops (i+1) (aE e i .un) (io gl dst S .un) Q:=by simp[i9]
def Ix {α:Type} {f:Nat->α} {k:Nat} {v:α}:aE f k v k=v:=by simp[aE]
def fY {α:Type} {f:Nat->α} {k i:Nat} {v:α} (h:(i == k)=false):aE f k v i=f i:=by
 have:i≠k:=by simpa using h
 simp[aE,this]
def hJ {o:Op} {t:Bool} (h1:t=true->Wr κ ({o with gd:=none}::ops) i e S Q) (j:t=false->Wr κ ops (i+1) (aE e i .un) (io o.gl o.dst S .un) Q):i9 κ o ops i e S Q true (.bool t):=⟨h1,j⟩
def nP {o:Op} {t:Bool} (h1:t=false->Wr κ ({o with gd:=none}::ops) i e S Q) (j:t=true->Wr κ ops (i+1) (aE e i .un) (io o.gl o.dst S .un) Q):i9 κ o ops i e S Q false (.bool t):=⟨h1,j⟩
def bL {a b:C} {t:Bool} (h1:t=true->Wp κ a S R) (j:t=false->Wp κ b S R):oa κ a b S R (.bool t):=⟨h1,j⟩
theorem FW {l:List V} {t:Nat}:(JD l).ρ t=(l[t]?).getD .undef:=rfl
theorem FV {l:List V}:(JD l).μ=fun _=>none:=rfl
theorem FU {l:List V}:(JD l).A=fun _=>none:=rfl
def LQ {σ:Type} (I:σ->St->Prop) (m:σ->Nat) (s:σ) (W L Wv Wa:List Nat) (Q:Ex->St->Prop):Ex->St->Prop
 |.norm,S'=>∃s',m s'<m s/\I s' (S'.head W L Wv Wa)
 |x,S'=>Q x S'
theorem HI {σ:Type} {I:σ->St->Prop} {m:σ->Nat} {s:σ} {W L Wv Wa:List Nat}:LQ I m s W L Wv Wa R .norm S=∃j,m j<m s/\I j (S.head W L Wv Wa):=rfl
theorem Kj {σ:Type} {I:σ->St->Prop} {m:σ->Nat} {s:σ} {W L Wv Wa:List Nat}:LQ I m s W L Wv Wa R .ret S=R .ret S:=rfl
theorem HH {σ:Type} {I:σ->St->Prop} {m:σ->Nat} {s:σ} {W L Wv Wa:List Nat} {id:Nat}:LQ I m s W L Wv Wa R (.exit id) S=R (.exit id) S:=rfl
def bE {W L Wv Wa:List Nat} {c:C} {σ:Type} (I:σ->St->Prop) (m:σ->Nat) (s:σ) (h0:I s (S.head W L Wv Wa))
  (j:∀s S,I s S->Wp κ c S (LQ I m s W L Wv Wa R)):Wp κ (.loop W L Wv Wa c) S R:=
 oD I m s h0 fun s S p=>(j s S p).mono fun o S' h=>by cases o<;>exact h
theorem HU {Wv Wa:List Nat} {t:Nat}:(S.head [] [] Wv Wa).ρ t=Ji Wv Wa (S.ρ t):=rfl
theorem HS {Wv Wa:List Nat} {t:Nat}:(S.head [] [] Wv Wa).μ t=if Wv.contains t then none else (S.μ t).map fun m=>(bif Wa.isEmpty then m.1 else m.1.map (Jv Wa),m.2):=rfl
theorem HE {Wv Wa:List Nat} {t:Nat}:(S.head [] [] Wv Wa).A t=if Wa.contains t then none else S.A t:=rfl
theorem EC {Wv Wa:List Nat} {k n}:Ji Wv Wa (.int k n)=.int k n:=rfl
theorem D4 {Wv Wa:List Nat} {n}:Ji Wv Wa (.bool n)=.bool n:=rfl
theorem EE {Wv Wa:List Nat} {n}:Ji Wv Wa (.str n)=.str n:=rfl
theorem D9 {Wv Wa:List Nat} {z n}:Ji Wv Wa (.slice z n)=.slice z n:=rfl
theorem D5 {Wv Wa:List Nat} {z n}:Ji Wv Wa (.func z n)=.func z n:=rfl
theorem Eb {Wv Wa:List Nat}:Ji Wv Wa .undef=.undef:=rfl
theorem D6 {Wv Wa:List Nat} {s o}:Ji Wv Wa (.lref s o)=if Wv.contains s then .undef else .lref s o:=rfl
theorem ED {Wv Wa:List Nat} {s z n}:Ji Wv Wa (.own s z n)=if Wa.contains s then .undef else .own s z n:=rfl
theorem EB {Wv:List Nat} {cs}:Ji Wv [] (.agg cs)=.agg cs:=rfl
theorem Ea {Wv:List Nat} {cs}:Ji Wv [] (.tuple cs)=.tuple cs:=rfl
theorem Eg {a b:Nat} {l:List Nat}:(a::l).contains b=((b == a)||l.contains b):=rfl
theorem Eh {b:Nat}:([]:List Nat).contains b=false:=rfl
theorem LI {v:V}:jv [v]=v:=rfl
theorem Qe {v v':V} {l:List V}:jv (v::v'::l)=.tuple (v::v'::l):=rfl
theorem LB {A j v}:jV A none j v=dv A v:=rfl
theorem kD {α:Type} {a:α} {l:List α}:(a::l)[0]?=some a:=rfl
theorem BU {α:Type} {a:α} {l:List α} {n:Nat}:(a::l)[n+1]?=l[n]?:=rfl
end
section
open _root_.Go (IntKind BinOp UnOp)
variable {S:St} {A:Nat->Option (Nat×List (List V)×Fz)}
def Lp {o:BinOp} {k:IntKind} {a b:Int}:oK o (.int k a) (.int k b)=nL o k a b:=by simp[oK]
theorem Lq {o:BinOp} {a b:List UInt8}:oK o (.str a) (.str b)=rK o a b:=rfl
def LH {k k':IntKind} {a:Int}:mi .shr (.int k a) (.int k' 1)=some (.int k (a.fdiv 2)):=by cases k<;>simp[mi,IntKind.bits]
def KR {k:IntKind} {a b:Int}:ov .i (.int k a) (.int k b)=some (decide (a=b)):=by simp[ov]
theorem KQ {a b:Bool}:ov .b (.bool a) (.bool b)=some (a == b):=rfl
theorem KS {a b:List UInt8}:ov .s (.str a) (.str b)=some (decide (a=b)):=rfl
theorem LF {b:Bool}:ut .not (.bool b)=some (.bool !b):=rfl
theorem LG {k n}:ut .neg (.int k n)=some (.int k (k.wrap (0-n))):=rfl
theorem LD {z lo hi s} : kr true z (.str s) lo hi = (cY hi s.length).bind fun h => (cY lo 0).bind fun l =>
      if l <= h /\ h <= s.length then some (.str ((s.take h).drop l)) else none := rfl
def LC {z lo hi rows} : kr false z (.slice z rows) lo hi = (cY hi rows.length).bind fun h => (cY lo 0).bind fun l =>
      if l <= h /\ h <= rows.length then some (.slice z ((rows.take h).drop l)) else none := by simp [kr]
theorem Ft {d}:cY none d=some d:=rfl
def Fs {k d} {n:Nat}:cY (some (.int k n)) d=some n:=by simp[cY]
theorem Kz {z rows}:oM false (.slice z rows)=some (.int .i64 rows.length):=rfl
theorem KA {s}:oM true (.str s)=some (.int .i64 s.length):=rfl
theorem K2 {s z n}:oM false (.own s z n)=some (.int .i64 n):=rfl
def KZ {z rows k} {n:Nat}:im z (.slice z rows) (.int k n)=(rows[n]?).map fun r=>.cptr r 0:=by simp[im]
def KY {s z m k} {n:Nat}:im z (.own s z m) (.int k n)=if n<m then some (.eref s n 0 m) else none:=by simp[im]
def I9 {z n s off k} {i:Nat}:jS z n (.lref s off) (.int k i)=if i<n then some (.lref s (off+i*z)) else none:=by simp[jS]
def I8 {z n cs off k} {i:Nat}:jS z n (.cptr cs off) (.int k i)=if i<n then some (.cptr cs (off+i*z)) else none:=by simp[jS]
theorem KW {off s o}:oL off (.lref s o)=some (.lref s (o+off)):=rfl
theorem KV {off s i o n}:oL off (.eref s i o n)=some (.eref s i (o+off) n):=rfl
theorem KU {off cs o}:oL off (.cptr cs o)=some (.cptr cs (o+off)):=rfl
def K0 {s k} {n:Nat}:mz (.str s) (.int k n)=(s[n]?).map fun b=>.int .u8 b.toNat:=by simp[mz]
theorem KT {i vs}:uW i (.tuple vs)=vs[i]?:=rfl
theorem Ia {k k' n}:rI (.int k) (.int k' n)=some (.int k (k.wrap n)):=rfl
theorem Ib {s}:rI .same (.str s)=some (.str s):=rfl
def Lz {s n off}:Jx S (.v s) n (.lref s off)=(S.μ s).bind fun m=>JV m.1 off n:=by simp[Jx]
theorem Lx {n cs off}:Jx S .c n (.cptr cs off)=JV cs off n:=rfl
def vU (n:Option Nat) (i off m:Nat):Option (Nat×List (List V)×Fz)->Option V
 |some (_,rows,f)=>if rows.length=m/\f≠.dead then (rows[i]?).bind fun r=>JV r off n else none
 |none=>none
theorem K1 {n i off m z rows f}:vU n i off m (some (z,rows,f))=if rows.length=m/\f≠.dead then (rows[i]?).bind fun r=>JV r off n else none:=rfl
theorem Ly {s n i off m}:Jx S (.e s) n (.eref s i off m)=vU n i off m (S.A s):=by
 unfold Jx vU;simp only[GS]
 rfl
def gx (S:St) (s off:Nat) (xs:List V):Option (List V×Bool)->Option St
 |some (cs,false)=>(J0 cs off xs).bind fun di=>some {S with μ:=aE S.μ s (some (di,false))}
 |_=>none
theorem xe {s off xs cs}:gx S s off xs (some (cs,false))=(J0 cs off xs).bind fun di=>some ⟨S.ρ,aE S.μ s (some (di,false)),S.A⟩:=rfl
theorem my {s n off x}:JA S (.v s) n (.lref s off) x=x.cells.bind fun xs=>if xs.length=n then gx S s off xs (S.μ s) else none:=by
 unfold JA
 congr 1;funext xs
 split
 ·simp only[GS];split
  ·rename_i h;rw[h];rfl
  ·rename_i h;unfold gx;split
   ·rename_i cs j;exact absurd j (h cs)
   ·rfl
 ·rfl
theorem E3 {k n}:(V.int k n).cells=some [.int k n]:=rfl
theorem E1 {n}:(V.bool n).cells=some [.bool n]:=rfl
theorem E7 {n}:(V.str n).cells=some [.str n]:=rfl
theorem E6 {z n}:(V.slice z n).cells=some [.slice z n]:=rfl
theorem E0 {n}:(V.agg n).cells=some n:=rfl
theorem E8:V.undef.cells=none:=rfl
theorem E2 {f n}:(V.func f n).cells=some [.func f n]:=rfl
theorem E4:V.niface.cells=some [.niface]:=rfl
theorem E5 {s z n}:(V.own s z n).cells=some [.own s z n]:=rfl
def I7 {z rows}:V.rowsOf z (.slice z rows)=some rows:=by simp[V.rowsOf]
theorem IE {s}:V.rowsOf 1 (.str s)=some (s.map fun b=>[.int .u8 b.toNat]):=rfl
theorem LU {k n}:dv A (.int k n)=some (.int k n):=rfl
theorem LS {n}:dv A (.bool n)=some (.bool n):=rfl
theorem LY {n}:dv A (.str n)=some (.str n):=rfl
theorem LX {z n}:dv A (.slice z n)=some (.slice z n):=rfl
theorem LT {z n}:dv A (.func z n)=some (.func z n):=rfl
theorem LR {n}:dv A (.agg n)=(Jo (aY A) n).map .agg:=rfl
theorem LW {s z n}:dv A (.own s z n)=aY A (.own s z n):=rfl
theorem LZ {vs}:dv A (.tuple vs)=none:=rfl
theorem IM {k n}:aY A (.int k n)=some (.int k n):=rfl
theorem IL {n}:aY A (.bool n)=some (.bool n):=rfl
theorem La {n}:aY A (.str n)=some (.str n):=rfl
theorem K9 {z n}:aY A (.slice z n)=some (.slice z n):=rfl
theorem BG {z}:aY A (.nslice z)=some (.slice z []):=rfl
theorem Hv {z}:(V.nslice z).datC=true:=rfl
theorem EG {z}:Jc (.nslice z)=[]:=rfl
theorem EN {z}:(V.nslice z).cells=some [.nslice z]:=rfl
theorem Lb:aY A .undef=some .undef:=rfl
theorem K3:aY A .niface=some .niface:=rfl
def uR (z n:Nat):Option (Nat×List (List V)×Fz)->Option V
 |some (z',rows,f)=>if z'=z/\rows.length=n/\f≠.dead then some (.slice z rows) else none
 |none=>none
def Kv {z n:Nat} {rows f}:uR z n (some (z,rows,f))=if rows.length=n/\f≠.dead then some (.slice z rows) else none:=by simp[uR]
theorem K8 {s z n}:aY A (.own s z n)=uR z n (A s):=by unfold aY uR;rfl
def xa (n:Option Nat):Option (List V×Bool)->Option V
 |some (cs,_)=>JV cs 0 n
 |none=>none
theorem I5 {n cs f}:xa n (some (cs,f))=JV cs 0 n:=rfl
def xc (S:St) (n:Option Nat):V->Option V
 |.lref s 0=>xa n (S.μ s)
 |_=>none
theorem I6 {n s}:xc S n (.lref s 0)=xa n (S.μ s):=rfl
theorem I4 {t}:fL S (.t t)=some (S.ρ t):=rfl
theorem I3 {a n}:fL S (.cell a n)=xc S n (S.ρ a):=by
 simp only[fL,xc];generalize S.ρ a=x;cases x with
 |lref s o=>cases o with
  |zero=>rfl
  |succ o=>rfl
 |_=>rfl
theorem Kf {cs:List V} {off}:JV cs off none=cs[off]?:=rfl
theorem Kg {cs:List V} {off n}:JV cs off (some n)=if off+n<=cs.length then some (.agg ((cs.drop off).take n)) else none:=rfl
theorem Fw {κ d own fc avs}:eo κ d S .no own fc avs=if avs.all V.dat then (κ fc.1 (avs++fc.2)).bind fun r=>dx d S own r else none:=rfl
theorem Fu {κ d own fc avs}:eo κ d S .borrow own fc avs=(Jo (dv S.A) avs).bind fun j=>(κ fc.1 (j++fc.2)).bind fun r=>if r.scalar then some (r,S) else none:=rfl
theorem Fv {κ d own fc avs}:eo κ d S .freeze own fc avs=(Jo (dv S.A) avs).bind fun j=>(κ fc.1 (j++fc.2)).bind fun r=>dx d {S with A:=Jk S.A (avs.flatMap Jd)} own r:=rfl
theorem Fj {d r}:dx d S none r=some (r,S):=rfl
def zL (d:Nat) (S:St) (z:Nat) (rows:List (List V)):Option (Nat×List (List V)×Fz)->Option (V×St)
 |none=>some (.own d z rows.length,⟨S.ρ,S.μ,aE S.A d (some (z,rows,.live))⟩)
 |some _=>none
theorem Ln {d z rows}:zL d S z rows none=some (.own d z rows.length,⟨S.ρ,S.μ,aE S.A d (some (z,rows,.live))⟩):=rfl
def Fk {d j z rows}:dx d S (some j) (.slice z rows)=zL d S z rows (S.A d):=by
 simp only[dx,zL];cases S.A d<;>rfl
def tV (S : St) (s z n : Nat) (y : V) : Option (Nat × List (List V) × Fz) -> Option (V × St)
  | some (z'', rows, .live) => if z'' = z /\ rows.length = n then (V.rowsOf z y).bind fun j =>
          if rows.length + j.length <= dj then some (.own s z (rows.length + j.length), { S with A := aE S.A s (some (z, rows ++ j, .live)) }) else none
        else none
  | _ => none
theorem BX {s z n y}:JY S s z (.own s z n) y=tV S s z n y (S.A s):=by
 simp only[JY,tV,and_self,GS]
 rfl
theorem BP {s z n y s'}:fZ S s z (.own s' z n) y=JY S s z (.own s' z n) y:=rfl
def rO (S:St) (s z:Nat) (y:V):Option (Nat×List (List V)×Fz)->Option (V×St)
 |none=>(V.rowsOf z y).bind fun j=>if j.length<=dj then some (.own s z j.length,{S with A:=aE S.A s (some (z,j,.live))}) else none
 |some _=>none
def BO {s z y}:fZ S s z (.nslice z) y=rO S s z y (S.A s):=by
 simp only[fZ,rO,GS];cases S.A s<;>rfl
theorem IB {s z y}:rO S s z y none=(V.rowsOf z y).bind fun j=>if j.length<=dj then some (.own s z j.length,⟨S.ρ,S.μ,aE S.A s (some (z,j,.live))⟩) else none:=rfl
def BW {s z n y rows} : tV S s z n y (some (z, rows, .live)) = if rows.length = n then (V.rowsOf z y).bind fun j =>
          if rows.length + j.length <= dj then some (.own s z (rows.length + j.length), ⟨S.ρ, S.μ, aE S.A s (some (z, rows ++ j, .live))⟩) else none
        else none := by simp [tV]
theorem BD:Jk A []=A:=rfl
theorem Ht {k n}:Jd (.int k n)=[]:=rfl
theorem Hs {n}:Jd (.bool n)=[]:=rfl
theorem FT {n}:Jd (.str n)=[]:=rfl
theorem FS {z n}:Jd (.slice z n)=[]:=rfl
theorem Hr {n}:Jd (.agg n)=n.flatMap Jc:=rfl
theorem FQ {s z n}:Jd (.own s z n)=[s]:=rfl
theorem FP {k n}:Jc (.int k n)=[]:=rfl
theorem FO {n}:Jc (.bool n)=[]:=rfl
theorem Fb {n}:Jc (.str n)=[]:=rfl
theorem Fa {z n}:Jc (.slice z n)=[]:=rfl
theorem E9 {s z n}:Jc (.own s z n)=[s]:=rfl
theorem Em {f:V->List Nat}:[].flatMap f=[]:=rfl
theorem Bx {f:V->List Nat} {a l}:(a::l).flatMap f=f a++l.flatMap f:=rfl
theorem Eo {s l}:Jk A (s::l)=Jk (aE A s ((A s).map fun (z,rows,f)=>(z,rows,if f=.live then .frz else f))) l:=rfl
theorem IG {k n}:(V.int k n).scalar=true:=rfl
theorem IF {n}:(V.bool n).scalar=true:=rfl
theorem IH {n}:(V.str n).scalar=true:=rfl
theorem KM {k n}:(V.int k n).dat=true:=rfl
theorem KJ {n}:(V.bool n).dat=true:=rfl
theorem KO {n}:(V.str n).dat=true:=rfl
theorem KN {z n}:(V.slice z n).dat=true:=rfl
theorem KL {z n}:(V.func z n).dat=true:=rfl
theorem KK {z n}:(V.cptr z n).dat=true:=rfl
theorem KI {n}:(V.agg n).dat=n.all V.datC:=rfl
theorem Ie {k n}:(V.int k n).datC=true:=rfl
theorem Ic {n}:(V.bool n).datC=true:=rfl
theorem Ih {n}:(V.str n).datC=true:=rfl
theorem Ig {z n}:(V.slice z n).datC=true:=rfl
theorem Id {z n}:(V.func z n).datC=true:=rfl
theorem Ii:V.undef.datC=true:=rfl
theorem If:V.niface.datC=true:=rfl
end
attribute [go_sem] Lf BH Bo IA Fg Fh EU EO ET EM Fo EK Ff Lv Lu Lh wS Fi Lw Lm Ll Li Lk Lj Ix fY IN Hq Kx Ky FW FV FU kD BU
attribute [go_sem] HI Kj HH HU HS HE EC D4 EE D9 D5 Eb D6 ED EB Ea Eg Eh List.isEmpty_nil List.isEmpty_cons Bool.or_false Bool.false_or Bool.or_true Bool.true_or Bool.false_eq_true
attribute [go_sem] ev aD nL rK callee Jo J4 mv kC mu LB LI Qe
attribute [go_sem] BP BO IB BG Hv EG EN Lp Lq LH KR KQ KS LF LG LD LC Ft Fs Kz KA K2 KZ KY I9 I8 KW KV KU K0 KT Ia Ib Lz Lx Ly my E3 E1 E7 E6 E0 E8 E2 E4 E5 I7 IE LU LS LY LX LR LT LW LZ IM IL La K9 K3 K8 Lb I4 I3 Kf Kg Fw Fu Fv Fj IG IF IH KM KJ KO KN KI KL KK Ie Ic Ih Ig Id Ii If Jj List.reduceReplicate List.set_cons_zero List.set_cons_succ Nat.reduceLT Nat.reduceEqDiff and_self BD Eo Ht Hs FT FS Hr FQ FP FO Fb Fa E9 Em Bx Fk Ln BX BW ne_eq not_false_eq_true xe K1 Kv I5 I6 J0 List.length_map List.getElem?_map List.drop_zero List.drop_succ_cons List.take_succ_cons List.take_zero List.drop_nil List.take_nil Nat.reduceLeDiff Nat.zero_add Nat.add_zero
attribute [go_sem] Option.bind_some Option.bind_none Option.getD_some Option.getD_none Nat.reduceBEq Nat.reduceAdd reduceIte List.length_cons List.length_nil List.map_cons List.map_nil List.all_cons List.all_nil Option.map_some Option.map_none cond_true cond_false Bool.and_true Bool.true_and Bool.and_false Bool.false_and Bool.false_xor Bool.true_xor Nat.zero_le Nat.le_add_right Nat.le_refl beq_self_eq_true Int.ofNat_zero Int.cast_ofNat_Int decide_true decide_false Int.reduceEq Int.reduceLT Int.reduceLE Bool.not_true Bool.not_false List.length_append List.append_nil List.nil_append List.cons_append reduceCtorEq or_true true_or true_and and_true false_or or_false ite_true ite_false eq_self List.getElem?_nil
abbrev iz (n:Int):V:=.int .i64 n
def bI {n:Int} (h1:-9223372036854775808<=n) (j:n<=9223372036854775807):_root_.Go.IntKind.i64.wrap n=n:=_root_.Go.IntWalk.i64_in n ⟨h1,j⟩
def bO {α:Type} {l:List α} {i:Nat} (h:i<l.length):∃x,l[i]?=some x/\l.drop i=x::l.drop (i+1):=
 ⟨l[i],by simp[h],List.drop_eq_getElem_cons h⟩
end Sg
namespace Sg
open _root_.Go
def aZ (z:Nat) (zero:List V):F where
 np:=1
 gl:=[0,2,4]
 res:=[.t 2]
 own:=some 0
 body:=.seq (.region false [⟨some 2,true,.mov (.c (.slice z [])),none⟩])
  (.seq (.seq (.region false [⟨some 3,false,.mov (.g 0),none⟩,⟨some 4,true,.nilq (.l 0),none⟩])
   (.cond (.g 4) (.seq (.region false [⟨some 2,true,.mko z,none⟩]) .ret) .skip))
  (.seq (.region false [⟨some 5,false,.mkb z 0 zero [],none⟩,⟨some 6,false,.mov (.g 0),none⟩,⟨some 7,false,.app 5 z (.l 0) (.l 1),none⟩,⟨some 2,true,.mov (.l 2),none⟩]) .ret))
def bF (id:Nat) (F:F):Nat->Option Fn:=fun k=>if k=id then some (.code F) else none
def fR {P:Program} {cx:Cx} {id:Nat} {F:F} (hm:P.follows .mixedOrders=true) (hok:fQ P cx (bF id F) (cx.fm id) F=true) (n f:Nat) (args:List V) (r:V) (h:Jn (bF id F) n f args=some r) :
  gi P cx (aL (bF id F) f) f args r:=
 (J2 (P:=P) (cx:=cx) (Pg:=bF id F) hm (fun f F hF=>by
   unfold bF at hF;split at hF<;>simp only[Ga,Fn.code.injEq,reduceCtorEq] at hF;rename_i e;subst e;subst hF;exact hok) (fun f own p hp=>by
   unfold bF at hp;split at hp<;>simp at hp) (fun f z p _ hp=>by
   unfold bF at hp;split at hp<;>simp at hp) (fun f z p hp=>by
   unfold bF at hp;split at hp<;>simp at hp) (fun f F k hp=>by
   unfold bF at hp;split at hp<;>simp at hp) (fun f own p hp=>by
   unfold bF at hp;split at hp<;>simp at hp) n f args r h).1
theorem BS {A v}:jV A (some 0) 0 v=match v with
  |.own s z n=>match A s with
   |some (z',rows,.live)=>if z'=z/\rows.length=n then some (.slice z rows) else none
   |_=>none
  |_=>none:=by simp only[jV,GS];rfl
def ER (id z:Nat) (zero:List V):K' (bF id (aZ z zero)) id [.nslice z]=some (.slice z []):=by
 refine aA (F:=aZ z zero) (by simp[bF]) rfl ?_;simp[go_sem,aZ,BS]
def ES (id z:Nat) (zero:List V) (rows:List (List V)) (h:rows.length<=dj):K' (bF id (aZ z zero)) id [.xslice z rows]=some (.slice z rows):=by
 refine aA (F:=aZ z zero) (by simp[bF]) rfl ?_;simp[go_sem,aZ,BS,V.rowsOf,h]
def dp {P:Program} {cx:Cx} {id z:Nat} {zero:List V} (hm:P.follows .mixedOrders=true) (H:fQ P cx (bF id (aZ z zero)) (cx.fm id) (aZ z zero)=true) :
  ∀args r,cQ z args=some r->gi P cx (some 0) id args r:=by
 intro args r h
 unfold cQ at h
 split at h<;>try (simp at h;done)
 rename_i j rows
 split at h<;>simp only[Ga,reduceCtorEq] at h
 rename_i E
 obtain⟨E,rfl⟩:=E
 subst h
 have own:aL (bF id (aZ j zero)) id=some 0:=by simp[aL,bF,aZ]
 have all:∀args r,K' (bF id (aZ j zero)) id args=some r->gi P cx (some 0) id args r:=fun args r N=>by
  obtain⟨n,O⟩:=dO.1 N;have:=fR hm H n id args r O;rwa [own] at this
 have I:=all _ _ (ER id j zero)
 have M:=all _ _ (ES id j zero rows E)
 refine⟨I.1,fun w X vs L q J D B=>?_⟩
 obtain⟨u,hu,Q⟩:=B 0 (by simp)
 have one:∀x,aB cx w X u x->∀i,i<[x].length->∃u,vs[i]?=some u/\aB cx w X u (gv [x] i):=fun x R i hi=>by
  have:i=0:=by simp at hi;exact hi
  subst this;exact⟨u,hu,R⟩
 have y:aB cx w X u (.slice j rows):=Q
 have p:(u=.slice none 0 0/\rows=[])\/∃a n c,u=.slice (some a) n c:=by
  rcases JC y with ⟨⟨a,rfl⟩,rfl⟩|⟨b,o,aJ,c,e,fr,rfl,-⟩
  ·cases a with
   |none=>exact .inl ⟨rfl,rfl⟩
   |some a=>exact .inr ⟨_,_,_,rfl⟩
  ·exact .inr ⟨_,_,_,rfl⟩
 rcases p with ⟨rfl,rfl⟩|⟨a,n,c,rfl⟩
 ·exact I.2 w X vs L q J (by simpa using D) (one _ (.nslice j))
 ·exact M.2 w X vs L q J (by simpa using D) (one _ (.xslice a n c j rows y))
end Sg
namespace Sg
open _root_.Go _root_.Go.RowKit _root_.Go.Proofs
def dN (l:List UInt8):Nat×Nat:=Lib.decodeN l.length (l.getD 0 0).toNat (l.getD 1 0).toNat (l.getD 2 0).toNat (l.getD 3 0).toNat
def jW (l:List UInt8):Nat×Nat:=if l=[] then (65533,0) else dN l
theorem get!_list (s:ByteArray) (i:Nat):s.get! i=s.data.toList.getD i 0:=by
 show s.data[i]! = _
 by_cases h:i<s.data.size
 ·rw[getElem!_pos s.data i h,List.getD_eq_getElem?_getD,Array.getElem?_toList,Array.getElem?_eq_getElem h]
  rfl
 ·rw[getElem!_neg s.data i h,List.getD_eq_getElem?_getD,List.getElem?_eq_none (by simpa using h)]
  rfl
def dX (s:ByteArray) (i:Nat):Utf8.decode s i=dN (s.data.toList.drop i):=by
 rw[Lib.decode_at];have j:s.size-i=(s.data.toList.drop i).length:=by
  rw[GX,Array.length_toList];rfl
 have e:∀k,s.get! (i+k)=(s.data.toList.drop i).getD k 0:=fun k=>by
  rw[get!_list,List.getD_eq_getElem?_getD,List.getD_eq_getElem?_getD,List.getElem?_drop]
 simp only[dN,j,<-e,Nat.add_zero]
def AU (s:ByteArray):Lib.decodeGo s=jW s.data.toList:=by
 have j:s.size=s.data.toList.length:=by rw[Array.length_toList];rfl
 unfold Lib.decodeGo jW;by_cases h:s.data.toList=[]
 ·rw[GE h,GE (by rw[j,h];rfl)]
 ·rw[Gu h,Gu (by rw[j];intro e;exact h (GA e)),dX];simp
def jp (s:ByteArray) (pos:Nat):1<=(Utf8.decode s pos).2:=by
 rw[Lib.decode_at];unfold Lib.decodeN
 repeat' split
 all_goals simp
def Ei (s:ByteArray) (pos n:Nat) (j:n=s.size):(s.extract pos n).data.toList=s.data.toList.drop pos:=by
 have o:s.size=s.data.toList.length:=by rw[Array.length_toList];rfl
 rw[ByteArray.data_extract,Array.toList_extract,List.extract_eq_take_drop,List.take_of_length_le];rw[GX];omega
def fw (s:ByteArray) (pos n:Nat) (j:n=s.size) (o:pos<s.size):Lib.decodeGo (s.extract pos n)=Utf8.decode s pos:=by
 have p:s.size=s.data.toList.length:=by rw[Array.length_toList];rfl
 rw[AU,Ei s pos n j,dX,jW,Gu];intro e;have:=fp List.length e;rw[GX] at this;simp only[List.length_nil] at this;omega
def lY (s:ByteArray) (pos:Nat) (j:pos<s.size):s.data.toList.drop pos≠[]:=fun e=>by
 have o:s.size=s.data.toList.length:=by rw[Array.length_toList];rfl
 have:=fp List.length e;rw[GX] at this;simp only[List.length_nil] at this;omega
theorem eZ (s:ByteArray):s.data.toList.length=s.size:=by rw[Array.length_toList];rfl
def kh:List V->Option V
 |[.str s]=>some (.tuple [.int .i32 (jW s).1,.int .i64 (jW s).2])
 |_=>none
section
variable {P:Program} {cx:Cx}
def Bw {w:World} {X:Nat->Prop} {u:Value} {l:List UInt8} (h:aB cx w X u (.str l)):∃s:ByteArray,u=.string s/\s.data.toList=l:=by
 cases h;exact⟨_,rfl,rfl⟩
def BI {vs:Array Value} (h:vs.size=1) {u:Value} (h0:vs[0]?=some u):vs=#[u]:=by
 apply Array.ext_getElem?;intro i;rcases GD i 1 with hi|hi
 ·have:i=0:=by omega
  subst this;simpa using h0
 ·rw[Array.getElem?_eq_none (by omega),Array.getElem?_eq_none (by simpa using hi)]
def Lc {w:World} {X:Nat->Prop} {a b:Value} {x y:V} (h1:aB cx w X a x) (j:aB cx w X b y):aB cx w X (.tuple #[a,b]) (.tuple [x,y]):=
 .tuple _ _ (fun i=>if i=0 then a else b) rfl (fun i hi=>by
  match i,hi with
  |0,_=>rfl
  |1,_=>rfl
  |n+2,hi=>exact absurd hi (by simp)) (fun i hi=>by
  match i,hi with
  |0,_=>simpa [gv] using h1
  |1,_=>simpa [gv] using j
  |n+2,hi=>exact absurd hi (by simp))
def lX {id:Nat} (q:jG P (cx.fm id)) (p:∀(s:ByteArray) (w:World),cx.G w->Calls P (cx.fm id) #[.string s] w fun e w'=>e=.returned (.tuple #[.int .i32 (Lib.decodeGo s).1,.int .i64 (Lib.decodeGo s).2])/\Below w.heap.size w w') :
  ∀args r,kh args=some r->gi P cx none id args r:=by
 intro args r h
 unfold kh at h
 split at h<;>simp only[Ga,reduceCtorEq] at h
 rename_i l
 subst h
 refine⟨q,fun w X vs H D y o j=>?_⟩
 obtain⟨u,hu,E⟩:=j 0 (by simp)
 obtain⟨s,rfl,rfl⟩:=Bw (l:=l) E
 rw[BI (by simpa using o) hu]
 refine (p s w y).mono fun e w' ⟨B,z⟩=>?_
 subst B
 rw[AU]
 exact⟨_,rfl,z,Lc (.int _ _) (.int _ _)⟩
def dk (r n:Int):Bool:=decide (33<=r)&&(decide (r<127)||decide (159<r))&&(!decide (r=65533)||decide (n=3))
def bx:Nat->List UInt8->Bool
 |0,_=>true
 |f+1,l=>if l=[] then true else dk (dN l).1 (dN l).2&&bx f (l.drop (dN l).2)
def cM (l:List UInt8):Bool:=bx l.length l&&(decide (1<=l.length)&&decide (l.length<=16))
def jk:List V->Option V
 |[.str s]=>some (.bool (cM s))
 |_=>none
def mf {id:Nat} (y:jG P (cx.fm id)) (q:∀(s:ByteArray) (w:World),cx.gn<=w.heap.size->cx.G w->Calls P (cx.fm id) #[.string s] w fun e w'=>e=.returned (.bool (cM s.data.toList))/\Below w.heap.size w w') :
  ∀args r,jk args=some r->gi P cx none id args r:=by
 intro args r h
 unfold jk at h
 split at h<;>simp only[Ga,reduceCtorEq] at h
 rename_i l
 subst h
 refine⟨y,fun w X vs H o z p j=>?_⟩
 obtain⟨u,hu,E⟩:=j 0 (by simp)
 obtain⟨s,rfl,rfl⟩:=Bw (l:=l) E
 rw[BI (by simpa using p) hu]
 refine (q s w o z).mono fun e w' ⟨D,B⟩=>?_
 subst D
 exact⟨_,rfl,B,.bool _⟩
end
end Sg
namespace Sg
open Go Go.RowKit Go.Lib Go.Proofs
variable {P : Program} {Z : Nat} {TS EL : TypeId}
def f6 (E:P.underlying TS=some (.slice EL)) (D:(P.info? EL).map (·.size)=some Z) (b off n c i I o m X:Nat) (cs vs:List Value) (w:World) (hi:i<n) (hm:0<m) (R:I≠b)
  (N:cs.length=n*Z) (S:vs.length=m*Z)
  (O:∀j v,cs[j]?=some v->w.cell? ⟨b,off+j,none⟩=some v) (u:∀j,j<(n+m)*Z->(w.cell? ⟨b,off+j,none⟩).isSome=true) (z:∀j,w.frozen? ⟨b,j,none⟩=false)
  (T:∀j v,vs[j]?=some v->w.cell? ⟨I,o+j,none⟩=some v) (J:∀v∈cs,v.oneCell'=true) (L:∀v∈vs,v.oneCell'=true) :
  ∃H,H=w.drew.setCells b (off+(i+m)*Z) (cs.drop (i*Z))/\
  (∀ty q U,(Builtin.copy_ #[TS,TS] ty #[.slice (some ⟨b,off+(i+m)*Z,none⟩) (n+m-(i+m)) q,.slice (some ⟨b,off+i*Z,none⟩) (n+m-i) U]).run P w.drew=.ok (goInt (n-i:Nat)) H)/\
  ∀(W:World),(∀x,W.cell? x=H.cell? x)->(∀x,W.frozen? x=H.frozen? x)->∀ty q,(Builtin.copy_ #[TS,TS] ty #[.slice (some ⟨b,off+i*Z,none⟩) (n+m-i) q,.slice (some ⟨I,o,none⟩) m X]).run P W=.ok (goInt (m:Nat)) (W.setCells b (off+i*Z) vs):=by
 have e1:(i+m)*Z=i*Z+m*Z:=G3 ..
 have e2:(n+m)*Z=n*Z+m*Z:=G3 ..
 have e3:(n-i)*Z=n*Z-i*Z:=Nat.sub_mul ..
 have e4:i*Z<=n*Z:=Gz _ (by omega)
 have Q:(cs.drop (i*Z)).length=(n-i)*Z:=by rw[GX,N];omega
 refine⟨_,rfl,fun ty q U=>?_,fun W y M ty q=>?_⟩
 ·exact J8 Z w.drew _ _ ty EL b (off+(i+m)*Z) (n+m-(i+m)) q ⟨b,off+i*Z,none⟩ (n+m-i) U (cs.drop (i*Z)) (n-i) E D (by simp only[Nat.min_def];split<;>omega) (by rw[Q])
   (fun j v p=>by rw[Addr.add_lit,G5];exact O (i*Z+j) v (by rwa [List.getElem?_drop] at p))
   (fun j p=>by rw[G5];exact u _ (by omega)) (fun j p=>z _) (fun v hv=>J v (oE hv))
 ·have B:∀k,k<(n+m)*Z->((w.drew.setCells b (off+(i+m)*Z) (cs.drop (i*Z))).cell? ⟨b,off+k,none⟩).isSome=true:=fun k Y=>
   AQ b _ _ _ (fun j p=>by rw[G5];exact u _ (by omega)) _ (u k Y)
  exact J8 Z W _ _ ty EL b (off+i*Z) (n+m-i) q ⟨I,o,none⟩ m X vs m E D (by simp only[Nat.min_def];split<;>omega) S
   (fun j v p=>by
    rw[Addr.add_lit,y,World.cell?_setCells_out b _ _ _ _ (fun h _=>absurd h R)];exact T j v p)
   (fun j p=>by rw[y,G5];exact B _ (by omega)) (fun j p=>by rw[M,World.frozen?_setCells];exact z _) L
def ga (I:P.underlying TS=some (.slice EL)) (t3:P.underlying 3=some (.int .i64)) (z:TypeInfo) (L:Value) (T:P.info? EL=some z) (ar:z.zero=some L) (ab:z.size=Z) (hZ:0<Z) (R:z.bytes<=65536) (aa:∀k,(Builtin.zeroCells L.cells k).size=k*Z)
  (b off n c i J y m vc:Nat) (cs vs:List Value) (w:World) (hi:i<n) (hm:0<m) (au:n<=c) (E:c<n+m) (X:n+m<=1073741824)
  (ak:cs.length=n*Z) (ao:vs.length=m*Z) (aj:b<w.heap.size) (aq:J<w.heap.size)
  (S:∀j v,cs[j]?=some v->w.cell? ⟨b,off+j,none⟩=some v)
  (ap:∀j v,vs[j]?=some v->w.cell? ⟨J,y+j,none⟩=some v) (ac:∀v∈cs,v.oneCell'=true) (ad:∀v∈vs,v.oneCell'=true) :
  ∃(G:Nat) (o:Array Value),n+m<=G/\(n+m)*Z<=o.size/\o.size=G*Z/\(∀(j:Nat) (v:Value),(cs.take (i*Z))[j]?=some v->o[j]?=some v)/\G<=9223372036854775807/\
  (∀ty,(Builtin.append_ #[TS,3] ty #[.slice (some ⟨b,off,none⟩) i c,.int .i64 ((n:Int)+(m:Int)-(i:Int))]).run P w=.ok (.slice (some ⟨w.heap.size,0,none⟩) (n+m) G) (w.drew.alloc (.cells o EL)))/\
  (∀(W:World),(∀x,W.cell? x=(w.drew.alloc (.cells o EL)).cell? x)->(∀x,W.frozen? x=(w.drew.alloc (.cells o EL)).frozen? x)->∀ty B,(Builtin.copy_ #[TS,TS] ty #[.slice (some ⟨w.heap.size,i*Z,none⟩) (n+m-i) B,.slice (some ⟨J,y,none⟩) m vc]).run P W=.ok (goInt (m:Nat)) (W.setCells w.heap.size (i*Z) vs))/\
  ∀(W:World),(∀x,W.cell? x=((w.drew.alloc (.cells o EL)).setCells w.heap.size (i*Z) vs).cell? x)->(∀x,W.frozen? x=((w.drew.alloc (.cells o EL)).setCells w.heap.size (i*Z) vs).frozen? x)->∀ty B sc,(Builtin.copy_ #[TS,TS] ty #[.slice (some ⟨w.heap.size,(i+m)*Z,none⟩) (n+m-(i+m)) B,.slice (some ⟨b,off+i*Z,none⟩) (n-i) sc]).run P W=.ok (goInt (n-i:Nat)) (W.setCells w.heap.size ((i+m)*Z) (cs.drop (i*Z))):=by
 have e1:(i+m)*Z=i*Z+m*Z:=G3 ..
 have e2:(n+m)*Z=n*Z+m*Z:=G3 ..
 have e3:(n-i)*Z=n*Z-i*Z:=Nat.sub_mul ..
 have e5:(n+m-i)*Z=n*Z+m*Z-i*Z:=by rw[Nat.sub_mul,e2]
 have e4:i*Z<=n*Z:=Gz _ (by omega)
 have Y:(P.info? EL).map (·.size)=some Z:=by rw[T];simp[ab]
 have an:(n:Int)+(m:Int)-(i:Int)=((n+m-i:Nat):Int):=by omega
 have U:i+(n+m-i)=n+m:=by omega
 have hold:(Builtin.firstCells z.size i (.slice (some ⟨b,off,none⟩) i c)).run P w.drew=.ok (cs.take (i*Z)).toArray w.drew:=by
  rw[ab];exact run_firstCells_some w.drew Z i ⟨b,off,none⟩ i c (cs.take (i*Z)) (by rw[GP];omega) (fun j v p=>by
   rw[Addr.add_lit];rw[List.getElem?_take] at p;split at p
   ·exact S j v p
   ·cases p)
 have b1:(n+m-i)*z.bytes<=1073741824*65536:=Nat.mul_le_mul (by omega) R
 have b2:(n+m)*z.bytes<=1073741824*65536:=Nat.mul_le_mul X R
 have H:∀ty,(Builtin.append_ #[TS,3] ty #[.slice (some ⟨b,off,none⟩) i c,.int .i64 ((n:Int)+(m:Int)-(i:Int))]).run P w=
   .ok (.slice (some ⟨w.heap.size,0,none⟩) (n+m) (grownCap w (n+m) c EL)) (w.drew.alloc (.cells ((cs.take (i*Z)).toArray++Builtin.zeroCells L.cells (n+m-i)++Builtin.zeroCells L.cells (grownCap w (n+m) c EL-(n+m))) EL)):=fun ty=>by
  have h:=Lib.run_append_grow_zeros w TS 3 ty EL z _ .i64 .i64 I t3 T ar (some ⟨b,off,none⟩) i c (cs.take (i*Z)) hold (n+m-i) (by omega) (by omega) (by omega) (by omega) (by omega) (by rw[U];exact growslice_fits E (by omega))
  rw[U] at h
  rw[an]
  exact h
 obtain⟨G,hG⟩:∃G,G=grownCap w (n+m) c EL:=⟨_,rfl⟩
 obtain⟨o,q⟩:∃o:Array Value,o=(cs.take (i*Z)).toArray++Builtin.zeroCells L.cells (n+m-i)++Builtin.zeroCells L.cells (G-(n+m)):=⟨_,rfl⟩
 rw[<-hG] at H
 rw[<-q] at H
 have N:n+m<=G:=by rw[hG];exact grownCap_ge w _ _ _
 have e6:(G-(n+m))*Z=G*Z-(n+m)*Z:=Nat.sub_mul ..
 have e7:(n+m)*Z<=G*Z:=Gz _ N
 have Q:o.size=G*Z:=by
  rw[q,Array.size_append,Array.size_append,aa,aa,kX,GP];omega
 have ag:(n+m)*Z<=o.size:=by rw[Q];omega
 have ah:∀(j:Nat) v,(cs.take (i*Z))[j]?=some v->o[j]?=some v:=fun j v p=>by
  have am:j<(cs.take (i*Z)).length:=by
   rcases GD j (cs.take (i*Z)).length with h|h
   ·exact h
   ·rw[List.getElem?_eq_none h] at p;simp at p
  rw[q,Array.append_assoc,Array.getElem?_append_left (by simpa using am)];simpa using p
 have hN:∀j,j<(n+m)*Z->((w.drew.alloc (.cells o EL)).cell? ⟨w.heap.size,j,none⟩).isSome=true:=fun j p=>by
  rw[World.cell?_alloc_at (w:=w.drew) o _ w.heap.size j rfl,Array.getElem?_eq_getElem (by omega)];rfl
 have O:∀j,(w.drew.alloc (.cells o EL)).frozen? ⟨w.heap.size,j,none⟩=false:=fun j=>World.frozen?_alloc_at (w:=w.drew) o _ w.heap.size j rfl
 have ae:∀j v,w.cell? ⟨b,j,none⟩=some v->(w.drew.alloc (.cells o EL)).cell? ⟨b,j,none⟩=some v:=fun j v h=>by rw[World.cell?_alloc_past (w:=w.drew) _ b j aj];exact h
 have af:∀j v,w.cell? ⟨J,j,none⟩=some v->(w.drew.alloc (.cells o EL)).cell? ⟨J,j,none⟩=some v:=fun j v h=>by rw[World.cell?_alloc_past (w:=w.drew) _ J j aq];exact h
 have M:G<=9223372036854775807:=by
  have:=grownCap_le_maxLen w (n+m) c EL (by unfold maxLen;omega);rw[<-hG] at this;unfold maxLen at this;omega
 have ai:b≠w.heap.size:=by omega
 have al:(cs.drop (i*Z)).length=(n-i)*Z:=by rw[GX,ak];omega
 refine⟨G,o,N,ag,Q,ah,M,H,fun W u D ty B=>?_,fun W u D ty B sc=>?_⟩
 ·exact J8 Z W _ _ ty EL w.heap.size (i*Z) (n+m-i) B ⟨J,y,none⟩ m vc vs m I Y (by simp only[Nat.min_def];split<;>omega) ao
   (fun j v p=>by rw[Addr.add_lit,u];exact af _ v (ap j v p))
   (fun j p=>by rw[u];exact hN _ (by omega)) (fun j p=>by rw[D];exact O _) ad
 ·exact J8 Z W _ _ ty EL w.heap.size ((i+m)*Z) (n+m-(i+m)) B ⟨b,off+i*Z,none⟩ (n-i) sc (cs.drop (i*Z)) (n-i) I Y (by simp only[Nat.min_def];split<;>omega) al
   (fun j v p=>by
    rw[Addr.add_lit,u,World.cell?_setCells_out _ _ _ _ _ (fun h _=>absurd h ai),G5];exact ae _ v (S (i*Z+j) v (by rwa [List.getElem?_drop] at p)))
   (fun j p=>by rw[u];exact AQ _ _ _ _ (fun t ht=>hN _ (by omega)) _ (hN _ (by omega)))
   (fun j p=>by rw[D,World.frozen?_setCells];exact O _) (fun v hv=>ac v (oE hv))
end Sg
namespace Sg
@[go_sem] abbrev f_ (d:Nat) (k:K):Op:=⟨some d,false,k,none⟩
@[go_sem] abbrev t_ (d:Nat) (k:K):Op:=⟨some d,true,k,none⟩
@[go_sem] abbrev y_ (d j:Nat) (k:K):Op:=⟨some d,false,k,some (j,true)⟩
@[go_sem] abbrev n_ (d j:Nat) (k:K):Op:=⟨some d,false,k,some (j,false)⟩
@[go_sem] abbrev u_ (k:K):Op:=⟨none,false,k,none⟩
@[go_sem] abbrev ci (n:Int):aQ:=.c (.int .i64 n)
@[go_sem] abbrev cb (b:Bool):aQ:=.c (.bool b)
def BZ:Option (List V×Bool)->Bool
 |some m=>m.1.all V.datC
 |none=>true
theorem EV {μ s}:JL μ s=BZ (μ s):=rfl
theorem Ij {cs b}:BZ (some (cs,b))=cs.all V.datC:=rfl
def wW (s:Nat) (j:List Nat):Option (List V×Bool)->Option V
 |some (cs,_)=>if j.contains s/\cs.all V.datC then some (.cptr cs 0) else none
 |none=>none
theorem H3 {μ sites s}:eX μ sites (.lref s 0)=wW s sites (μ s):=by
 unfold eX wW;rfl
theorem H0 {s sites cs b}:wW s sites (some (cs,b))=if sites.contains s/\cs.all V.datC then some (.cptr cs 0) else none:=rfl
theorem H2 {μ sites k n}:eX μ sites (.int k n)=some (.int k n):=rfl
theorem H1 {μ sites n}:eX μ sites (.bool n)=some (.bool n):=rfl
theorem H9 {μ sites n}:eX μ sites (.str n)=some (.str n):=rfl
theorem H8 {μ sites z n}:eX μ sites (.slice z n)=some (.slice z n):=rfl
theorem Ep {μ}:gj μ []=μ:=rfl
theorem Qa {μ s l}:gj μ (s::l)=gj (aE μ s ((μ s).map fun m=>(m.1,true))) l:=rfl
def Aa (S:St) (s i off m:Nat) (xs:List V):Option (Nat×List (List V)×Fz)->Option St
 |some (z,rows,.live)=>if rows.length=m then (rows[i]?).bind fun r=>(J0 r off xs).bind fun j=>some {S with A:=aE S.A s (some (z,rows.set i j,.live))} else none
 |_=>none
theorem LJ {S:St} {s i off m:Nat} {xs:List V} {z rows}:Aa S s i off m xs (some (z,rows,.live))=if rows.length=m then (rows[i]?).bind fun r=>(J0 r off xs).bind fun j=>some ⟨S.ρ,S.μ,aE S.A s (some (z,rows.set i j,.live))⟩ else none:=rfl
theorem LE {S:St} {s n i off m x}:JA S (.e s) n (.eref s i off m) x=x.cells.bind fun xs=>if xs.length=n then (if xs.all V.datC then Aa S s i off m xs (S.A s) else none) else none:=by
 unfold JA
 congr 1;funext xs
 split
 ·simp only[true_and];split
  ·unfold Aa;rfl
  ·rfl
 ·rfl
def rN (S:St) (s z n k:Nat) (j:List (List V)):Option (Nat×List (List V)×Fz)->Option (V×St)
 |some (z3,rows,.live)=>if z3=z/\rows.length=n/\k<=n/\rows.length+j.length<=dj then
   some (.own s z (rows.length+j.length),{S with A:=aE S.A s (some (z,rows.take k++(j++rows.drop k),.live))}) else none
 |_=>none
def Kc {S : St} {s z n k : Nat} {ys rows} : rN S s z n k ys (some (z, rows, .live)) = if rows.length = n /\ k <= n /\ rows.length + ys.length <= dj then
      some (.own s z (rows.length + ys.length), ⟨S.ρ, S.μ, aE S.A s (some (z, rows.take k ++ (ys ++ rows.drop k), .live))⟩) else none := by simp [rN]
def uX (S:St) (s z:Nat):V->V->V->Option (V×St)
 |.own s' z' n,.int .i64 k,.slice z'' ys=>if s'=s/\z'=z/\z''=z then (if 0<=k then rN S s z n k.toNat ys (S.A s) else none) else none
 |_,_,_=>none
def Kd {S:St} {s z n k:Nat} {ys}:uX S s z (.own s z n) (.int .i64 (k:Int)) (.slice z ys)=rN S s z n k ys (S.A s):=by simp[uX]
def rM (S:St) (d s z n k m:Nat):Option (Nat×List (List V)×Fz)->Option (Nat×List (List V)×Fz)->Option (V×St)
 |some (z3,rows,.live),none=>if z3=z/\rows.length=n/\k<=m/\m<=n/\n<=dj then
   some (.own d z (rows.take k++rows.drop m).length,{S with A:=aE (aE S.A s (some (z,[],.dead))) d (some (z,rows.take k++rows.drop m,.live))}) else none
 |_,_=>none
def Il {S : St} {d s z n k m : Nat} {rows} : rM S d s z n k m (some (z, rows, .live)) none = if rows.length = n /\ k <= m /\ m <= n /\ n <= dj then
      some (.own d z (rows.take k ++ rows.drop m).length, ⟨S.ρ, S.μ, aE (aE S.A s (some (z, [], .dead))) d (some (z, rows.take k ++ rows.drop m, .live))⟩) else none := by simp [rM]
def uU (S:St) (d s z:Nat):V->V->V->Option (V×St)
 |.own s' z' n,.int .i64 k,.int .i64 m=>if s'=s/\z'=z then (if 0<=k/\0<=m then rM S d s z n k.toNat m.toNat (S.A s) (S.A d) else none) else none
 |_,_,_=>none
def Qc {S:St} {d s z n k m:Nat}:uU S d s z (.own s z n) (.int .i64 (k:Int)) (.int .i64 (m:Int))=rM S d s z n k m (S.A s) (S.A d):=by simp[uU]
section
variable {κ:Nat->List V->Option V} {S:St} {Q:St->Prop} {e:Nat->V} {i:Nat} {ops:List Op}
theorem Lg {dst:Option Nat} {gl:Bool} {f s z:Nat} {x y j:aQ}:Wr κ (⟨dst,gl,.ins f s z x j y,none⟩::ops) i e S Q=sK κ dst gl ops i e Q (uX S s z (aD e S.ρ x) (aD e S.ρ j) (aD e S.ρ y)):=by
 rw[wS]
 congr 1
 simp only[ev,uX];split
 ·rename_i B E n k o D h1 q u;rw[h1,q,u];simp only;split
  ·unfold rN;by_cases w:0<=k
   ·have H:∀n:Nat,(k<=(n:Int))=(k.toNat<=n):=fun n=>propext (by omega);simp only[w,true_and,GS,H];rcases S.A s with _|⟨I,rows,p⟩
    ·rfl
    ·cases p<;>rfl
   ·simp only[w,false_and,and_false,GO];rcases S.A s with _|⟨I,rows,p⟩
    ·rfl
    ·cases p<;>simp
  ·rfl
 ·rename_i h;split
  ·rename_i B E n k o D h1 q u;exact absurd u (h B E n k o D h1 q)
  ·rfl
theorem Qd {dst:Option Nat} {gl:Bool} {f s z:Nat} {x y j:aQ}:Wr κ (⟨dst,gl,.del f s z x j y,none⟩::ops) i e S Q=sK κ dst gl ops i e Q (uU S (dst.getD 0) s z (aD e S.ρ x) (aD e S.ρ j) (aD e S.ρ y)):=by
 rw[wS]
 congr 1
 simp only[ev,uU];split
 ·rename_i D E n k m h1 u w;rw[h1,u,w];simp only;split
  ·unfold rM;by_cases B:0<=k
   ·by_cases hm:0<=m
    ·have I:(k<=m)=(k.toNat<=m.toNat):=propext (by omega);have J:∀n:Nat,(m<=(n:Int))=(m.toNat<=n):=fun n=>propext (by omega);simp only[B,hm,and_self,true_and,GS,I,J];rcases S.A s with _|⟨H,rows,o⟩
     ·rfl
     ·cases o<;>cases S.A (dst.getD 0)<;>rfl
    ·have M:∀(p q:Prop),(p/\q/\k<=m)↔False:=fun p q=>⟨fun h=>by omega,fun h=>h.elim⟩;have L:¬(k<=m):=by omega
     simp only[B,hm,L,and_false,false_and,GO];rcases S.A s with _|⟨H,rows,o⟩
     ·rfl
     ·cases o<;>cases S.A (dst.getD 0)<;>simp
   ·simp only[B,false_and,and_false,GO];rcases S.A s with _|⟨H,rows,o⟩
    ·rfl
    ·cases o<;>cases S.A (dst.getD 0)<;>simp
  ·rfl
 ·rename_i h;split
  ·rename_i D E n k m h1 u w;exact absurd w (h D E n k m h1 u)
  ·rfl
end
def HX {z rows k}:im z (.slice z rows) (.int k 0)=(rows[0]?).map fun r=>.cptr r 0:=by simp[im]
def HY {z rows k}:im z (.slice z rows) (.int k 1)=(rows[1]?).map fun r=>.cptr r 0:=by simp[im]
def HZ {z rows k}:im z (.slice z rows) (.int k 2)=(rows[2]?).map fun r=>.cptr r 0:=by simp[im]
theorem Fp {k d}:cY (some (.int k 0)) d=some 0:=rfl
theorem Fq {k d}:cY (some (.int k 1)) d=some 1:=rfl
theorem Qb {k d}:cY (some (.int k 2)) d=some 2:=rfl
attribute [go_sem] HX HY HZ Fp Fq Qb
attribute [go_sem] LJ LE Kc Kd Il Qc
attribute [go_sem high] Lg Qd
attribute [go_sem] EV Ij H3 H0 H2 H1 H9 H8 Ep Qa
end Sg
namespace Sg
open _root_.Go (IntKind BinOp UnOp)
abbrev Kn:=Nat->Nat->Option (Nat×Bool)->List Op
abbrev Gd:=Option (Nat×Bool)
def qe (d i:Nat) (g:Gd):List Op:=[]
def qD (n:Nat) (k:Kn) (d i:Nat) (g:Gd):List Op:=k n i g
def y1 (j:Nat) (k:Kn) (d i:Nat) (g:Gd):List Op:=k d i (some (j,true))
def y0 (j:Nat) (k:Kn) (d i:Nat) (g:Gd):List Op:=k d i (some (j,false))
def yn (k:Kn) (d i:Nat) (g:Gd):List Op:=k d i none
def qr (v o:Nat) (k:Kn) (d i:Nat) (g:Gd):List Op:=⟨some d,false,.fad (.g v) o,g⟩::⟨some (d+1),false,.load (.v v) none (.l i),g⟩::k (d+2) (i+2) g
def qR (v o n:Nat) (k:Kn) (d i:Nat) (g:Gd):List Op:=⟨some d,false,.fad (.g v) o,g⟩::⟨some (d+1),false,.load (.v v) (some n) (.l i),g⟩::k (d+2) (i+2) g
def ya (k:Kn) (d i:Nat) (g:Gd):List Op:=⟨some d,false,.mov (.l (i-1)),g⟩::k (d+1) (i+1) (some (i,true))
def yo (k:Kn) (d i:Nat) (g:Gd):List Op:=⟨some d,false,.mov (.l (i-1)),g⟩::k (d+1) (i+1) (some (i,false))
def za (j:Nat) (k:Kn) (d i:Nat) (g:Gd):List Op:=⟨some d,false,.pick (.l j) (.l (i-1)) (.c (.bool false)),none⟩::k (d+1) (i+1) none
def zA (j:Nat) (k:Kn) (d i:Nat) (g:Gd):List Op:=⟨some d,true,.pick (.l j) (.l (i-1)) (.c (.bool false)),none⟩::k (d+1) (i+1) none
def zo (j:Nat) (k:Kn) (d i:Nat) (g:Gd):List Op:=⟨some d,false,.pick (.l j) (.c (.bool true)) (.l (i-1)),none⟩::k (d+1) (i+1) none
def zO (j:Nat) (k:Kn) (d i:Nat) (g:Gd):List Op:=⟨some d,true,.pick (.l j) (.c (.bool true)) (.l (i-1)),none⟩::k (d+1) (i+1) none
def qm (v:Nat) (k:Kn) (d i:Nat) (g:Gd):List Op:=⟨some d,false,.mov (.g v),g⟩::k (d+1) (i+1) g
def qf (v o:Nat) (k:Kn) (d i:Nat) (g:Gd):List Op:=⟨some d,false,.fad (.g v) o,g⟩::k (d+1) (i+1) g
def ql (v:Nat) (k:Kn) (d i:Nat) (g:Gd):List Op:=⟨some d,false,.load (.v v) none (.l (i-1)),g⟩::k (d+1) (i+1) g
def qb (v n:Nat) (k:Kn) (d i:Nat) (g:Gd):List Op:=⟨some d,false,.load (.v v) (some n) (.g v),g⟩::k (d+1) (i+1) g
def qp (k:Kn) (d i:Nat) (g:Gd):List Op:=⟨some d,false,.mov (.l (i-1)),g⟩::k (d+1) (i+1) g
def qv (v:Nat) (k:Kn) (d i:Nat) (g:Gd):List Op:=⟨some v,true,.mov (.l (i-1)),g⟩::k d (i+1) g
def qw (v:Nat) (k:Kn) (d i:Nat) (g:Gd):List Op:=⟨some v,true,.mov (.l (i-2)),g⟩::k d (i+1) g
def qV (v j:Nat) (k:Kn) (d i:Nat) (g:Gd):List Op:=⟨some v,true,.mov (.l j),g⟩::k d (i+1) g
def qc (f:Nat) (k:Kn) (d i:Nat) (g:Gd):List Op:=⟨some d,false,.call (.k f) .no none [.l (i-1)],g⟩::k (d+1) (i+1) g
def qd (f:Nat) (k:Kn) (d i:Nat) (g:Gd):List Op:=⟨some d,false,.call (.k f) .no none [.l (i-2),.l (i-1)],g⟩::k (d+1) (i+1) g
def q0 (f:Nat) (k:Kn) (d i:Nat) (g:Gd):List Op:=⟨some d,false,.call (.k f) .no none [],g⟩::k (d+1) (i+1) g
def qC (f:Nat) (xs:List aQ) (k:Kn) (d i:Nat) (g:Gd):List Op:=⟨some d,false,.call (.k f) .no none xs,g⟩::k (d+1) (i+1) g
def qz (v:Nat) (n:Int) (k:Kn) (d i:Nat) (g:Gd):List Op:=⟨some v,true,.mov (.c (.int .i64 n)),g⟩::k d (i+1) g
def qF (v:Nat) (k:Kn) (d i:Nat) (g:Gd):List Op:=⟨some v,true,.mov (.c (.bool false)),g⟩::k d (i+1) g
def qT (v:Nat) (k:Kn) (d i:Nat) (g:Gd):List Op:=⟨some v,true,.mov (.c (.bool true)),g⟩::k d (i+1) g
def qS (v z:Nat) (k:Kn) (d i:Nat) (g:Gd):List Op:=⟨some v,true,.mov (.c (.slice z [])),g⟩::k d (i+1) g
def qE (v:Nat) (k:Kn) (d i:Nat) (g:Gd):List Op:=⟨some v,true,.mov (.c (.str [])),g⟩::k d (i+1) g
def qn (k:Kn) (d i:Nat) (g:Gd):List Op:=⟨some d,false,.un .not (.l (i-1)),g⟩::k (d+1) (i+1) g
def qN (k:Kn) (d i:Nat) (g:Gd):List Op:=⟨some d,true,.un .not (.l (i-1)),g⟩::k (d+1) (i+1) g
def qg (o:Nat) (k:Kn) (d i:Nat) (g:Gd):List Op:=⟨some d,false,.fad (.l (i-1)) o,g⟩::k (d+1) (i+1) g
def qa (j:Nat) (k:Kn) (d i:Nat) (g:Gd):List Op:=⟨some d,false,.pick (.l j) (.l (i-1)) (.c (.bool false)),g⟩::k (d+1) (i+1) g
def qA (j:Nat) (k:Kn) (d i:Nat) (g:Gd):List Op:=⟨some d,true,.pick (.l j) (.l (i-1)) (.c (.bool false)),g⟩::k (d+1) (i+1) g
def qo (j:Nat) (k:Kn) (d i:Nat) (g:Gd):List Op:=⟨some d,false,.pick (.l j) (.c (.bool true)) (.l (i-1)),g⟩::k (d+1) (i+1) g
def qO (j:Nat) (k:Kn) (d i:Nat) (g:Gd):List Op:=⟨some d,true,.pick (.l j) (.c (.bool true)) (.l (i-1)),g⟩::k (d+1) (i+1) g
def qB (v u:Nat) (k:Kn) (d i:Nat) (g:Gd):List Op:=⟨some v,true,.box (.g u),g⟩::k d (i+1) g
def qh (s:Bool) (k:Kn) (d i:Nat) (g:Gd):List Op:=⟨some d,false,.len s (.l (i-1)),g⟩::k (d+1) (i+1) g
def qH (s:Bool) (k:Kn) (d i:Nat) (g:Gd):List Op:=⟨some d,true,.len s (.l (i-1)),g⟩::k (d+1) (i+1) g
def qx (o:Nat) (k:Kn) (d i:Nat) (g:Gd):List Op:=⟨some d,false,.ext (.l (i-1)) o,g⟩::k (d+1) (i+1) g
def qy (o:Nat) (k:Kn) (d i:Nat) (g:Gd):List Op:=⟨some d,false,.ext (.l (i-2)) o,g⟩::k (d+1) (i+1) g
def qY (j o:Nat) (k:Kn) (d i:Nat) (g:Gd):List Op:=⟨some d,false,.ext (.l j) o,g⟩::k (d+1) (i+1) g
def qs (v n a b:Nat) (k:Kn) (d i:Nat) (g:Gd):List Op:=⟨none,false,.store (.v v) n (.l a) (.l b),g⟩::k d (i+1) g
def qt (v n b:Nat) (k:Kn) (d i:Nat) (g:Gd):List Op:=⟨none,false,.store (.v v) n (.g v) (.l b),g⟩::k d (i+1) g
def qu (v a:Nat) (n:Int) (k:Kn) (d i:Nat) (g:Gd):List Op:=⟨none,false,.store (.v v) 1 (.l a) (.c (.int .i64 n)),g⟩::k d (i+1) g
def qi (z:Nat) (k:Kn) (d i:Nat) (g:Gd):List Op:=⟨some d,false,.iad z (.l (i-2)) (.l (i-1)),g⟩::k (d+1) (i+1) g
def qj (k:Kn) (d i:Nat) (g:Gd):List Op:=⟨some d,false,.load (.c) none (.l (i-1)),g⟩::k (d+1) (i+1) g
def qJ (n:Nat) (k:Kn) (d i:Nat) (g:Gd):List Op:=⟨some d,false,.load (.c) (some n) (.l (i-1)),g⟩::k (d+1) (i+1) g
def qk (o:BinOp) (n:Int) (k:Kn) (d i:Nat) (g:Gd):List Op:=⟨some d,false,.bin o (.l (i-1)) (.c (.int .i64 n)),g⟩::k (d+1) (i+1) g
def qK (o:BinOp) (n:Int) (k:Kn) (d i:Nat) (g:Gd):List Op:=⟨some d,true,.bin o (.l (i-1)) (.c (.int .i64 n)),g⟩::k (d+1) (i+1) g
def qq (o:BinOp) (j:Nat) (k:Kn) (d i:Nat) (g:Gd):List Op:=⟨some d,false,.bin o (.l j) (.l (i-1)),g⟩::k (d+1) (i+1) g
def qQ (o:BinOp) (j:Nat) (k:Kn) (d i:Nat) (g:Gd):List Op:=⟨some d,true,.bin o (.l j) (.l (i-1)),g⟩::k (d+1) (i+1) g
def qG (v:Nat) (z:List V) (k:Kn) (d i:Nat) (g:Gd):List Op:=⟨some v,true,.alloc z,g⟩::k d (i+1) g
def q1 (x:K) (k:Kn) (d i:Nat) (g:Gd):List Op:=⟨some d,false,x,g⟩::k (d+1) (i+1) g
def q2 (v:Nat) (x:K) (k:Kn) (d i:Nat) (g:Gd):List Op:=⟨some v,false,x,g⟩::k d (i+1) g
def q3 (x:K) (k:Kn) (d i:Nat) (g:Gd):List Op:=⟨some d,true,x,g⟩::k (d+1) (i+1) g
def q4 (v:Nat) (x:K) (k:Kn) (d i:Nat) (g:Gd):List Op:=⟨some v,true,x,g⟩::k d (i+1) g
def q5 (x:K) (k:Kn) (d i:Nat) (g:Gd):List Op:=⟨none,false,x,g⟩::k d (i+1) g
def rs (d:Nat) (k:Kn) (c:C):C:=.seq (.region false (k d 0 none)) c
def rt (d:Nat) (k:Kn) (c:C):C:=.seq (.region true (k d 0 none)) c
def r1 (d:Nat) (k:Kn):C:=.region false (k d 0 none)
def r2 (d:Nat) (k:Kn):C:=.region true (k d 0 none)
def sq (a b:C):C:=.seq a b
def i1 (d:Nat) (k:Kn) (n:Nat) (a b:C):C:=.seq (.seq (.region false (k d 0 none)) (.cond (.g n) a .skip)) b
def i2 (d:Nat) (k:Kn) (n:Nat) (a b:C):C:=.seq (.seq (.region true (k d 0 none)) (.cond (.g n) a .skip)) b
def cd (n:Nat) (a b:C):C:=.cond (.g n) a b
def bk (n:Nat) (a:C):C:=.block n a
def lq (d:Nat) (k:Kn) (n e:Nat) (c:C):C:=.seq (.seq (.region false (k d 0 none)) (.cond (.g n) .skip (.exit e))) c
def ls (l:List Nat):List aQ:=l.map .l
def opsG:List Op->List Nat
 |[]=>[]
 |o::l=>match o.gl,o.dst with
  |true,some d=>d::opsG l
  |_,_=>opsG l
def glC:C->List Nat
 |.region _ ops=>opsG ops
 |.seq a b=>glC a++glC b
 |.cond _ a b=>glC a++glC b
 |.block _ c=>glC c
 |.loop _ _ _ _ c=>glC c
 |_=>[]
def mF (n:Nat) (r:List nZ) (o:Option Nat) (c:C):F:=⟨n,List.range n++glC c,r,o,c⟩
instance pwI:HPow (Kn->Kn) Kn Kn:=⟨fun a k=>a k⟩
theorem pw_e (a:Kn->Kn) (k:Kn):a ^ k=a k:=rfl
theorem ls_c {n:Nat} {l:List Nat}:ls (n::l)=.l n::ls l:=rfl
theorem ls_n:ls []=[]:=rfl
theorem mF_b {n r o c}:(mF n r o c).body=c:=rfl
theorem mF_p {n r o c}:(mF n r o c).np=n:=rfl
theorem mF_r {n r o c}:(mF n r o c).res=r:=rfl
theorem mF_o {n r o c}:(mF n r o c).own=o:=rfl
attribute [go_sem] pw_e Nat.reduceSub ls_c ls_n mF_b mF_p mF_r mF_o qe qD y1 y0 yn qr qR rs rt r1 r2 sq i1 i2 cd bk lq ya yo za zA zo zO qm qf ql qb qp qv qw qV qc qd q0 qC qz qF qT qS qE qn qN qg qa qA qo qO qB qh qH qx qy qY qs qt qu qi qj qJ qk qK qq qQ qG q1 q2 q3 q4 q5
end Sg
namespace Sg
open Go Go.RowKit
inductive CT where
 |bool
 |int (k:IntKind)
 |str
 |slice (r:List CT)
 deriving Inhabited
abbrev gt (r:List CT) (j:Nat):CT:=r.getD j .bool
inductive dM (N:Nat):CT->V->Prop
 |bool (b):dM N .bool (.bool b)
 |int (k n) (h:(Lit.int k n).wf=true):dM N (.int k) (.int k n)
 |str (s) (h:s.length<=N):dM N .str (.str s)
 |slice (r:List CT) (rows:List (List V)) (hl:rows.length<=N) (hz:∀i,i<rows.length->(gr rows i).length=r.length)
   (h:∀i j,i<rows.length->j<r.length->dM N (gt r j) (gv (gr rows i) j)):dM N (.slice r) (.slice r.length rows)
structure BK {H:Type} (bk:DataW H->Nat) (bkA:List (DataW H)->Nat):Prop where
 str:∀b,bk (.lit (.string b))=b.length+1
 slice:∀e s,bk (.slice e s)=bkA e+bkA s+1
 agg:∀p,bk (.agg p)=bkA p+1
 cons:∀d l,bkA (d::l)=bk d+bkA l
 one:∀d,1<=bk d
theorem BK.part {H:Type} {bk:DataW H->Nat} {bkA:List (DataW H)->Nat} (h:BK bk bkA) {d:DataW H}:∀{l:List (DataW H)},d∈l->bk d<=bkA l
 |x::l,hd=>by
  rw[h.cons];rcases GN.1 hd with rfl|hd
  ·omega
  ·have:=h.part hd;omega
theorem BK.len {H:Type} {bk:DataW H->Nat} {bkA:List (DataW H)->Nat} (h:BK bk bkA):∀{l:List (DataW H)},l.length<=bkA l
 |[]=>Gy _
 |x::l=>by
  rw[h.cons];have:=h.len (l:=l);have:=h.one x;simp only[List.length_cons];omega
mutual
def gA:V->Nat
 |.str s=>s.length
 |.slice _ rows=>rows.length+g9 rows
 |.agg cs=>dw cs
 |_=>0
def dw:List V->Nat
 |[]=>0
 |v::l=>gA v+dw l
def g9:List (List V)->Nat
 |[]=>0
 |r::l=>dw r+g9 l
end
theorem fE:∀{a b:List V},dw (a++b)=dw a+dw b
 |[],b=>by simp[dw]
 |x::a,b=>by simp only[List.cons_append,dw,fE (a:=a)];omega
def J9 {x:V}:dw [x]=gA x:=by simp[dw]
theorem BK.rows {H:Type} {bk:DataW H->Nat} {bkA:List (DataW H)->Nat} (h:BK bk bkA):∀{es:List (DataW H)} {f:Nat->List V},(∀i d,es[i]?=some d->dw (f i)+1<=bk d)->g9 ((List.range es.length).map f)+es.length<=bkA es
 |[],f,_=>by simp[g9]
 |d::es,f,hf=>by
  have h0:=hf 0 d rfl;have p:=h.rows (es:=es) (f:=fun i=>f (i+1)) fun i j o=>hf (i+1) j (by simpa using o);rw[h.cons];simp only[List.length_cons,List.range_succ_eq_map,GB,List.map_map,g9];have e:(f ∘ Nat.succ)=fun i=>f (i+1):=rfl;rw[e];omega
def kW {H:Type} (N:Nat) (bk:DataW H->Nat) (bkA:List (DataW H)->Nat) (d:DataW H):Prop:=maxLen<=N\/(BK bk bkA/\bk d<=N)
section
variable (P:Program)
def rJ (g:TypeId->Option (List CT)):List Field->Nat->Option (List CT)
 |[],_=>some []
 |f::fs,o=>if f.offset=o then (g f.type).bind fun r=>if dl P f.type=some r.length then (rJ g fs (o+r.length)).bind fun j=>some (r++j) else none else none
def ix:Nat->TypeId->Option (List CT)
 |0,_=>none
 |n+1,t=>match P.underlying t with
  |some .bool=>some [.bool]
  |some (.int k)=>some [.int k]
  |some .string=>some [.str]
  |some (.slice e)=>(ix n e).bind fun r=>if dl P e=some r.length/\r.length≠0 then some [.slice r] else none
  |some (.struct fs)=>(rJ P (ix n) fs.toList 0).bind fun r=>if dl P t=some r.length then some r else none
  |_=>none
end
section
variable {P:Program} {cx:Cx} {w:World} {X:Nat->Prop} {N:Nat}
def gM (N:Nat) (cx:Cx) (w:World) (X:Nat->Prop) (r:List CT) (f:Nat->Option Value) (xs:List V):Prop:=
 xs.length=r.length/\∀j,j<r.length->∃u,f j=some u/\u.oneCell'=true/\aB cx w X u (gv xs j)/\dM N (gt r j) (gv xs j)
def gM.append {o r2:List CT} {f:Nat->Option Value} {xs q:List V} (h1:gM N cx w X o f xs) (z:gM N cx w X r2 (fun j=>f (o.length+j)) q):gM N cx w X (o++r2) f (xs++q):=by
 refine⟨by simp[h1.1,z.1],fun j D=>?_⟩;simp only[Gb] at D;by_cases p:j<o.length
 ·obtain⟨u,a,b,c,d⟩:=h1.2 j p;refine⟨u,a,b,?_,?_⟩
  ·rw[show gv (xs++q) j=gv xs j from by simp[gv,List.getD_eq_getElem?_getD,List.getElem?_append_left (by rw[h1.1];exact p)]];exact c
  ·rw[show gv (xs++q) j=gv xs j from by simp[gv,List.getD_eq_getElem?_getD,List.getElem?_append_left (by rw[h1.1];exact p)],
    show gt (o++r2) j=gt o j from by simp[gt,List.getD_eq_getElem?_getD,List.getElem?_append_left p]];exact d
 ·obtain⟨u,a,b,c,d⟩:=z.2 (j-o.length) (by omega);have e:o.length+(j-o.length)=j:=by omega
  simp only[e] at a;have y:gv (xs++q) j=gv q (j-o.length):=by
   simp only[gv,List.getD_eq_getElem?_getD];rw[List.getElem?_append_right (by rw[h1.1];omega),h1.1]
  have B:gt (o++r2) j=gt r2 (j-o.length):=by
   simp only[gt,List.getD_eq_getElem?_getD];rw[List.getElem?_append_right (by omega)]
  exact⟨u,a,b,by rw[y];exact c,by rw[y,B];exact d⟩
def gM.one {c:CT} {f:Nat->Option Value} {u:Value} {x:V} (h0:f 0=some u) (h1:u.oneCell'=true) (p:aB cx w X u x) (q:dM N c x):gM N cx w X [c] f [x]:=
 ⟨rfl,fun j o=>by
  have:j=0:=by simp at o;exact o
  subst this;exact⟨u,h0,h1,p,q⟩⟩
def Bp {a:Addr} {u:Value} (h:w.cell? a=some u):∃c e fr,a=⟨a.block,a.off,none⟩/\w.heap[a.block]?=some (.cells c e fr)/\c[a.off]?=some u:=by
 obtain⟨b,o,q⟩:=a;unfold World.cell? at h;split at h
 ·rename_i c e fr j;split at h
  ·simp at h
  ·rename_i p;cases q with
   |none=>exact⟨c,e,fr,rfl,j,h⟩
   |some x=>simp at p
 ·simp at h
theorem wy {t:TypeId} {n:Nat} (h:dl P t=some n):P.cellsOf t=n:=by
 unfold dl at h;unfold Program.cellsOf;rw[h];rfl
theorem AJ {H:Type} {enc:TypeId×Value->H} {bk:DataW H->Nat} {bkA:List (DataW H)->Nat} {p:Nat} {g:TypeId->Option (List CT)} {cs:List Value}
  (S:∀(t:TypeId) (cs:List Value) (d:DataW H) (ps:List MemPlace) (r:List CT),DataW.trod enc P w 0 (fun _=>true) true p t cs=some (d,ps)->g t=some r->kW N bk bkA d->∃xs,gM N cx w X r (fun j=>cs[j]?) xs/\(BK bk bkA->dw xs+1<=bk d)) :
  ∀(B:List Field) (o:Nat) (z:List (DataW H×List MemPlace)) (r:List CT),(B.mapM fun f=>DataW.trod enc P w 0 (fun _=>true) true p f.type ((cs.drop f.offset).take (P.cellsOf f.type)))=some z->
   rJ P g B o=some r->(∀y∈z,kW N bk bkA y.1)->∃xs,gM N cx w X r (fun j=>cs[o+j]?) xs/\(BK bk bkA->dw xs<=bkA (z.map fun y=>y.1))
 |[],o,z,r,_,q,_=>by
  simp only[rJ,Ga] at q;subst q;exact⟨[],⟨rfl,fun j D=>by simp at D⟩,fun _=>by simp[dw]⟩
 |f::B,o,z,r,h,q,bX=>by
  rw[List.mapM_cons] at h;simp only[rJ] at q;split at q<;>try (simp at q;done)
  rename_i U;simp only[Gc] at q;obtain⟨T,J,q⟩:=q;split at q<;>try (simp at q;done)
  rename_i hz;simp only[Gc,Ga] at q;obtain⟨r2,L,rfl⟩:=q;cases h1:DataW.trod enc P w 0 (fun _=>true) true p f.type ((cs.drop f.offset).take (P.cellsOf f.type)) with
  |none=>simp[h1] at h
  |some y=>
   cases E:B.mapM fun f=>DataW.trod enc P w 0 (fun _=>true) true p f.type ((cs.drop f.offset).take (P.cellsOf f.type)) with
   |none=>simp[h1,E] at h
   |some zs=>
    obtain⟨d,ps⟩:=y;have Q:z=(d,ps)::zs:=by simpa [h1,E] using h.symm
    subst Q;obtain⟨xs,R,W⟩:=S _ _ _ _ _ h1 J (bX _ (ni ..));obtain⟨z,O,Y⟩:=AJ S B (o+T.length) zs r2 E L (fun y O=>bX y (nh _ O));have M:gM N cx w X T (fun j=>cs[o+j]?) xs:=⟨R.1,fun j D=>by
     obtain⟨u,a,b⟩:=R.2 j D;refine⟨u,?_,b⟩;simp only at a ⊢;rw[wy hz,List.getElem?_take_of_lt D,List.getElem?_drop,U] at a;exact a⟩
    refine⟨xs++z,M.append ?_,fun I=>?_⟩
    ·simpa only [G5] using O
    ·have:=W I;have:=Y I;rw[fE,GB,I.cons]
     show _<=bk d+_
     omega
theorem iN {H:Type} {enc:TypeId×Value->H} {bk:DataW H->Nat} {bkA:List (DataW H)->Nat}:∀(fuel:Nat) (n:Nat) (t:TypeId) (cs:List Value) (d:DataW H) (ps:List MemPlace) (r:List CT),
  DataW.trod enc P w 0 (fun _=>true) true fuel t cs=some (d,ps)->ix P n t=some r->kW N bk bkA d->∃xs,gM N cx w (fun _=>False) r (fun j=>cs[j]?) xs/\(BK bk bkA->dw xs+1<=bk d)
 |0,n,t,cs,d,ps,r,h,_,_=>by simp[DataW.trod] at h
 |fuel+1,0,t,cs,d,ps,r,_,hr,_=>by simp[ix] at hr
 |fuel+1,n+1,t,cs,d,ps,r,h,hr,bX=>by
  have ih:=fun t cs d ps r=>iN (enc:=enc) (bk:=bk) (bkA:=bkA) fuel n t cs d ps r;unfold ix at hr;unfold DataW.trod at h;split at hr
  ·rename_i ht;rw[ht] at h;simp only[Ga] at hr;subst hr;split at h<;>simp_all
   subst_vars
   exact⟨_,gM.one rfl rfl (.bool _) (.bool _),fun hb=>by have:=hb.one d;simpa [J9,gA] using this⟩
  ·rename_i k ht;rw[ht] at h;simp only[Ga] at hr;subst hr;split at h<;>simp_all;obtain⟨⟨rfl,hw⟩,-⟩:=h
   subst_vars
   exact⟨_,gM.one rfl rfl (.int _ _) (.int _ _ hw),fun hb=>by have:=hb.one d;simpa [J9,gA] using this⟩
  ·rename_i ht;rw[ht] at h;simp only[Ga] at hr;subst hr;split at h
   all_goals try (simp_all;done)
   rename_i s ji;split at h<;>simp only[Ga,reduceCtorEq,Gi] at h;rename_i mX;obtain⟨rfl,-⟩:=h;have hl:s.data.toList.length=s.size:=Array.length_toList;exact⟨_,gM.one rfl rfl (.str s) (.str _ (by
    rcases bX with bX|⟨hb,bX⟩
    ·omega
    ·rw[hb.str] at bX;omega)),fun hb=>by rw[hb.str,J9,gA,hl];omega⟩
  ·rename_i e ht;simp only[Gc] at hr;obtain⟨r1,zV,hr⟩:=hr;split at hr<;>simp only[Ga,reduceCtorEq] at hr;rename_i hz;subst hr;rw[ht] at h;split at h
   all_goals try (simp_all;done)
   ·exact⟨_,gM.one rfl rfl (.nilslice none r1.length) (.slice r1 [] (by simp) (fun i hi=>by simp at hi) (fun i j hi=>by simp at hi)),fun hb=>by simpa [J9,gA,g9] using hb.one _⟩
   ·rename_i e' a len aJ ji;simp only[Ga,TypeDesc.slice.injEq] at ji;subst ji;simp only at h;split at h<;>try (simp at h;done)
    rename_i hc;obtain⟨-,PO,Qq⟩:=hc;have hsz:P.cellsOf e=r1.length:=wy hz.1;simp only[Gc,G9] at h;obtain⟨eH,ua,aR,iJ,hd⟩:=h;simp only[Gi] at hd;obtain⟨rfl,-⟩:=hd;simp only[GS] at iJ;rw[hsz] at ua iJ;have el:∀i,i<aJ->∃l,w.cells? 0 (a.add (i*r1.length)) r1.length=some l/\∃y,DataW.trod enc P w 0 (fun _=>true) true fuel e l=some y/\(y∈eH\/y∈aR)/\(i<len->eH[i]?=some y):=by
     intro i hi;have:∃y,((w.cells? 0 (a.add (i*r1.length)) r1.length).bind (DataW.trod enc P w 0 (fun _=>true) true fuel e))=some y/\(y∈eH\/y∈aR)/\(i<len->eH[i]?=some y):=by
      by_cases hlt:i<len
      ·have h1:=mapM_some_get ua i i (by simp[hlt]);have h2:=mapM_some_length ua;simp only[List.length_range] at h2;exact⟨eH[i],by rw[h1];simp,.inl (nj _),fun _=>by simp⟩
      ·have PU:(List.range (aJ-len))[i-len]?=some (i-len):=by
        rw[List.getElem?_range (by omega)]
       have h1:=mapM_some_get iJ (i-len) (i-len) PU;have h2:=mapM_some_length iJ;simp only[List.length_range] at h2;rw[show len+(i-len)=i from by omega] at h1;exact⟨aR[i-len],by rw[h1];simp,.inr (nj _),fun h=>absurd h hlt⟩
     obtain⟨y,hy,zW⟩:=this;simp only[Gc] at hy;obtain⟨l,h1,h2⟩:=hy;exact⟨l,h1,y,h2,zW⟩
    have vS:∀y,(y∈eH\/y∈aR)->kW N bk bkA y.1:=fun y hy=>by
     rcases bX with bX|⟨hb,bX⟩
     ·exact .inl bX
     ·rw[hb.slice] at bX;refine .inr ⟨hb,?_⟩;rcases hy with hy|hy
      ·have:=hb.part (List.mem_map_of_mem (f:=fun x:DataW H×List MemPlace=>x.1) hy);omega
      ·have:=hb.part (List.mem_map_of_mem (f:=fun x:DataW H×List MemPlace=>x.1) hy);omega
    have PT:len<=N:=by
     rcases bX with bX|⟨hb,bX⟩
     ·omega
     ·rw[hb.slice] at bX;have h1:=hb.len (l:=eH.map fun x=>x.1);have h2:=mapM_some_length ua;simp only[List.length_range,Gf] at h1 h2;omega
    by_cases gY:aJ=0
    ·subst gY;obtain rfl:len=0:=by omega
     exact⟨_,gM.one rfl rfl (.nilslice (some a) r1.length) (.slice r1 [] (by simp) (fun i hi=>by simp at hi) (fun i j hi=>by simp at hi)),fun hb=>by simpa [J9,gA,g9] using hb.one _⟩
    ·obtain⟨l0,ox,-⟩:=el 0 (by omega);have zR:=World.cells?_some ox;obtain⟨c,ec,fr,uc,gZ,-⟩:=Bp (w:=w) (a:=(a.add (0*r1.length)).add 0) (u:=l0[0]'(by omega)) (by rw[zR.2.2 0 (by omega)];simp);have kl:a=⟨a.block,a.off,none⟩:=by
      obtain⟨b,o,sp⟩:=a;simp only[Addr.add] at uc;cases sp<;>simp_all
     obtain⟨b,o,sp⟩:=a;simp only[Addr.mk.injEq,true_and] at kl;subst kl;have gZ:w.heap[b]?=some (.cells c ec fr):=by simpa [Addr.add] using gZ
     have gg:∀i,i<len->∃xs,gM N cx w (fun _=>False) r1 (fun j=>c[o+i*r1.length+j]?) xs/\(BK bk bkA->∀d,(eH.map fun x=>x.1)[i]?=some d->dw xs+1<=bk d):=by
      intro i hi;obtain⟨l,hl,⟨d',Qs⟩,hd,zW,PQ⟩:=el i (by omega);obtain⟨xs,⟨PW,PX⟩,wx⟩:=ih _ _ _ _ _ hd zV (vS _ zW);obtain⟨-,Qr,PS⟩:=World.cells?_some hl;refine⟨xs,⟨PW,fun j hj=>?_⟩,fun hb d hd=>by
       rw[List.getElem?_map,PQ hi] at hd;simp only[Option.map_some,Ga] at hd;rw[<-hd];exact wx hb⟩
      obtain⟨u,p1,p2⟩:=PX j hj;refine⟨u,?_,p2⟩;simp only at p1 ⊢;have h3:=PS j hj;rw[p1,Jw,Jw] at h3;obtain⟨c',_,_,_,h4,h5⟩:=Bp h3;rw[gZ] at h4;simp only[Ga,Obj.cells.injEq] at h4;obtain⟨rfl,-⟩:=h4;exact h5
     obtain⟨f,hf⟩:=jT gg;have cK:((List.range len).map f).length=len:=by simp
     have jj:∀i,i<len->gr ((List.range len).map f) i=f i:=fun i hi=>by simp[gr,hi]
     refine⟨[.slice r1.length ((List.range len).map f)],gM.one rfl rfl ?_ ?_,fun hb=>?_⟩
     ·refine uz (c:=c) (e:=ec) (fr:=fr) (JJ gZ) id gZ (by simpa using PO) (fun i hi=>?_) (fun i j hi hj=>?_) cK
      ·rw[cK] at hi;rw[jj i hi];exact (hf i hi).1.1
      ·rw[cK] at hi;rw[jj i hi];obtain⟨u,p1,p2,p3,p4⟩:=(hf i hi).1.2 j hj;exact⟨u,p1,p2,p3⟩
     ·refine .slice r1 _ (by rw[cK];exact PT) (fun i hi=>?_) (fun i j hi hj=>?_)
      ·rw[cK] at hi;rw[jj i hi];exact (hf i hi).1.1
      ·rw[cK] at hi;rw[jj i hi];obtain⟨u,p1,p2,p3,p4⟩:=(hf i hi).1.2 j hj;exact p4
     ·have mX:=mapM_some_length ua;simp only[List.length_range] at mX;have:=hb.rows (es:=eH.map fun x=>x.1) (f:=f) fun i d hd=>(hf i (by
       have:=(List.getElem?_eq_some_iff.1 hd).1;simp only[Gf] at this;omega)).2 hb d hd
      simp only[Gf,mX] at this;rw[hb.slice,J9,gA,cK];omega
  ·rename_i fs ht;simp only[Gc] at hr;obtain⟨r1,zV,hr⟩:=hr;split at hr<;>simp only[Ga,reduceCtorEq] at hr;subst hr;rw[ht] at h;split at h
   all_goals try (simp_all;done)
   rename_i Qp _ ji;simp only[Ga,TypeDesc.struct.injEq] at ji;subst ji;split at h<;>try (simp at h;done)
   simp only[G9] at h;obtain⟨ys,PY,hd⟩:=h;simp only[Gi] at hd;obtain⟨rfl,-⟩:=hd;have PR:∀y∈ys,kW N bk bkA y.1:=fun y hy=>by
    rcases bX with bX|⟨hb,bX⟩
    ·exact .inl bX
    ·rw[hb.agg] at bX;have:=hb.part (List.mem_map_of_mem (f:=fun x:DataW H×List MemPlace=>x.1) hy);exact .inr ⟨hb,by omega⟩
   obtain⟨xs,hx,wx⟩:=AJ (fun t cs d ps r=>ih t cs d ps r) fs.toList 0 ys _ PY zV PR;exact⟨xs,by simpa using hx,fun hb=>by have:=wx hb;rw[hb.agg];omega⟩
  ·simp at hr
end
end Sg
namespace Sg
open Go Go.RowKit Go.ChangeShapes Go.WideShapes
def isAgg (P:Program) (t:TypeId):Bool:=
 match P.underlying t with
 |some (.struct _)=>true
 |_=>false
def uM (P:Program) (t:TypeId):Option (Bool×List CT):=(ix P 20 t).bind fun r=>some (isAgg P t,r)
def mw (N:Nat) (r:List CT) (xs:List V):Prop:=xs.length=r.length/\∀j,j<r.length->dM N (gt r j) (gv xs j)
def iy (N:Nat):Bool×List CT->V->Prop
 |(true,r),x=>∃xs,x=.agg xs/\mw N r xs
 |(false,r),x=>∃c,r=[c]/\dM N c x
def fT (N:Nat):List (Bool×List CT)->List V->Prop
 |[],[]=>True
 |s::ss,x::xs=>iy N s x/\fT N ss xs
 |_,_=>False
def ij (N:Nat) (x:V):Prop:=maxLen<=N\/gA x<=N
section
variable {P:Program} {cx:Cx} {w:World} {N:Nat}
def ID {H:Type} {enc:TypeId×Value->H} {bk:DataW H->Nat} {bkA:List (DataW H)->Nat} {t:TypeId} {v:Value} {d:DataW H} {ps:List MemPlace} {s:Bool×List CT} {base:Nat} (h:DataW.Trod enc P w 0 (fun _=>true) true t v d ps)
  (hw:Value.okWide P w .any base t v) (D:uM P t=some s) (p:kW N bk bkA d):∃x,aB cx w (fun _=>False) v x/\iy N s x/\ij N x:=by
 unfold uM at D
 simp only[Gc,Ga] at D
 obtain⟨r,o,rfl⟩:=D
 obtain⟨q,T⟩:=h
 obtain⟨xs,⟨y,L⟩,I⟩:=iN (cx:=cx) (N:=N) (bk:=bk) (bkA:=bkA) q 20 t _ d ps r T o p
 have J:ij N (.agg xs):=by
  rcases p with p|⟨R,p⟩
  ·exact .inl p
  ·have:=I R;exact .inr (by show dw xs<=N;omega)
 have one:∀c,r=[c]->v.cells=#[v]->isAgg P t=false->∃x,aB cx w (fun _=>False) v x/\iy N (isAgg P t,r) x/\ij N x:=by
  intro c S W z;subst S;obtain⟨u,h1,Y,O,Q⟩:=L 0 (by simp);rw[W] at h1;simp at h1;subst h1;refine⟨gv xs 0,O,by rw[z];exact⟨c,rfl,Q⟩,J.imp id fun h=>?_⟩
  match xs,y with
  |[x],_=>have h:dw [x]<=N:=h;rw[J9] at h;exact h
 unfold ix at o
 split at o
 ·rename_i ht
  obtain⟨b,rfl⟩:=okWide_bool ht hw
  simp only[Ga] at o
  exact one _ o.symm rfl (by simp[isAgg,ht])
 ·rename_i k ht
  obtain⟨b,rfl⟩:=okWide_int ht hw
  simp only[Ga] at o
  exact one _ o.symm rfl (by simp[isAgg,ht])
 ·rename_i ht
  obtain⟨b,rfl⟩:=okWide_string ht hw
  simp only[Ga] at o
  exact one _ o.symm rfl (by simp[isAgg,ht])
 ·rename_i e ht
  obtain⟨a,len,aJ,rfl⟩:=okWide_slice ht hw
  simp only[Gc] at o
  obtain⟨M,-,o⟩:=o
  split at o<;>simp only[Ga,reduceCtorEq] at o
  exact one _ o.symm rfl (by simp[isAgg,ht])
 ·rename_i X ht
  obtain⟨cs,rfl,E⟩:=okWide_struct ht hw
  simp only[Gc] at o
  obtain⟨M,-,o⟩:=o
  split at o<;>simp only[Ga,reduceCtorEq] at o
  rename_i hz
  subst o
  have B:cs.size=M.length:=by rw[E];exact wy hz
  have z:isAgg P t=true:=by simp[isAgg,ht]
  obtain⟨u,hu⟩:=jT L
  refine⟨.agg xs,.agg cs xs u (by rw[B,y]) (fun i hi=>?_) (fun i hi=>?_),?_⟩
  ·rw[y] at hi
   have:=(hu i hi).1
   exact⟨by simpa [Value.cells] using this,(hu i hi).2.1⟩
  ·rw[y] at hi;exact (hu i hi).2.2.1
  ·rw[z];exact⟨⟨xs,rfl,y,fun j U=>(hu j U).2.2.2⟩,J⟩
 ·simp at o
theorem ee {H:Type} {enc:TypeId×Value->H} {bk:DataW H->Nat} {bkA:List (DataW H)->Nat} {base:Nat}:∀(ts:List TypeId) (vs:List Value) (ds:List (DataW H)) (ps:List MemPlace) (ss:List (Bool×List CT)),DataW.TrodAll enc P w 0 (fun _=>true) true ts vs ds ps->
  (∀(j:Nat) t v,ts[j]?=some t->vs[j]?=some v->Value.okWide P w .any base t v)->Jo (uM P) ts=some ss->(∀d∈ds,kW N bk bkA d)->
  ∃xs:List V,xs.length=vs.length/\(∀i,i<xs.length->∃u,vs[i]?=some u/\aB cx w (fun _=>False) u (gv xs i))/\fT N ss xs/\ds.length=ts.length/\∀x∈xs,ij N x
 |[],vs,ds,ps,ss,h,_,hs,_=>by
  obtain⟨rfl,rfl,rfl⟩:=trodAll_nil h;simp only[Jo,Ga] at hs;subst hs;exact⟨[],rfl,fun i hi=>by simp at hi,Gs,rfl,fun x R=>by cases R⟩
 |t::ts,vs,ds,ps,ss,h,hok,hs,bX=>by
  match vs,ds,h,bX with
  |v::vs,d::ds,h,bX=>
   obtain⟨p,q,h1,L,rfl⟩:=h;simp only[Jo,Gc,Ga] at hs;obtain⟨s,o,I,z,rfl⟩:=hs;obtain⟨x,B,D,E⟩:=ID (cx:=cx) (N:=N) h1 (hok 0 t v rfl rfl) o (bX d (ni ..));obtain⟨xs,a,b,c,e,J⟩:=ee ts vs ds q I L (fun j t v O Q=>hok (j+1) t v (by simpa using O) (by simpa using Q)) z (fun d M=>bX d (nh _ M));refine⟨x::xs,by simp[a],fun i hi=>?_,⟨D,c⟩,by simp[e],fun y hy=>by
    rcases GN.1 hy with rfl|hy
    ·exact E
    ·exact J y hy⟩
   cases i with
   |zero=>exact⟨v,rfl,by simpa [gv] using B⟩
   |succ i=>obtain⟨u,S,T⟩:=b i (by simpa using hi);exact⟨u,by simpa using S,by simpa [gv] using T⟩
theorem Bc {H:Type} {enc:TypeId×Value->H} {W o:World} {z:Nat->Bool} (y:laidOutB P=true) (u:Below W.heap.size W o) :
  ∀(ts:List TypeId) (vs:List Value) (ds:List (DataW H)) (ps:List MemPlace),(ts.all fun t=>P.readableRec t&&decide (t<P.types.size))=true->
  DataW.TrodAll enc P W 0 (fun _=>true) true ts vs ds ps->(∀p∈ps,p.block<W.heap.size)->(∀p∈ps,z p.block=true)->DataW.TrodAll enc P o 0 z true ts vs ds ps
 |[],vs,ds,ps,_,h,_,_=>by
  obtain⟨rfl,rfl,rfl⟩:=trodAll_nil h;exact trodAll_mk0
 |t::ts,vs,ds,ps,hc,h,hlt,hsp=>by
  match vs,ds,h with
  |v::vs,d::ds,h=>
   obtain⟨p,q,h1,B,rfl⟩:=h;simp only[List.all_cons,Gg,Gn] at hc;exact⟨p,q,WideElems.Trod_stays y hc.1.1 hc.1.2 h1 (fun x j=>u.same (hlt x (by simp[j]))) (fun x j=>hsp x (by simp[j])),
    Bc y u ts vs ds q (by simpa using hc.2) B (fun x j=>hlt x (by simp[j])) (fun x j=>hsp x (by simp[j])),rfl⟩
def ud {H:Type} {enc:TypeId×Value->H} {bk:DataW H->Nat} {bkA:List (DataW H)->Nat} {fn:Func} {s:ChangeSpec} {conds:List PathCond} {mW t8 mb tU:Bool} {own:Option Nat} {fid:Nat} {f:FuncId} {ss:List (Bool×List CT)} {tb:TypeId}
  (PP:cx.fm fid=f) (zU:Jo (uM P) fn.params.toList=some ss) (mc:(fn.params.toList.all fun t=>P.readableRec t&&decide (t<P.types.size))=true) (hl:laidOutB P=true)
  (mY:s.vars=[]) (kj:fn.resultTypes=#[tb]) (DS:P.underlying tb=some .bool)
  (ub:∀ds:List (DataW H),ds.length=fn.params.toList.length->s.fn H ds={results:=[.lit (.bool true)],args:=ds})
  (zP:∀xs,fT N ss xs->(∀x∈xs,ij N x)->gi P cx own fid xs (.bool true))
  (W:World) (hgn:cx.gn<=W.heap.size) (hG:cx.G W) (base:Nat) (args:Array Value) (ds gs:List (DataW H)) (cA:List MemPlace)
  (hval:∀(j:Nat) t v,fn.params[j]?=some t->args[j]?=some v->Value.okWide P W .any base t v)
  (hW:DataW.Whole enc P fn.params.toList s.vars mW W args.toList ds gs cA) (bX:∀d∈ds,kW N bk bkA d) :
  Calls P f args W fun e W'=>∃v,e=.returned v/\s.post enc P fn mW t8 mb tU W args v W':=by
 have hlt:=hW.lt
 have DQ:=hW
 obtain⟨p,q,hA,hV,rfl,-,-⟩:=hW
 rw[mY] at hV
 obtain⟨rfl,rfl⟩:=trodVars_none hV
 obtain⟨xs,h1,h2,h3,h4,h5⟩:=ee (cx:=cx) (N:=N) (bk:=bk) (bkA:=bkA) (base:=base) fn.params.toList args.toList ds p ss hA (fun j t v hj hv=>hval j t v (by simpa using hj) (by simpa using hv)) zU bX
 obtain⟨-,hc⟩:=zP xs h3 h5
 subst PP
 refine (hc W (fun _=>False) args (fun b hb=>hb.elim) hgn hG (by simpa using h1.symm) (fun i hi=>by simpa using h2 i hi)).mono fun e W' ⟨v,he,hb,hr⟩=>?_
 subst he
 have md:=hr.data (fun b hb=>hb.elim)
 have hv:v=.bool true:=by cases md;rfl
 subst hv
 have hs:=ub ds h4
 have oy:∀x∈p,x.block<W.heap.size:=fun x hx=>hlt x (by simpa using hx)
 have res:∀(b:Nat) (sp:Nat->Bool) (hd:Bool),DataW.TrodAll enc P W' b sp hd fn.resultTypes.toList ((Value.bool true).resultList fn.resultTypes.size) (s.fn H (ds++[])).results []:=fun b sp hd=>by
  rw[GG,hs,kj];exact trodAll_mk1 (shut_bool DS true)
 have tW:∀sp:Nat->Bool,(∀x∈p,sp x.block=true)->DataW.TrodAll enc P W' 0 sp true fn.params.toList args.toList (s.fn H (ds++[])).args p:=fun sp hsp=>by
  rw[GG,hs];exact Bc hl hb _ _ _ _ mc hA oy hsp
 have vars:∀sp:Nat->Bool,DataW.TrodVars enc P W' sp s.vars (s.fn H (ds++[])).vars []:=fun sp=>by
  rw[GG,hs,mY];rfl
 refine⟨_,rfl,ds,[],p++[],[],p,[],DQ,res _ _ _,tW _ (fun x hx=>by simpa using oy x hx),vars _,hb.frame _,fun _=>⟨ok_one kj rfl (okWide_bool_mk DS true),(s.fn H (ds++[])).results++(s.fn H (ds++[])).args,(s.fn H (ds++[])).vars,p,?_,fun x hx _=>by simpa using hx⟩⟩
 obtain⟨_,_,_,_,_,hz,hn⟩:=DQ
 refine⟨p,[],?_,vars _,by simp,fun b off hx=>?_,fun ha=>by simpa using hn ha⟩
 ·have:=trodAll_append (tW (fun _=>true) (fun _ _=>rfl)) (res 0 (fun _=>true) true)
  simpa using this
 ·rw[hb.frozen (oy _ hx)]
  exact hz b off (by simpa using hx)
end
end Sg
namespace Sg
open _root_.Go (IntKind BinOp UnOp)
section
variable {A:AA} {S:St} {κ:Nat->List V->Option V}
theorem wT:gm [] A=some ([],A):=rfl
theorem wP {x xs}:gm (x::xs) A=(bK A x).bind fun r=>(gm xs r.2).bind fun q=>some (r.1::q.1,q.2):=rfl
theorem HB {k n}:bK A (.int k n)=some (.int k n,A):=rfl
theorem HA {n}:bK A (.bool n)=some (.bool n,A):=rfl
theorem HD {n}:bK A (.str n)=some (.str n,A):=rfl
theorem HC {z n}:bK A (.slice z n)=some (.slice z n,A):=rfl
theorem Er {z}:bK A (.nslice z)=some (.tuple [.slice z []],A):=rfl
def zQ (A:AA) (s z n:Nat):Option (Nat×List (List V)×Fz)->Option (V×AA)
 |some (z',rows,.live)=>if z'=z/\rows.length=n then some (.tuple [.slice z rows],aE A s (some (z,[],.dead))) else none
 |_=>none
theorem BE {s z n}:bK A (.own s z n)=zQ A s z n (A s):=rfl
def BV {s z n rows}:zQ A s z n (some (z,rows,.live))=if rows.length=n then some (.tuple [.slice z rows],aE A s (some (z,[],.dead))) else none:=by simp[zQ]
theorem wR {d}:JI d [] A=some ([],A):=rfl
theorem wO {d x xs}:JI d (x::xs) A=(dK d A x).bind fun r=>(JI (d+1) xs r.2).bind fun q=>some (r.1::q.1,q.2):=rfl
theorem Iu {d k n}:dK d A (.int k n)=some (.int k n,A):=rfl
theorem It {d n}:dK d A (.bool n)=some (.bool n,A):=rfl
theorem Iw {d n}:dK d A (.str n)=some (.str n,A):=rfl
theorem Iv {d z n}:dK d A (.slice z n)=some (.slice z n,A):=rfl
def Ae (d:Nat) (A:AA) (z:Nat) (rows:List (List V)):Option (Nat×List (List V)×Fz)->Option (V×AA)
 |none=>some (.own d z rows.length,aE A d (some (z,rows,.live)))
 |some _=>none
def BF {d z rows}:dK d A (.tuple [.slice z rows])=Ae d A z rows (A d):=by
 simp only[dK,Ae];cases A d<;>rfl
theorem B1 {d z rows}:Ae d A z rows none=some (.own d z rows.length,aE A d (some (z,rows,.live))):=rfl
theorem Km {z}:dA (.nslice z)=.tuple [.slice z []]:=rfl
theorem Kl {k n}:dA (.int k n)=.int k n:=rfl
theorem Kk {n}:dA (.bool n)=.bool n:=rfl
theorem Kp {n}:dA (.str n)=.str n:=rfl
theorem Ko {z n}:dA (.slice z n)=.slice z n:=rfl
theorem eT {b f k s avs}:kz κ b S f k s avs=(dQ S k s avs).bind fun q=>(κ f q.1).bind fun r=>fD b S s q.2 r:=rfl
def wZ (S:St) (k:Nat) (avs j:List V):Option (List V×Bool)->Option (List V×AA)
 |some (cs,false)=>(gm cs (Jk S.A ((avs.set k .undef).flatMap Jd))).bind fun h=>some (j.set k (.tuple (.lref 0 0::h.1)),h.2)
 |_=>none
def wY (S:St) (k s:Nat) (avs:List V):Option V->Option (List V×AA)
 |some (.lref s' 0)=>if s'=s then (Jo (dv S.A) (avs.set k .undef)).bind fun j=>wZ S k avs j (S.μ s) else none
 |_=>none
theorem BA {k s avs}:dQ S k s avs=wY S k s avs (avs[k]?):=rfl
def BQ {k s avs}:wY S k s avs (some (.lref s 0))=(Jo (dv S.A) (avs.set k .undef)).bind fun j=>wZ S k avs j (S.μ s):=by simp[wY]
theorem BR {k avs bs cs}:wZ S k avs bs (some (cs,false))=(gm cs (Jk S.A ((avs.set k .undef).flatMap Jd))).bind fun h=>some (bs.set k (.tuple (.lref 0 0::h.1)),h.2):=rfl
theorem BB {b s r0 us}:fD b S s A (.tuple [r0,.tuple us])=(JI b us A).bind fun t=>some (r0,⟨S.ρ,aE S.μ s (some (t.1,false)),t.2⟩):=rfl
theorem B2:dv A .undef=some .undef:=rfl
theorem BC:Jd .undef=[]:=rfl
theorem IC {s z z' n y}:lV S z (.own s z' n) y=JY S s z (.own s z' n) y:=rfl
theorem LA {n s i off m}:Jx S .x n (.eref s i off m)=vU n i off m (S.A s):=rfl
def DK:Option V->Option V
 |some (.slice 1 rows)=>(bT rows).bind fun l=>some (.str l)
 |_=>none
theorem Lo {x}:wV A x=DK (aY A x):=rfl
theorem Lr {rows}:DK (some (.slice 1 rows))=(bT rows).bind fun l=>some (.str l):=rfl
theorem uQ:∀(l:List UInt8),bT (l.map fun b=>[.int .u8 b.toNat])=some l
 |[]=>rfl
 |b::l=>by simp[bT,uQ l]
theorem P9 {n:Int}:bT [[.int .u8 n]]=some [UInt8.ofNat n.toNat]:=rfl
def vQ (z n:Nat):Option (Nat×List (List V)×Fz)->Option V
 |some (z',rows,.frz)=>if z'=z/\rows.length=n then some (.slice z rows) else none
 |_=>none
theorem HO {s z n}:gX A s (.own s z n)=vQ z n (A s):=by simp[gX,vQ];rfl
def KX {z n rows}:vQ z n (some (z,rows,.frz))=if rows.length=n then some (.slice z rows) else none:=by simp[vQ]
theorem rP {s j h:Nat} {L Wv Wa:List Nat}:S.head [] (s::j::h::L) Wv Wa=(S.swp1 s j h).head [] L Wv Wa:=rfl
def vX (S:St) (h:Nat):Option V->St
 |some (.own x _ _)=>S.ren x h
 |_=>S
def Ac (S:St) (j h:Nat):Option (List V×Bool)->St
 |some (cs,_)=>vX S h cs[j]?
 |none=>S
theorem oN {s j h:Nat}:S.swp1 s j h=Ac S j h (S.μ s):=by
 unfold St.swp1 Ac vX
 rfl
theorem oO {j h cs f}:Ac S j h (some (cs,f))=vX S h cs[j]?:=rfl
theorem LP {h x z n}:vX S h (some (.own x z n))=S.ren x h:=rfl
theorem KG {x h t}:(S.ren x h).ρ t=ip x h (S.ρ t):=rfl
theorem KF {x h t}:(S.ren x h).μ t=(S.μ t).map fun m=>(m.1.map (JT x h),m.2):=rfl
theorem KC {x h t}:(S.ren x h).A t=S.A (cJ x h t):=rfl
theorem IX {x h k n}:ip x h (.int k n)=.int k n:=rfl
theorem IV {x h n}:ip x h (.bool n)=.bool n:=rfl
theorem I1 {x h n}:ip x h (.str n)=.str n:=rfl
theorem I0 {x h z n}:ip x h (.slice z n)=.slice z n:=rfl
theorem IW {x h z n}:ip x h (.func z n)=.func z n:=rfl
theorem I2 {x h}:ip x h .undef=.undef:=rfl
theorem IY {x h s o}:ip x h (.lref s o)=.lref s o:=rfl
theorem IZ {x h s z n}:ip x h (.own s z n)=.own (cJ x h s) z n:=rfl
theorem IU {x h cs}:ip x h (.agg cs)=.agg (cs.map (JT x h)):=rfl
theorem IP {x h k n}:JT x h (.int k n)=.int k n:=rfl
theorem IO {x h n}:JT x h (.bool n)=.bool n:=rfl
theorem IS {x h n}:JT x h (.str n)=.str n:=rfl
theorem IR {x h z n}:JT x h (.slice z n)=.slice z n:=rfl
theorem IQ {x h s z n}:JT x h (.own s z n)=.own (cJ x h s) z n:=rfl
def oP {x h:Nat}:cJ x h x=h:=by simp[cJ]
def B0 {x h:Nat}:cJ x h h=x:=by unfold cJ;split<;>simp_all
def Qg {x h t:Nat} (h1:(t == x)=false) (j:(t == h)=false):cJ x h t=t:=by
 have h1:t≠x:=by simpa using h1
 have j:t≠h:=by simpa using j
 simp[cJ,h1,j]
end
attribute [go_sem] HO KX wT wP HB HA HD HC Er BE BV wR wO Iu It Iw Iv BF B1 Km Kl Kk Kp Ko BA BQ BR BB B2 BC IC LA Lo Lr P9
attribute [go_sem] oN oO LP KG KF KC IX IV I1 I0 IW I2 IY IZ IU IP IO IS IR IQ oP B0 Qg
section
variable {S:St} {s off n:Nat}
theorem LM {a z m}:JA S (.v s) 1 (.lref s off) (.own a z m)=gx S s off [.own a z m] (S.μ s):=by rw[my];rfl
theorem LL {k m}:JA S (.v s) 1 (.lref s off) (.int k m)=gx S s off [.int k m] (S.μ s):=by rw[my];rfl
theorem LK {m}:JA S (.v s) 1 (.lref s off) (.bool m)=gx S s off [.bool m] (S.μ s):=by rw[my];rfl
theorem LO {m}:JA S (.v s) 1 (.lref s off) (.str m)=gx S s off [.str m] (S.μ s):=by rw[my];rfl
theorem LN {z m}:JA S (.v s) 1 (.lref s off) (.slice z m)=gx S s off [.slice z m] (S.μ s):=by rw[my];rfl
theorem II {z}:JA S (.v s) 1 (.lref s off) (.nslice z)=gx S s off [.nslice z] (S.μ s):=by rw[my];rfl
theorem Qf {cs}:JA S (.v s) n (.lref s off) (.agg cs)=if cs.length=n then gx S s off cs (S.μ s) else none:=by rw[my];rfl
end
attribute [go_sem high] LM LL LK LO LN II Qf
attribute [go_sem] List.set_cons_zero List.set_cons_succ
end Sg
namespace Sg
def dR (Wv:List Nat):V->Bool
 |.int ..|.bool _|.str _|.slice ..|.func ..|.undef=>true
 |.lref s _=>!Wv.contains s
 |_=>false
section
variable {S:St}
def FM {Wv:List Nat} {x h:Nat} {v:V} (j:dR Wv v=true):ip x h v=v:=by cases v<;>simp_all [dR,ip]
def D7 {Wv Wa:List Nat} {v:V} (j:dR Wv v=true):Ji Wv Wa v=v:=by
 cases v<;>simp_all [dR,Ji]
def FL {x h:Nat} {cs:List V} (j:cs.all V.datC=true):cs.map (JT x h)=cs:=by
 rw[Gx] at j
 conv=>rhs;rw[<-List.map_id cs]
 refine G6 fun y o=>?_;have:=j y o;cases y<;>simp_all [JT,V.datC]
def AW {Wa:List Nat} {cs:List V} (j:cs.all V.datC=true):cs.map (Jv Wa)=cs:=by
 rw[Gx] at j
 conv=>rhs;rw[<-List.map_id cs]
 refine G6 fun y o=>?_;have:=j y o;cases y<;>simp_all [Jv,V.datC]
theorem IK {s j h i:Nat} {Wv:List Nat} (o:dR Wv (S.ρ i)=true):(S.swp1 s j h).ρ i=S.ρ i:=by
 unfold St.swp1;split
 ·split
  ·exact FM o
  ·rfl
 ·rfl
def IJ {s j h i:Nat} {cs:List V} {f:Bool} (hm:S.μ i=some (cs,f)) (o:cs.all V.datC=true):(S.swp1 s j h).μ i=some (cs,f):=by
 unfold St.swp1;split
 ·split
  ·simp only[St.ren,hm,Option.map_some,FL o]
  ·exact hm
 ·exact hm
def FZ {s j h i:Nat} (hm:S.μ i=none):(S.swp1 s j h).μ i=none:=by
 unfold St.swp1;split
 ·split
  ·simp only[St.ren,hm,Option.map_none]
  ·exact hm
 ·exact hm
def ww {Wv:List Nat}:∀(n:Nat) (L:List Nat) (S:St),L.length<=n->(∀i,dR Wv (S.ρ i)=true->(S.swps L).ρ i=S.ρ i)/\(∀i cs f,S.μ i=some (cs,f)->cs.all V.datC=true->(S.swps L).μ i=some (cs,f))/\
  ∀i,S.μ i=none->(S.swps L).μ i=none:=by
 intro n
 induction n with
 |zero=>
  intro L S o
  have:L=[]:=GA (by omega)
  subst this
  exact⟨fun _ _=>rfl,fun _ _ _ h _=>h,fun _ h=>h⟩
 |succ n z=>
  intro L S o
  match L,o with
  |[],_=>exact⟨fun _ _=>rfl,fun _ _ _ h _=>h,fun _ h=>h⟩
  |[_],_=>exact⟨fun _ _=>rfl,fun _ _ _ h _=>h,fun _ h=>h⟩
  |[_,_],_=>exact⟨fun _ _=>rfl,fun _ _ _ h _=>h,fun _ h=>h⟩
  |s::j::h::l,o=>
   obtain⟨u,w,y⟩:=z l (S.swp1 s j h) (by simp at o;omega)
   refine⟨fun i q=>?_,fun i cs f hm p=>w i cs f (IJ hm p) p,fun i hm=>y i (FZ hm)⟩
   have e:=IK (s:=s) (j:=j) (h:=h) q
   exact (u i (by rw[e];exact q)).trans e
def aM {L Wv Wa:List Nat} {i:Nat} {v:V} (o:S.ρ i=v) (j:dR Wv v=true):(S.head [] L Wv Wa).ρ i=v:=by
 subst o;have e:=(ww (Wv:=Wv) L.length L S (Gt _)).1 i j
 show Ji Wv Wa ((S.swps L).ρ i)=_
 rw[e];exact D7 j
def fe {L Wv Wa:List Nat} {i:Nat} {cs:List V} {f:Bool} (hm:S.μ i=some (cs,f)) (j:cs.all V.datC=true) (hw:Wv.contains i=false):(S.head [] L Wv Wa).μ i=some (cs,f):=by
 have e:=(ww (Wv:=Wv) L.length L S (Gt _)).2.1 i cs f hm j
 show (if Wv.contains i then none else _)=_
 rw[hw,e];simp only[Gv,GO,Option.map_some,AW j];cases Wa.isEmpty<;>rfl
theorem ej {L Wv Wa:List Nat} {i:Nat} (hm:S.μ i=none\/Wv.contains i=true):(S.head [] L Wv Wa).μ i=none:=by
 show (if Wv.contains i then none else _)=_
 rcases hm with hm|hm
 ·have e:=(ww (Wv:=Wv) L.length L S (Gt _)).2.2 i hm;rw[e];split<;>rfl
 ·rw[hm];rfl
def eS:S.head [] [] [] []=S:=by
 obtain⟨ρ,μ,A⟩:=S;have j:∀v:V,Ji [] [] v=v:=fun v=>by cases v<;>simp[Ji]
 show St.mk _ _ _=_
 congr 1
 ·funext t;exact j _
 ·funext s
  show (μ s).map _=μ s
  cases μ s<;>rfl
def Fr (A:AA) (n:Nat):Prop:=∀x,n<=x->A x=none
end
end Sg
