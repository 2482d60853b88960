/- A checked abstract run of translated code is sound: for every program and input that pass its checks. A general part, used by the proofs of this seat. -/
import Derived.Laws.BytesArg
import Derived.Lib.SliceRun
import Derived.Orders
import Derived.Attr
import Derived.IntWalk
import Derived.Shelf.Unicode.DecodeAny
import Derived.Lib.OthersKept
import Derived.Lib.AppendZeros
import Derived.Lib.AppendZerosOnto
import Derived.DataReads
import Derived.WideShapes
import Derived.ChangeSlices
import Derived.ChangeSame
import Derived.JoinedOf
import Derived.JoinedAt
import Derived.Carry
import Derived.Test.YtidacoblmebfcaaGreatDoorG1
set_option linter.unusedSimpArgs false
set_option linter.unusedVariables false
set_option linter.constructorNameAsVariable false
set_option linter.defProp false
set_option maxRecDepth 100000
namespace Sg
abbrev mp:=List UInt8
abbrev Eq:=List V
open Go Go.RowKit
section
variable {P:Program} {cx:Cx} {B:Nat->Prop} {X:Nat->Prop} {S:St} {w:World} {β:Nat->Nat} {α:Nat->Value} {M:Nat->Prop}
variable {a:Act} {ds:List (Option Nat)} {e:Nat->V} {κ:Nat->Eq->Option V} {aR:Nat->Option Nat}
theorem ML:∀(j:List Field) (o:List (Nat×Nat)),fO P j=some o->(j.mapM fun f=>do pure (f.offset,<-Go.sizeOf f.type):Sem (List (Nat×Nat))).run P w=.ok o w
 |[],o,h=>by simp only[fO,Gb] at h;subst h;simp
 |f::j,o,h=>by
  simp only[fO,Gg,Gb] at h;obtain⟨n,p,r,q,rfl⟩:=h;have u:=ML j r q;simp only[List.mapM_cons,Sem.run_bind,Jf p w,Result.andThen,Sem.run_pure,u]
def RA {t:TypeId} {o:List (Nat×Nat)} (h:Dx P t=some o):∃j,P.underlying t=some (.struct j)/\(j.mapM fun f=>do pure (f.offset,<-Go.sizeOf f.type):Sem (Array (Nat×Nat))).run P w=.ok o.toArray w:=by
 unfold Dx at h;split at h
 ·rename_i j hu;refine⟨j,hu,?_⟩;rw[Array.mapM_eq_mapM_toList];have:=ML (w:=w) j.toList o h;simp only[map_eq_pure_bind,Sem.run_bind,this,Result.andThen,Sem.run_pure]
 ·simp at h
def fM (h:aW cx B X S w β α M) {z n:Nat} {rows:List Eq} {cells:Array Value} {el:TypeId} (hdr:DR cx w (aQ X M) z cells.toList rows) (hlen:rows.length=n) :
  cz cx B X S w β α M S (.slice z rows) (.slice (some ⟨w.heap.size,0,none⟩) n n) {w with heap:=w.heap.push (.cells cells el)}:=by
 have mW:=Nl w (.cells cells el)
 have hat:=M6 w (.cells cells el)
 have hbel:=MR (B:=B) w (.cells cells el) h.size
 have hlt:w.heap.size<({w with heap:=w.heap.push (.cells cells el)}:World).heap.size:=by simp
 generalize ({w with heap:=w.heap.push (.cells cells el)}:World)=w2 at *
 have hw:=h.grow mW (M':=M) (fun _ h=>h) (fun _ h=>.inl h)
 have hD:∀u x,aC cx w (aQ X M) u x->aC cx w2 (aQ X M) u x:=fun _ _ hr=>J1 mW (fun _ h=>.inl h) hr
 have hdr':=hdr.mono hD
 refine⟨β,α,M,hw,fun u x hu=>aJ.tr hD (dK.refl S α) (fun s hs=>⟨hs,rfl⟩) hu,?_,hbel⟩
 refine Ds (o:=0) (c:=cells) (e:=el) (fr:=(0,0)) hlt ?_ hat (by omega) hdr'.2.1 (fun i j hi hj=>?_) hlen
 ·rintro (hx|hm)
  ·exact Nat.lt_irrefl _ (h.size _ (h.xb _ hx))
  ·have:=(h.m _ hm).2;omega
 ·have⟨u,q1,q2,q3⟩:=hdr'.2.2 i j hi hj
  exact⟨u,by simpa using q1,q2,q3⟩
def Nb {P:Program} {w:World} {t el:TypeId} {x y:Operand} {j:Option Addr} {n c:Nat} (h:P.underlying t=some (.slice el)) :
  (do eqGuard .eql t x y (.slice j n c) (.slice none 0 0);Go.binOp .eql t (.slice j n c) (.slice none 0 0):Sem Value).run P w=.ok (.bool j.isNone) w:=by
 have o:(eqGuard .eql t x y (.slice j n c) (.slice none 0 0)).run P w=.ok () w:=by
  unfold eqGuard
  rfl
 simp only[Sem.run_bind,o,Result.andThen]
 exact Lib.run_eql_slice_nil w t el j n c 0 0 h
def iG (aR:Nat->Option Nat):K->Bool
 |.call (.k f) _ own _=>own.isNone||own == aR f
 |.call (.v _) _ own _=>own.isNone
 |.ins f _ z _ _ _=>decide (z<1000)&&aR f == some (1000+z)
 |.del f _ z _ _ _=>decide (z<1000)&&aR f == some (2000+z)
 |.rcall f _ k _ _=>decide (k<1000)&&aR f == some (3000+k)
 |_=>true
def SW {op:Go.Op} {f s z:Nat} {x y i:bF} (h:bT P cx ds op (.ins f s z x i y)=true):∃c:Call,op=.call c/\c.callee=.value (.func (cx.fm f))/\Jh cx ds c.args.toList [x,i,y]=true:=by
 unfold bT at h;split at h<;>first|(simp_all;done)|skip
 all_goals (rename_i f' args ts o s' D p q u j;simp only[K.ins.injEq] at j;obtain⟨rfl,rfl,rfl,rfl,rfl,rfl⟩:=j;simp only[Bool.and_eq_true,beq_iff_eq] at h;exact⟨_,rfl,by rw[<-h.1],h.2⟩)
def RI {op:Go.Op} {f s z:Nat} {x y i:bF} (h:bT P cx ds op (.del f s z x i y)=true):∃c:Call,op=.call c/\c.callee=.value (.func (cx.fm f))/\Jh cx ds c.args.toList [x,i,y]=true:=by
 unfold bT at h;split at h<;>first|(simp_all;done)|skip
 all_goals (rename_i f' args ts o s' D p q u j;simp only[K.del.injEq] at j;obtain⟨rfl,rfl,rfl,rfl,rfl,rfl⟩:=j;simp only[Bool.and_eq_true,beq_iff_eq] at h;exact⟨_,rfl,by rw[<-h.1],h.2⟩)
def Nn {o:Oper} {c:Call} {f:FuncId} (u:o.op=.call c) (q:c.callee=.value (.func f)) (p:pj P f):(execOp a.eval o).run P w=.ok (.enter f (c.args.map a.eval)) w:=by
 have j:(resolve a.eval c o.type).run P w=.ok {target:=.fn (.func f) #[],args:=#[]++c.args.map a.eval} w:=by
  unfold resolve;rw[q];rfl
 unfold execOp;simp only[u,Sem.run_bind,j,Result.andThen,invoke];rw[JD p];simp
def MO (L:∀t,aJ cx w (aQ X M) S β α (a.tmps.getD t undef) (S.ρ t)) (p:∀i d,ds[i]?=some (some d)->aJ cx w (aQ X M) S β α (a.tmps.getD d undef) (e i))
  {c:Call} {x y z:bF} (h:Jh cx ds c.args.toList [x,y,z]=true):∃q u D,c.args.map a.eval=#[q,u,D]/\aJ cx w (aQ X M) S β α q (aK e S.ρ x)/\aJ cx w (aQ X M) S β α u (aK e S.ρ y)/\aJ cx w (aQ X M) S β α D (aK e S.ρ z):=by
 have⟨o,j⟩:=JR L p _ _ h
 have⟨q,H,N⟩:=j 0 (by simp)
 have⟨u,I,O⟩:=j 1 (by simp)
 have⟨D,J,Q⟩:=j 2 (by simp)
 refine⟨q,u,D,?_,N,O,Q⟩
 have p:(c.args.toList.map a.eval).length=3:=by simpa using o
 generalize E:c.args.toList.map a.eval=l at H I J p
 match l,p with
 |[a1,a2,a3],_=>
  simp at H I J
  subst H;subst I;subst J
  apply Array.ext'
  simpa using E
theorem FI {v:Value} {k:IntKind} {n:Int} (h:aJ cx w (aQ X M) S β α v (.int k n)):v=.int k n:=by
 simp only[aJ] at h;cases h;rfl
structure wk (P:Program) (cx:Cx) (aR:Nat->Option Nat) (κ:Nat->Eq->Option V):Prop where
 call:∀f args r,κ f args=some r->jR P cx (aR f) f args r
 ins:∀f z,z<1000->aR f=some (1000+z)->∃tS el,ki P (cx.fm f) z tS el
 del:∀f z,z<1000->aR f=some (2000+z)->nE P (cx.fm f) z
 rf:∀f k,k<1000->aR f=some (3000+k)->∀args r,κ f args=some r->nD P cx k f args r
def wY {P:Program} {cx:Cx} {w:World} {Y:Nat->Prop} {u:Value} {rows:List Eq} {l:mp} {src dst e:TypeId} (hr:aC cx w Y u (.slice 1 rows)) (hl:cA rows=some l)
  (hs:P.underlying src=some (.slice e)) (he:P.underlying e=some (.int .u8)) (hd:P.underlying dst=some .string) :
  ∃q,(Go.convert src dst u).run P w=.ok q w/\aC cx w Y q (.str l):=by
 have hx:∀(rows:List Eq) (l:mp),cA rows=some l->∃xs:List Int,rows=xs.map (fun n=>[V.int .u8 n])/\l=xs.map fun n=>UInt8.ofNat n.toNat:=by
  intro rows
  induction rows with
  |nil=>intro l h;simp only[cA,Gb] at h;exact⟨[],rfl,h.symm⟩
  |cons r rs ih=>
   intro l h;unfold cA at h;split at h
   ·rename_i h0;simp at h0
   ·rename_i n rs' heq;simp only[qZ] at heq;obtain⟨rfl,rfl⟩:=heq;simp only[Gg,Gb] at h;obtain⟨l',h1,rfl⟩:=h;obtain⟨xs,rfl,rfl⟩:=ih l' h1;exact⟨n::xs,rfl,rfl⟩
   ·simp at h
 obtain⟨xs,rfl,rfl⟩:=hx rows l hl
 have hq:aC cx w Y (.string (strOfNums xs)) (.str (xs.map fun n=>UInt8.ofNat n.toNat)):=by
  have:=aC.str (cx:=cx) (w:=w) (X:=Y) (strOfNums xs);rwa [strOfNums_data] at this
 refine⟨_,?_,hq⟩
 rcases JB hr with⟨⟨a,rfl⟩,hn⟩|⟨b,o,aN,c,el,fr,rfl,hb,hX,hw,kT,hz,hc⟩
 ·have hxs:xs=[]:=by simpa using hn
  subst hxs
  cases a with
  |none=>rw[run_convert_bytes_nil w src e hs he 0 0 dst hd];rfl
  |some a=>
   rw[run_convert_bytes_string w src dst e _ 0 0 hs he hd,run_bytesToString w a 0 0 [] (by
    have:=run_loadCells_list (P:=P) w a [] (fun j v hj=>by simp at hj);simpa using this)]
   rfl
 ·have hlen:(xs.map (fun n=>[V.int .u8 n])).length=xs.length:=by simp
  rw[hlen]
  refine run_convert_bytes_arg w src e hs he b o xs.length aN xs rfl (fun i hi=>?_) dst hd
  have⟨u,p,q,r⟩:=hc i 0 (by rw[hlen];exact hi) (by omega)
  have hg:gv (gr (xs.map (fun n=>[V.int .u8 n])) i) 0=.int .u8 (xs.getD i 0):=by
   simp[gr,gv,hi]
  rw[hg] at r
  cases r
  simp only[Nat.mul_one,Nat.add_zero] at p
  simp[World.cell?,hw,p]
def Rg {o:Oper} {k:K} {d:Nat} {r:V} {S1:St} (h:aW cx B X S w β α M)
  (hg:∀t,aJ cx w (aQ X M) S β α (a.tmps.getD t undef) (S.ρ t)) (hl:∀i d,ds[i]?=some (some d)->aJ cx w (aQ X M) S β α (a.tmps.getD d undef) (e i))
  (hκ:wk P cx aR κ) (H:bT P cx ds o.op k=true) (O:iG aR k=true)
  (D:ev κ d e S k=some (r,S1)):ly P o a w (cz cx B X S w β α M S1 r):=by
 have arg:=fun {x:Operand} {y:bF} (h:Ja cx ds x y=true)=>xu hg hl h
 cases k with
 |mov y=>
  have⟨x,hop,hx⟩:=S4 H
  simp only[ev,Gb,Gr] at D
  obtain⟨rfl,rfl⟩:=D
  refine .inl ⟨a.eval x,w,?_,.pure h (arg hx)⟩
  rcases hop with hop|hop<;>simp[execOp,hop]
 |pick c x y=>
  have⟨c',x',y',hop,h1,N,R⟩:=R7 H
  simp only[ev] at D
  have hc:=arg h1
  split at D<;>try (simp at D;done)
  rename_i t ht
  rw[ht] at hc
  simp only[Gb,Gr] at D
  obtain⟨rfl,rfl⟩:=D
  refine .inl ⟨if t then a.eval x' else a.eval y',w,?_,.pure h ?_⟩
  ·simp[execOp,hop,JY hc,asBool]
  ·cases t
   ·exact arg R
   ·exact arg N
 |box y=>
  have⟨t,x,hop,hx⟩:=RH H
  simp only[ev] at D
  split at D
  ·simp at D
  ·rename_i hd
   simp only[Gg,Gb,Gr] at D
   obtain⟨cs,ab,rfl,rfl⟩:=D
   have:=eO (t:=t) h hd (eX (arg hx) ab)
   rw[Array.toArray_toList] at this
   exact .value (s:=Instr.box t (a.eval x)) (by simp[execOp,hop]) (by simp[Instr.box,newVar,newRow,Result.andThen]) this
 |alloc z=>
  have⟨t,hop,hz⟩:=Rt H
  simp only[ev] at D
  split at D
  ·simp at D
  ·rename_i hd
   simp only[Gb,Gr] at D
   obtain⟨rfl,rfl⟩:=D
   have⟨v,L,ag⟩:=Dr (P:=P) (w:=w) hz
   have:=eO (t:=t) h hd (Dy ag)
   rw[Array.toArray_toList] at this
   exact .value (s:=Instr.alloc t true (.tuple #[])) (by simp[execOp,hop]) (by simp[Instr.alloc,L,newVar,newRow,Result.andThen]) this
 |build z qs=>
  have⟨t,ps,hop,hz,ao⟩:=Ru H
  simp only[ev,Gg,Gb,Gr] at D
  obtain⟨cs,ab,rfl,rfl⟩:=D
  have⟨v,L,ag⟩:=Dr (P:=P) (w:=w) hz
  rcases ao with⟨pl,a9,a0⟩|⟨ac,rfl,rfl⟩
  rotate_left
  ·simp only[Gk,tO,Gb] at ab
   subst ab
   unfold wX at ac
   split at ac
   ·rename_i m e hu
    have⟨sz,al⟩:=GZ.1 ac
    have ap:=Dy (cx:=cx) (w:=w) (X:=aQ X M) (S:=S) (α:=α) ag
    refine .value (s:=Instr.build t ((#[]:Array (Nat×Operand)).map fun (i,x)=>(i,a.eval x))) (v:=.agg v.cells) (by simp only[execOp,hop]) ?_ (.pure h (by simpa using ap.agg (β:=β)))
    unfold Instr.build
    simp only[Sem.run_bind,L,Result.andThen,run_underlying hu w,Jf al w,Array.toList_map,Gk,Instr.fill,Sem.run_pure]
   ·simp at ac
  have⟨cells,hf,ap⟩:=M0 hg hl ps.toList qs v.cells z cs a0 (Dy ag) ab
  have⟨fs,hu,a1⟩:=RA (w:=w) a9
  refine .value (s:=Instr.build t (ps.map fun (i,x)=>(i,a.eval x))) (v:=.agg cells) (by simp only[execOp,hop]) ?_ (.pure h (by simpa using ap.agg (β:=β)))
  unfold Instr.build
  simp only[Sem.run_bind,L,Result.andThen,run_underlying hu w,a1,Array.toList_map,List.getElem?_toArray,hf,Sem.run_pure]
 |mks z n zero qs=>
  simp only[ev,Gg,Gb,Gr] at D
  obtain⟨rows,Q,rfl,rfl⟩:=D
  rcases M4 H with⟨t,len,ps,el,hop,h1,N,R,W,h5,h6,h7,h8⟩|⟨t,el,ie,hop,h1,N,R,W,h5,h6,rfl,h7,h8,h9⟩
  rotate_left
  ·simp only[Gk,Jj,Gb] at Q
   subst Q
   have⟨cells,E,hdr⟩:=tv (cx:=cx) (w:=w) (X:=aQ X M) h1 N R W h5 h7 h8 h9 h6
   have I:=fM (el:=el) (n:=n) h hdr (by simp)
   generalize ({w with heap:=w.heap.push (.cells cells el)}:World)=w2 at E I
   refine .inl ⟨_,w2,?_,I⟩
   unfold execOp
   rw[hop]
   simp only[Sem.run_bind,Act.eval]
   erw [E]
   rfl
  have⟨cells,E,hdr,ad⟩:=o8 hg hl h1 N R W h5 h6 h7 h8 Q
  have e1:(ps.toList.map fun (i,x)=>(i,a.eval x)).toArray=ps.map fun (i,x)=>(i,a.eval x):=by apply Array.ext';simp
  rw[e1] at E
  have I:=fM (el:=el) h hdr ad
  generalize ({w with heap:=w.heap.push (.cells cells el)}:World)=w2 at E I
  refine .inl ⟨_,w2,?_,I⟩
  unfold execOp
  rw[hop]
  simp only[Sem.run_bind]
  erw [E]
  rfl
 |mko z=>
  obtain⟨x,hop,rfl⟩:=S3 H
  simp only[ev] at D
  split at D
  ·simp at D
  ·rename_i hd
   simp only[Gb,Gr] at D
   obtain⟨rfl,rfl⟩:=D
   refine .inl ⟨.slice none 0 0,w,by rcases hop with hop|hop<;>simp[execOp,hop,Act.eval],?_⟩
   have ai:=h.addArr (d:=d) (z0:=z) (rows0:=[]) (v0:=.slice none 0 0) hd ⟨fun i hi=>by simp at hi,.inl ⟨rfl,rfl⟩⟩ (fun b hb=>by simp[hdr] at hb) (fun s b _ hb=>by simp[hdr] at hb) (fun s z' r f _ _ b hb=>by simp[hdr] at hb)
   have hT:dK S {S with A:=aI S.A d (some (z,[],.live))} α (aI α d (.slice none 0 0)):=fun s z' r f Y=>by
    have:s≠d:=fun e=>by rw[e,hd] at Y;simp at Y
    exact⟨r,f,by simp[aI,this,Y],fun hf=>⟨hf,GC _,fun _=>by simp[aI,this]⟩⟩
   exact⟨β,_,M,ai,fun u x hu=>aJ.tr (fun _ _ h=>h) hT (fun s Y=>⟨Y,rfl⟩) hu,⟨[],.live,none,0,by simp[aI],rfl,by simp,fun _=>⟨by simp,fun _=>by simp[aI]⟩⟩,bY.refl _ _⟩
 |mkb z n zero qs=>
  rcases M4 (SZ H) with⟨t,len,ps,el,hop,h1,N,R,W,h5,h6,h7,h8⟩|⟨t,el,ie,hop,-⟩
  rotate_left
  ·rw[hop] at H
   simp[bT] at H
  simp only[ev,Gg] at D
  have⟨rows,Q,D⟩:=D
  have⟨cells,E,hdr,ad⟩:=o8 hg hl h1 N R W h5 h6 h7 h8 Q
  have e1:(ps.toList.map fun (i,x)=>(i,a.eval x)).toArray=ps.map fun (i,x)=>(i,a.eval x):=by apply Array.ext';simp
  rw[e1] at E
  have a6:(w.heap.push (.cells cells el):Array Obj)[w.heap.size]?=some (.cells cells el):=by simp
  have hold:∀k,k<w.heap.size->(w.heap.push (.cells cells el):Array Obj)[k]?=w.heap[k]?:=fun k hk=>by
   rw[Array.getElem?_push];simp[Nat.ne_of_lt hk]
  have au:Below w.heap.size w {w with heap:=w.heap.push (.cells cells el)}:=⟨rfl,rfl,rfl,by simp,hold⟩
  have hD:∀u x,aC cx w (aQ X M) u x->aC cx {w with heap:=w.heap.push (.cells cells el)} (aQ (aQ X M) fun b=>b=w.heap.size) u x:=fun u x hr=>
   hr.mono (by simp) (fun b hb _=>hold b hb) (fun b hb hn hx=>by
    rcases hx with hx|hx
    ·exact hn hx
    ·omega)
  have aj:=hdr.mono hD
  have bc:mI cx w {w with heap:=w.heap.push (.cells cells el)} (aQ X M) (some 0) (.slice (some ⟨w.heap.size,0,none⟩) n n) (.slice z rows):=
   ⟨_,z,rows,fun b=>b=w.heap.size,fun b hb=>by subst hb;exact⟨GC _,by simp⟩,fun b hb=>by simpa [Sg.hdr,eq_comm] using hb,
    bH.of_DR a6 aj (fun k hk=>by simp) (by omega) (by
     have:=hdr.1;rw[Array.length_toList,ad] at this;omega) ad,.inl ⟨rfl,rfl⟩⟩
  have I:=iy (own:=some 0) h au (.inr rfl) bc (fun b hb=>by
   rcases hb with hb|hb
   ·exact h.size b (h.xb b hb)
   ·exact (h.m b hb).2) D
  generalize ({w with heap:=w.heap.push (.cells cells el)}:World)=w2 at E I
  refine .inl ⟨_,w2,?_,I⟩
  unfold execOp
  rw[hop]
  simp only[Sem.run_bind]
  erw [E]
  rfl
 |nilq y=>
  have⟨t,x,t',el,hop,h1,N⟩:=Q2 H
  simp only[ev] at D
  have J:=arg h1
  split at D<;>simp only[Gb,Gr,reduceCtorEq] at D
  ·rename_i z hz
   obtain⟨rfl,rfl⟩:=D
   rw[hz] at J
   simp only[aJ] at J
   generalize L:a.eval x=v at J
   cases J
   exact .value (s:=do eqGuard .eql t x (.const (.slice none 0 0)) (a.eval x) (.slice none 0 0);Go.binOp .eql t (a.eval x) (.slice none 0 0)) (v:=.bool true) (by simp only[execOp,hop];rfl) (by rw[L];exact Nb N) (.pure h (aC.bool _))
  ·rename_i z rows hz
   obtain⟨rfl,rfl⟩:=D
   rw[hz] at J
   simp only[aJ] at J
   generalize L:a.eval x=v at J
   cases J
   exact .value (s:=do eqGuard .eql t x (.const (.slice none 0 0)) (a.eval x) (.slice none 0 0);Go.binOp .eql t (a.eval x) (.slice none 0 0)) (v:=.bool false) (by simp only[execOp,hop];rfl) (by rw[L];exact Nb N) (.pure h (aC.bool _))
 |load l n y=>
  have⟨t,p,hop,hp,hu,hn⟩:=Q0 H
  simp only[ev,Gg,Gb,Gr] at D
  obtain⟨v,L,rfl,rfl⟩:=D
  have⟨q,E,U⟩:=FG (l:=l) h (arg hp) hu hn L
  exact .value (s:=Instr.loadAt t (a.eval p)) (by simp[execOp,hop]) E (.pure h U)
 |ldf s v n y=>
  have⟨t,p,hop,hp,hu,hn⟩:=SX H
  simp only[ev,Gg] at D
  have⟨x,hx,D⟩:=D
  split at D<;>try (simp at D;done)
  rename_i aj
  simp only[Gg,Gb,Gr] at D
  obtain⟨y',ar,rfl,rfl⟩:=D
  have⟨q,E,U⟩:=FG (l:=.v v) h (arg hp) hu hn hx
  have⟨M',f1,f2,f3,f4⟩:=fK [s] h
  refine .inl ⟨q,w,by simp[execOp,hop,E,Result.andThen],β,α,M',f1,fun u x hu=>aJ.tr (S':={S with A:=JL S.A [s]}) (fun _ _ hr=>sd f2 hr) f3 (fun s Y=>⟨Y,rfl⟩) hu,
   .of_data (xt h U ar (fun b hb=>hb.imp id (f2 b)) (fun s' Y b hb af hn=>?_)),bY.refl _ _⟩
  have bd:s'=s:=G9.1 (GG.1 aj s' Y)
  subst bd
  rcases hn with hx|hm
  ·have⟨z,rows,f,e1,e2⟩:=af
   exact ((h.arr s' z rows f e1 e2).2 b hb).1 (h.xb b hx)
  ·exact f4 s' (by simp) b hb af hm
 |store l n y z=>
  have⟨t,p,x,hop,hp,hx,hz⟩:=Ry H
  simp only[ev,Gg,Gb,Gr] at D
  obtain⟨S2,L,rfl,rfl⟩:=D
  have⟨w',E,I⟩:=pg (l:=l) h (arg hp) (arg hx) hz L
  exact .inr (.inl ⟨w',by simp[execOp,hop,E,Result.andThen],I⟩)
 |bin o' y z=>
  have⟨t,x,x',t',hop,h1,N⟩:=RG H
  simp only[ev,Gg,Gb,Gr] at D
  obtain⟨v,L,rfl,rfl⟩:=D
  have⟨q,E,U⟩:=wZ (P:=P) (t:=t) (p:=x) (q:=x') (arg h1) (arg N) L
  exact .value (by simp only[execOp,hop]) E (.pure h (.of_data U))
 |eqa ne sh y z=>
  have⟨t,x,x',t',hop,h1,N,R,W,h5⟩:=RJ H
  simp only[ev] at D
  have J:=arg h1
  have r2:=arg N
  split at D<;>try (simp at D;done)
  rename_i xs ys e1 e2
  rw[e1] at J
  rw[e2] at r2
  simp only[Gg,Gb,Gr] at D
  obtain⟨b,hb,rfl,rfl⟩:=D
  exact .value (by simp only[execOp,hop]) (SD (p:=x) (q:=x') R W h5 J r2 hb) (.pure h (aC.bool _))
 |eqb ne y z=>
  have⟨t,x,x',t',hop,h1,N,R⟩:=SQ H
  simp only[ev] at D
  have J:=arg h1
  have r2:=arg N
  split at D<;>try (simp at D;done)
  rename_i xs ys e1 e2
  rw[e1] at J
  rw[e2] at r2
  simp only[Gb,Gr] at D
  obtain⟨rfl,rfl⟩:=D
  have E:=SE (P:=P) (w:=w) (ne:=ne) (a:=xs) (b:=ys) (p:=x) (q:=x') R
  rw[<-JY J,<-JY r2] at E
  exact .value (by simp only[execOp,hop]) E (.pure h (aC.bool _))
 |sh o' y z=>
  have⟨t,x,x',t',hop,h1,N⟩:=T9 H
  simp only[ev,Gg,Gb,Gr] at D
  obtain⟨v,L,rfl,rfl⟩:=D
  have⟨q,E,U⟩:=Us (P:=P) (t:=t) (p:=x) (q:=x') (arg h1) (arg N) L
  exact .value (by simp only[execOp,hop]) E (.pure h (.of_data U))
 |mm mx y z=>
  have⟨x,x',ts,hop,h1,N⟩:=T8 H
  simp only[ev] at D
  have J:=arg h1
  have r2:=arg N
  split at D<;>try (simp at D;done)
  rename_i k1 b1 k2 b2 e1 e2
  rw[e1] at J
  rw[e2] at r2
  split at D<;>try (simp at D;done)
  rename_i hk
  subst hk
  simp only[Gb,Gr] at D
  obtain⟨rfl,rfl⟩:=D
  have E:=Up (P:=P) (w:=w) (mx:=mx) (k:=k1) (a:=b1) (b:=b2) (ts:=ts) (ty:=o.type)
  refine .inl ⟨_,w,?_,.pure h (aC.int _ _)⟩
  cases mx
  ·simp only[Gl,Gv] at hop E
   simp[execOp,hop,resolve,invoke,builtin,Jo J,Jo r2,E,Result.andThen]
  ·simp only[Gw] at hop E
   simp[execOp,hop,resolve,invoke,builtin,Jo J,Jo r2,E,Result.andThen]
 |un o' y=>
  have⟨t,x,hop,h1⟩:=Ub H
  simp only[ev,Gg,Gb,Gr] at D
  obtain⟨v,L,rfl,rfl⟩:=D
  have⟨q,E,U⟩:=U0 (P:=P) (arg h1) L
  exact .value (by simp only[execOp,hop]) E (.pure h (.of_data U))
 |conv c y=>
  simp only[ev,Gg,Gb,Gr] at D
  obtain⟨v,L,rfl,rfl⟩:=D
  cases c with
  |int k=>
   have⟨s,d',x,dd,hop,h1,N,R⟩:=Rv H
   have J:=arg h1
   cases Z:aK e S.ρ y<;>rw[Z] at L J<;>simp only[DD,Gb,reduceCtorEq] at L
   rename_i k1 n
   subst L
   have E:=Rb (P:=P) (w:=w) (n:=n) (k':=k1) N R
   rw[<-Jo J] at E
   exact .value (by simp only[execOp,hop]) E (.pure h (aC.int _ _))
  |same=>
   have⟨s,d',x,hop,h1,N,R⟩:=Rw H
   have J:=arg h1
   cases Z:aK e S.ρ y<;>rw[Z] at L J<;>simp only[DD,Gb,reduceCtorEq] at L
   rename_i l
   subst L
   obtain⟨b,hb,rfl⟩:=J5 J
   have E:=Rc (P:=P) (w:=w) (n:=b) N R
   rw[<-hb] at E
   exact .value (by simp only[execOp,hop]) E (.pure h (by rw[hb];exact aC.str _))
 |fn f a4 bh=>
  have⟨aN,hop,h1⟩:=T7 H
  have:=C4 h hg hl h1 (by simpa only [ev] using D)
  refine .inl ⟨_,w,?_,this⟩
  have e1:(aN.toList.map a.eval).toArray=aN.map a.eval:=by apply Array.ext';simp
  simp[execOp,hop,Instr.makeFunc,e1]
 |sl st z y lo hi=>
  have⟨t,x,bm,bi,hop,h1,N,R,W⟩:=Ua H
  simp only[ev,Gg,Gb,Gr] at D
  obtain⟨v,L,rfl,rfl⟩:=D
  have a3:∀{o:Option Operand} {y:Option bF},xx cx ds o y=true->(o.map a.eval=none/\y.map (aK e S.ρ)=none)\/∃p q,o.map a.eval=some p/\y.map (aK e S.ρ)=some q/\aJ cx w (aQ X M) S β α p q:=by
   intro o y an;unfold xx at an;split at an
   ·exact .inl ⟨rfl,rfl⟩
   ·exact .inr ⟨_,_,rfl,rfl,arg an⟩
   ·simp at an
  have⟨q,E,U⟩:=Uv (P:=P) W (arg h1) (a3 N) (a3 R) L
  exact .value (by simp only[execOp,hop,Option.map_none]) E (.pure h (.of_data U))
 |fad y off=>
  have⟨s,x,i,hop,h1,N⟩:=SS H
  simp only[ev,Gg,Gb,Gr] at D
  obtain⟨v,L,rfl,rfl⟩:=D
  have⟨q,E,U⟩:=TK (P:=P) (arg h1) N L
  exact .value (by simp only[execOp,hop]) E (.pure h U)
 |iad z y i=>
  have⟨t,x,x',el,hop,h1,N,R,W⟩:=SU H
  simp only[ev,Gg,Gb,Gr] at D
  obtain⟨v,L,rfl,rfl⟩:=D
  have⟨q,E,U⟩:=TR (P:=P) R W (arg h1) (arg N) L
  exact .value (by simp only[execOp,hop]) E (.pure h U)
 |iada z n y i=>
  have⟨t,x,x',el,hop,h1,N,R,W⟩:=QZ H
  simp only[ev,Gg,Gb,Gr] at D
  obtain⟨v,L,rfl,rfl⟩:=D
  have⟨q,E,U⟩:=R6 (P:=P) R W (arg h1) (arg N) L
  exact .value (by simp only[execOp,hop]) E (.pure h U)
 |idx y i=>
  have⟨t,x,x',hop,h1,N,R⟩:=SV H
  simp only[ev,Gg,Gb,Gr] at D
  obtain⟨v,L,rfl,rfl⟩:=D
  have⟨q,E,U⟩:=TV (P:=P) R (arg h1) (arg N) L
  exact .value (by simp only[execOp,hop]) E (.pure h (.of_data U))
 |ext y i=>
  have⟨x,hop,h1⟩:=SR H
  simp only[ev,Gg,Gb,Gr] at D
  obtain⟨v,L,rfl,rfl⟩:=D
  have⟨q,E,U⟩:=TJ (P:=P) (arg h1) L
  exact .value (by simp only[execOp,hop]) E (.pure h U)
 |len st y=>
  have⟨x,t,hop,h1,N⟩:=SY H
  simp only[ev,Gg,Gb,Gr] at D
  obtain⟨v,L,rfl,rfl⟩:=D
  have⟨q,E,U⟩:=T3 (P:=P) (ty:=o.type) N (arg h1) L
  refine .inl ⟨q,w,?_,.pure h (.of_data U)⟩
  simp[execOp,hop,resolve,invoke,builtin,E,Result.andThen]
 |app s z y y'=>
  have⟨x,x',t,t',el,ie,zv,hop,h1,N,R,W,h5,h6,h7,h8,h9,ae,ah⟩:=FH H
  simp only[ev] at D
  have J:=arg h1
  have r2:=arg N
  by_cases am:∃z',aK e S.ρ y=.nslice z'
  ·have⟨z',am⟩:=am
   rw[am] at D J
   simp only[jD] at D
   split at D<;>try (simp at D;done)
   rename_i a2
   split at D<;>try (simp at D;done)
   rename_i hd
   have J:aC cx w (aQ X M) _ (.nslice z'):=J
   generalize be:a.eval x=v1 at J
   cases J
   have ai:=h.addArr (d:=s) (z0:=z) (rows0:=[]) (v0:=.slice none 0 0) hd ⟨fun i hi=>by simp at hi,.inl ⟨rfl,rfl⟩⟩ (fun b hb=>by simp[hdr] at hb) (fun s b _ hb=>by simp[hdr] at hb) (fun s z' r f _ _ b hb=>by simp[hdr] at hb)
   have hT:dK S {S with A:=aI S.A s (some (z,[],.live))} α (aI α s (.slice none 0 0)):=fun s' z' r f Y=>by
    have:s'≠s:=fun e=>by rw[e,hd] at Y;simp at Y
    exact⟨r,f,by simp[aI,this,Y],fun hf=>⟨hf,GC _,fun _=>by simp[aI,this]⟩⟩
   have az:∀u x,aJ cx w (aQ X M) S β α u x->aJ cx w (aQ X M) {S with A:=aI S.A s (some (z,[],.live))} β (aI α s (.slice none 0 0)) u x:=
    fun u x hu=>aJ.tr (fun _ _ h=>h) hT (fun s Y=>⟨Y,rfl⟩) hu
   have bg:aJ cx w (aQ X M) {S with A:=aI S.A s (some (z,[],.live))} β (aI α s (.slice none 0 0)) (.slice none 0 0) (.own s z 0):=
    ⟨[],.live,none,0,by simp[aI],rfl,by simp,fun _=>⟨by simp,fun _=>by simp[aI]⟩⟩
   have ay:JX {S with A:=aI S.A s (some (z,[],.live))} s z (.own s z 0) (aK e S.ρ y')=some (r,S1):=by
    rw[<-D];have eu:∀q:Option (Nat×List Eq×Fz),aI (aI S.A s (some (z,[],.live))) s q=aI S.A s q:=fun q=>by funext k;simp only[aI];split<;>rfl
    have e0:aI S.A s (some (z,[],.live)) s=some (z,[],.live):=by simp[aI]
    simp only[JX,and_self,Gw,e0,List.length_nil,j8,List.nil_append,eu]
   have⟨q,w',E,I⟩:=AP (ty:=o.type) ai bg (az _ _ r2) R W h5 h7 h8 h9 ah ae ay
   refine .inl ⟨q,w',by simp[execOp,hop,resolve,invoke,builtin,be,E,Result.andThen],?_⟩
   have⟨β',α',M',p1,p2,p3,p4⟩:=I
   exact⟨β',α',M',p1,fun u x hu=>p2 u x (az u x hu),p3,p4⟩
  have a5:jD S s z (aK e S.ρ y) (aK e S.ρ y')=JX S s z (aK e S.ρ y) (aK e S.ρ y'):=by
   unfold jD;split
   ·rename_i z' a2;exact absurd ⟨z',a2⟩ am
   ·rfl
  rw[a5] at D
  have hx:∃n,aK e S.ρ y=.own s z n:=by
   unfold JX at D;split at D
   ·split at D
    ·rename_i hc;obtain⟨rfl,rfl⟩:=hc;rename_i n Z;exact⟨n,Z⟩
    ·simp at D
   ·simp at D
  have⟨n,hx⟩:=hx
  rw[hx] at J D
  have⟨q,w',E,I⟩:=AP (ty:=o.type) h J r2 R W h5 h7 h8 h9 ah ae D
  exact .inl ⟨q,w',by simp[execOp,hop,resolve,invoke,builtin,E,Result.andThen],I⟩
 |apf s z y y'=>
  have⟨x,x',t,t',el,ie,zv,hop,h1,N,R,W,h5,h6,h7,h8,h9,ae,ah⟩:=FH (RE H)
  simp only[ev,Gg,Gb,Gr] at D
  obtain⟨⟨v1,S1⟩,D,v2,L,rfl,rfl⟩:=D
  have J:=arg h1
  have r2:=arg N
  have hx:∃n m,aK e S.ρ y=.own s z n/\v1=.own s z m:=by
   unfold JX at D;split at D
   ·split at D
    ·rename_i hc;obtain⟨rfl,rfl⟩:=hc;rename_i n Z;refine⟨n,?_⟩;split at D
     ·split at D
      ·simp only[Gg] at D;have⟨ys,_,D⟩:=D;split at D
       ·simp only[Gb,Gr] at D;exact⟨_,Z,D.1.symm⟩
       ·simp at D
      ·simp at D
     ·simp at D
    ·simp at D
   ·simp at D
  obtain⟨n,m,hx,rfl⟩:=hx
  rw[hx] at J D
  have⟨q,w',E,I⟩:=AP (ty:=o.type) h J r2 R W h5 h7 h8 h9 ah ae D
  have⟨β1,α1,M1,g1,g2,g3,g4⟩:=I
  have⟨M',f1,f2,f3,f4⟩:=fK [s] g1
  refine .inl ⟨q,w',by simp[execOp,hop,resolve,invoke,builtin,E,Result.andThen],β1,α1,M',f1,fun u x hu=>aJ.tr (S':={S1 with A:=JL S1.A [s]}) (fun _ _ hr=>sd f2 hr) f3 (fun s Y=>⟨Y,rfl⟩) (g2 u x hu),
   .of_data (cj g1 (x:=.own s z m) g3 L (fun b hb=>hb.imp id (f2 b)) (fun s Y b hb af hn=>?_)),g4⟩
  rcases hn with hx|hm
  ·have⟨z,rows,f,e1,e2⟩:=af
   exact ((g1.arr s z rows f e1 e2).2 b hb).1 (g1.xb b hx)
  ·exact f4 s (by simpa [Jc] using Y) b hb af hm
 |ins f s z x i y=>
  have⟨c,hop,hc,T⟩:=SW H
  simp only[iG,Ge,Gj,G9] at O
  have⟨tS,el,hI⟩:=hκ.ins f z O.1 O.2
  have⟨u1,u2,u3,hu,J,r2,r3⟩:=MO hg hl T
  have E:=Nn (a:=a) (w:=w) hop hc hI.ent
  rw[hu] at E
  refine .inr (.inr ⟨_,_,_,E,?_⟩)
  simp only[ev] at D
  split at D<;>try (simp at D;done)
  rename_i s' z' n k bo ys hx hi Z
  split at D<;>try (simp at D;done)
  rename_i al
  obtain⟨rfl,rfl,rfl⟩:=al
  split at D<;>try (simp at D;done)
  rename_i z3 rows hA
  split at D<;>try (simp at D;done)
  rename_i aa
  obtain⟨rfl,hn,a7,bk,ak⟩:=aa
  simp only[Gb,Gr] at D
  obtain⟨rfl,rfl⟩:=D
  rw[hx] at J
  rw[hi] at r2
  rw[Z] at r3
  have hk:k=((k.toNat:Nat):Int):=by omega
  rw[FI r2,hk]
  have:=TW hI h hA hn (k:=k.toNat) (by omega) ak J r3
  exact this
 |del f s z x i j=>
  have⟨c,hop,hc,T⟩:=RI H
  simp only[iG,Ge,Gj,G9] at O
  have hI:=hκ.del f z O.1 O.2
  have⟨u1,u2,u3,hu,J,r2,r3⟩:=MO hg hl T
  have E:=Nn (a:=a) (w:=w) hop hc hI.ent
  rw[hu] at E
  refine .inr (.inr ⟨_,_,_,E,?_⟩)
  simp only[ev] at D
  split at D<;>try (simp at D;done)
  rename_i s' z' n k m hx hi Z
  split at D<;>try (simp at D;done)
  rename_i al
  obtain⟨rfl,rfl⟩:=al
  split at D<;>try (simp at D;done)
  rename_i z3 rows hA hd
  split at D<;>try (simp at D;done)
  rename_i aa
  obtain⟨rfl,hn,a7,bj,bl,ak⟩:=aa
  simp only[Gb,Gr] at D
  obtain⟨rfl,rfl⟩:=D
  rw[hx] at J
  rw[hi] at r2
  rw[Z] at r3
  have hk:k=((k.toNat:Nat):Int):=by omega
  have hm:m=((m.toNat:Nat):Int):=by omega
  rw[FI r2,FI r3,hk,hm]
  have:=SB hI h hA hd hn (k:=k.toNat) (m:=m.toNat) (by omega) (by omega) ak J
  exact this
 |rcall f avs k s b0=>
  have⟨c,hop,aq,T⟩:=Rx H
  simp only[iG,Ge,Gj,G9] at O
  exact R8 h hg hl (hκ.rf f k O.1 O.2) hop aq T (by simpa only [ev] using D)
 |allo z b=>
  have⟨t,hop,hz⟩:=QW H
  simp only[ev] at D
  split at D
  ·simp at D
  ·rename_i hd
   simp only[Gg,Gb,Gr] at D
   obtain⟨⟨cells,A'⟩,ht,rfl,rfl⟩:=D
   have⟨v,L,ag⟩:=Dr (P:=P) (w:=w) hz
   have:=jO (t:=t) h hd (Dy ag) ht
   rw[Array.toArray_toList] at this
   exact .value (s:=Instr.alloc t true (.tuple #[])) (by simp[execOp,hop]) (by simp[Instr.alloc,L,newVar,newRow,Result.andThen]) this
 |appd z y y'=>
  have⟨x,x',t,t',el,ie,zv,hop,h1,N,R,W,h5,h6,h7,h8,h9,ae,ah⟩:=FH (QX (s:=0) H)
  simp only[ev,sX] at D
  have J:=arg h1
  have r2:=arg N
  split at D<;>try (simp at D;done)
  rename_i s z' n hx
  have bf:z'=z:=by
   unfold JX at D;rw[hx] at D;simp only at D;split at D
   ·rename_i hc;exact hc.2
   ·simp at D
  subst bf
  rw[hx] at J D
  have⟨q,w',E,I⟩:=AP (ty:=o.type) h J r2 R W h5 h7 h8 h9 ah ae D
  exact .inl ⟨q,w',by simp[execOp,hop,resolve,invoke,builtin,E,Result.andThen],I⟩
 |fld y off n=>
  have⟨s,x,i,fs,f,hop,h1,N,R,W,h5,h6⟩:=ST H
  simp only[ev] at D
  have J:=arg h1
  split at D<;>try (simp at D;done)
  rename_i cs ab
  simp only[Gg,Gb,Gr] at D
  obtain⟨v,L,rfl,rfl⟩:=D
  rw[ab] at J
  have⟨q,E,U⟩:=TL J N R W h5 h6 L
  exact .value (by simp only[execOp,hop]) E (.pure h U)
 |b2s y=>
  have⟨s,d,x,e',hop,h1,N,R,W⟩:=RF H
  simp only[ev,Gg,Gb,Gr] at D
  obtain⟨v,L,rfl,rfl⟩:=D
  unfold FS at L
  split at L<;>try (simp at L;done)
  rename_i rows Q
  simp only[Gg,Gb] at L
  obtain⟨l,a8,rfl⟩:=L
  have bb:cK cx w (aQ X M) S α (a.eval x) (aK e S.ρ y):=by
   have:=arg h1
   revert this Q
   generalize aK e S.ρ y=q;intro ar h;cases q<;>first|exact h|(simp[cn,V.datC] at ar)
  have ax:aC cx w (fun _=>False) (a.eval x) (.slice 1 rows):=cj h bb Q (fun b hb=>hb.elim) (fun s Y b hb af hn=>hn)
  have⟨q,E,U⟩:=wY (dst:=d) ax a8 N W R
  have ba:aC cx w (aQ X M) q (.str l):=by cases U;exact .str _
  exact .value (by simp only[execOp,hop]) E (.pure h ba)
 |bad=>simp[ev] at D
 |call f cv own a4=>
  have⟨x,c,hop,aq,av,T⟩:=QY H
  refine RQ h hg hl hκ.call ?_ hop aq av T (by simpa only [ev] using D)
  cases f with
  |k f=>simp only[iG,G1,G9,yD] at O;exact O.imp id (fun h=>⟨f,rfl,h⟩)
  |v y=>simp only[iG,yD] at O;exact .inl O
 |nilc y=>
  have⟨x,hop,h1⟩:=Q1 H
  have J:=arg h1
  simp only[ev] at D
  split at D<;>simp only[Gb,Gr,reduceCtorEq] at D
  ·rename_i s' o' Z
   obtain⟨rfl,rfl⟩:=D
   rw[Z] at J
   have⟨q1,q2⟩:=J
   exact .inl ⟨_,w,by simp[execOp,hop,q2],.pure h ⟨q1,rfl⟩⟩
  ·rename_i s' i' o' n' Z
   obtain⟨rfl,rfl⟩:=D
   rw[Z] at J
   have r2:=J
   have⟨_,_,_,_,_,_,_,q2,_⟩:=J
   exact .inl ⟨a.eval x,w,by simp[execOp,hop,q2],.pure h r2⟩
  ·rename_i cs o' Z
   obtain⟨rfl,rfl⟩:=D
   rw[Z] at J
   have r2:=J
   simp only[aJ] at J
   have⟨b,bn,c,el,fr,q2,_⟩:=DA J
   exact .inl ⟨a.eval x,w,by simp[execOp,hop,q2],.pure h r2⟩
end
end Sg
namespace Sg
def bF.lr:bF->List Nat
 |.l i=>[i]
 |_=>[]
def bF.gr:bF->List Nat
 |.g t=>[t]
 |_=>[]
def qW.args:qW->List bF
 |.v x=>[x]
 |.k _=>[]
def K.args:K->List bF
 |.mov x|.box x|.nilq x|.un _ x|.conv _ x|.fad x _|.ext x _|.len _ x|.nilc x=>[x]
 |.pick c a b=>[c,a,b]
 |.alloc _|.mko _|.bad=>[]
 |.build _ j=>j.map (·.2.2)
 |.mks _ _ _ j|.mkb _ _ _ j=>j.map (·.2)
 |.load _ _ p|.ldf _ _ _ p=>[p]
 |.store _ _ p x=>[p,x]
 |.bin _ x y|.eqa _ _ x y|.eqb _ x y|.sh _ x y|.mm _ x y|.iad _ x y|.iada _ _ x y|.idx x y|.app _ _ x y|.apf _ _ x y=>[x,y]
 |.fn _ aN _=>aN
 |.sl _ _ x lo hi=>x::(lo.toList++hi.toList)
 |.ins _ _ _ x i y|.del _ _ _ x i y=>[x,i,y]
 |.rcall _ xs _ _ _=>xs
 |.allo _ _=>[]
 |.b2s x|.fld x _ _=>[x]
 |.appd _ x y=>[x,y]
 |.call f _ _ xs=>f.args++xs
def K.vs (d:Nat):K->List Nat
 |.box _|.alloc _|.allo _ _=>[d]
 |.rcall _ _ _ s _=>[s]
 |.load (.v s) _ _|.store (.v s) _ _ _|.ldf _ s _ _=>[s]
 |.fn _ _ sites=>sites
 |_=>[]
def K.vw (d:Nat):K->List Nat
 |.load ..|.ldf ..=>[]
 |k=>k.vs d
def K.avs (d:Nat):K->Option (List Nat)
 |.mko _|.mkb ..=>some [d]
 |.load (.e s) _ _|.store (.e s) _ _ _|.app s _ _ _|.apf s _ _ _|.ins _ s _ _ _ _|.ldf s _ _ _=>some [s]
 |.del _ s _ _ _ _=>some [s,d]
 |.call _ .no none _=>some []
 |.call _ .no (some _) _=>some [d]
 |.call ..=>none
 |.rcall ..|.allo ..|.appd ..|.b2s _|.load .x _ _=>none
 |_=>some []
def K.aw (d:Nat):K->Option (List Nat)
 |.load ..|.call _ .borrow _ _|.b2s _=>some []
 |k=>k.avs d
def bN (s:Nat):Option (List Nat)->Prop
 |none=>True
 |some l=>s∈l
section
variable (κ:Nat->Eq->Option V)
def oF (d:Nat) (k:K) (S S':St):Option (V×St)->Option (V×St)->Prop
 |none,none=>True
 |some (v,T),some (v',T')=>v=v'/\T.ρ=S.ρ/\T'.ρ=S'.ρ/\(∀s,s∈k.vw d->T.μ s=T'.μ s)/\(∀s,s∉k.vw d->T.μ s=S.μ s/\T'.μ s=S'.μ s)/\
   (∀s,bN s (k.aw d)->T.A s=T'.A s)/\(∀s,¬bN s (k.aw d)->T.A s=S.A s/\T'.A s=S'.A s)
 |_,_=>False
def oF.pure {d:Nat} {k:K} {S S':St} {v:V} (h1:∀s,s∈k.vw d->S.μ s=S'.μ s) (j:∀s,bN s (k.aw d)->S.A s=S'.A s):oF d k S S' (some (v,S)) (some (v,S')):=
 ⟨rfl,rfl,rfl,h1,fun _ _=>⟨rfl,rfl⟩,j,fun _ _=>⟨rfl,rfl⟩⟩
def oF.bindV {d:Nat} {k:K} {S S':St} {o:Option V} (h1:∀s,s∈k.vw d->S.μ s=S'.μ s) (j:∀s,bN s (k.aw d)->S.A s=S'.A s) :
  oF d k S S' (o.bind fun v=>some (v,S)) (o.bind fun v=>some (v,S')):=by
 cases o with
 |none=>exact GN
 |some v=>exact .pure h1 j
def MK {α β:Type} {f g:α->Option β} {l:List α} (h:∀x∈l,f x=g x):Jn f l=Jn g l:=by
 induction l with
 |nil=>rfl
 |cons a l o=>
  simp only[Jn,h a (by simp)];rw[o fun x j=>h x (by simp[j])]
def R0 (l:List Nat):∀(μ μ':Nat->Option (Eq×Bool)) (s:Nat),μ s=μ' s->J9 μ l s=J9 μ' l s:=by
 induction l with
 |nil=>intro μ μ' s h;exact h
 |cons a l j=>
  intro μ μ' s h
  show J9 (aI μ a _) l s=J9 (aI μ' a _) l s
  refine j _ _ s ?_;simp only[aI];split
  ·rename_i e;subst e;rw[h]
  ·exact h
def M8 (l:List Nat):∀(μ:Nat->Option (Eq×Bool)) (s:Nat),s∉l->J9 μ l s=μ s:=by
 induction l with
 |nil=>intro μ s _;rfl
 |cons a l o=>
  intro μ s h
  show J9 (aI μ a _) l s=μ s
  rw[o _ s (fun j=>h (by simp[j]))];simp only[aI];rw[Gn (fun e=>h (by simp[e]))]
def Q8 {A j:Nat->Option (Nat×List Eq×Fz)} {x:V} (h:∀s∈Jc x,A s=j s):cn A x=cn j x:=by
 cases x<;>try rfl
 rename_i s z n;have:=h s (by simp[Jc]);simp only[cn,this]
theorem Sl {A j:Nat->Option (Nat×List Eq×Fz)} {x:V} (h:∀s∈Jd x,A s=j s):dT A x=dT j x:=by
 cases x with
 |agg cs=>
  simp only[dT];rw[MK fun y p=>Q8 fun s o=>h s (tE.2 ⟨y,p,o⟩)]
 |own s z n=>
  have:=h s (by simp[Jd,Jc]);simp only[dT,cn,this]
 |_=>rfl
def MZ (d:Nat) (k:K) (e D:Nat->V) (S S':St) (w:∀x∈k.args,aK e S.ρ x=aK D S'.ρ x) (I:∀s,s∈k.vs d->S.μ s=S'.μ s) (E:∀s,bN s (k.avs d)->S.A s=S'.A s) :
  oF d k S S' (ev κ d e S k) (ev κ d D S' k):=by
 cases k with
 |mov x=>simp only[ev,w x (by simp[K.args])];exact .pure (by simp[K.vw,K.vs]) (by simp[K.aw,K.avs,bN])
 |pick c a b=>
  simp only[ev,w c (by simp[K.args]),w a (by simp[K.args]),w b (by simp[K.args])]
  split
  ·exact .pure (by simp[K.vw,K.vs]) (by simp[K.aw,K.avs,bN])
  ·exact GN
 |box x=>
  simp only[ev,w x (by simp[K.args]),I d (by simp[K.vs])]
  split
  ·exact GN
  ·cases (aK D S'.ρ x).cells with
   |none=>exact GN
   |some cs=>
    refine⟨rfl,rfl,rfl,fun s u=>?_,fun s u=>?_,fun s u=>by simp[K.aw,K.avs,bN] at u,fun s u=>⟨rfl,rfl⟩⟩
    ·simp[K.vw,K.vs] at u;simp[aI,u]
    ·simp[K.vw,K.vs] at u;simp[aI,u]
 |alloc z=>
  simp only[ev,I d (by simp[K.vs])]
  split
  ·exact GN
  ·refine⟨rfl,rfl,rfl,fun s u=>?_,fun s u=>?_,fun s u=>by simp[K.aw,K.avs,bN] at u,fun s u=>⟨rfl,rfl⟩⟩
   ·simp[K.vw,K.vs] at u;simp[aI,u]
   ·simp[K.vw,K.vs] at u;simp[aI,u]
 |build z J=>
  have:J.map (fun p=>(p.1,p.2.1,aK e S.ρ p.2.2))=J.map (fun p=>(p.1,p.2.1,aK D S'.ρ p.2.2)):=tI fun p T=>by rw[w p.2.2 (by simp only[K.args,nH];exact⟨p,T,rfl⟩)]
  simp only[ev,this]
  cases tO z (J.map fun p=>(p.1,p.2.1,aK D S'.ρ p.2.2)) with
  |none=>exact GN
  |some cs=>exact .pure (by simp[K.vw,K.vs]) (by simp[K.aw,K.avs,bN])
 |mks z n zero J=>
  have:J.map (fun p=>(p.1,aK e S.ρ p.2))=J.map (fun p=>(p.1,aK D S'.ρ p.2)):=tI fun p T=>by rw[w p.2 (by simp only[K.args,nH];exact⟨p,T,rfl⟩)]
  simp only[ev,this]
  cases Jj z (List.replicate n zero) (J.map fun p=>(p.1,aK D S'.ρ p.2)) with
  |none=>exact GN
  |some cs=>exact .pure (by simp[K.vw,K.vs]) (by simp[K.aw,K.avs,bN])
 |mko z=>
  simp only[ev,E d (by simp[K.avs,bN])]
  split
  ·exact GN
  ·refine⟨rfl,rfl,rfl,fun s u=>by simp[K.vw,K.vs] at u,fun s u=>⟨rfl,rfl⟩,fun s u=>?_,fun s u=>?_⟩
   ·simp[K.aw,K.avs,bN] at u;simp[aI,u]
   ·simp[K.aw,K.avs,bN] at u;simp[aI,u]
 |load l n p=>
  have:Jw S l n (aK e S.ρ p)=Jw S' l n (aK D S'.ρ p):=by
   rw[w p (by simp[K.args])];generalize aK D S'.ρ p=p';unfold Jw;cases l with
   |v s=>
    have h1:=I s (by simp[K.vs]);cases p'<;>simp only[h1]
   |e s=>
    have h1:=E s (by simp[K.avs,bN]);cases p'<;>simp only[h1]
   |c=>cases p'<;>rfl
   |x=>
    have h1:S.A=S'.A:=funext fun s=>E s (by simp[K.avs,bN]);cases p'<;>simp only[h1]
  simp only[ev,this]
  exact .bindV (by simp[K.vw]) (by simp[K.aw,bN])
 |store l n p x=>
  simp only[ev,w p (by simp[K.args]),w x (by simp[K.args])]
  generalize aK D S'.ρ p=p'
  generalize aK D S'.ρ x=x'
  unfold Jz
  cases x'.cells with
  |none=>exact GN
  |some xs=>
   simp only[Option.bind_some]
   split
   ·cases l with
    |v s=>
     cases p'<;>try exact GN
     rename_i s' off
     simp only
     split
     ·rw[I s (by simp[K.vs])]
      split
      ·rename_i cs _
       cases JZ cs off xs with
       |none=>exact GN
       |some du=>
        refine⟨rfl,rfl,rfl,fun s u=>?_,fun s u=>?_,fun s u=>by simp[K.aw,K.avs,bN] at u,fun s u=>⟨rfl,rfl⟩⟩
        ·simp[K.vw,K.vs] at u;simp[aI,u]
        ·simp[K.vw,K.vs] at u;simp[aI,u]
      ·exact GN
     ·exact GN
    |e s=>
     cases p'<;>try exact GN
     rename_i s' i off m
     simp only
     split
     ·rw[E s (by simp[K.avs,bN])]
      split
      ·rename_i z rows _
       split
       ·cases rows[i]? with
        |none=>exact GN
        |some r=>
         simp only[Option.bind_some]
         cases JZ r off xs with
         |none=>exact GN
         |some r'=>
          refine⟨rfl,rfl,rfl,fun s u=>by simp[K.vw,K.vs] at u,fun s u=>⟨rfl,rfl⟩,fun s u=>?_,fun s u=>?_⟩
          ·simp[K.aw,K.avs,bN] at u;simp[aI,u]
          ·simp[K.aw,K.avs,bN] at u;simp[aI,u]
       ·exact GN
      ·exact GN
     ·exact GN
    |c=>cases p'<;>exact GN
    |x=>cases p'<;>exact GN
   ·exact GN
 |bin o x y=>simp only[ev,w x (by simp[K.args]),w y (by simp[K.args])];exact .bindV (by simp[K.vw,K.vs]) (by simp[K.aw,K.avs,bN])
 |eqa ne sh x y=>
  simp only[ev,w x (by simp[K.args]),w y (by simp[K.args])]
  split
  ·rename_i xs N _ _
   cases pr sh xs N with
   |none=>exact GN
   |some b=>exact .pure (by simp[K.vw,K.vs]) (by simp[K.aw,K.avs,bN])
  ·exact GN
 |eqb ne x y=>
  simp only[ev,w x (by simp[K.args]),w y (by simp[K.args])]
  split
  ·exact .pure (by simp[K.vw,K.vs]) (by simp[K.aw,K.avs,bN])
  ·exact GN
 |sh o x y=>simp only[ev,w x (by simp[K.args]),w y (by simp[K.args])];exact .bindV (by simp[K.vw,K.vs]) (by simp[K.aw,K.avs,bN])
 |mm mx x y=>
  simp only[ev,w x (by simp[K.args]),w y (by simp[K.args])]
  split
  ·split
   ·exact .pure (by simp[K.vw,K.vs]) (by simp[K.aw,K.avs,bN])
   ·exact GN
  ·exact GN
 |un o x=>simp only[ev,w x (by simp[K.args])];exact .bindV (by simp[K.vw,K.vs]) (by simp[K.aw,K.avs,bN])
 |conv c x=>simp only[ev,w x (by simp[K.args])];exact .bindV (by simp[K.vw,K.vs]) (by simp[K.aw,K.avs,bN])
 |fn f aN B=>
  have X:aN.map (aK e S.ρ)=aN.map (aK D S'.ρ):=tI fun x M=>w x (by simp[K.args,M])
  have hd:B.all (JH S.μ)=B.all (JH S'.μ):=by
   rw[Bool.eq_iff_iff,GG,GG];constructor<;>intro h s u
   ·have:=h s u;simp only[JH] at this ⊢;rwa [<-I s (by simpa [K.vs] using u)]
   ·have:=h s u;simp only[JH] at this ⊢;rwa [I s (by simpa [K.vs] using u)]
  have R:∀x:V,jF S.μ B x=jF S'.μ B x:=fun x=>by
   unfold jF;split
   ·rename_i s;by_cases u:s∈B
    ·rw[I s (by simpa [K.vs] using u)]
    ·have:B.contains s=false:=by simpa using u
     rw[this];cases S.μ s<;>cases S'.μ s<;>simp
   ·rfl
  simp only[ev,X,hd,MK (fun x _=>R x)]
  split
  ·cases Jn (jF S'.μ B) (aN.map (aK D S'.ρ)) with
   |none=>exact GN
   |some cs=>
    refine⟨rfl,rfl,rfl,fun s u=>?_,fun s u=>?_,fun s u=>by simp[K.aw,K.avs,bN] at u,fun s u=>⟨rfl,rfl⟩⟩
    ·exact R0 B _ _ s (I s u)
    ·exact⟨M8 B _ s u,M8 B _ s u⟩
  ·exact GN
 |sl st z x lo hi=>
  have Z:lo.map (aK e S.ρ)=lo.map (aK D S'.ρ):=by cases lo with|none=>rfl|some a=>simp[w a (by simp[K.args])]
  have Y:hi.map (aK e S.ρ)=hi.map (aK D S'.ρ):=by cases hi with|none=>rfl|some a=>simp[w a (by simp[K.args])]
  simp only[ev,w x (by simp[K.args]),Z,Y];exact .bindV (by simp[K.vw,K.vs]) (by simp[K.aw,K.avs,bN])
 |fad x off=>simp only[ev,w x (by simp[K.args])];exact .bindV (by simp[K.vw,K.vs]) (by simp[K.aw,K.avs,bN])
 |iad z x i=>simp only[ev,w x (by simp[K.args]),w i (by simp[K.args])];exact .bindV (by simp[K.vw,K.vs]) (by simp[K.aw,K.avs,bN])
 |iada z n x i=>simp only[ev,w x (by simp[K.args]),w i (by simp[K.args])];exact .bindV (by simp[K.vw,K.vs]) (by simp[K.aw,K.avs,bN])
 |idx x i=>simp only[ev,w x (by simp[K.args]),w i (by simp[K.args])];exact .bindV (by simp[K.vw,K.vs]) (by simp[K.aw,K.avs,bN])
 |ext x i=>simp only[ev,w x (by simp[K.args])];exact .bindV (by simp[K.vw,K.vs]) (by simp[K.aw,K.avs,bN])
 |len st x=>simp only[ev,w x (by simp[K.args])];exact .bindV (by simp[K.vw,K.vs]) (by simp[K.aw,K.avs,bN])
 |app s z x y=>
  simp only[ev,w x (by simp[K.args]),w y (by simp[K.args])]
  generalize aK D S'.ρ x=x'
  generalize aK D S'.ρ y=y'
  unfold jD JX
  cases x'<;>try exact GN
  case nslice z'=>
   simp only
   split
   ·rw[E s (by simp[K.avs,bN])]
    split
    ·cases V.rowsOf z y' with
     |none=>exact GN
     |some N=>
      simp only[Option.bind_some]
      split
      ·refine⟨rfl,rfl,rfl,fun s u=>by simp[K.vw,K.vs] at u,fun s u=>⟨rfl,rfl⟩,fun s u=>?_,fun s u=>?_⟩
       ·simp[K.aw,K.avs,bN] at u;simp[aI,u]
       ·simp[K.aw,K.avs,bN] at u;simp[aI,u]
      ·exact GN
    ·exact GN
   ·exact GN
  rename_i s' z' n
  simp only
  split
  ·rw[E s (by simp[K.avs,bN])]
   split
   ·rename_i aa rows _
    split
    ·cases V.rowsOf z y' with
     |none=>exact GN
     |some N=>
      simp only[Option.bind_some]
      split
      ·refine⟨rfl,rfl,rfl,fun s u=>by simp[K.vw,K.vs] at u,fun s u=>⟨rfl,rfl⟩,fun s u=>?_,fun s u=>?_⟩
       ·simp[K.aw,K.avs,bN] at u;simp[aI,u]
       ·simp[K.aw,K.avs,bN] at u;simp[aI,u]
      ·exact GN
    ·exact GN
   ·exact GN
  ·exact GN
 |apf s z x y=>
  simp only[ev,w x (by simp[K.args]),w y (by simp[K.args])]
  generalize aK D S'.ρ x=x'
  generalize aK D S'.ρ y=y'
  unfold JX
  cases x'<;>try exact GN
  rename_i s' z' n
  simp only
  split
  ·rw[E s (by simp[K.avs,bN])]
   split
   ·rename_i aa rows _
    split
    ·cases V.rowsOf z y' with
     |none=>exact GN
     |some N=>
      simp only[Option.bind_some]
      split
      ·rename_i ab
       have O:∀A:Nat->Option (Nat×List Eq×Fz),cn (aI A s (some (z,rows++N,.live))) (.own s z (rows.length+N.length))=some (.slice z (rows++N)):=fun A=>by simp[cn,aI]
       simp only[O,Option.bind_some]
       refine⟨rfl,rfl,rfl,fun s u=>by simp[K.vw,K.vs] at u,fun s u=>⟨rfl,rfl⟩,fun s u=>?_,fun s u=>?_⟩
       ·simp[K.aw,K.avs,bN] at u;simp[JL,aI,u]
       ·simp[K.aw,K.avs,bN] at u;simp[JL,aI,u]
      ·exact GN
    ·exact GN
   ·exact GN
  ·exact GN
 |ins f s z x i y=>
  simp only[ev,w x (by simp[K.args]),w i (by simp[K.args]),w y (by simp[K.args])]
  split
  ·split
   ·rw[E s (by simp[K.avs,bN])]
    split
    ·split
     ·refine⟨rfl,rfl,rfl,fun s u=>by simp[K.vw,K.vs] at u,fun s u=>⟨rfl,rfl⟩,fun s u=>?_,fun s u=>?_⟩
      ·simp[K.aw,K.avs,bN] at u;simp[aI,u]
      ·simp[K.aw,K.avs,bN] at u;simp[aI,u]
     ·exact GN
    ·exact GN
   ·exact GN
  ·exact GN
 |del f s z x i j=>
  simp only[ev,w x (by simp[K.args]),w i (by simp[K.args]),w j (by simp[K.args])]
  split
  ·split
   ·rw[E s (by simp[K.avs,bN]),E d (by simp[K.avs,bN])]
    split
    ·split
     ·refine⟨rfl,rfl,rfl,fun s u=>by simp[K.vw,K.vs] at u,fun s u=>⟨rfl,rfl⟩,fun t ht=>?_,fun t ht=>?_⟩
      ·simp[K.aw,K.avs,bN] at ht
       by_cases O:t=d
       ·simp[aI,O]
       ·have:t=s:=by rcases ht with h|h<;>simp_all
        subst this;simp[aI,O]
      ·simp[K.aw,K.avs,bN] at ht
       simp[aI,ht.1,ht.2]
     ·exact GN
    ·exact GN
   ·exact GN
  ·exact GN
 |call f cv own xs=>
  have X:callee e S.ρ f=callee D S'.ρ f:=by
   cases f with
   |k f=>rfl
   |v x=>simp only[callee,w x (by simp[K.args,qW.args])]
  have M:xs.map (aK e S.ρ)=xs.map (aK D S'.ρ):=tI fun x M=>w x (by simp[K.args,M])
  simp only[ev,X,M]
  cases callee D S'.ρ f with
  |none=>exact GN
  |some P=>
   simp only[Option.bind_some]
   generalize xs.map (aK D S'.ρ)=avs
   unfold fh
   cases cv with
   |no=>
    simp only
    split
    ·cases κ P.1 (avs++P.2) with
     |none=>exact GN
     |some r=>
      simp only[Option.bind_some]
      cases own with
      |none=>exact .pure (by simp[K.vw,K.vs]) (by simp[K.aw,K.avs,bN])
      |some j=>
       simp only[ea,E d (by simp[K.avs,bN])]
       split
       ·exact GN
       ·split
        ·refine⟨rfl,rfl,rfl,fun s u=>by simp[K.vw,K.vs] at u,fun s u=>⟨rfl,rfl⟩,fun s u=>?_,fun s u=>?_⟩
         ·simp[K.aw,K.avs,bN] at u;simp[aI,u]
         ·simp[K.aw,K.avs,bN] at u;simp[aI,u]
        ·split
         ·refine⟨rfl,rfl,rfl,fun s u=>by simp[K.vw,K.vs] at u,fun s u=>⟨rfl,rfl⟩,fun s u=>?_,fun s u=>?_⟩
          ·simp[K.aw,K.avs,bN] at u;simp[aI,u]
          ·simp[K.aw,K.avs,bN] at u;simp[aI,u]
         ·exact GN
        ·exact GN
    ·exact GN
   |borrow=>
    have:S.A=S'.A:=funext fun s=>E s (by simp[K.avs,bN])
    simp only[this]
    cases Jn (dT S'.A) avs with
    |none=>exact GN
    |some U=>
     simp only[Option.bind_some]
     cases κ P.1 (U++P.2) with
     |none=>exact GN
     |some r=>
      simp only[Option.bind_some]
      split
      ·exact .pure (by simp[K.vw,K.vs]) (by simp[K.aw,bN])
      ·exact GN
   |freeze=>
    have H:S.A=S'.A:=funext fun s=>E s (by simp[K.avs,bN])
    simp only[H]
    cases Jn (dT S'.A) avs with
    |none=>exact GN
    |some U=>
     simp only[Option.bind_some]
     cases κ P.1 (U++P.2) with
     |none=>exact GN
     |some r=>
      simp only[Option.bind_some]
      unfold ea
      cases own with
      |none=>exact⟨rfl,rfl,rfl,fun s u=>by simp[K.vw,K.vs] at u,fun s u=>⟨rfl,rfl⟩,fun s u=>rfl,fun s u=>by simp[K.aw,K.avs,bN] at u⟩
      |some j=>
       simp only
       split
       ·exact GN
       ·split
        ·exact⟨rfl,rfl,rfl,fun s u=>by simp[K.vw,K.vs] at u,fun s u=>⟨rfl,rfl⟩,fun s u=>rfl,fun s u=>by simp[K.aw,K.avs,bN] at u⟩
        ·split
         ·exact⟨rfl,rfl,rfl,fun s u=>by simp[K.vw,K.vs] at u,fun s u=>⟨rfl,rfl⟩,fun s u=>rfl,fun s u=>by simp[K.aw,K.avs,bN] at u⟩
         ·exact GN
        ·exact GN
 |nilc x=>
  simp only[ev,w x (by simp[K.args])]
  split<;>first|exact GN|exact .pure (by simp[K.vw,K.vs]) (by simp[K.aw,K.avs,bN])
 |nilq x=>
  simp only[ev,w x (by simp[K.args])]
  split<;>first|exact GN|exact .pure (by simp[K.vw,K.vs]) (by simp[K.aw,K.avs,bN])
 |ldf s v n p=>
  have e0:Jw S (.v v) (some n) (aK e S.ρ p)=Jw S' (.v v) (some n) (aK D S'.ρ p):=by
   rw[w p (by simp[K.args])];generalize aK D S'.ρ p=p';unfold Jw;have h1:=I v (by simp[K.vs]);cases p'<;>simp only[h1]
  have L:S.A s=S'.A s:=E s (by simp[K.avs,bN])
  simp only[ev,e0]
  cases Jw S' (.v v) (some n) (aK D S'.ρ p) with
  |none=>exact GN
  |some x=>
   simp only[Option.bind_some]
   split
   ·rename_i Q
    have O:dT S.A x=dT S'.A x:=Sl fun t ht=>by
     have:=GG.1 Q t ht;rw[G9.1 this];exact L
    rw[O]
    cases dT S'.A x with
    |none=>exact GN
    |some y=>exact⟨rfl,rfl,rfl,fun s u=>by simp[K.vw] at u,fun s u=>⟨rfl,rfl⟩,fun t ht=>by
      simp[K.aw,K.avs,bN] at ht;subst ht;simp[JL,aI,L],fun t ht=>by
      simp[K.aw,K.avs,bN] at ht;exact⟨by simp[JL,aI,ht],by simp[JL,aI,ht]⟩⟩
   ·exact GN
 |mkb z n zero J=>
  have:J.map (fun p=>(p.1,aK e S.ρ p.2))=J.map (fun p=>(p.1,aK D S'.ρ p.2)):=tI fun p T=>by rw[w p.2 (by simp only[K.args,nH];exact⟨p,T,rfl⟩)]
  have L:S.A d=S'.A d:=E d (by simp[K.avs,bN])
  simp only[ev,this,ea,<-L]
  cases Jj z (List.replicate n zero) (J.map fun p=>(p.1,aK D S'.ρ p.2)) with
  |none=>exact GN
  |some rows=>
   simp only[Option.bind_some]
   cases S.A d with
   |some x=>exact GN
   |none=>exact⟨rfl,rfl,rfl,fun s u=>by simp[K.vw,K.vs] at u,fun s u=>⟨rfl,rfl⟩,fun s u=>by
     simp[K.aw,K.avs,bN] at u;subst u;simp[aI],fun s u=>by
     simp[K.aw,K.avs,bN] at u;exact⟨by simp[aI,u],by simp[aI,u]⟩⟩
 |rcall f xs k s b=>
  have M:xs.map (aK e S.ρ)=xs.map (aK D S'.ρ):=tI fun x M=>w x (by simp[K.args,M])
  have H:S.A=S'.A:=funext fun s=>E s (by simp[K.avs,bN])
  have h1:S.μ s=S'.μ s:=I s (by simp[K.vs])
  simp only[ev,M]
  generalize xs.map (aK D S'.ρ)=avs
  have W:ew S k s avs=ew S' k s avs:=by unfold ew;simp only[H,h1]
  unfold sg
  rw[W]
  cases ew S' k s avs with
  |none=>exact GN
  |some q=>
   simp only[Option.bind_some]
   cases κ f q.1 with
   |none=>exact GN
   |some r=>
    simp only[Option.bind_some]
    unfold iH
    split
    ·rename_i us
     cases JO b us q.2 with
     |none=>exact GN
     |some t=>
      refine⟨rfl,rfl,rfl,fun s u=>?_,fun s u=>?_,fun s u=>rfl,fun s u=>by simp[K.aw,K.avs,bN] at u⟩
      ·simp[K.vw,K.vs] at u;simp[aI,u]
      ·simp[K.vw,K.vs] at u;simp[aI,u]
    ·exact GN
 |allo z b=>
  have H:S.A=S'.A:=funext fun s=>E s (by simp[K.avs,bN])
  simp only[ev,I d (by simp[K.vs]),H]
  split
  ·exact GN
  ·cases JO b (z.map fu) S'.A with
   |none=>exact GN
   |some t=>
    refine⟨rfl,rfl,rfl,fun s u=>?_,fun s u=>?_,fun s u=>rfl,fun s u=>by simp[K.aw,K.avs,bN] at u⟩
    ·simp[K.vw,K.vs] at u;simp[aI,u]
    ·simp[K.vw,K.vs] at u;simp[aI,u]
 |appd z x y=>
  have H:S.A=S'.A:=funext fun s=>E s (by simp[K.avs,bN])
  simp only[ev,w x (by simp[K.args]),w y (by simp[K.args])]
  generalize aK D S'.ρ x=x'
  generalize aK D S'.ρ y=y'
  unfold sX JX
  cases x'<;>try exact GN
  simp only[H]
  split
  ·split
   ·split
    ·cases V.rowsOf z y' with
     |none=>exact GN
     |some N=>
      simp only[Option.bind_some]
      split
      ·exact⟨rfl,rfl,rfl,fun s u=>by simp[K.vw,K.vs] at u,fun s u=>⟨rfl,rfl⟩,fun s u=>rfl,fun s u=>by simp[K.aw,K.avs,bN] at u⟩
      ·exact GN
    ·exact GN
   ·exact GN
  ·exact GN
 |fld x off n=>
  simp only[ev,w x (by simp[K.args])]
  split
  ·exact .bindV (by simp[K.vw,K.vs]) (by simp[K.aw,K.avs,bN])
  ·exact GN
 |b2s x=>
  have H:S.A=S'.A:=funext fun s=>E s (by simp[K.avs,bN])
  simp only[ev,w x (by simp[K.args]),H]
  exact .bindV (by simp[K.vw,K.vs]) (by simp[K.aw,bN])
 |bad=>exact GN
def Op.gw (o:Op):List Nat:=if o.gl then o.dst.toList else []
def Op.d (o:Op):Nat:=o.dst.getD 0
def Op.lr (o:Op):List Nat:=(o.gd.toList.map (·.1))++o.k.args.flatMap bF.lr
def Op.gr (o:Op):List Nat:=o.k.args.flatMap bF.gr
structure yz (o:Op) (e e':Nat->V) (S S':St):Prop where
 l:∀i,i∈o.lr->e i=e' i
 g:∀t,t∈o.gr->S.ρ t=S'.ρ t
 v:∀s,s∈o.k.vs o.d->S.μ s=S'.μ s
 a:∀s,bN s (o.k.avs o.d)->S.A s=S'.A s
def gu (o:Op) (S S':St):Option (V×St)->Option (V×St)->Prop
 |none,none=>True
 |some (v,T),some (v',T')=>v=v'/\(∀t,t∈o.gw->T.ρ t=T'.ρ t)/\(∀t,t∉o.gw->T.ρ t=S.ρ t/\T'.ρ t=S'.ρ t)/\
   (∀s,s∈o.k.vw o.d->T.μ s=T'.μ s)/\(∀s,s∉o.k.vw o.d->T.μ s=S.μ s/\T'.μ s=S'.μ s)/\
   (∀s,bN s (o.k.aw o.d)->T.A s=T'.A s)/\(∀s,¬bN s (o.k.aw o.d)->T.A s=S.A s/\T'.A s=S'.A s)
 |_,_=>False
def NI {d:Nat} {k:K} {s:Nat} (h:s∈k.vw d):s∈k.vs d:=by
 cases k<;>simp_all [K.vw]
def NG {d:Nat} {k:K} {s:Nat} (h:bN s (k.aw d)):bN s (k.avs d):=by
 cases k<;>try (exact h)
 ·simp[K.aw,bN] at h
 ·rename_i f j own xs;cases j
  ·exact h
  ·simp[K.aw,bN] at h
  ·exact h
 ·simp[K.aw,bN] at h
def DF (S:St) (o:Op) (v:V):(∀t,t∈o.gw->(S.put o v).ρ t=v)/\(∀t,t∉o.gw->(S.put o v).ρ t=S.ρ t)/\(S.put o v).μ=S.μ/\(S.put o v).A=S.A:=by
 unfold St.put Op.gw;cases o.gl<;>cases o.dst<;>simp[aI];intro t ht e;exact absurd e ht
def Fr (o:Op) (e u:Nat->V) (S S':St) (h:yz o e u S S'):gu o S S' (step κ o e S) (step κ o u S'):=by
 have hw:Jk e o.gd=Jk u o.gd:=by
  unfold Jk;cases W:o.gd with
  |none=>rfl
  |some X=>have⟨j,b⟩:=X;simp only;rw[h.l j (by simp[Op.lr,W])]
 unfold step;rw[hw];have U:∀x∈o.k.args,aK e S.ρ x=aK u S'.ρ x:=fun x L=>by
  cases x with
  |g t=>exact h.g t (by simp only[Op.gr,tE];exact⟨_,L,by simp[bF.gr]⟩)
  |l i=>exact h.l i (by simp only[Op.lr,GS,tE];exact .inr ⟨_,L,by simp[bF.lr]⟩)
  |c v=>rfl
  |f k=>rfl
 split
 ·exact GN
 ·have⟨E,H,w,y⟩:=DF S o .un;have⟨I,J,z,B⟩:=DF S' o .un;refine⟨rfl,fun t ht=>by rw[E t ht,I t ht],fun t ht=>⟨H t ht,J t ht⟩,fun s p=>by rw[w,z];exact h.v s (NI p),fun s p=>by rw[w,z];exact⟨rfl,rfl⟩,
   fun s p=>by rw[y,B];exact h.a s (NG p),fun s p=>by rw[y,B];exact⟨rfl,rfl⟩⟩
 ·have q:=MZ κ o.d o.k e u S S' U h.v h.a
  show gu o S S' ((ev κ o.d e S o.k).bind _) ((ev κ o.d u S' o.k).bind _)
  generalize ev κ o.d e S o.k=r at q;generalize ev κ o.d u S' o.k=D at q;cases r with
  |none=>cases D with
   |none=>exact GN
   |some _=>exact q.elim
  |some r=>cases D with
   |none=>exact q.elim
   |some D=>
    have⟨v,T⟩:=r
    have⟨v',M⟩:=D
    obtain⟨rfl,h1,N,O,P,Q,R⟩:=q
    have⟨E,H,w,y⟩:=DF T o v
    have⟨I,J,z,B⟩:=DF M o v
    exact⟨rfl,fun t ht=>by rw[E t ht,I t ht],fun t ht=>⟨by rw[H t ht,h1],by rw[J t ht,N]⟩,fun s p=>by rw[w,z];exact O s p,fun s p=>by rw[w,z];exact P s p,
     fun s p=>by rw[y,B];exact Q s p,fun s p=>by rw[y,B];exact R s p⟩
def DJ:Option (List Nat)->Option (List Nat)->Bool
 |some [],_=>true
 |_,some []=>true
 |some l,some m=>l.all fun s=>!m.contains s
 |_,_=>false
def Nh {a b:Option (List Nat)} (h:DJ a b=true) (s:Nat) (j:bN s a):¬bN s b:=by
 unfold DJ at h;split at h
 ·simp[bN] at j
 ·simp[bN]
 ·rw[GG] at h;have:=h s j;simpa [bN] using this
 ·simp at h
def UH (l:List Nat) (x:Nat):l.contains x=false↔x∉l:=by simp
def iB (i j:Nat) (p q:Op):Bool:=
 !q.lr.contains i&&!p.lr.contains j &&
 (p.gw.all fun t=>!q.gr.contains t&&!q.gw.contains t)&&(q.gw.all fun t=>!p.gr.contains t) &&
 ((p.k.vw p.d).all fun s=>!(q.k.vs q.d).contains s)&&((q.k.vw q.d).all fun s=>!(p.k.vs p.d).contains s) &&
 DJ (p.k.aw p.d) (q.k.avs q.d)&&DJ (q.k.aw q.d) (p.k.avs p.d)
def gu.refl {o:Op} {e:Nat->V} {S:St}:gu o S S (step κ o e S) (step κ o e S):=Fr κ o e e S S ⟨fun _ _=>rfl,fun _ _=>rfl,fun _ _=>rfl,fun _ _=>rfl⟩
def St.ext' {S T:St} (h1:∀t,S.ρ t=T.ρ t) (j:∀s,S.μ s=T.μ s) (o:∀s,S.A s=T.A s):S=T:=by
 cases S;cases T;congr<;>funext x<;>simp_all
def Q7 {i j:Nat} (aa:i≠j) {p q:Op} (h:iB i j p q=true) (e:Nat->V) (S:St) :
  ((step κ p e S).bind fun r=>(step κ q (aI e i r.1) r.2).bind fun J=>some (aI (aI e i r.1) j J.1,J.2))=
  ((step κ q e S).bind fun r=>(step κ p (aI e j r.1) r.2).bind fun J=>some (aI (aI e j r.1) i J.1,J.2)):=by
 simp only[iB,Ge,GG,GM,UH] at h
 have⟨⟨⟨⟨⟨⟨⟨h1,h2⟩,h3⟩,h4⟩,h5⟩,h6⟩,h7⟩,h8⟩:=h
 have a7:=Nh h7
 have a8:=Nh h8
 -- q behind p
 have Q:∀v T,step κ p e S=some (v,T)->gu q S T (step κ q e S) (step κ q (aI e i v) T):=fun v T M=>by
  have:=gu.refl κ (o:=p) (e:=e) (S:=S);rw[M] at this;obtain⟨-,-,g,-,m,-,a⟩:=this;refine Fr κ q e (aI e i v) S T ⟨fun k W=>?_,fun t ht=>?_,fun s I=>?_,fun s I=>?_⟩
  ·have:k≠i:=fun O=>h1 (O▸W);simp[aI,this]
  ·exact (g t (fun R=>(h3 t R).1 ht)).1.symm
  ·exact (m s (fun hm=>h5 s hm I)).1.symm
  ·exact (a s (fun N=>a7 s N I)).1.symm
 have P:∀v T,step κ q e S=some (v,T)->gu p S T (step κ p e S) (step κ p (aI e j v) T):=fun v T H=>by
  have:=gu.refl κ (o:=q) (e:=e) (S:=S);rw[H] at this;obtain⟨-,-,g,-,m,-,a⟩:=this;refine Fr κ p e (aI e j v) S T ⟨fun k W=>?_,fun t ht=>?_,fun s I=>?_,fun s I=>?_⟩
  ·have:k≠j:=fun O=>h2 (O▸W);simp[aI,this]
  ·exact (g t (fun R=>h4 t R ht)).1.symm
  ·exact (m s (fun hm=>h6 s hm I)).1.symm
  ·exact (a s (fun N=>a8 s N I)).1.symm
 cases M:step κ p e S with
 |none=>
  cases H:step κ q e S with
  |none=>rfl
  |some r=>
   have:=P r.1 r.2 (by rw[H])
   rw[M] at this
   cases z:step κ p (aI e j r.1) r.2 with
   |none=>simp[z]
   |some _=>rw[z] at this;exact this.elim
 |some r=>
  have⟨v,T⟩:=r
  have D:=Q v T M
  cases H:step κ q e S with
  |none=>
   rw[H] at D
   cases z:step κ q (aI e i v) T with
   |none=>simp[z]
   |some _=>rw[z] at D;exact D.elim
  |some J=>
   have⟨u,U⟩:=J
   have L:=P u U H
   rw[H] at D
   rw[M] at L
   cases z:step κ q (aI e i v) T with
   |none=>rw[z] at D;exact D.elim
   |some x=>
    cases E:step κ p (aI e j u) U with
    |none=>rw[E] at L;exact L.elim
    |some y=>
     have⟨u',T2⟩:=x
     have⟨v',U2⟩:=y
     rw[z] at D
     rw[E] at L
     obtain⟨rfl,q1,X,q3,Y,q5,Z⟩:=D
     obtain⟨rfl,p1,p2,p3,p4,p5,p6⟩:=L
     simp only[Option.bind_some,z,E,Gb,Gr]
     refine⟨?_,St.ext' (fun t=>?_) (fun s=>?_) (fun s=>?_)⟩
     ·funext k;simp only[aI];split<;>split<;>simp_all
     ·by_cases w:t∈p.gw
      ·rw[<-p1 t w];exact (X t (h3 t w).2).2
      ·rw[(p2 t w).2]
       by_cases B:t∈q.gw
       ·exact (q1 t B).symm
       ·rw[(X t B).2,(X t B).1,(p2 t w).1]
     ·by_cases w:s∈p.k.vw p.d
      ·rw[<-p3 s w];exact (Y s (fun z=>h5 s w (NI z))).2
      ·rw[(p4 s w).2]
       by_cases B:s∈q.k.vw q.d
       ·exact (q3 s B).symm
       ·rw[(Y s B).2,(Y s B).1,(p4 s w).1]
     ·by_cases w:bN s (p.k.aw p.d)
      ·rw[<-p5 s w];exact (Z s (fun z=>a7 s w (NG z))).2
      ·rw[(p6 s w).2]
       by_cases B:bN s (q.k.aw q.d)
       ·exact (q5 s B).symm
       ·rw[(Z s B).2,(Z s B).1,(p6 s w).1]
def cP (ops:List Op):List Nat->(Nat->V)->St->Option St
 |[],_,S=>some S
 |i::l,e,S=>match ops[i]? with
  |none=>cP ops l e S
  |some o=>(step κ o e S).bind fun r=>cP ops l (aI e i r.1) r.2
def QM {o:List Op} {i j:Nat} (u:i≠j) (h:∀p q,o[i]?=some p->o[j]?=some q->iB i j p q=true) (l:List Nat) (e:Nat->V) (S:St) :
  cP κ o (i::j::l) e S=cP κ o (j::i::l) e S:=by
 simp only[cP]
 cases hi:o[i]? with
 |none=>cases w:o[j]?<;>rfl
 |some p=>cases w:o[j]? with
  |none=>rfl
  |some q=>
   have:=Q7 κ u (h p q hi w) e S
   have c:=gp (fun x=>x.bind fun r:(Nat->V)×St=>cP κ o l r.1 r.2) this
   simpa [Option.bind_assoc] using c
def nh (a:Nat):List Nat->List Nat
 |[]=>[a]
 |b::l=>if a<=b then a::b::l else b::nh a l
def oi:List Nat->List Nat
 |[]=>[]
 |a::l=>nh a (oi l)
def Na {a x:Nat} {l:List Nat}:x∈nh a l↔x=a\/x∈l:=by
 induction l with
 |nil=>simp[nh]
 |cons b l j=>
  simp only[nh];split
  ·simp
  ·simp[j];constructor
   ·rintro (h|h|h)<;>simp_all
   ·rintro (h|h|h)<;>simp_all
def Rs {x:Nat} {l:List Nat}:x∈oi l↔x∈l:=by
 induction l with
 |nil=>simp[oi]
 |cons a l j=>simp[oi,Na,j]
theorem Fq {j:List Op} {a:Nat}:∀(s:List Nat) (e:Nat->V) (S:St),(∀b∈s,b<a->∀p q,j[a]?=some p->j[b]?=some q->iB a b p q=true)->
  cP κ j (a::s) e S=cP κ j (nh a s) e S
 |[],e,S,_=>rfl
 |b::s,e,S,h=>by
  simp only[nh];split
  ·rfl
  ·rename_i u;rw[QM κ (by omega) (h b (by simp) (by omega))];simp only[cP];cases j[b]? with
   |none=>exact Fq s e S fun c o=>h c (by simp[o])
   |some q=>
    simp only;cases step κ q e S with
    |none=>rfl
    |some r=>exact Fq s _ _ fun c o=>h c (by simp[o])
theorem fw {ops:List Op}:∀(l:List Nat) (e:Nat->V) (S:St),(l.Pairwise fun a b=>b<a->∀p q,ops[a]?=some p->ops[b]?=some q->iB a b p q=true)->
  cP κ ops l e S=cP κ ops (oi l) e S
 |[],e,S,_=>rfl
 |a::l,e,S,h=>by
  rw[GT] at h;have h1:cP κ ops (a::l) e S=cP κ ops (a::oi l) e S:=by
   simp only[cP];cases ops[a]? with
   |none=>exact fw l e S h.2
   |some p=>
    simp only;cases step κ p e S with
    |none=>rfl
    |some r=>exact fw l _ _ h.2
  rw[h1];exact Fq κ (oi l) e S fun b hb=>h.1 b (Rs.1 hb)
def QI {a:Nat} {l:List Nat} (h:l.Pairwise (·<=·)):(nh a l).Pairwise (·<=·):=by
 induction l with
 |nil=>simp[nh]
 |cons b l o=>
  rw[GT] at h;simp only[nh];split
  ·rename_i j;rw[GT];exact⟨fun c hc=>by rcases GH.1 hc with rfl|hc;exact j;exact GI j (h.1 c hc),GT.2 h⟩
  ·rename_i j;rw[GT];refine⟨fun c hc=>?_,o h.2⟩;rcases Na.1 hc with rfl|hc
   ·omega
   ·exact h.1 c hc
def QT (l:List Nat):(oi l).Pairwise (·<=·):=by
 induction l with
 |nil=>simp[oi]
 |cons a l j=>exact QI j
def Rz (a:Nat) (l:List Nat):(nh a l).Perm (a::l):=by
 induction l with
 |nil=>exact .refl _
 |cons b l j=>
  simp only[nh];split
  ·exact .refl _
  ·exact (j.cons b).trans (.swap a b l)
def QK (l:List Nat):(oi l).Perm l:=by
 induction l with
 |nil=>exact .refl _
 |cons a l j=>exact (Rz a _).trans (j.cons a)
def QH {l:List Nat} {n:Nat} (h:l.Perm (List.range n)):oi l=List.range n:=by
 refine List.Perm.eq_of_pairwise (le:=(·<=·)) (fun a b _ _ h1 j=>Nat.le_antisymm h1 j) (QT l) ?_ ((QK l).trans h);exact List.pairwise_le_range
theorem Nm {p:List Op}:∀(l:List Op) (i:Nat) (e:Nat->V) (S:St),(∀j,l[j]?=p[i+j]?)->Jr κ l i e S=cP κ p (List.range' i l.length) e S
 |[],i,e,S,_=>rfl
 |o::l,i,e,S,h=>by
  have h0:p[i]?=some o:=by simpa using (h 0).symm
  simp only[Jr,List.length_cons,List.range'_succ,cP,h0];cases step κ o e S with
  |none=>rfl
  |some r=>exact Nm l (i+1) _ _ fun j=>by have:=h (j+1);simpa [lU,Nat.add_comm 1 j] using this
end
end Sg
namespace Sg
open Go
def kR (e:Edge):Bool:=Region.binds .any e
def fN (ops:Array Oper):Bool:=
 (List.range ops.size).all fun i=>match ops[i]? with
  |some o=>o.after.toList.all fun e=>!kR e||decide (e.on<i)
  |none=>true
def Jg (o:Oper):List Nat:=(o.after.toList.filter kR).map (·.on)
def JQ {p:Array Oper} (h:fN p=true) {i:Nat} {o:Oper} (u:p[i]?=some o) {j:Nat} (q:j∈Jg o):j<i:=by
 have hi:i<p.size:=by
  rcases GF i p.size with h'|h'
  ·exact h'
  ·simp[Array.getElem?_eq_none h'] at u
 have:=GG.1 h i (lg.2 hi);rw[u] at this;simp only[Jg,nH,G8] at q;obtain⟨e,⟨y,w⟩,rfl⟩:=q;have:=GG.1 this e y;rw[w] at this;simpa using this
def left (n:Nat) (listed:Array Bool):List Nat:=(List.range n).filter fun i=>!listed.getD i true
def QV {n i:Nat} {o:Array Bool} (D:o.size=n) (hi:i∈left n o) :
  (left n (o.setIfInBounds i true)).length+1=(left n o).length/\∀j,j∈left n (o.setIfInBounds i true)↔j∈left n o/\j≠i:=by
 have p:∀j,j∈left n (o.setIfInBounds i true)↔j∈left n o/\j≠i:=by
  intro j;simp only[left,G8,lg,GM];by_cases e:j=i
  ·subst e;simp only[left,G8,lg] at hi;have:j<o.size:=by omega
   simp[this]
  ·have y:i≠j:=fun h=>e h.symm;rw[getD_set_ne true y];simp[e]
 refine⟨?_,p⟩
 have u:(left n o).Nodup:=List.Nodup.sublist uJ List.nodup_range
 have w:(left n (o.setIfInBounds i true)).Nodup:=List.Nodup.sublist uJ List.nodup_range
 have B:(left n o).Perm (i::left n (o.setIfInBounds i true)):=by
  refine (List.perm_ext_iff_of_nodup u (rl.2 ⟨fun z=>((p i).1 z).2 rfl,w⟩)).2 fun j=>?_;rw[GH,p];constructor
  ·intro q;by_cases e:j=i
   ·exact .inl e
   ·exact .inr ⟨q,e⟩
  ·rintro (rfl|⟨q,_⟩)
   ·exact hi
   ·exact q
 have:=B.length_eq
 simpa using this.symm
def T4 {q:Array Oper} (U:fN q=true):∀(w t:Nat) (listed:Array Bool),listed.size=q.size->(left q.size listed).length<=w->
  (Region.linearise.go .any q w t listed []).Perm (left q.size listed)/\
  ∀y i post,Region.linearise.go .any q w t listed []=y++i::post->∀o,q[i]?=some o->∀j∈Jg o,j∈y\/j∉left q.size listed:=by
 intro w
 induction w with
 |zero=>
  intro t listed W hl
  have h0:left q.size listed=[]:=List.length_eq_zero_iff.1 (by omega)
  simp only[Region.linearise.go,List.reverse_nil,h0]
  exact⟨.refl _,fun y i post h=>by simp at h⟩
 |succ w ih=>
  intro t listed W hl
  simp only[Region.linearise.go]
  change (match (Region.ready .any q listed)[t%(Region.ready .any q listed).length]? with
   |some i=>Region.linearise.go .any q w (t / (Region.ready .any q listed).length) (listed.setIfInBounds i true) [i]
   |none=>[].reverse).Perm _/\∀y i post,(match (Region.ready .any q listed)[t%(Region.ready .any q listed).length]? with
   |some i=>Region.linearise.go .any q w (t / (Region.ready .any q listed).length) (listed.setIfInBounds i true) [i]
   |none=>[].reverse)=y++i::post->_
  cases hi:(Region.ready .any q listed)[t%(Region.ready .any q listed).length]? with
  |none=>
   have P:Region.ready .any q listed=[]:=by
    cases hr:Region.ready .any q listed with
    |nil=>rfl
    |cons x xs=>
     rw[hr] at hi;have M:t%(x::xs).length<(x::xs).length:=Nat.mod_lt _ (by simp);rw[List.getElem?_eq_getElem M] at hi;simp at hi
   have h0:left q.size listed=[]:=by
    rcases xf:left q.size listed with _|⟨a,avs⟩
    ·rfl
    ·exfalso
     -- the least that is left is ready
     have O:∃m,m∈left q.size listed/\∀k,k∈left q.size listed->m<=k:=by
      refine⟨a,by rw[xf];simp,fun k hk=>?_⟩;have hp:(left q.size listed).Pairwise (·<=·):=List.Pairwise.sublist uJ List.pairwise_le_range;rw[xf,GT] at hp;rw[xf] at hk;rcases GH.1 hk with rfl|hk
      ·exact GC _
      ·exact hp.1 k hk
     have⟨m,hm,T⟩:=O;have z:=hm;simp only[left,G8,lg,GM] at z;have:m∈Region.ready .any q listed:=mem_ready.2 ⟨z.2,q[m]'z.1,by simp[z.1],fun e R Q=>by
      have M:e.on<m:=JQ U (i:=m) (o:=q[m]'z.1) (by simp[z.1]) (by simp only[Jg,nH,G8];exact⟨e,⟨by simpa using R,Q⟩,rfl⟩);have hn:e.on∉left q.size listed:=fun B=>by have:=T _ B;omega
      simp only[left,G8,lg,GM,not_and,Bool.not_eq_false] at hn;have:=hn (by omega);have I:e.on<listed.size:=by omega
      simpa [I] using this⟩
     rw[P] at this;simp at this
   simp only[List.reverse_nil,h0]
   exact⟨.refl _,fun y i post h=>by simp at h⟩
  |some i=>
   have N:=List.mem_of_getElem? hi
   have⟨S,o,ho,E⟩:=mem_ready.1 N
   have L:i<q.size:=by
    rcases GF i q.size with h'|h'
    ·exact h'
    ·simp[Array.getElem?_eq_none h'] at ho
   have J:i∈left q.size listed:=by simp only[left,G8,lg];exact⟨L,by simpa using S⟩
   have⟨s1,s2⟩:=QV W J
   simp only[]
   rw[linearise_go_acc,List.reverse_singleton,List.singleton_append]
   have⟨X,Y⟩:=ih (t / (Region.ready .any q listed).length) (listed.setIfInBounds i true) (by simpa using W) (by omega)
   refine⟨?_,fun y k post u o' D j H=>?_⟩
   ·refine (X.cons i).trans ?_
    have Z:(left q.size listed).Nodup:=List.Nodup.sublist uJ List.nodup_range
    have aa:(left q.size (listed.setIfInBounds i true)).Nodup:=List.Nodup.sublist uJ List.nodup_range
    refine (List.perm_ext_iff_of_nodup (rl.2 ⟨fun B=>((s2 i).1 B).2 rfl,aa⟩) Z).2 fun j=>?_
    rw[GH,s2]
    constructor
    ·rintro (rfl|⟨H,_⟩)
     ·exact J
     ·exact H
    ·intro H
     by_cases e:j=i
     ·exact .inl e
     ·exact .inr ⟨H,e⟩
   ·cases y with
    |nil=>
     simp only[List.nil_append,qZ] at u
     obtain⟨rfl,-⟩:=u
     rw[ho] at D
     simp only[Gb] at D
     subst D
     simp only[Jg,nH,G8] at H
     obtain⟨e,⟨R,Q⟩,rfl⟩:=H
     have:=E e (by simpa using R) Q
     refine .inr fun B=>?_
     simp only[left,G8,lg,GM] at B
     have I:e.on<listed.size:=by omega
     simp[I] at this B
     rw[this] at B;simp at B
    |cons p y=>
     simp only[List.cons_append,qZ] at u
     obtain⟨rfl,u⟩:=u
     rcases Y y k post u o' D j H with h'|h'
     ·exact .inl (G2 _ h')
     ·rw[s2] at h'
      by_cases e:j=i
      ·exact .inl (by simp[e])
      ·exact .inr fun B=>h' ⟨B,e⟩
def o7 {ops:Array Oper} (hok:fN ops=true) (t:Nat) :
  (Region.linearise .any ops t).Perm (List.range ops.size)/\∀pre i post,Region.linearise .any ops t=pre++i::post->∀o,ops[i]?=some o->∀j∈Jg o,j∈pre:=by
 have hall:left ops.size (Array.replicate ops.size false)=List.range ops.size:=by
  unfold left;rw[List.filter_eq_self];intro i hi;have:=lg.1 hi;simp[this]
 have⟨h1,h2⟩:=T4 hok ops.size t (Array.replicate ops.size false) (by simp) (by rw[hall];simp)
 rw[hall] at h1 h2
 refine⟨h1,fun pre i post hs o ho j hj=>(h2 pre i post hs o ho j hj).resolve_right fun hn=>hn (lg.2 ?_)⟩
 have:=JQ hok ho hj
 have hi:i<ops.size:=by
  rcases GF i ops.size with h'|h'
  ·exact h'
  ·simp[Array.getElem?_eq_none h'] at ho
 omega
def dc:List Oper->List (List Nat)->List (List Nat)
 |[],cf=>cf
 |o::os,cf=>dc os (cf++[Jg o++(Jg o).flatMap fun j=>cf.getD j []])
theorem Fv:∀(os:List Oper) (cf:List (List Nat)) (i:Nat),i<cf.length->(dc os cf).getD i []=cf.getD i []
 |[],cf,i,_=>rfl
 |o::os,cf,i,h=>by
  simp only[dc];rw[Fv os _ i (by simp;omega)];simp only[List.getD_eq_getElem?_getD];rw[List.getElem?_append_left h]
theorem FA:∀(os:List Oper) (cf:List (List Nat)) (k:Nat) (o:Oper),os[k]?=some o->(∀j∈Jg o,j<cf.length+k)->
  ∀x,x∈(dc os cf).getD (cf.length+k) []->x∈Jg o\/∃j∈Jg o,x∈(dc os cf).getD j []
 |[],cf,k,o,h,_=>by simp at h
 |o'::os,cf,0,o,h,hb=>by
  simp only[List.getElem?_cons_zero,Gb] at h;subst h;intro x p;simp only[dc,Nat.add_zero] at p ⊢;rw[Fv os _ cf.length (by simp)] at p;have:(cf++[Jg o'++(Jg o').flatMap fun j=>cf.getD j []]).getD cf.length []=Jg o'++(Jg o').flatMap fun j=>cf.getD j []:=by
   simp[List.getD_eq_getElem?_getD]
  rw[this,GS,tE] at p;rcases p with p|⟨j,q,p⟩
  ·exact .inl p
  ·refine .inr ⟨j,q,?_⟩;have u:=hb j q;rw[Fv os _ j (by simp;omega)];simp only[List.getD_eq_getElem?_getD];rw[List.getElem?_append_left (by omega)];simpa [List.getD_eq_getElem?_getD] using p
 |o'::os,cf,k+1,o,h,hb=>by
  simp only[List.getElem?_cons_succ] at h;have:=FA os (cf++[Jg o'++(Jg o').flatMap fun j=>cf.getD j []]) k o h (fun j q=>by have:=hb j q;simp;omega);simp only[Gf,List.length_cons,List.length_nil] at this;intro x p;simp only[dc] at p ⊢;rw[show cf.length+(k+1)=cf.length+(0+1)+k by omega] at p;exact this x p
def fH:List Oper->List Nat->List Nat
 |[],cf=>cf
 |o::os,cf=>fH os (cf++[(Jg o).foldl (fun m j=>(m ||| cf.getD j 0) ||| (1 <<< j)) 0])
theorem MT {accB:List Nat} {b:Nat}:∀(l:List Nat) (m:Nat),(l.foldl (fun m j=>(m ||| accB.getD j 0) ||| (1 <<< j)) m).testBit b=true->m.testBit b=true\/∃j∈l,b=j\/(accB.getD j 0).testBit b=true
 |[],m,h=>.inl h
 |j::l,m,h=>by
  rcases MT l _ h with h|⟨k,o,h⟩
  ·simp only[Nat.testBit_or,G1] at h;rcases h with (h|h)|h
   ·exact .inl h
   ·exact .inr ⟨j,by simp,.inr h⟩
   ·refine .inr ⟨j,by simp,.inl ?_⟩;rw[Nat.one_shiftLeft,Nat.testBit_two_pow] at h;exact (Gc h).symm
  ·exact .inr ⟨k,by simp[o],h⟩
theorem MU:∀(os:List Oper) (cf:List (List Nat)) (accB:List Nat),cf.length=accB.length->(∀i b,(accB.getD i 0).testBit b=true->b∈cf.getD i [])->
  ∀i b,((fH os accB).getD i 0).testBit b=true->b∈(dc os cf).getD i []
 |[],cf,accB,_,h,i,b,p=>h i b p
 |o::os,cf,accB,hl,h,i,b,p=>by
  simp only[fH] at p;simp only[dc];refine MU os _ _ (by simp[hl]) (fun i b p=>?_) i b p;rcases Nat.lt_trichotomy i accB.length with hi|hi|hi
  ·have h0:=h i b;simp only[List.getD_eq_getElem?_getD] at p h0 ⊢;rw[List.getElem?_append_left hi] at p;rw[List.getElem?_append_left (by omega)];exact h0 p
  ·subst hi;rw[List.getD_eq_getElem?_getD,List.getElem?_append_right (GC _)] at p;rw[List.getD_eq_getElem?_getD,List.getElem?_append_right (by omega)];simp only[hl,Nat.sub_self] at p ⊢;have p:((Jg o).foldl (fun m j=>(m ||| accB.getD j 0) ||| (1 <<< j)) 0).testBit b=true:=p
   show b∈Jg o++(Jg o).flatMap fun j=>cf.getD j []
   rw[GS,tE];rcases MT _ _ p with h0|⟨j,q,h0⟩
   ·simp at h0
   ·rcases h0 with rfl|h0
    ·exact .inl q
    ·exact .inr ⟨j,q,h j b h0⟩
  ·rw[List.getD_eq_getElem?_getD,List.getElem?_eq_none (by simp;omega)] at p;simp at p
def pa (os:List Oper) (ps:List Op):Bool:=
 let cl:=fH os []
 (List.range ps.length).all fun a=>(List.range a).all fun b=>(cl.getD a 0).testBit b||(match ps[a]?,ps[b]? with|some p,some q=>iB a b p q|_,_=>true)
def Re {os:Array Oper} {H:List Op} (E:fN os=true) (X:H.length=os.size) (hd:pa os.toList H=true) (t:Nat) :
  (Region.linearise .any os t).Pairwise fun a b=>b<a->∀p q,H[a]?=some p->H[b]?=some q->iB a b p q=true:=by
 have⟨u,w⟩:=o7 E t
 -- what a hangs on,near and I,stands ahead of it
 have I:∀n,∀a,a<=n->∀pre post,Region.linearise .any os t=pre++a::post->∀x,x∈(dc os.toList []).getD a []->x∈pre:=by
  intro n
  induction n with
  |zero=>
   intro a O pre post D x T;obtain rfl:a=0:=by omega
   have:(0:Nat)∈List.range os.size:=u.mem_iff.1 (by rw[D];simp);have h0:=lg.1 this;have N:os.toList[0]?=some os[0]:=by simp[h0]
   have y:Jg os[0]=[]:=by
    rcases hdd:Jg os[0] with _|⟨j,js⟩
    ·rfl
    ·have:=JQ E (i:=0) (o:=os[0]) (by simp[h0]) (j:=j) (by rw[hdd];simp);omega
   have:=FA os.toList [] 0 os[0] N (fun j z=>by rw[y] at z;simp at z) x (by simpa using T);rw[y] at this;simp at this
  |succ n W=>
   intro a O pre post D x T;have:a∈List.range os.size:=u.mem_iff.1 (by rw[D];simp);have h0:=lg.1 this;have N:os[a]?=some os[a]:=by simp[h0]
   have B:∀j∈Jg os[a],j<a:=fun j z=>JQ E N z;have:=FA os.toList [] a os[a] (by simp[h0]) (fun j z=>by have:=B j z;simp;omega) x (by simpa using T);rcases this with L|⟨j,z,U⟩
   ·exact w pre a post D _ N x L
   ·have S:=w pre a post D _ N j z;obtain⟨p1,p2,rfl⟩:=List.append_of_mem S;have:=W j (by have:=B j z;omega) p1 (p2++a::post) (by rw[D];simp) x U;simp[this]
 have nd:(Region.linearise .any os t).Nodup:=u.nodup_iff.2 List.nodup_range
 -- split by places
 rw[List.pairwise_iff_forall_sublist]
 intro a b P B p q Y hq
 have R:∃pre post,Region.linearise .any os t=pre++a::post/\b∈post:=by
  have:∀(l:List Nat),[a,b].Sublist l->∃pre post,l=pre++a::post/\b∈post:=by
   intro l
   induction l with
   |nil=>intro h;simp at h
   |cons c l W=>
    intro h;rcases List.sublist_cons_iff.1 h with h|⟨r,Z,h⟩
    ·obtain⟨pre,post,rfl,J⟩:=W h;exact⟨c::pre,post,rfl,J⟩
    ·simp only[qZ] at Z;obtain⟨rfl,rfl⟩:=Z;exact⟨[],l,rfl,List.singleton_sublist.1 h⟩
  exact this _ P
 have⟨pre,post,D,J⟩:=R
 have M:b∉(dc os.toList []).getD a []:=fun Q=>by
  have h1:=I a a (GC _) pre post D b Q;rw[D,ri] at nd;exact nd.2.2 b h1 b (by simp[J]) rfl
 have O:a<H.length:=by
  rcases GF a H.length with h'|h'
  ·exact h'
  ·simp[List.getElem?_eq_none h'] at Y
 have:=GG.1 (GG.1 hd a (lg.2 O)) b (lg.2 B)
 rw[Y,hq] at this
 simp only[G1] at this
 exact this.resolve_left fun Q=>M (MU os.toList [] [] rfl (fun i b J=>by simp at J) a b Q)
end Sg
namespace Sg
open Go Go.RowKit
def xG (pin:Option (Nat×Nat)) (S:St) (β:Nat->Nat):Prop:=∀k b,pin=some (k,b)->(S.μ k).isSome/\β k=b
def xG.tr {cx:Cx} {w w':World} {Y o:Nat->Prop} {S S':St} {β β':Nat->Nat} {α α':Nat->Value} {pin:Option (Nat×Nat)} (h:xG pin S β)
  (y:∀u x,aJ cx w Y S β α u x->aJ cx w' o S' β' α' u x):xG pin S' β':=fun k b z=>by
 have⟨h1,p⟩:=h k b z
 have⟨q,j⟩:=y (.pointer (some ⟨b,0,none⟩)) (.lref k 0) ⟨h1,by rw[p]⟩
 simp only[Value.pointer.injEq,Gb,Addr.mk.injEq] at j
 exact⟨q,j.1.symm⟩
def FR (cx:Cx) (B:Nat->Prop) (X:Nat->Prop) (pin:Option (Nat×Nat)) (G:List Nat) (ds:List (Option Nat)) (e:Nat->V) (S:St) (tm:Array Value) (w:World):Prop:=
 (∀t,t∉G->S.ρ t=.undef)/\∃β α M,aW cx B X S w β α M/\(∀t,aJ cx w (aQ X M) S β α (tm.getD t undef) (S.ρ t))/\
  (∀i d,ds[i]?=some (some d)->aJ cx w (aQ X M) S β α (tm.getD d undef) (e i))/\xG pin S β
section
variable (P:Program) (cx:Cx) (aR:Nat->Option Nat) (G:List Nat) (N:Nat)
def iF (ds:List (Option Nat)) (o:Oper) (p:Op):Bool:=
 o.dst == p.dst&&o.guard == p.gd&&(match p.dst with|some d=>p.gl == G.contains d&&decide (d<N)|none=>true) &&
 (match p.gd with|some (j,_)=>(match ds[j]? with|some (some _)=>true|_=>false)|none=>true) &&
 bT P cx ds o.op p.k&&iG aR p.k
def J3 (ds:List (Option Nat)):List Oper->List Op->Bool
 |[],[]=>true
 |o::os,p::ps=>iF P cx aR G N ds o p&&J3 ds os ps
 |_,_=>false
def bU:List (Option Nat)->Bool
 |[]=>true
 |none::ds=>bU ds
 |some d::ds=>!ds.contains (some d)&&bU ds
def Fp (j:Bool) (os:Array Oper) (p:Bool) (o:List Op):Bool:=
 let ds:=o.map (·.dst)
 J3 P cx aR G N ds os.toList o&&bU ds&&j == p&&(!j||(fN os&&pa os.toList o))
end
theorem Fx {P:Program} {cx:Cx} {aR:Nat->Option Nat} {G:List Nat} {N:Nat} {ds:List (Option Nat)}:∀{os:List Oper} {j:List Op},J3 P cx aR G N ds os j=true->
  os.length=j.length/\∀(i:Nat) (o:Oper) (p:Op),os[i]?=some o->j[i]?=some p->iF P cx aR G N ds o p=true
 |[],[],_=>⟨rfl,fun i o p h=>by simp at h⟩
 |o::os,p::j,h=>by
  simp only[J3,Ge] at h;have⟨h1,w⟩:=Fx h.2;refine⟨by simp[h1],fun i y z q u=>?_⟩;cases i with
  |zero=>simp at q u;subst q;subst u;exact h.1
  |succ i=>exact w i y z (by simpa using q) (by simpa using u)
 |[],_::_,h=>by simp[J3] at h
 |_::_,[],h=>by simp[J3] at h
theorem MW:∀{ds:List (Option Nat)},bU ds=true->∀(i j:Nat) (d:Nat),ds[i]?=some (some d)->ds[j]?=some (some d)->i=j
 |[],_,i,j,d,h,_=>by simp at h
 |x::ds,hd,i,j,d,hi,hj=>by
  have p:bU ds=true:=by cases x<;>simp_all [bU]
  have q:∀o,x=some o->some o∉ds:=fun o e=>by subst e;simp[bU] at hd;exact hd.1
  cases i with
  |zero=>cases j with
   |zero=>rfl
   |succ j=>
    simp at hi hj
    exact absurd (List.mem_of_getElem? hj) (q d hi)
  |succ i=>cases j with
   |zero=>
    simp at hi hj
    exact absurd (List.mem_of_getElem? hi) (q d hj)
   |succ j=>rw[MW p i j d (by simpa using hi) (by simpa using hj)]
section
variable {P:Program} {cx:Cx} {aR:Nat->Option Nat} {G:List Nat} {N:Nat} {B:Nat->Prop} {X:Nat->Prop} {pin:Option (Nat×Nat)} {κ:Nat->Eq->Option V}
def M9 {tm:Array Value} {d t:Nat} {u:Value} (j:d<tm.size):(tm.setIfInBounds d u).getD t undef=if t=d then u else tm.getD t undef:=by
 by_cases e:t=d
 ·subst e;simp[j]
 ·have:d≠t:=fun h=>e h.symm;simp[e,Array.getElem?_setIfInBounds_ne this]
def FR.put {ds:List (Option Nat)} {e:Nat->V} {S S1:St} {a:Act} {w w':World} {i:Nat} {o:Oper} {p:Op} {v:V} {u:Value} {β α M}
  (hG:∀t,t∉G->S.ρ t=.undef) (hρ:S1.ρ=S.ρ) (hsz:a.tmps.size=N)
  (hg:∀t,aJ cx w (aQ X M) S β α (a.tmps.getD t undef) (S.ρ t)) (hl:∀i d,ds[i]?=some (some d)->aJ cx w (aQ X M) S β α (a.tmps.getD d undef) (e i))
  (hpin:xG pin S β) (hp:cz cx B X S w β α M S1 v u w') (hdi:ds[i]?=some p.dst) (hdist:bU ds=true) (hdst:o.dst=p.dst)
  (hgl:∀d,p.dst=some d->p.gl=G.contains d/\d<N):FR cx B X pin G ds (aI e i v) (S1.put p v) (a.put o.dst u).tmps w':=by
 obtain⟨β',α',M',q1,q2,q3,-⟩:=hp
 have hw':aW cx B X (S1.put p v) w' β' α' M':=by
  have:(S1.put p v).μ=S1.μ/\(S1.put p v).A=S1.A:=by unfold St.put;split<;>exact⟨rfl,rfl⟩
  have⟨e1,e2⟩:=this;have:S1.put p v={ρ:=(S1.put p v).ρ,μ:=S1.μ,A:=S1.A}:=by rw[<-e1,<-e2]
  rw[this];exact⟨q1.xb,q1.glob,q1.size,q1.m,q1.var,q1.varInj,q1.arr,q1.arrInj,q1.arrVar⟩
 have hT:∀{u x},aJ cx w' (aQ X M') S1 β' α' u x->aJ cx w' (aQ X M') (S1.put p v) β' α' u x:=by
  intro u x h;have:(S1.put p v).μ=S1.μ/\(S1.put p v).A=S1.A:=by unfold St.put;split<;>exact⟨rfl,rfl⟩
  have⟨e1,e2⟩:=this;exact aJ.tr (S:=S1) (S':=S1.put p v) (fun _ _ h=>h) (fun s z rows f hs=>⟨rows,f,by rw[e2];exact hs,fun hf=>⟨hf,GC _,fun _=>rfl⟩⟩) (fun s hs=>⟨by rw[e1];exact hs,rfl⟩) h
 have hP:xG pin (S1.put p v) β':=(hpin.tr q2).tr (S':=S1.put p v) (β':=β') (fun _ _ h=>hT h)
 cases hd:p.dst with
 |none=>
  rw[hdst,hd]
  have hS:(S1.put p v).ρ=S.ρ:=by unfold St.put;rw[hd];cases p.gl<;>exact hρ
  refine⟨fun t ht=>by rw[hS];exact hG t ht,β',α',M',hw',fun t=>?_,fun j d hj=>?_,hP⟩
  ·rw[hS];exact hT (q2 _ _ (hg t))
  ·have hne:j≠i:=fun e'=>by subst e';rw[hdi,hd] at hj;simp at hj
   simp only[aI,Gn hne]
   exact hT (q2 _ _ (hl j d hj))
 |some d=>
  have⟨g1,g2⟩:=hgl d hd
  rw[hdst,hd]
  have hlt:d<a.tmps.size:=by omega
  have hput:(a.put (some d) u).tmps=a.tmps.setIfInBounds d u:=rfl
  rw[hput]
  have hSρ:∀t,(S1.put p v).ρ t=if t=d/\d∈G then v else S.ρ t:=by
   intro t;unfold St.put;rw[hd,g1];by_cases hin:d∈G
   ·have:G.contains d=true:=by simpa using hin
    rw[this];simp only[aI,hρ,hin,and_true]
   ·have:G.contains d=false:=by simpa using hin
    rw[this];simp only[hρ,hin,and_false,Gv]
  refine⟨fun t ht=>?_,β',α',M',hw',fun t=>?_,fun j d' hj=>?_,hP⟩
  ·rw[hSρ,Gn (show ¬(t=d/\d∈G) from fun h=>ht (by rw[h.1];exact h.2))];exact hG t ht
  ·rw[hSρ,M9 hlt]
   by_cases e1:t=d
   ·subst e1
    by_cases hin:t∈G
    ·simp only[hin,and_self,Gw];exact hT q3
    ·simp only[hin,and_false,Gv,Gw];rw[hG t hin];exact aC.undef _
   ·simp only[e1,false_and,Gv];exact hT (q2 _ _ (hg t))
  ·rw[M9 hlt]
   by_cases e1:j=i
   ·subst e1
    rw[hdi,hd] at hj
    simp only[Gb] at hj
    subst hj
    simp only[aI,Gw];exact hT q3
   ·have e2:d'≠d:=fun e'=>e1 (MW hdist j i d (e'▸hj) (by rw[hdi,hd]))
    simp only[aI,Gn e1,Gn e2]
    exact hT (q2 _ _ (hl j d' hj))
def mj {ops:Array Oper} {ps:List Op} (hκ:wk P cx aR κ)
  (hok:J3 P cx aR G N (ps.map (·.dst)) ops.toList ps=true) (hdist:bU (ps.map (·.dst))=true) {Q:Exit->Act->World->Prop} {S':St} {w0:World}
  (hQ:∀(a:Act) (w:World) (e:Nat->V),FR cx B X pin G (ps.map (·.dst)) e S' a.tmps w->a.defers=[]->a.tmps.size=N->bY B w0 w->Q .normal a w) :
  ∀(l:List Nat) (e:Nat->V) (S:St) (a:Act) (w:World),FR cx B X pin G (ps.map (·.dst)) e S a.tmps w->a.defers=[]->a.tmps.size=N->bY B w0 w->
   cP κ ps l e S=some S'->wpOps P ops Q l a w:=by
 have⟨hlen,hget⟩:=Fx hok
 intro l
 induction l with
 |nil=>
  intro e S a w hF hd hs hb hr
  simp only[cP,Gb] at hr
  subst hr
  exact hQ a w e hF hd hs hb
 |cons i l ih=>
  intro e S a w hF hd hs hb hr
  simp only[cP] at hr
  simp only[wpOps]
  cases hp:ps[i]? with
  |none=>
   rw[hp] at hr
   have:ops[i]?=none:=by
    have:ps.length<=i:=by
     rcases GF i ps.length with h'|h'
     ·simp[h'] at hp
     ·exact h'
    have h2:ops.size<=i:=by simpa using (by omega:ops.toList.length<=i)
    simp[h2]
   rw[this]
   exact ih e S a w hF hd hs hb hr
  |some p=>
   rw[hp] at hr
   have hi:i<ops.size:=by
    have:i<ps.length:=by
     rcases GF i ps.length with h'|h'
     ·exact h'
     ·simp[List.getElem?_eq_none h'] at hp
    simpa using (by omega:i<ops.toList.length)
   have ho:ops[i]?=some ops[i]:=by simp[hi]
   simp only[ho]
   have yw:=hget i ops[i] p (by simp[hi]) hp
   simp only[iF,Ge,G9] at yw
   have⟨⟨⟨⟨⟨o1,o2⟩,o3⟩,o4⟩,o5⟩,o6⟩:=yw
   have hgl:∀d,p.dst=some d->p.gl=G.contains d/\d<N:=fun d hd=>by
    rw[hd] at o3;simpa using o3
   have hdi:(ps.map (·.dst))[i]?=some p.dst:=by simp[hp]
   simp only[Gg] at hr
   have⟨r,hst,hr⟩:=hr
   have⟨hG,β,α,M,hW,hg,hl,hpin⟩:=hF
   unfold step at hst
   have hwant:∀b,Jk e p.gd=some b->Region.wanted ops[i] (yielded ops a.tmps)=b:=by
    intro b dy;unfold Region.wanted;rw[o2];unfold Jk at dy;cases hgd:p.gd with
    |none=>rw[hgd] at dy;simpa using dy
    |some jb=>
     have⟨j,want⟩:=jb;rw[hgd] at dy o4;simp only at dy o4 ⊢;split at dy<;>simp only[Gb,reduceCtorEq] at dy
     rotate_left
     ·rename_i hej;subst dy;split at o4
      ·rename_i d hdj;have hr:=hl j d hdj;rw[hej] at hr;obtain⟨cs,hv,hsz,-⟩:=hr;have hyd:yielded ops a.tmps j=none:=by
        unfold yielded;split
        ·rename_i t hb
         exfalso
         simp only[Gg] at hb;have⟨d',⟨o',ho',hd'⟩,ht⟩:=hb;have hj:j<ops.size:=by
          rcases GF j ops.size with h'|h'
          ·exact h'
          ·simp[Array.getElem?_eq_none h'] at ho'
         have hpj:∃q,ps[j]?=some q/\q.dst=some d:=by
          simp only[List.getElem?_map,uI] at hdj;exact hdj
         have⟨q,hq1,hq2⟩:=hpj;have hoj:=hget j o' q (by simpa using ho') hq1;simp only[iF,Ge,G9] at hoj;have:o'.dst=some d:=by rw[hoj.1.1.1.1.1];exact hq2
         rw[this] at hd';simp only[Gb] at hd';subst hd';rw[Array.getD_eq_getD_getElem?,ht] at hv;simp at hv
        ·rfl
       rw[hyd];rfl
      ·simp at o4
     rename_i t hej;subst dy;split at o4
     ·rename_i d hdj;have hr:=hl j d hdj;rw[hej] at hr;have hv:=JY hr;have hj:j<ops.size:=by
       have:j<(ps.map (·.dst)).length:=by
        rcases GF j (ps.map (·.dst)).length with h'|h'
        ·exact h'
        ·simp[List.getElem?_eq_none h'] at hdj
       simp only[Gi] at this;simpa using (by omega:j<ops.toList.length)
      have hpj:∃q,ps[j]?=some q/\q.dst=some d:=by
       simp only[List.getElem?_map,uI] at hdj;exact hdj
      have⟨q,hq1,hq2⟩:=hpj;have hoj:=hget j ops[j] q (by simp[hj]) hq1;simp only[iF,Ge,G9] at hoj;have hdj':ops[j].dst=some d:=by rw[hoj.1.1.1.1.1];exact hq2
      have hyd:yielded ops a.tmps j=some t:=by
       unfold yielded;have hoj':ops[j]?=some ops[j]:=by simp[hj]
       rw[hoj'];simp only[Option.bind_some,hdj'];have hin:d<a.tmps.size:=by
        rcases GF d a.tmps.size with h'|h'
        ·exact h'
        ·simp[h',undef] at hv
       simp only[hin,Array.getD_eq_getD_getElem?,Array.getElem?_eq_getElem,Option.getD_some] at hv;simp[hin,hv]
      rw[hyd];cases t<;>cases want<;>rfl
     ·simp at o4
   split at hst
   ·simp at hst
   ·rename_i hw
    rw[hwant false hw]
    simp only[Gb] at hst
    subst hst
    simp only[Gl,Gv]
    have hpost:cz cx B X S w β α M S .un undef w:=.pure hW ⟨#[],rfl,rfl,fun i hi=>by simp at hi⟩
    have hF':=FR.put (G:=G) (N:=N) (o:=ops[i]) hG rfl hs hg hl hpin hpost hdi hdist o1 hgl
    refine ih _ _ _ _ hF' ?_ ?_ hb hr
    ·unfold Act.put;cases ops[i].dst<;>exact hd
    ·unfold Act.put;cases ops[i].dst
     ·exact hs
     ·simpa using hs
   ·rename_i hw
    rw[hwant true hw]
    simp only[Gw]
    simp only[Gg,Gb] at hst
    obtain⟨⟨v,S1⟩,hev,rfl⟩:=hst
    have hdoes:=Rg hW hg hl hκ o5 o6 hev
    refine .inl (hdoes.wp fun u w' hpost=>?_)
    have hρ:S1.ρ=S.ρ:=by
     have:=MZ κ (p.dst.getD 0) p.k e e S S (fun _ _=>rfl) (fun _ _=>rfl) (fun _ _=>rfl);rw[hev] at this;exact this.2.1
    have hF':=FR.put (G:=G) (N:=N) (o:=ops[i]) hG hρ hs hg hl hpin hpost hdi hdist o1 hgl
    have⟨_,_,_,_,_,_,hbel⟩:=hpost
    refine ih _ _ _ _ hF' ?_ ?_ (hb.trans hbel) hr
    ·unfold Act.put;cases ops[i].dst<;>exact hd
    ·unfold Act.put;cases ops[i].dst
     ·exact hs
     ·simpa using hs
def FR.start {ds o:List (Option Nat)} {e:Nat->V} {S:St} {tm:Array Value} {w:World} (h:FR cx B X pin G ds e S tm w):FR cx B X pin G o (fun _=>.undef) S tm w:=by
 have⟨p,β,α,M,q,u,y,j⟩:=h;exact⟨p,β,α,M,q,u,fun _ _ _=>CR.undef _,j⟩
def FR.drew {ds:List (Option Nat)} {e:Nat->V} {S:St} {tm:Array Value} {w w':World} (h:FR cx B X pin G ds e S tm w) (q:w'.heap=w.heap):FR cx B X pin G ds e S tm w':=by
 have⟨y,β,α,M,z,E,H,o⟩:=h;have j:ez w w':=⟨by rw[q];exact GC _,fun b _=>by rw[q]⟩;have p:∀u x,aC cx w (aQ X M) u x->aC cx w' (aQ X M) u x:=fun _ _ I=>J1 j (fun _ h=>.inl h) I;exact⟨y,β,α,M,z.grow j (fun _ h=>h) (fun _ h=>.inl h),fun t=>(E t).tr p (dK.refl S α) (fun _ h=>⟨h,rfl⟩),fun i d D=>(H i d D).tr p (dK.refl S α) (fun _ h=>⟨h,rfl⟩),o⟩
def QL {id:Nat} {u:Array Oper} {q Z:Bool} {y:List Op} (hm:P.follows .mixedOrders=true) (I:wk P cx aR κ)
  (H:Fp P cx aR G N q u Z y=true) {S S':St} {a:Act} {w:World} {Q:Exit->Act->World->Prop}
  (U:FR cx B X pin G [] (fun _=>.undef) S a.tmps w) (W:a.defers=[]) (Y:a.tmps.size=N) (hr:Jr κ y 0 (fun _=>.undef) S=some S')
  (hQ:∀(p:Act) (w':World),FR cx B X pin G [] (fun _=>.undef) S' p.tmps w'->p.defers=[]->p.tmps.size=N->bY B w w'->Q .normal p w') :
  (Code.region id u q).wp P Q a w:=by
 simp only[Fp,Ge,G9] at H
 obtain⟨⟨⟨h1,T⟩,rfl⟩,J⟩:=H
 obtain⟨E,-⟩:=Fx h1
 have o:y.length=u.size:=by simpa using E.symm
 have D:cP κ y (List.range y.length) (fun _=>.undef) S=some S':=by
  rw[List.range_eq_range',<-Nm κ y 0 _ _ (fun j=>by simp)];exact hr
 have z:∀(p:Act) (w':World) (e:Nat->V),FR cx B X pin G (y.map (·.dst)) e S' p.tmps w'->p.defers=[]->p.tmps.size=N->bY B w w'->Q .normal p w':=
  fun p w' e L O R M=>hQ p w' L.start O R M
 cases q with
 |false=>
  refine wp_region (mj I h1 T z _ _ _ _ _ U.start W Y (bY.refl _ _) ?_)
  rw[<-o];exact D
 |true=>
  simp only[Gx,G7,Ge] at J
  refine wp_region_draw fun t=>?_
  simp only[Region.schedule,hm,jm,Gw]
  refine mj I h1 T z _ (fun _=>.undef) S _ _ (U.start.drew rfl) W Y ⟨rfl,rfl,rfl,GC _,fun _ _=>rfl⟩ ?_
  rw[fw κ _ _ _ (Re J.1 o J.2 t),QH (o7 J.1 t).1,<-o]
  exact D
end
section
variable (P:Program) (cx:Cx) (aR:Nat->Option Nat) (G:List Nat) (N:Nat)
def ig:Code->C->Bool
 |.skip,.skip=>true
 |.region _ ops draw,.region dr ps=>Fp P cx aR G N draw ops dr ps
 |.seq a b,.seq a' b'=>ig a a'&&ig b b'
 |.cond x a b,.cond y a' b'=>Ja cx [] x y&&ig a a'&&ig b b'
 |.block id c,.block id' c'=>id == id'&&ig c c'
 |.loop c,.loop _ _ _ _ c'=>ig c c'
 |.exit id,.exit id'=>id == id'
 |.ret,.ret=>true
 |_,_=>false
end
section
variable {P:Program} {cx:Cx} {aR:Nat->Option Nat} {G:List Nat} {N:Nat} {B:Nat->Prop} {X:Nat->Prop} {pin:Option (Nat×Nat)} {κ:Nat->Eq->Option V}
def Nu {S:St} {W Wv Wa:List Nat} {s:Nat} (h:s∉Wa):(S.scrub W Wv Wa).A s=S.A s:=by
 simp[St.scrub,h]
def JT {S:St} {W Wv Wa:List Nat} {s:Nat} {x} (h:(S.scrub W Wv Wa).A s=some x):s∉Wa/\S.A s=some x:=by
 simp only[St.scrub] at h;split at h
 ·simp at h
 ·rename_i j;exact⟨by simpa using j,h⟩
def Nv {S:St} {W Wv Wa:List Nat} {α:Nat->Value} {v:Value} {s z n:Nat} (h:fo S α v s z n) (o:s∉Wa):fo (S.scrub W Wv Wa) α v s z n:=by
 have⟨rows,f,a,aN,j,h⟩:=h;exact⟨rows,f,a,aN,by rw[Nu o];exact j,h⟩
def FD {S:St} {W Wv Wa:List Nat} {α:Nat->Value} {w:World} {Y:Nat->Prop} {v:Value} {x:V} (h:cK cx w Y S α v x):cK cx w Y (S.scrub W Wv Wa) α v (Ju Wa x):=by
 cases x with
 |own s z n=>
  simp only[Ju];split
  ·exact aC.undef _
  ·rename_i j;exact Nv h (by simpa using j)
 |_=>exact h
def TN {S:St} {W Wv Wa:List Nat} {α:Nat->Value} {β:Nat->Nat} {w:World} {Y:Nat->Prop} {v:Value} {x:V} (h:aJ cx w Y S β α v x):aJ cx w Y (S.scrub W Wv Wa) β α v (Ji Wv Wa x):=by
 cases x with
 |own s z n=>
  simp only[Ji];split
  ·exact aC.undef _
  ·rename_i y;exact Nv h (by simpa using y)
 |lref s o=>
  simp only[Ji];split
  ·exact aC.undef _
  ·rename_i y;have⟨h1,I⟩:=h;refine⟨?_,I⟩;have:Wv.contains s=false:=by simpa using y
   simp only[St.scrub,this];cases hm:S.μ s with
   |none=>simp[hm] at h1
   |some m=>simp
 |eref s i o m=>
  simp only[Ji];split
  ·exact aC.undef _
  ·rename_i y;have⟨z,rows,f,b,L,aN,J,h⟩:=h;exact⟨z,rows,f,b,L,aN,by rw[Nu (by simpa using y)];exact J,h⟩
 |agg vs=>
  simp only[Ji];split
  ·rename_i E;have j:Wa=[]:=by simpa using E
   subst j;obtain⟨cs,rfl,H,D⟩:=h;refine⟨cs,rfl,H,fun i hi=>?_⟩;have⟨u,p,q,r⟩:=D i hi;refine⟨u,p,q,?_⟩;have:=FD (W:=W) (Wv:=Wv) (Wa:=[]) r;have e:Ju [] (gv vs i)=gv vs i:=by cases gv vs i<;>simp[Ju]
   rwa [e] at this
  ·exact aC.undef _
 |tuple vs=>
  simp only[Ji];split
  ·rename_i E;have j:Wa=[]:=by simpa using E
   subst j;obtain⟨cs,rfl,H,D⟩:=h;refine⟨cs,rfl,H,fun i hi=>?_⟩;have⟨u,p,r⟩:=D i hi;refine⟨u,p,?_⟩;have:=FD (W:=W) (Wv:=Wv) (Wa:=[]) r;have e:Ju [] (gv vs i)=gv vs i:=by cases gv vs i<;>simp[Ju]
   rwa [e] at this
  ·exact aC.undef _
 |_=>exact h
def TO {S:St} {W Wv Wa:List Nat} {α:Nat->Value} {β:Nat->Nat} {w:World} {M:Nat->Prop} (h:aW cx B X S w β α M):aW cx B X (S.scrub W Wv Wa) w β α M:=by
 have hm:∀s cs f,(S.scrub W Wv Wa).μ s=some (cs,f)->∃j,S.μ s=some (j,f)/\cs=(bif Wa.isEmpty then j else j.map (Ju Wa)):=by
  intro s cs f o;simp only[St.scrub] at o;split at o
  ·simp at o
  ·cases hm:S.μ s with
   |none=>simp[hm] at o
   |some m=>
    simp only[hm,Option.map_some,Gb,Gr] at o;obtain⟨rfl,rfl⟩:=o;exact⟨m.1,rfl,rfl⟩
 have hi:∀s,((S.scrub W Wv Wa).μ s).isSome->(S.μ s).isSome:=fun s o=>by
  have⟨x,O⟩:=GZ.1 o;obtain⟨j,h0,-⟩:=hm s x.1 x.2 O;simp[h0]
 refine⟨h.xb,h.glob,h.size,h.m,fun s cs f o=>?_,fun s s' o D he=>h.varInj s s' (hi s o) (hi s' D) he,fun s z rows f o E=>h.arr s z rows f (JT o).2 E,
  fun s s' z rows f z' rows' f' o E D J=>h.arrInj s s' z rows f z' rows' f' (JT o).2 E (JT D).2 J,fun s z rows f s' o E D=>h.arrVar s z rows f s' (JT o).2 E (hi s' D)⟩
 obtain⟨j,h0,rfl⟩:=hm s cs f o;have⟨R,T,Q,c,e,U,Z,a6⟩:=h.var s j f h0;have H:(bif Wa.isEmpty then j else j.map (Ju Wa)).length=j.length:=by cases Wa.isEmpty<;>simp
 have L:∀i,i<j.length->gv (bif Wa.isEmpty then j else j.map (Ju Wa)) i=Ju Wa (gv j i):=by
  intro i y;cases hW:Wa.isEmpty with
  |true=>
   have:Wa=[]:=by simpa using hW
   subst this;simp only[cond_true];cases gv j i<;>simp[Ju]
  |false=>simp[gv,y]
 refine⟨R,T,fun E=>⟨(Q E).1,?_⟩,c,e,U,by rw[H];exact Z,fun i y=>?_⟩
 ·have I:=(Q E).2;cases Wa.isEmpty with
  |true=>exact I
  |false=>
   simp only[cond_false,List.all_map,GG,Function.comp] at I ⊢;intro x O;have:=I x O;cases x<;>simp_all [Ju,V.datC]
 ·rw[H] at y;have⟨u,p,q,r⟩:=a6 i y;exact⟨u,p,q,by rw[L i y];exact FD r⟩
def xw (x h t:Nat):dm x h (dm x h t)=t:=by
 unfold dm;by_cases j:t=x
 ·subst j;simp only[Gw];split
  ·rename_i e;exact e
  ·rfl
 ·rw[Gn j];by_cases o:t=h
  ·subst o;simp
  ·rw[Gn o,Gn j,Gn o]
def Tg {x h s t:Nat} (e:dm x h s=dm x h t):s=t:=by rw[<-xw x h s,e,xw]
section
variable {S:St} {α:Nat->Value} {β:Nat->Nat} {w:World} {Y:Nat->Prop} {x0 h0:Nat}
def NH {v:Value} {s z n:Nat} (h:fo S α v s z n):fo (S.ren x0 h0) (fun t=>α (dm x0 h0 t)) v (dm x0 h0 s) z n:=by
 have⟨rows,f,a,aN,j,h⟩:=h;exact⟨rows,f,a,aN,by simp only[St.ren,xw];exact j,by simpa only [xw] using h⟩
def FN {v:Value} {x:V} (h:cK cx w Y S α v x):cK cx w Y (S.ren x0 h0) (fun t=>α (dm x0 h0 t)) v (JS x0 h0 x):=by
 cases x with
 |own s z n=>exact NH h
 |_=>exact h
def Uq {v:Value} {x:V} (h:aJ cx w Y S β α v x):aJ cx w Y (S.ren x0 h0) β (fun t=>α (dm x0 h0 t)) v (AQ x0 h0 x):=by
 cases x with
 |own s z n=>exact NH h
 |lref s o=>
  have⟨h1,E⟩:=h;exact⟨by simp only[St.ren,Option.isSome_map];exact h1,E⟩
 |eref s i o m=>
  have⟨z,rows,f,b,I,aN,H,h⟩:=h;exact⟨z,rows,f,b,I,aN,by simp only[St.ren,xw];exact H,by simpa only [xw] using h⟩
 |agg vs=>
  obtain⟨cs,rfl,D,y⟩:=h;refine⟨cs,rfl,by simpa using D,fun i hi=>?_⟩;have j:i<vs.length:=by simpa using hi
  have⟨u,p,q,r⟩:=y i j;refine⟨u,p,q,?_⟩;have:=FN (x0:=x0) (h0:=h0) r;have e:gv (vs.map (JS x0 h0)) i=JS x0 h0 (gv vs i):=by simp[gv,j]
  rwa [<-e] at this
 |tuple vs=>
  obtain⟨cs,rfl,D,y⟩:=h;refine⟨cs,rfl,by simpa using D,fun i hi=>?_⟩;have j:i<vs.length:=by simpa using hi
  have⟨u,p,r⟩:=y i j;refine⟨u,p,?_⟩;have:=FN (x0:=x0) (h0:=h0) r;have e:gv (vs.map (JS x0 h0)) i=JS x0 h0 (gv vs i):=by simp[gv,j]
  rwa [<-e] at this
 |_=>exact h
def R9 {x:V} (h:x.datC=true):JS x0 h0 x=x:=by cases x<;>simp_all [JS,V.datC]
def Ur {M:Nat->Prop} (h:aW cx B X S w β α M):aW cx B X (S.ren x0 h0) w β (fun t=>α (dm x0 h0 t)) M:=by
 have hm:∀s cs f,(S.ren x0 h0).μ s=some (cs,f)->∃o,S.μ s=some (o,f)/\cs=o.map (JS x0 h0):=by
  intro s cs f j;simp only[St.ren,uI,Gr] at j;obtain⟨m,hm,rfl,rfl⟩:=j;exact⟨m.1,hm,rfl⟩
 have hi:∀s,((S.ren x0 h0).μ s).isSome->(S.μ s).isSome:=fun s j=>by simpa [St.ren] using j
 refine⟨h.xb,h.glob,h.size,h.m,fun s cs f j=>?_,fun s s' j y he=>h.varInj s s' (hi s j) (hi s' y) he,fun s z rows f j D=>h.arr (dm x0 h0 s) z rows f j D,
  fun s s' z rows f z' rows' f' j D y L b hb I=>Tg (h.arrInj (dm x0 h0 s) (dm x0 h0 s') z rows f z' rows' f' j D y L b hb I),fun s z rows f s' j D y=>h.arrVar (dm x0 h0 s) z rows f s' j D (hi s' y)⟩
 obtain⟨o,H,rfl⟩:=hm s cs f j;have⟨R,T,O,c,e,U,W,Z⟩:=h.var s o f H;refine⟨R,T,fun D=>⟨(O D).1,?_⟩,c,e,U,by simpa using W,fun i E=>?_⟩
 ·have J:=(O D).2;simp only[List.all_map,GG,Function.comp] at J ⊢;intro x Q;rw[R9 (J x Q)];exact J x Q
 ·simp only[Gi] at E;have⟨u,p,q,r⟩:=Z i E;have e:gv (o.map (JS x0 h0)) i=JS x0 h0 (gv o i):=by simp[gv,E]
  exact⟨u,p,q,by rw[e];exact FN r⟩
end
structure N8 (cx:Cx) (B X:Nat->Prop) (w:World) (β:Nat->Nat) (M:Nat->Prop) (S S':St) (α α':Nat->Value):Prop where
 hw:aW cx B X S w β α M->aW cx B X S' w β α' M
 ht:∀t u,aJ cx w (aQ X M) S β α u (S.ρ t)->aJ cx w (aQ X M) S' β α' u (S'.ρ t)
 hm:∀k,(S.μ k).isSome->(S'.μ k).isSome
 hu:∀t,S.ρ t=.undef->S'.ρ t=.undef
def Te {w:World} {β:Nat->Nat} {M:Nat->Prop} (S:St) (α:Nat->Value) (s j h:Nat):∃α',N8 cx B X w β M S (S.swp1 s j h) α α':=by
 unfold St.swp1;split
 ·split
  ·exact⟨_,⟨Ur,fun t u h=>Uq h,fun k o=>by simpa [St.ren] using o,fun t ht=>by simp[St.ren,ht,AQ]⟩⟩
  ·exact⟨α,⟨fun h=>h,fun _ _ h=>h,fun _ h=>h,fun _ h=>h⟩⟩
 ·exact⟨α,⟨fun h=>h,fun _ _ h=>h,fun _ h=>h,fun _ h=>h⟩⟩
def SF {w:World} {β:Nat->Nat} {M:Nat->Prop}:∀(n:Nat) (L:List Nat) (S:St) (α:Nat->Value),L.length<=n->∃α',N8 cx B X w β M S (S.swps L) α α':=by
 intro n
 induction n with
 |zero=>
  intro L S α p;have:L=[]:=GJ (by omega);subst this;exact⟨α,⟨fun h=>h,fun _ _ h=>h,fun _ h=>h,fun _ h=>h⟩⟩
 |succ n y=>
  intro L S α p
  match L,p with
  |[],_=>exact⟨α,⟨fun h=>h,fun _ _ h=>h,fun _ h=>h,fun _ h=>h⟩⟩
  |[a],_=>exact⟨α,⟨fun h=>h,fun _ _ h=>h,fun _ h=>h,fun _ h=>h⟩⟩
  |[a,b],_=>exact⟨α,⟨fun h=>h,fun _ _ h=>h,fun _ h=>h,fun _ h=>h⟩⟩
  |s::j::h::l,p=>
   have⟨α1,h1⟩:=Te (cx:=cx) (B:=B) (X:=X) (w:=w) (β:=β) (M:=M) S α s j h;have⟨α2,o⟩:=y l (S.swp1 s j h) α1 (by simp at p;omega);exact⟨α2,⟨fun h=>o.hw (h1.hw h),fun t u h=>o.ht t u (h1.ht t u h),fun k q=>o.hm k (h1.hm k q),fun t ht=>o.hu t (h1.hu t ht)⟩⟩
def kY (k:Nat):C->Bool
 |.seq a b=>kY k a&&kY k b
 |.cond _ a b=>kY k a&&kY k b
 |.block _ c=>kY k c
 |.loop _ _ Wv _ c=>!Wv.contains k&&kY k c
 |_=>true
def DB (pin:Option (Nat×Nat)) (c:C):Prop:=∀k b,pin=some (k,b)->kY k c=true
def FR.head {W L Wv Wa:List Nat} {ds:List (Option Nat)} {e:Nat->V} {S:St} {tm:Array Value} {w:World} (j:∀k b,pin=some (k,b)->Wv.contains k=false) (h:FR cx B X pin G ds e S tm w):FR cx B X pin G [] (fun _=>.undef) (S.head W L Wv Wa) tm w:=by
 have⟨u,β,α,M,y,D,E,q⟩:=h;have⟨α',o⟩:=SF (cx:=cx) (B:=B) (X:=X) (w:=w) (β:=β) (M:=M) L.length L S α (GC _);refine⟨fun t ht=>?_,β,α',M,TO (o.hw y),fun t=>?_,fun i d z=>by simp at z,fun k b p=>⟨?_,(q k b p).2⟩⟩
 ·simp only[St.head,St.scrub,o.hu t (u t ht),Ji];split<;>rfl
 ·simp only[St.head,St.scrub];split
  ·exact aC.undef _
  ·exact TN (o.ht t _ (D t))
 ·have h1:=o.hm k (q k b p).1;simp only[St.head,St.scrub,j k b p,Gl,Gv,Option.isSome_map];exact h1
def nC (cx:Cx) (B:Nat->Prop) (X:Nat->Prop) (pin:Option (Nat×Nat)) (G:List Nat) (N:Nat) (w:World) (S':St) (ex:Ex):Exit->Act->World->Prop:=fun e a' w'=>
 (match ex with|.norm=>e=.normal|.ret=>e=.ret|.exit id=>e=.exit id)/\FR cx B X pin G [] (fun _=>.undef) S' a'.tmps w'/\a'.defers=[]/\a'.tmps.size=N/\bY B w w'
def kg (P:Program) (c:Code) (Q:Exit->Act->World->Prop) (a:Act) (w:World):Prop:=
 ∀(b:Frame) (k:List Item) (cs:List Frame),∃e a' w',Q e a' w'/\Arrives P (lone (b.at a (.code c::.inLoop c::k)) cs w) b k cs e a' w'
def kg.loop {c:Code} {Q:Exit->Act->World->Prop} {a:Act} {w:World} (h:kg P c Q a w):(Code.loop c).wp P Q a w:=fun b k cs=>by
 have⟨e,o,w',p,j⟩:=h b k cs;exact⟨e,o,w',p,.of_steps (.one step_loop) j⟩
def kg.round {c:Code} {Q:Exit->Act->World->Prop} {a:Act} {w:World} (h:c.wp P (Exit.then (kg P c Q) Q) a w):kg P c Q a w:=fun b k cs=>by
 have⟨e,o,p,y,j⟩:=h b (.inLoop c::k) cs;cases e with
 |normal=>
  have⟨D,z,E,u,q⟩:=y b k cs;exact⟨D,z,E,u,.of_steps (Steps.trans j (.one step_inLoop)) q⟩
 |exit id=>exact⟨_,o,p,y,.pass (x:=.inLoop c) rfl (fun _ _=>.inl (by simp)) j⟩
 |goto l=>exact⟨_,o,p,y,.pass (x:=.inLoop c) rfl (fun _ _=>.inl (by simp)) j⟩
 |ret=>exact⟨_,o,p,y,.pass (x:=.inLoop c) rfl (fun _ _=>.inl (by simp)) j⟩
 |panic H=>exact⟨_,o,p,y,.pass (x:=.inLoop c) rfl (fun _ _=>.inl (by simp)) j⟩
 |outgrown=>exact⟨_,o,p,y,.pass (x:=.inLoop c) rfl (fun _ _=>.inl (by simp)) j⟩
def Nr (hm:P.follows .mixedOrders=true) (hκ:wk P cx aR κ):∀(m:Nat),
  (∀(c:Code) (c':C) (S S':St) (E:Ex) (a:Act) (w:World),ig P cx aR G N c c'=true->DB pin c'->Je κ m c' S=some (E,S')->FR cx B X pin G [] (fun _=>.undef) S a.tmps w->a.defers=[]->a.tmps.size=N->
   c.wp P (nC cx B X pin G N w S' E) a w)/\
  (∀(c:Code) (W L Wv Wa:List Nat) (c':C) (S S':St) (E:Ex) (a:Act) (w:World),ig P cx aR G N c c'=true->DB pin (.loop W L Wv Wa c')->Je κ m (.loop W L Wv Wa c') S=some (E,S')->FR cx B X pin G [] (fun _=>.undef) S a.tmps w->a.defers=[]->a.tmps.size=N->
   kg P c (nC cx B X pin G N w S' E) a w):=by
 intro m
 induction m with
 |zero=>exact⟨fun c c' S S' E a w _ _ h=>by simp[Je] at h,fun c W L Wv Wa c' S S' E a w _ _ h=>by simp[Je] at h⟩
 |succ m ih=>
  have⟨J,ad⟩:=ih
  have loop:∀(c:Code) (W L Wv Wa:List Nat) (c':C) (S S':St) (E:Ex) (a:Act) (w:World),ig P cx aR G N c c'=true->DB pin (.loop W L Wv Wa c')->Je κ (m+1) (.loop W L Wv Wa c') S=some (E,S')->FR cx B X pin G [] (fun _=>.undef) S a.tmps w->a.defers=[]->a.tmps.size=N->
    kg P c (nC cx B X pin G N w S' E) a w:=by
   intro c W L Wv Wa c' S S' E a w j u o U H Z
   have ab:DB pin c':=fun k b I=>by have:=u k b I;simp only[kY,Ge] at this;exact this.2
   have ac:∀k b,pin=some (k,b)->Wv.contains k=false:=fun k b I=>by have:=u k b I;simp only[kY,Ge,GM] at this;exact this.1
   simp only[Je,Gg] at o
   have⟨⟨x,S2⟩,h1,p⟩:=o
   refine kg.round (wp_mono (J c c' _ S2 x a w j ab h1 (U.head ac) H Z) fun e a' w' hp=>?_)
   have⟨D,O,Q,R,T⟩:=hp
   cases x with
   |norm=>
    simp only at D p
    subst D
    intro b k cs
    have⟨e2,a2,w2,q,r⟩:=ad c W L Wv Wa c' S2 S' E a' w' j u p O Q R b k cs
    have⟨q1,q2,q3,q4,q5⟩:=q
    exact⟨e2,a2,w2,⟨q1,q2,q3,q4,T.trans q5⟩,r⟩
   |ret=>
    simp only[Gb,Gr] at D p
    obtain⟨rfl,rfl⟩:=p
    subst D
    exact⟨rfl,O,Q,R,T⟩
   |exit id=>
    simp only[Gb,Gr] at D p
    obtain⟨rfl,rfl⟩:=p
    subst D
    exact⟨rfl,O,Q,R,T⟩
  refine⟨fun c c' S S' E a w j u o U H Z=>?_,loop⟩
  cases c' with
  |skip=>
   cases c<;>try (simp[ig] at j;done)
   simp only[Je,Gb,Gr] at o
   obtain⟨rfl,rfl⟩:=o
   exact wp_skip ⟨rfl,U,H,Z,bY.refl _ _⟩
  |ret=>
   cases c<;>try (simp[ig] at j;done)
   simp only[Je,Gb,Gr] at o
   obtain⟨rfl,rfl⟩:=o
   exact wp_ret ⟨rfl,U,H,Z,bY.refl _ _⟩
  |exit id=>
   cases c<;>try (simp[ig] at j;done)
   simp only[ig,G9] at j
   subst j
   simp only[Je,Gb,Gr] at o
   obtain⟨rfl,rfl⟩:=o
   exact wp_exit ⟨rfl,U,H,Z,bY.refl _ _⟩
  |region dr ps=>
   cases c<;>try (simp[ig] at j;done)
   simp only[ig] at j
   simp only[Je,Gg,Gb,Gr] at o
   obtain⟨S2,hr,rfl,rfl⟩:=o
   exact QL hm hκ j U H Z hr fun a' w' q1 q2 q3 q4=>⟨rfl,q1,q2,q3,q4⟩
  |seq x y=>
   cases c<;>try (simp[ig] at j;done)
   rename_i af ag
   simp only[ig,Ge] at j
   simp only[Je,Gg] at o
   have⟨⟨e1,S2⟩,h1,p⟩:=o
   refine wp_seq (wp_mono (J _ x S S2 e1 a w j.1 (fun k b I=>by have:=u k b I;simp only[kY,Ge] at this;exact this.1) h1 U H Z) fun e a' w' hp=>?_)
   have⟨D,O,Q,R,T⟩:=hp
   cases e1 with
   |norm=>
    simp only at D p
    subst D
    exact wp_mono (J _ y S2 S' E a' w' j.2 (fun k b I=>by have:=u k b I;simp only[kY,Ge] at this;exact this.2) p O Q R) fun e ae aj ⟨q1,q2,q3,q4,q5⟩=>⟨q1,q2,q3,q4,T.trans q5⟩
   |ret=>
    simp only[Gb,Gr] at D p
    obtain⟨rfl,rfl⟩:=p
    subst D
    exact⟨rfl,O,Q,R,T⟩
   |exit id=>
    simp only[Gb,Gr] at D p
    obtain⟨rfl,rfl⟩:=p
    subst D
    exact⟨rfl,O,Q,R,T⟩
  |cond x y z=>
   cases c<;>try (simp[ig] at j;done)
   simp only[ig,Ge] at j
   simp only[Je] at o
   split at o<;>try (simp at o;done)
   rename_i t ht
   have aa:=U
   have⟨hG,β,α,M,hW,hg,hl,ah⟩:=U
   have hr:=xu (a:=a) (ds:=[]) (e:=fun _=>.undef) hg (fun i d H=>by simp at H) j.1.1
   rw[ht] at hr
   refine wp_cond (JY hr) ?_
   cases t
   ·exact J _ z S S' E a w j.2 (fun k b I=>by have:=u k b I;simp only[kY,Ge] at this;exact this.2) (by simpa using o) aa H Z
   ·exact J _ y S S' E a w j.1.2 (fun k b I=>by have:=u k b I;simp only[kY,Ge] at this;exact this.1) (by simpa using o) aa H Z
  |block id x=>
   cases c<;>try (simp[ig] at j;done)
   simp only[ig,Ge,G9] at j
   obtain⟨rfl,j⟩:=j
   simp only[Je,Gg] at o
   have⟨⟨e1,S2⟩,h1,p⟩:=o
   refine wp_block (wp_mono (J _ x S S2 e1 a w j (fun k b I=>by have:=u k b I;simpa only [kY] using this) h1 U H Z) fun e a' w' hp=>?_)
   have⟨D,O,Q,R,T⟩:=hp
   cases e1 with
   |norm=>
    simp only[Gb,Gr] at D p
    obtain⟨rfl,rfl⟩:=p
    subst D
    exact⟨rfl,O,Q,R,T⟩
   |ret=>
    simp only[Gb,Gr] at D p
    obtain⟨rfl,rfl⟩:=p
    subst D
    exact⟨rfl,O,Q,R,T⟩
   |exit ai=>
    simp only at D p
    subst D
    simp only[Exit.inBlock]
    split at p
    ·rename_i he
     simp only[Gb,Gr] at p
     obtain⟨rfl,rfl⟩:=p
     rw[Gt he]
     exact⟨rfl,O,Q,R,T⟩
    ·rename_i he
     simp only[Gb,Gr] at p
     obtain⟨rfl,rfl⟩:=p
     rw[Gn he]
     exact⟨rfl,O,Q,R,T⟩
  |loop W L Wv Wa x=>
   cases c<;>try (simp[ig] at j;done)
   simp only[ig] at j
   exact (loop _ W L Wv Wa x S S' E a w j u o U H Z).loop
end
def aR (Pg:Nat->Option Fn) (f:Nat):Option Nat:=
 match Pg f with
 |some (.code F)=>F.own
 |some (.prim own _)=>own
 |some (.codeR _ k)=>some (3000+k)
 |none=>none
section
variable (P:Program) (cx:Cx) (Pg:Nat->Option Fn)
def J8 (o:List ResultVar) (j:List wn):Bool:=
 match o,j with
 |[],[]=>true
 |.tmp t::o,.t t'::j=>t == t'&&J8 o j
 |.cell a t::o,.cell a' n::j=>a == a'&&(P.underlying t).isSome&&(if Js P t then dz P t == n&&n.isSome else n.isNone)&&J8 o j
 |_,_=>false
def jg (f:FuncId) (F:F):Bool:=
 match P.funcs[f]? with
 |some fn=>(fn.name == "runtime.NumGoroutine") == false&&(match fn.body with|some c=>ig P cx (aR Pg) F.gl fn.ntmps c F.body|none=>false) &&
   decide (F.np<=fn.ntmps)&&(List.range F.np).all (F.gl.contains ·)&&J8 P fn.results.toList F.res&&(match F.own with|some j=>decide (j<F.res.length)&&decide (j<1000)|none=>true)
 |none=>false
end
section
variable {P:Program} {cx:Cx} {Pg:Nat->Option Fn} {X:Nat->Prop}
theorem MX {α β:Type} {f:Nat->α->Option β}:∀{l:List α} {r:List β} {k:Nat},J2 f k l=some r->r.length=l.length/\∀(i:Nat) (x:α),l[i]?=some x->∃y,r[i]?=some y/\f (k+i) x=some y
 |[],r,k,h=>by simp only[J2,Gb] at h;subst h;exact⟨rfl,fun i x j=>by simp at j⟩
 |a::l,r,k,h=>by
  simp only[J2,Gg,Gb] at h;obtain⟨y,q,u,o,rfl⟩:=h;have⟨h1,p⟩:=MX o;refine⟨by simp[h1],fun i x j=>?_⟩;cases i with
  |zero=>simp at j;subst j;exact⟨y,rfl,q⟩
  |succ i=>have:=p i x (by simpa using j);simpa [lU,Nat.add_comm 1 i] using this
theorem fv {B:Nat->Prop} {S:St} {w:World} {β:Nat->Nat} {α:Nat->Value} {M:Nat->Prop} {tm:Array Value} (hW:aW cx B X S w β α M) (hg:∀t,aJ cx w (aQ X M) S β α (tm.getD t undef) (S.ρ t)) :
  ∀(rs:List ResultVar) (qs:List wn) (vs:Eq),J8 P rs qs=true->Jn (iV S) qs=some vs->
   ∃us:List Value,(rs.mapM fun|.tmp t=>pure (tm.getD t undef)|.cell a t=>do loadVar t (<-asAddr (tm.getD a undef)):Sem (List Value)).run P w=.ok us w/\
    us.length=vs.length/\∀i,i<vs.length->∃u,us[i]?=some u/\aJ cx w (aQ X M) S β α u (gv vs i)
 |[],[],vs,_,h=>by
  simp only[Jn,Gb] at h;subst h;exact⟨[],by simp,rfl,fun i hi=>by simp at hi⟩
 |r::rs,q::qs,vs,hok,h=>by
  simp only[Jn,Gg,Gb] at h;obtain⟨v,hv,ws,hws,rfl⟩:=h;have hok':J8 P rs qs=true:=by
   unfold J8 at hok;split at hok<;>simp_all
  have⟨us,h1,h2,h3⟩:=fv hW hg rs qs ws hok' hws;have key:∃u,((match r with|.tmp t=>pure (tm.getD t undef)|.cell a t=>do loadVar t (<-asAddr (tm.getD a undef))):Sem Value).run P w=.ok u w/\aJ cx w (aQ X M) S β α u v:=by
   cases r with
   |tmp t=>
    cases q with
    |cell a n=>simp[J8] at hok
    |t t'=>
     simp only[J8,Ge,G9] at hok;obtain⟨rfl,-⟩:=hok;simp only[iV,Gb] at hv;subst hv;exact⟨tm.getD t undef,by simp,hg t⟩
   |cell a t=>
    cases q with
    |t t'=>simp[J8] at hok
    |cell a' n=>
     simp only[J8,Ge,G9] at hok;obtain⟨⟨⟨rfl,hu⟩,hn⟩,-⟩:=hok;have ha:=hg a;simp only[iV] at hv;split at hv<;>try (simp at hv;done)
     rename_i s hs;split at hv<;>try (simp at hv;done)
     rename_i cs f hm;rw[hs] at ha;have hld:=FG (P:=P) (t:=t) (n:=n) (l:=.v s) (p:=.lref s 0) (r:=v) hW ha hu hn (by simp[Jw,hm,hv]);have⟨u,hrun,hr⟩:=hld;refine⟨u,?_,hr⟩
     show (do let x <-asAddr (tm.getD a undef);loadVar t x:Sem Value).run P w=_
     rw[Nc ha] at hrun ⊢;simpa [Instr.loadAt,Instr.sureAddr,asAddr] using hrun
  have⟨u,hrun,hr⟩:=key;refine⟨u::us,?_,by simp[h2],fun i hi=>?_⟩
  ·rw[List.mapM_cons,Sem.run_bind,hrun];simp only[Result.andThen,Sem.run_bind,h1,Sem.run_pure]
  ·cases i with
   |zero=>exact⟨u,rfl,by simpa [gv] using hr⟩
   |succ i=>have⟨x,p,q⟩:=h3 i (by simpa using hi);exact⟨x,by simpa using p,by simpa [gv] using q⟩
 |[],_::_,vs,hok,h=>by simp[J8] at hok
 |_::_,[],vs,hok,h=>by
  unfold J8 at hok;split at hok<;>simp_all
def R3 (l:Eq) (j:Nat) (h:j<l.length):l[j]?=some (gv l j):=by simp[gv,h]
def xj {S:St} {w w':World} {β:Nat->Nat} {α:Nat->Value} {M:Nat->Prop} {own:Option Nat} {vs rs:Eq} {us:List Value} (hW:aW cx (·<w.heap.size) X S w' β α M)
  (hlen:us.length=vs.length) (hr:∀i,i<vs.length->∃u,us[i]?=some u/\aJ cx w' (aQ X M) S β α u (gv vs i)) (ho:J2 (oj S.A own) 0 vs=some rs) (hown:∀j,own=some j->j<vs.length) :
  mI cx w w' X own (if us.length=1 then us.getD 0 undef else .tuple us.toArray) (ni rs):=by
 have⟨h1,h2⟩:=MX ho
 have at_:∀i,i<rs.length->∃u,us[i]?=some u/\aJ cx w' (aQ X M) S β α u (gv vs i)/\oj S.A own i (gv vs i)=some (gv rs i):=fun i hi=>by
  have hi':i<vs.length:=by omega
  have⟨u,p,q⟩:=hr i hi';have⟨y,y1,y2⟩:=h2 i vs[i] (by simp[hi']);refine⟨u,p,q,?_⟩;have e1:gv vs i=vs[i]:=by simp[gv,hi']
  have e2:gv rs i=y:=by simp[gv,y1]
  rw[e1,e2];simpa using y2
 have hxb:∀s b,hdr (α s)=some b->(∃z rows f,S.A s=some (z,rows,f)/\f≠.dead)->¬X b:=fun s b hb hex hx=>by
  have⟨z,rows,f,e1,e2⟩:=hex;exact ((hW.arr s z rows f e1 e2).2 b hb).1 (hW.xb b hx)
 cases own with
 |none=>
  have hd:∀i,i<rs.length->∃u,us[i]?=some u/\aC cx w' X u (gv rs i):=fun i hi=>by
   have⟨u,p,q,r⟩:=at_ i hi;simp only[oj,reduceCtorEq,Gv,Gw] at r;exact⟨u,p,xt hW q r (fun b hb=>.inl hb) (fun s _ b hb hex=>hxb s b hb hex)⟩
  match rs,hd,h1 with
  |[r],hd,h1=>
   have⟨u,p,q⟩:=hd 0 (by simp)
   have:us.length=1:=by simp at h1;omega
   rw[Gt this]
   simp only[ni]
   have:us.getD 0 undef=u:=by simp[List.getD_eq_getElem?_getD,p]
   rw[this];exact q
  |[],hd,h1=>
   have:us=[]:=GJ (by simp at h1;omega)
   subst this
   exact aC.tuple #[] [] (fun _=>undef) rfl (fun i hi=>by simp at hi) (fun i hi=>by simp at hi)
  |r::r'::rs,hd,h1=>
   rw[Gn (by simp at h1;omega)]
   have⟨u,hu⟩:=oh hd
   exact aC.tuple us.toArray _ u (by simp at h1 ⊢;omega) (fun i hi=>by simpa using (hu i hi).1) (fun i hi=>(hu i hi).2)
 |some j=>
  have hj:j<rs.length:=by have:=hown j rfl;omega
  ·have⟨u,p,q,r⟩:=at_ j hj
   simp only[oj,Gw] at r
   split at r<;>try (simp at r;done)
   rename_i s z n hs
   split at r<;>try (simp at r;done)
   rename_i z' rows hA
   split at r<;>simp only[Gb,reduceCtorEq] at r
   rename_i hc
   obtain⟨rfl,hn⟩:=hc
   rw[hs] at q
   obtain⟨rows',f,a,aN,hA',rfl,ha,yw⟩:=q
   rw[hA] at hA'
   simp only[Gb,Gr] at hA'
   obtain⟨-,rfl,rfl⟩:=hA'
   have hα:=(yw (by simp)).2 hn
   have⟨a1,a2⟩:=hW.arr s z' rows .live hA (by simp)
   have hsub:∀b,hdr (α s)=some b->M b:=fun b hb=>(a2 b hb).2.1 rfl
   have hE:∀u x,aC cx w' (aQ X M) u x->aC cx w' (aQ X (fun b=>hdr (α s)=some b)) u x:=fun _ _ hr=>sd hsub hr
   refine⟨α s,z',rows,fun b=>hdr (α s)=some b,fun b hb=>⟨Nat.le_of_not_lt (a2 b hb).1,a1.lt hb⟩,fun b hb=>hb,a1.tr hE (fun _ _=>rfl),?_⟩
   have oth:∀i,i<rs.length->i≠j->∃u,us[i]?=some u/\aC cx w' (aQ X (fun b=>hdr (α s)=some b)) u (gv rs i):=fun i hi hne=>by
    have⟨u,p,q,r⟩:=at_ i hi;simp only[oj,Gb,Ne.symm hne,Gv,reduceCtorEq] at r;split at r<;>try (simp at r;done)
    rename_i hd;refine⟨u,p,xt hW q r (fun b hb=>hb.imp id (hsub b)) (fun t ht b hb hex hn=>?_)⟩;rcases hn with hx|hx
    ·exact hxb t b hb hex hx
    ·have h1:=GG.1 hd t ht;have⟨z1,rows1,f1,e1,e2⟩:=hex;rw[e1] at h1;have hf:f1=.frz:=by cases f1<;>simp[NQ] at h1<;>rfl
     subst hf;exact ((hW.arr t z1 rows1 .frz e1 e2).2 b hb).2.2 rfl (hsub b hx)
   match rs,at_,h1,hj,r,oth with
   |[r0],at_,h1,hj,r,oth=>
    have:us.length=1:=by simp at h1;omega
    rw[Gt this]
    have hj0:j=0:=by simp at hj;exact hj
    subst hj0
    refine .inl ⟨by simpa [ni,gv] using r.symm,?_⟩
    rw[<-hα];simp[List.getD_eq_getElem?_getD,p]
   |r0::r1::rs,at_,h1,hj,r,oth=>
    rw[Gn (by simp at h1;omega)]
    refine .inr ⟨r0::r1::rs,us.toArray,rfl,rfl,by simp at h1 ⊢;omega,hj,?_,by rw[<-hα];simpa using p,fun i hi hne=>?_⟩
    ·exact (R3 _ j hj).trans (by rw[<-r])
    ·have⟨u',p',q'⟩:=oth i hi hne
     exact⟨u',by simpa using p',q'⟩
   |[],at_,h1,hj,r,oth=>simp at hj
theorem Ri {f:Nat} {F:F} {κ:Nat -> Eq -> Option V} {n:Nat} {args:Eq} {r:V} (hm:P.follows .mixedOrders=true) (hκ:wk P cx (aR Pg) κ)
    (y:jg P cx Pg (cx.fm f) F=true) (hF:Pg f=some (.code F)) (ad:args.length=F.np)
    (hr:((Je κ n F.body (JC args)).bind fun r => match r.1 with
          | .norm | .ret => jT F r.2
          | .exit _ => none)=some r):jR P cx (aR Pg f) f args r:=by
  unfold jg at y
  split at y <;> try (simp at y; done)
  rename_i fn H
  simp only [Ge, G9, Gj] at y
  have⟨⟨⟨⟨⟨k1, k2⟩, k3⟩, k4⟩, k5⟩, k6⟩:=y
  split at k2 <;> try (simp at k2; done)
  rename_i c hc
  have I:aR Pg f=F.own:=by simp [aR, hF]
  refine ⟨⟨fn, H, k1, by simp [hc]⟩, fun w X vs hX U hG ae J => ?_⟩
  simp only [Gg] at hr
  have⟨⟨ex, S'⟩, T, o⟩:=hr
  have R:aW cx (· < w.heap.size) X (JC args) w (fun _ => 0) (fun _ => undef) (fun _ => False) :=
    ⟨hX, ⟨fun b S => G6 S U, hG⟩, fun _ h => h, fun b S => S.elim, fun s cs f B => by simp [JC] at B, fun s s' B => by simp [JC] at B, fun s z rows f B => by simp [JC] at B, fun s s' z rows f z' rows' f' B => by simp [JC] at B, fun s z rows f s' B => by simp [JC] at B⟩
  have Q:FR cx (· < w.heap.size) X none F.gl [] (fun _ => .undef) (JC args) (vs ++ Array.replicate (fn.ntmps - vs.size) undef) w:=by
    refine ⟨fun t ht => ?_, _, _, _, R, fun t => ?_, fun i d hd => by simp at hd, fun k b W => by simp at W⟩
    · have:¬ t < F.np:=fun Y => ht (by
        have:=GG.1 k4 t (lg.2 Y);simpa using this)
      simp only [JC]
      rw [List.getElem?_eq_none (by omega)]; rfl
    · by_cases ht:t < args.length
      · have⟨u, p, q⟩:=J t ht
        have:(vs ++ Array.replicate (fn.ntmps - vs.size) undef).getD t undef=u:=by
          rw [Array.getD_eq_getD_getElem?, Array.getElem?_append_left (by omega), p]; rfl
        rw [this]
        have:(JC args).ρ t=gv args t:=by simp [JC, gv, List.getD_eq_getElem?_getD]
        rw [this]
        exact .of_data (q.mono (GC _) (fun _ _ _ => rfl) (fun b _ hn hx => hn (hx.resolve_right id)))
      · have:(JC args).ρ t=.undef:=by simp only [JC]; rw [List.getElem?_eq_none (by omega)]; rfl
        rw [this]; exact aC.undef _
  refine calls_of_wp H hc (wp_mono ((Nr (N:=fn.ntmps) hm hκ n).1 c F.body (JC args) S' ex _ w k2 (fun k b W => by simp at W) T Q rfl (by simp; omega)) fun e a' w' hp => ?_)
  have⟨p1, p2, p3, p4, p5⟩:=hp
  have E:jT F S' = some r /\ (e=.normal \/ e=.ret):=by
    cases ex with
    | norm => exact ⟨o, .inl p1⟩
    | ret => exact ⟨o, .inr p1⟩
    | exit id => simp at o
  have⟨o, he⟩:=E
  unfold jT at o
  simp only [Gg, Gb] at o
  obtain ⟨ac, O, rs, aa, rfl⟩:=o
  obtain ⟨hG, β, α, M, hW, hg, hl, -⟩:=p2
  have⟨us, L, Z, ab⟩:=fv (P:=P) hW hg fn.results.toList F.res ac k5 O
  have D:(results fn a'.tmps).run P w' = .ok (if us.length=1 then us.getD 0 undef else .tuple us.toArray) w':=by
    unfold results;rw [Array.mapM_eq_mapM_toList];simp only [map_eq_pure_bind, bind_assoc, pure_bind, Sem.run_bind]
    erw [L]
    simp only [Result.andThen, Sem.run_pure, rh]
    congr 1
    split
    · rename_i h1
      rw [List.getD_eq_getElem?_getD]
      simp [h1]
    · rfl
  have af:=(JA O).1
  have hR:=xj hW Z ab aa (fun j hj => by rw [hj] at k6; simp only [Ge, Gj] at k6; omega)
  rw [I]
  rcases he with rfl | rfl
  · exact ⟨p3, _, D, _, rfl, p5.below fun _ h => h, hR⟩
  · exact ⟨p3, _, D, _, rfl, p5.below fun _ h => h, hR⟩
def Sk {A j:AA} (M:fW A j) {x y:V} (h:dT j x=some y):dT A x=some y/\∀s∈Jd x,∃z rows f,j s=some (z,rows,f)/\f≠.dead:=by
 have one:∀{x y:V},cn j x=some y->cn A x=some y/\∀s∈Jc x,∃z rows f,j s=some (z,rows,f)/\f≠.dead:=by
  intro x y h;cases x with
  |own s z n=>
   simp only[cn] at h;split at h
   ·rename_i Q rows f w;split at h<;>simp only[Gb,reduceCtorEq] at h;rename_i q;have:=M.keep w q.2.2;refine⟨by simp only[cn,this,Gt q,h],fun t ht=>?_⟩;simp only[Jc,GH,List.not_mem_nil,or_false] at ht;subst ht;exact⟨Q,rows,f,w,q.2.2⟩
   ·simp at h
  |_=>exact⟨h,fun s hs=>by simp[Jc] at hs⟩
 cases x with
 |agg cs=>
  simp only[dT,uI] at h ⊢;obtain⟨p,N,rfl⟩:=h;have:∀(l:Eq) (p:Eq),Jn (cn j) l=some p->Jn (cn A) l=some p/\∀s∈l.flatMap Jc,∃z rows f,j s=some (z,rows,f)/\f≠.dead:=by
   intro l
   induction l with
   |nil=>intro p h;exact⟨h,fun s hs=>by simp at hs⟩
   |cons a l O=>
    intro p h;simp only[Jn,Gg,Gb] at h;obtain⟨y,h1,u,L,rfl⟩:=h;have⟨B,D⟩:=one h1;have⟨E,H⟩:=O u L;refine⟨by simp only[Jn,B,E,Option.bind_some],fun s hs=>?_⟩;simp only[GV,GS] at hs;rcases hs with hs|hs
    ·exact D s hs
    ·exact H s hs
  have⟨I,J⟩:=this cs p N;exact⟨⟨p,I,rfl⟩,fun s hs=>J s (by simpa [Jd] using hs)⟩
 |own s z n=>exact one (x:=.own s z n) h
 |undef=>exact⟨h,fun s hs=>by simp[Jd,Jc] at hs⟩
 |bool b=>exact⟨h,fun s hs=>by simp[Jd,Jc] at hs⟩
 |int k n=>exact⟨h,fun s hs=>by simp[Jd,Jc] at hs⟩
 |str s=>exact⟨h,fun s hs=>by simp[Jd,Jc] at hs⟩
 |slice z r=>exact⟨h,fun s hs=>by simp[Jd,Jc] at hs⟩
 |tuple c=>simp[dT,cn,V.datC] at h
 |func f c=>exact⟨h,fun s hs=>by simp[Jd,Jc] at hs⟩
 |cptr c o=>exact⟨h,fun s hs=>by simp[Jd,Jc] at hs⟩
 |lref s o=>simp[dT,cn,V.datC] at h
 |eref s i o n=>simp[dT,cn,V.datC] at h
 |iface t v=>exact⟨h,fun s hs=>by simp[Jd,Jc] at hs⟩
 |niface=>exact⟨h,fun s hs=>by simp[Jd,Jc] at hs⟩
 |nslice z=>exact⟨h,fun s hs=>by simp[Jd,Jc] at hs⟩
 |xslice z r=>exact⟨h,fun s hs=>by simp[Jd,Jc] at hs⟩
theorem mU {f k:Nat} {F:F} {κ:Nat -> Eq -> Option V} {n:Nat} {args cs:Eq} {S0:St} {r:V} (hm:P.follows .mixedOrders=true) (hκ:wk P cx (aR Pg) κ)
    (hok:jg P cx Pg (cx.fm f) F=true) (hown:F.own=none) (hns:kY k F.body=true) (hlen:args.length=F.np) (hk:args[k]? = some (.tuple (.lref 0 0 :: cs))) (h0:eQ args k cs=some S0)
    (hr:((Je κ n F.body S0).bind fun r => match r.1 with
          | .norm | .ret => vK F k r.2
          | .exit _ => none)=some r):nD P cx k f args r:=by
  unfold jg at hok
  split at hok <;> try (simp at hok; done)
  rename_i fn hfn
  simp only [Ge, G9, Gj] at hok
  have⟨⟨⟨⟨⟨k1, k2⟩, k3⟩, k4⟩, k5⟩, k6⟩:=hok
  split at k2 <;> try (simp at k2; done)
  rename_i c hc
  refine ⟨⟨fn, hfn, k1, by simp [hc]⟩, fun w X N b vs du hX hN hgn hG hsz hk' hvk hRef hrel => ?_⟩
  rw [hk] at hk'
  simp only [Gb, V.tuple.injEq, qZ, true_and] at hk'
  subst hk'
  have⟨hNb, l, el, hwb, hTr, hnd⟩:=hRef
  have⟨hnd1, hnd2⟩:=rl.1 hnd
  simp only [Gg] at hr
  have⟨⟨ex, S'⟩, hex, hfin⟩:=hr
  simp only [eQ, Gg, Gb] at h0
  obtain ⟨⟨cells, A0⟩, ht0, rfl⟩:=h0
  have hBN:∀ b, N b -> ¬ (b < w.heap.size /\ ¬ N b):=fun b h1 h2 => h2.2 h1
  have hRE:aW cx (fun b => b < w.heap.size /\ ¬ N b) X ⟨fun i => if i=k then .lref k 0 else (args[i]?).getD .undef, fun _ => none, fun _ => none⟩ w (fun _ => 0) (fun _ => undef) N :=
    ⟨fun b hb => ⟨hX b hb, fun hh => (hN b hh).2.1 hb⟩, ⟨fun b hb => ⟨G6 hb hgn, fun hh => by have:=(hN b hh).2.2; omega⟩, hG⟩, fun b hb => hb.1, fun b hb => ⟨hBN b hb, (hN b hb).1⟩,
      fun s cs f hs => by simp at hs, fun s s' hs => by simp at hs, fun s z rows f hs => by simp at hs, fun s s' z rows f z' rows' f' hs => by simp at hs, fun s z rows f s' hs => by simp at hs⟩
  have⟨α0, t1, t2, t3, t4⟩:=fR cs 9000 _ (fun _ => undef) A0 cells l hRE ht0 hTr hnd2 (fun h hh => ⟨fun s hs => by simp at hs, fun s z rows f hs => by simp at hs⟩)
  have hRW:=t1.addVar (d:=k) (b0:=b) (cs:=cells) rfl hNb hwb (by simpa using t2.1) (fun i hi => by have⟨u, p, q, r⟩:=t2.2 i hi; exact ⟨u, by simpa using p, q, r⟩)
    (fun s hs => by simp at hs) (fun s z rows f hs hf hx => by
      rcases t4 s z rows f hs hf _ hx with h' | ⟨z1, r1, f1, b1, b2, b3⟩
      · exact hnd1 h'
      · simp at b1)
  have hkl:k < args.length:=by
    rcases GF k args.length with h' | h'
    · exact h'
    · rw [List.getElem?_eq_none h'] at hk; simp at hk
  have hFR:FR cx (fun b => b < w.heap.size /\ ¬ N b) X (some (k, b)) F.gl [] (fun _ => .undef) ⟨fun i => if i=k then .lref k 0 else (args[i]?).getD .undef, aI (fun _ => none) k (some (cells, false)), A0⟩ (vs ++ Array.replicate (fn.ntmps - vs.size) undef) w:=by
    have hin:∀ t, t < F.np -> t ∈ F.gl:=fun t hlt => by
      have:=GG.1 k4 t (lg.2 hlt);simpa using this
    refine ⟨fun t ht => ?_, _, _, _, hRW, fun t => ?_, fun i d hd => by simp at hd, fun k' b' hkb => ?_⟩
    · have:¬ t < F.np:=fun hlt => ht (hin t hlt)
      have hne:t ≠ k:=by omega
      simp only [Gn hne]
      rw [List.getElem?_eq_none (by omega)]; rfl
    · by_cases hne:t=k
      · subst hne
        simp only [Gw]
        refine ⟨by simp [aI], ?_⟩
        have:t < vs.size:=by omega
        rw [Array.getD_eq_getD_getElem?, Array.getElem?_append_left this, hvk]
        simp [aI]
      · simp only [Gn hne]
        by_cases ht:t < args.length
        · have⟨u, p, q⟩:=hrel t ht hne
          have:(vs ++ Array.replicate (fn.ntmps - vs.size) undef).getD t undef=u:=by
            rw [Array.getD_eq_getD_getElem?, Array.getElem?_append_left (by omega), p]; rfl
          rw [this]
          have:(args[t]?).getD .undef=gv args t:=by simp [gv, List.getD_eq_getElem?_getD]
          rw [this]
          exact .of_data q
        · rw [List.getElem?_eq_none (by omega)]; exact aC.undef _
    · simp only [Gb, Gr] at hkb
      obtain ⟨rfl, rfl⟩:=hkb
      exact ⟨by simp [aI], by simp [aI]⟩
  refine calls_of_wp hfn hc (wp_mono ((Nr (N:=fn.ntmps) hm hκ n).1 c F.body _ S' ex _ w k2 (fun k' b' hkb => by
    simp only [Gb, Gr] at hkb; obtain ⟨rfl, rfl⟩:=hkb; exact hns) hex hFR rfl (by simp; omega)) fun e a' w' hp => ?_)
  have⟨p1, p2, p3, p4, p5⟩:=hp
  have hfin':vK F k S' = some r /\ (e=.normal \/ e=.ret):=by
    cases ex with
    | norm => exact ⟨hfin, .inl p1⟩
    | ret => exact ⟨hfin, .inr p1⟩
    | exit id => simp at hfin
  have⟨hfin, he⟩:=hfin'
  unfold vK at hfin
  simp only [Gg] at hfin
  have⟨vs1, hv1, hfin⟩:=hfin
  split at hfin <;> try (simp at hfin; done)
  rename_i cs1 hmk
  simp only [Gg, Gb] at hfin
  obtain ⟨⟨ts, A1⟩, hh, ws, hws, rfl⟩:=hfin
  have⟨hG, β, α, M, hW, hg, hl, hpin⟩:=p2
  have⟨hk1, hk2⟩:=hpin k b rfl
  have⟨us, hrun, hlu, hru⟩:=fv (P:=P) hW hg fn.results.toList F.res vs1 k5 hv1
  have lN:(results fn a'.tmps).run P w' = .ok (if us.length=1 then us.getD 0 undef else .tuple us.toArray) w':=by
    unfold results;rw [Array.mapM_eq_mapM_toList];simp only [map_eq_pure_bind, bind_assoc, pure_bind, Sem.run_bind]
    erw [hrun]
    simp only [Result.andThen, Sem.run_pure, rh]
    congr 1
    split
    · rename_i h1
      rw [List.getD_eq_getElem?_getD]
      simp [h1]
    · rfl
  have⟨a1, a2, a3, cb, el1, a4, a5, a6⟩:=hW.var k cs1 false hmk
  rw [hk2] at a4
  have jK:CR cx w' (aQ X M) S' α cb.toList cs1:=⟨by simpa using a5, fun i hi => by have⟨u, p, q, r⟩:=a6 i hi; exact ⟨u, by simpa using p, q, r⟩⟩
  have⟨q1, q2, q3, q4⟩:=jH cs1 S' cb.toList ts A1 (fun s z rows f hs hf => ⟨(hW.arr s z rows f hs hf).1, fun b hb hl => ((hW.arr s z rows f hs hf).2 b hb).2.1 hl⟩)
    (fun s s' z rows f z' rows' f' hs hf hs' hf' b hb dy => hW.arrInj s s' z rows f z' rows' f' hs hf hs' hf' b hb dy) jK hh
  generalize hH:Jp cb.toList ts=H at q3 q4
  have hMb:M b:=hk2 ▸ a2 rfl
  have hNM:∀ x, (x=b \/ x ∈ H) -> M x:=fun x hx => by
    rcases hx with rfl | hx
    · exact hMb
    · exact (q1.hdr x (hH ▸ hx)).1
  have hHs:b ∉ H:=fun hb => by
    have⟨t, z, rows, e1, e2, e3⟩:=q4 _ hb;exact hW.arrVar t z rows .live k e1 (by simp) hk1 (by rw [hk2]; exact e3)
  have hsub:∀ u x, aC cx w' (aQ X M) u x -> aC cx w' (aQ X fun x => x=b \/ x ∈ H) u x:=fun u x hr => sd hNM hr
  have hd:∀ i, i < ws.length -> ∃ u, us[i]? = some u /\ aC cx w' (aQ X fun x => x=b \/ x ∈ H) u (gv ws i):=fun i hi => by
    have⟨m1, m2⟩:=JA hws;have hi':i < vs1.length:=by omega
    have⟨u, p, q⟩:=hru i hi';have⟨y, y1, y2⟩:=m2 i vs1[i] (by simp [hi']);have e1:gv vs1 i=vs1[i]:=by simp [gv, hi']
    have e2:gv ws i=y:=by simp [gv, y1]
    rw [e1] at q;rw [e2];have⟨d1, d2⟩:=Sk q2 y2;refine ⟨u, p, xt hW q d1 (fun b hb => hb.imp id (hNM b)) (fun s hs b1 hb1 hex hn => ?_)⟩;have⟨z, rows, f, g1, g2⟩:=d2 s hs;have g3:=q2.keep g1 g2;rcases hn with hx | hx | hx
    · exact ((hW.arr s z rows f g3 g2).2 b1 hb1).1 (hW.xb b1 hx)
    · exact hW.arrVar s z rows f k g3 g2 hk1 (by rw [hk2, <- hx]; exact hb1)
    · have⟨t, z', rows', e1, e2, e3⟩:=q4 _ hx
      have:=hW.arrInj s t z rows f z' rows' .live g3 g2 e1 (by simp) b1 hb1 e3
      subst this
      rw [g1] at e2
      simp only [Gb, Gr] at e2
      exact g2 e2.2.2
  have hwl:us.length=ws.length:=by rw [hlu, (JA hws).1]
  have hR:aC cx w' (aQ X fun x => x=b \/ x ∈ H) (if us.length=1 then us.getD 0 undef else .tuple us.toArray) (ni ws):=by
    match ws, hd, hwl with
    | [r], hd, h1 =>
      have⟨u, p, q⟩:=hd 0 (by simp);have:us.length=1:=by simpa using h1
      rw [Gt this];simp only [ni];have:us.getD 0 undef=u:=by simp [List.getD_eq_getElem?_getD, p]
      rw [this]; exact q
    | [], hd, h1 =>
      have:us=[]:=GJ (by simpa using h1);subst this;exact aC.tuple #[] [] (fun _ => undef) rfl (fun i hi => by simp at hi) (fun i hi => by simp at hi)
    | r :: r' :: rs, hd, h1 =>
      rw [Gn (by simp at h1; omega)];have⟨u, hu⟩:=oh hd;exact aC.tuple us.toArray _ u (by simp at h1 ⊢; omega) (fun i hi => by simpa using (hu i hi).1) (fun i hi => (hu i hi).2)
  have hpost:∃ v r0 du N', Ending.returned (if us.length=1 then us.getD 0 undef else .tuple us.toArray)=.returned v /\ V.tuple [ni ws, .tuple ts]=.tuple [r0, .tuple du] /\ bY (fun b => b < w.heap.size /\ ¬ N b) w w' /\
      (∀ b, N' b -> N b \/ (w.heap.size <= b /\ b < w'.heap.size)) /\ oE cx w' (aQ X N') N' b du /\ aC cx w' (aQ X N') v r0:=by
    refine ⟨_, _, _, fun x => x=b \/ x ∈ H, rfl, rfl, p5, fun x hx => ?_, ⟨.inl rfl, cb.toList, el1, by simpa using a4, q1.mono hsub (fun x hx => .inr (hH ▸ hx)), ?_⟩, hR⟩
    · have⟨h1, h2⟩:=hW.m x (hNM x hx)
      by_cases hNx:N x
      · exact .inl hNx
      · refine .inr ⟨?_, h2⟩
        rcases GF x w.heap.size with h' | h'
        · exact absurd ⟨h', hNx⟩ h1
        · exact h'
    · rw [hH]; exact rl.2 ⟨hHs, q3⟩
  rcases he with rfl | rfl
  · exact ⟨p3, _, lN, hpost⟩
  · exact ⟨p3, _, lN, hpost⟩
theorem J0 (hm:P.follows .mixedOrders=true) (y:∀f F,Pg f=some (.code F)->jg P cx Pg (cx.fm f) F=true)
  (E:∀f own p,Pg f=some (.prim own p)->∀args r,p args=some r->jR P cx own f args r)
  (J:∀f z p,z<1000->Pg f=some (.prim (some (1000+z)) p)->∃tS el,ki P (cx.fm f) z tS el) (H:∀f z p,Pg f=some (.prim (some (2000+z)) p)->nE P (cx.fm f) z)
  (B:∀f F k,Pg f=some (.codeR F k)->jg P cx Pg (cx.fm f) F=true/\F.own=none/\kY k F.body=true)
  (O:∀f own p,Pg f=some (.prim own p)->∀k,k<1000->own≠some (3000+k)) :
  ∀(n f:Nat) (args:Eq) (r:V),Jm Pg n f args=some r->jR P cx (aR Pg f) f args r/\∀k,k<1000->aR Pg f=some (3000+k)->nD P cx k f args r
 |0,f,args,r,h=>by simp[Jm] at h
 |n+1,f,args,r,h=>by
  have D:∀g G j,Pg g=some (.code G)->G.own=some j->j<1000:=fun g G j R hj=>by
   have:=y g G R;unfold jg at this;split at this
   ·simp only[Ge,hj,Gj] at this;exact this.2.2
   ·simp at this
  have U:wk P cx (aR Pg) (Jm Pg n):=⟨fun f args r h=>(J0 hm y E J H B O n f args r h).1,fun g z hz o=>by
    simp only[aR] at o;split at o
    ·rename_i G N;have:=D g G _ N o;omega
    ·rename_i own p N;subst o;exact J g z p hz N
    ·simp only[Gb] at o;omega
    ·simp at o,fun g z hz o=>by
    simp only[aR] at o;split at o
    ·rename_i G N;have:=D g G _ N o;omega
    ·rename_i own p N;subst o;exact H g z p N
    ·simp only[Gb] at o;omega
    ·simp at o,fun f k M o args r h=>(J0 hm y E J H B O n f args r h).2 k M o⟩
  simp only[Jm] at h;split at h
  ·simp at h
  ·rename_i own p I;have:aR Pg f=own:=by simp[aR,I]
   rw[this];exact⟨E f own p I args r h,fun k M o=>absurd o (O f own p I k M)⟩
  ·rename_i F k I;have T:aR Pg f=some (3000+k):=by simp[aR,I]
   split at h<;>try (simp at h;done)
   rename_i L;split at h<;>try (simp at h;done)
   rename_i cs M;simp only[Gg] at h;have⟨S0,h0,r1,h1,h2⟩:=h;have⟨Y,Z,c3⟩:=B f F k I;have W:nD P cx k f args r:=mU hm U Y Z c3 L M h0 (by simp only[Gg];exact⟨r1,h1,h2⟩);refine⟨⟨W.1,fun w X vs hX aa N ac Q=>?_⟩,fun k' ab o=>?_⟩
   ·exfalso
    have S:k<args.length:=by
     rcases GF k args.length with h'|h'
     ·exact h'
     ·rw[List.getElem?_eq_none h'] at M;simp at M
    have⟨u,p,q⟩:=Q k S;have R:gv args k=.tuple (.lref 0 0::cs):=by simp[gv,M]
    rw[R] at q;cases q with
    |tuple du ad u' hl hc hr=>
     have:=hr 0 (by simp);simp only[gv,yC] at this;generalize u' 0=q at this;cases this
   ·rw[T] at o;simp only[Gb] at o;have:k=k':=by omega
    subst this;exact W
  ·rename_i F I;split at h<;>try (simp at h;done)
   rename_i L;refine⟨Ri hm U (y f F I) I L h,fun k M o=>?_⟩;simp only[aR,I] at o;have:=D f F _ I o;omega
end
end Sg
namespace Sg
def Le (κ κ':Nat->Eq->Option V):Prop:=∀f a r,κ f a=some r->κ' f a=some r
def RZ {κ κ':Nat->Eq->Option V} (h:Le κ κ') {d:Nat} {e:Nat->V} {S:St} {k:K} {r} (p:ev κ d e S k=some r):ev κ' d e S k=some r:=by
 cases k<;>try exact p
 rotate_left
 ·simp only[ev,sg,Gg] at p ⊢;have⟨q,h1,x,j,o⟩:=p;exact⟨q,h1,x,h _ _ _ j,o⟩
 rename_i f y own xs;simp only[ev,Gg] at p ⊢;have⟨z,h1,j⟩:=p;refine⟨z,h1,?_⟩;unfold fh at j ⊢;cases y<;>simp only at j ⊢
 ·split at j<;>try (simp at j;done)
  rename_i B;rw[Gt B];simp only[Gg] at j ⊢;have⟨x,j,o⟩:=j;exact⟨x,h _ _ _ j,o⟩
 ·simp only[Gg] at j ⊢;have⟨u,j,x,o,w⟩:=j;exact⟨u,j,x,h _ _ _ o,w⟩
 ·simp only[Gg] at j ⊢;have⟨u,j,x,o,w⟩:=j;exact⟨u,j,x,h _ _ _ o,w⟩
def Np {κ κ':Nat->Eq->Option V} (h:Le κ κ') {o:Op} {e:Nat->V} {S:St} {r} (j:step κ o e S=some r):step κ' o e S=some r:=by
 unfold step at j ⊢;split at j
 ·simp at j
 ·exact j
 ·simp only[Gg] at j ⊢;have⟨x,h1,p⟩:=j;exact⟨x,RZ h h1,p⟩
theorem Fy {κ κ':Nat->Eq->Option V} (h:Le κ κ'):∀{j:List Op} {i:Nat} {e:Nat->V} {S:St} {r},Jr κ j i e S=some r->Jr κ' j i e S=some r
 |[],_,_,_,_,hr=>hr
 |o::os,i,e,S,r,hr=>by
  simp only[Jr,Gg] at hr ⊢;have⟨x,h1,p⟩:=hr;exact⟨x,Np h h1,Fy h p⟩
theorem Jq {κ κ':Nat->Eq->Option V} (h:Le κ κ'):∀{m m':Nat} {c:C} {S:St} {r},m<=m'->Je κ m c S=some r->Je κ' m' c S=some r
 |0,_,_,_,_,_,hr=>by simp[Je] at hr
 |m+1,0,_,_,_,hm,_=>by omega
 |m+1,m'+1,c,S,r,hm,hr=>by
  have q:m<=m':=by omega
  have o:=fun {c S r}=>Jq h (m:=m) (m':=m') (c:=c) (S:=S) (r:=r) q;cases c with
  |skip=>simpa [Je] using hr
  |region d u=>
   simp only[Je,Gg] at hr ⊢;have⟨x,h1,j⟩:=hr;exact⟨x,Fy h h1,j⟩
  |seq a b=>
   simp only[Je,Gg] at hr ⊢;have⟨⟨p,x⟩,h1,j⟩:=hr;refine⟨_,o h1,?_⟩;cases p<;>simp only at j ⊢
   ·exact o j
   ·exact j
   ·exact j
  |cond x a b=>
   simp only[Je] at hr ⊢;split at hr
   ·rename_i t ht;cases t<;>exact o hr
   ·simp at hr
  |block id c=>
   simp only[Je,Gg] at hr ⊢;have⟨x,h1,j⟩:=hr;exact⟨_,o h1,j⟩
  |loop W L Wv Wa c=>
   simp only[Je,Gg] at hr ⊢;have⟨⟨p,x⟩,h1,j⟩:=hr;refine⟨_,o h1,?_⟩;cases p<;>simp only at j ⊢
   ·exact o j
   ·exact j
   ·exact j
  |exit id=>simpa [Je] using hr
  |ret=>simpa [Je] using hr
def Le.refl (κ:Nat->Eq->Option V):Le κ κ:=fun _ _ _ h=>h
theorem Fu (Pg:Nat->Option Fn):∀n,Le (Jm Pg n) (Jm Pg (n+1))
 |0=>fun f a r h=>by simp[Jm] at h
 |n+1=>fun f a r h=>by
  rw[Jm] at h ⊢;split at h
  ·simp at h
  ·exact h
  ·split at h<;>try (simp at h;done)
   rename_i o;rw[Gt o];split at h<;>try (simp at h;done)
   simp only[Gg] at h ⊢;have⟨x,h0,y,h1,j⟩:=h;exact⟨x,h0,y,Jq (Fu Pg n) (Nat.le_succ n) h1,j⟩
  ·split at h<;>try (simp at h;done)
   rename_i o;rw[Gt o];simp only[Gg] at h ⊢;have⟨x,h1,j⟩:=h;exact⟨x,Jq (Fu Pg n) (Nat.le_succ n) h1,j⟩
def Jx (Pg:Nat->Option Fn) {n m:Nat} (h:n<=m):Le (Jm Pg n) (Jm Pg m):=by
 induction h with
 |refl=>exact .refl _
 |step _ o=>exact fun f a r j=>Fu Pg _ f a r (o f a r j)
open Classical in
noncomputable def K' (Pg:Nat->Option Fn) (f:Nat) (args:Eq):Option V:=
 if h:∃n r,Jm Pg n f args=some r then some h.choose_spec.choose else none
def AR {Pg:Nat->Option Fn} {n f:Nat} {args:Eq} {r:V} (h:Jm Pg n f args=some r):K' Pg f args=some r:=by
 have j:∃n r,Jm Pg n f args=some r:=⟨n,r,h⟩;unfold K';rw[dif_pos j];have h1:=j.choose_spec.choose_spec;have p:=Jx Pg (po j.choose n) _ _ _ h1;have o:=Jx Pg (pm j.choose n) _ _ _ h;rw[p] at o;exact o
def eF {Pg:Nat->Option Fn} {f:Nat} {args:Eq} {r:V}:K' Pg f args=some r↔∃n,Jm Pg n f args=some r:=by
 constructor
 ·intro h;unfold K' at h;split at h
  ·rename_i j;simp only[Gb] at h;exact⟨j.choose,by rw[j.choose_spec.choose_spec,h]⟩
  ·simp at h
 ·exact fun⟨n,h⟩=>AR h
def xc {Pg:Nat->Option Fn} {d:Nat} {e:Nat->V} {S:St} {k:K} {r} (hr:ev (K' Pg) d e S k=some r):∃n,ev (Jm Pg n) d e S k=some r:=by
 cases k<;>try exact⟨0,hr⟩
 rotate_left
 ·simp only[ev,sg,Gg] at hr ⊢;have⟨q,h1,x,h2,h3⟩:=hr;have⟨n,hn⟩:=eF.1 h2;exact⟨n,q,h1,x,hn,h3⟩
 rename_i f cv own xs;simp only[ev,Gg] at hr;have⟨fc,h1,h2⟩:=hr;have key:∃n,fh (Jm Pg n) d S cv own fc (xs.map (aK e S.ρ))=some r:=by
  unfold fh at h2 ⊢;cases cv<;>simp only at h2 ⊢
  ·split at h2<;>try (simp at h2;done)
   rename_i hc;simp only[Gt hc,Gg] at h2 ⊢;have⟨x,h2,h3⟩:=h2;have⟨n,hn⟩:=eF.1 h2;exact⟨n,x,hn,h3⟩
  ·simp only[Gg] at h2 ⊢;have⟨bs,h2,x,h3,h4⟩:=h2;have⟨n,hn⟩:=eF.1 h3;exact⟨n,bs,h2,x,hn,h4⟩
  ·simp only[Gg] at h2 ⊢;have⟨bs,h2,x,h3,h4⟩:=h2;have⟨n,hn⟩:=eF.1 h3;exact⟨n,bs,h2,x,hn,h4⟩
 have⟨n,hn⟩:=key;exact⟨n,by simp only[ev,Gg];exact⟨fc,h1,hn⟩⟩
def Sj {Pg:Nat->Option Fn} {o:Op} {e:Nat->V} {S:St} {r} (j:step (K' Pg) o e S=some r):∃n,step (Jm Pg n) o e S=some r:=by
 unfold step at j ⊢;split at j
 ·simp at j
 ·exact⟨0,j⟩
 ·simp only[Gg] at j ⊢;have⟨x,h1,p⟩:=j;have⟨n,q⟩:=xc h1;exact⟨n,x,q,p⟩
theorem MM {Pg:Nat->Option Fn}:∀{j:List Op} {i:Nat} {e:Nat->V} {S:St} {r},Jr (K' Pg) j i e S=some r->∃n,Jr (Jm Pg n) j i e S=some r
 |[],_,_,_,_,hr=>⟨0,hr⟩
 |o::os,i,e,S,r,hr=>by
  simp only[Jr,Gg] at hr ⊢;have⟨x,h1,p⟩:=hr;have⟨n,q⟩:=Sj h1;have⟨m,hm⟩:=MM p;exact⟨max n m,x,Np (Jx Pg (po n m)) q,Fy (Jx Pg (pm n m)) hm⟩
theorem JK {Pg:Nat->Option Fn}:∀{m:Nat} {c:C} {S:St} {r},Je (K' Pg) m c S=some r->∃n,Je (Jm Pg n) m c S=some r
 |0,_,_,_,hr=>by simp[Je] at hr
 |m+1,c,S,r,hr=>by
  have u:=fun {n p m c S r} (h:n<=p)=>Jq (Jx Pg h) (m:=m) (m':=m) (c:=c) (S:=S) (r:=r) (GC m);cases c with
  |skip=>exact⟨0,by simpa [Je] using hr⟩
  |region d y=>
   simp only[Je,Gg] at hr ⊢;have⟨x,h1,j⟩:=hr;have⟨n,o⟩:=MM h1;exact⟨n,x,o,j⟩
  |seq a b=>
   simp only[Je,Gg] at hr ⊢;have⟨⟨w,x⟩,h1,j⟩:=hr;have⟨n,o⟩:=JK h1;cases w<;>simp only at j
   ·have⟨p,q⟩:=JK j;exact⟨max n p,_,u (po n p) o,u (pm n p) q⟩
   ·exact⟨n,_,o,j⟩
   ·exact⟨n,_,o,j⟩
  |cond x a b=>
   simp only[Je] at hr ⊢;split at hr
   ·rename_i t ht;cases t<;>exact JK hr
   ·simp at hr
  |block id c=>
   simp only[Je,Gg] at hr ⊢;have⟨x,h1,j⟩:=hr;have⟨n,o⟩:=JK h1;exact⟨n,_,o,j⟩
  |loop W L Wv Wa c=>
   simp only[Je,Gg] at hr ⊢;have⟨⟨w,x⟩,h1,j⟩:=hr;have⟨n,o⟩:=JK h1;cases w<;>simp only at j
   ·have⟨p,q⟩:=JK j;exact⟨max n p,_,u (po n p) o,u (pm n p) q⟩
   ·exact⟨n,_,o,j⟩
   ·exact⟨n,_,o,j⟩
  |exit id=>exact⟨0,by simpa [Je] using hr⟩
  |ret=>exact⟨0,by simpa [Je] using hr⟩
def Wp (κ:Nat->Eq->Option V) (c:C) (S:St) (Q:Ex->St->Prop):Prop:=∃m ex S',Je κ m c S=some (ex,S')/\Q ex S'
def jl (κ:Nat->Eq->Option V) (b:C) (Q:Ex->St->Prop):Ex->St->Prop
 |.norm,S=>Wp κ b S Q
 |x,S=>Q x S
def gm (id:Nat) (Q:Ex->St->Prop):Ex->St->Prop
 |.exit id',S=>if id'=id then Q .norm S else Q (.exit id') S
 |x,S=>Q x S
section
variable {κ:Nat->Eq->Option V} {S:St} {Q:Ex->St->Prop}
def Wp.mono {c:C} {Q':Ex->St->Prop} (h:Wp κ c S Q) (p:∀j S',Q j S'->Q' j S'):Wp κ c S Q':=by
 have⟨m,j,S',h1,o⟩:=h;exact⟨m,j,S',h1,p _ _ o⟩
def wp_skip (h:Q .norm S):Wp κ .skip S Q:=⟨1,.norm,S,rfl,h⟩
def wp_exit {id:Nat} (h:Q (.exit id) S):Wp κ (.exit id) S Q:=⟨1,.exit id,S,rfl,h⟩
def wp_ret (h:Q .ret S):Wp κ .ret S Q:=⟨1,.ret,S,rfl,h⟩
def wp_region {d:Bool} {j:List Op} (h:∃S',Jr κ j 0 (fun _=>.undef) S=some S'/\Q .norm S'):Wp κ (.region d j) S Q:=by
 have⟨S',h1,o⟩:=h;exact⟨1,.norm,S',by simp[Je,h1],o⟩
def wp_seq {a b:C} (h:Wp κ a S (jl κ b Q)):Wp κ (.seq a b) S Q:=by
 have⟨m,j,S',h1,o⟩:=h;cases j with
 |norm=>
  have⟨m',j,S'',p,q⟩:=o;refine⟨max m m'+1,j,S'',?_,q⟩;simp only[Je,Jq (.refl κ) (po m m') h1,Option.bind_some];exact Jq (.refl κ) (pm m m') p
 |ret=>exact⟨m+1,_,_,by simp[Je,h1],o⟩
 |exit id=>exact⟨m+1,_,_,by simp[Je,h1],o⟩
def wp_cond {x:bF} {a b:C} (t:Bool) (ht:aK (fun _=>.undef) S.ρ x=.bool t) (h1:t=true->Wp κ a S Q) (j:t=false->Wp κ b S Q):Wp κ (.cond x a b) S Q:=by
 cases t with
 |true=>
  have⟨m,o,S',h1,j⟩:=h1 rfl;exact⟨m+1,o,S',by simp[Je,ht,h1],j⟩
 |false=>
  have⟨m,o,S',h1,j⟩:=j rfl;exact⟨m+1,o,S',by simp[Je,ht,h1],j⟩
def wp_block {id:Nat} {c:C} (h:Wp κ c S (gm id Q)):Wp κ (.block id c) S Q:=by
 have⟨m,p,S',h1,j⟩:=h;cases p with
 |norm=>exact⟨m+1,_,_,by simp[Je,h1],j⟩
 |ret=>exact⟨m+1,_,_,by simp[Je,h1],j⟩
 |exit o=>
  simp only[gm] at j;split at j
  ·rename_i e;exact⟨m+1,.norm,S',by simp[Je,h1,e],j⟩
  ·rename_i e;exact⟨m+1,.exit o,S',by simp[Je,h1,e],j⟩
def SJ {W L Wv Wa:List Nat} {c:C} (h:Wp κ c (S.head W L Wv Wa) (jl κ (.loop W L Wv Wa c) Q)):Wp κ (.loop W L Wv Wa c) S Q:=by
 have⟨m,j,S',h1,o⟩:=h;cases j with
 |norm=>
  have⟨m',j,S'',p,q⟩:=o;refine⟨max m m'+1,j,S'',?_,q⟩;simp only[Je,Jq (.refl κ) (po m m') h1,Option.bind_some];exact Jq (.refl κ) (pm m m') p
 |ret=>exact⟨m+1,_,_,by simp[Je,h1],o⟩
 |exit id=>exact⟨m+1,_,_,by simp[Je,h1],o⟩
theorem xl {W L Wv Wa:List Nat} {c:C} {σ:Type} (I:σ->St->Prop) (μ:σ->Nat) (s:σ) (h0:I s (S.head W L Wv Wa))
  (hstep:∀s S,I s S->Wp κ c S fun ex S'=>match ex with
   |.norm=>∃s',μ s'<μ s/\I s' (S'.head W L Wv Wa)
   |x=>Q x S'):Wp κ (.loop W L Wv Wa c) S Q:=by
 suffices ∀n s S,μ s=n->I s (S.head W L Wv Wa)->Wp κ (.loop W L Wv Wa c) S Q from this _ s S rfl h0
 intro n
 induction n using Nat.strongRecOn with
 |_ n ih=>
  intro s S hn hI
  refine SJ ((hstep s _ hI).mono fun ex S' hq=>?_)
  cases ex with
  |norm=>
   have⟨s',h1,h2⟩:=hq
   exact ih _ (hn▸h1) s' S' rfl h2
  |ret=>exact hq
  |exit id=>exact hq
end
def aA {Pg:Nat->Option Fn} {f:Nat} {F:F} {args:Eq} {r:V} (hF:Pg f=some (.code F)) (hl:args.length=F.np)
  (h:Wp (K' Pg) F.body (JC args) fun ex S=>(ex=.norm\/ex=.ret)/\jT F S=some r):K' Pg f args=some r:=by
 have⟨m,ex,S',h1,h2,h3⟩:=h
 have⟨n,hn⟩:=JK h1
 have h4:Je (Jm Pg (max n m)) (max n m) F.body (JC args)=some (ex,S'):=Jq (Jx Pg (po n m)) (pm n m) hn
 refine AR (n:=max n m+1) ?_
 simp only[Jm,hF,Gt hl,h4,Option.bind_some]
 rcases h2 with rfl|rfl<;>exact h3
def kp {Pg:Nat->Option Fn} {f k:Nat} {F:F} {args cs:Eq} {r:V} {S0:St} (hF:Pg f=some (.codeR F k)) (hl:args.length=F.np)
  (hk:args[k]?=some (.tuple (.lref 0 0::cs))) (h0:eQ args k cs=some S0)
  (h:Wp (K' Pg) F.body S0 fun ex S=>(ex=.norm\/ex=.ret)/\vK F k S=some r):K' Pg f args=some r:=by
 have⟨m,ex,S',h1,h2,h3⟩:=h
 have⟨n,hn⟩:=JK h1
 have h4:Je (Jm Pg (max n m)) (max n m) F.body S0=some (ex,S'):=Jq (Jx Pg (po n m)) (pm n m) hn
 refine AR (n:=max n m+1) ?_
 simp only[Jm,hF,Gt hl,hk,h0,h4,Option.bind_some]
 rcases h2 with rfl|rfl<;>exact h3
def tT {Pg:Nat->Option Fn} {f:Nat} {own:Option Nat} {p:Eq->Option V} {args:Eq} (j:Pg f=some (.prim own p)):K' Pg f args=p args:=by
 cases h:p args with
 |some r=>exact AR (n:=1) (by simp[Jm,j,h])
 |none=>
  cases o:K' Pg f args with
  |none=>rfl
  |some r=>
   have⟨n,q⟩:=eF.1 o;cases n<;>simp[Jm,j,h] at q
def bJ (z0:Nat) (args:Eq):Option V:=match args with
 |[.slice z rows]=>if rows.length<=aU/\z=z0 then some (.slice z rows) else none
 |_=>none
def Wr (κ:Nat->Eq->Option V) (ops:List Op) (i:Nat) (e:Nat->V) (S:St) (Q:St->Prop):Prop:=∃S',Jr κ ops i e S=some S'/\Q S'
def lV (gl:Bool) (dst:Option Nat) (S:St) (v:V):St:=
 match gl,dst with
 |true,some d=>⟨aI S.ρ d v,S.μ,S.A⟩
 |_,_=>S
def Ce (κ:Nat->Eq->Option V) (dst:Option Nat) (gl:Bool) (ops:List Op) (i:Nat) (e:Nat->V) (Q:St->Prop):Option (V×St)->Prop
 |none=>False
 |some (v,S)=>Wr κ ops (i+1) (aI e i v) (lV gl dst S v) Q
def mJ (κ:Nat->Eq->Option V) (o:Op) (ops:List Op) (i:Nat) (e:Nat->V) (S:St) (Q:St->Prop) (b:Bool):V->Prop
 |.tuple []=>Wr κ ops (i+1) (aI e i .un) (lV o.gl o.dst S .un) Q
 |.bool t=>(t=b->Wr κ ({o with gd:=none}::ops) i e S Q)/\(t=!b->Wr κ ops (i+1) (aI e i .un) (lV o.gl o.dst S .un) Q)
 |_=>False
def wq (κ:Nat->Eq->Option V) (a b:C) (S:St) (Q:Ex->St->Prop):V->Prop
 |.bool t=>(t=true->Wp κ a S Q)/\(t=false->Wp κ b S Q)
 |_=>False
section
variable {κ:Nat->Eq->Option V} {S:St} {Q:St->Prop} {R:Ex->St->Prop} {e:Nat->V} {i:Nat} {ops:List Op}
def FE {dst:Option Nat} {gl:Bool} {k:K} {gd} {v:V}:S.put ⟨dst,gl,k,gd⟩ v=lV gl dst S v:=by
 cases gl<;>cases dst<;>rfl
theorem S5 {d:Nat} {v:V}:lV true (some d) S v=⟨aI S.ρ d v,S.μ,S.A⟩:=rfl
theorem Ts {d:Option Nat} {v:V}:lV false d S v=S:=rfl
def Tt {gl:Bool} {v:V}:lV gl none S v=S:=by cases gl<;>rfl
def Tk {d:Bool}:Wp κ (.region d ops) S R=Wr κ ops 0 (fun _=>.undef) S (R .norm):=by
 refine propext ⟨fun h=>?_,fun h=>wp_region h⟩;have⟨m,o,S',h1,j⟩:=h;cases m with
 |zero=>simp[Je] at h1
 |succ m=>
  simp only[Je,Gg,Gb,Gr] at h1;obtain⟨x,h1,rfl,rfl⟩:=h1;exact⟨x,h1,j⟩
def NE {a b:C}:Wp κ (.seq a b) S R=Wp κ a S (jl κ b R):=by
 refine propext ⟨fun h=>?_,wp_seq⟩;have⟨m,q,S',h1,o⟩:=h;cases m with
 |zero=>simp[Je] at h1
 |succ m=>
  simp only[Je,Gg] at h1;have⟨⟨x,p⟩,h1,j⟩:=h1;refine⟨m,x,p,h1,?_⟩;cases x with
  |norm=>exact⟨m,q,S',j,o⟩
  |ret=>simp only[Gb,Gr] at j;obtain⟨rfl,rfl⟩:=j;exact o
  |exit id=>simp only[Gb,Gr] at j;obtain⟨rfl,rfl⟩:=j;exact o
def Ns {id:Nat} {c:C}:Wp κ (.block id c) S R=Wp κ c S (gm id R):=by
 refine propext ⟨fun h=>?_,wp_block⟩;have⟨m,q,S',h1,o⟩:=h;cases m with
 |zero=>simp[Je] at h1
 |succ m=>
  simp only[Je,Gg] at h1;have⟨⟨x,p⟩,h1,j⟩:=h1;refine⟨m,x,p,h1,?_⟩;cases x with
  |norm=>simp only[Gb,Gr] at j;obtain⟨rfl,rfl⟩:=j;exact o
  |ret=>simp only[Gb,Gr] at j;obtain⟨rfl,rfl⟩:=j;exact o
  |exit id=>
   simp only at j;simp only[gm];split at j<;>simp only[Gb,Gr] at j<;>obtain⟨rfl,rfl⟩:=j
   ·rename_i e;rw[Gt e];exact o
   ·rename_i e;rw[Gn e];exact o
def SK:Wp κ .ret S R=R .ret S:=propext ⟨fun⟨m,o,S',h1,j⟩=>by
 cases m<;>simp[Je] at h1;obtain⟨rfl,rfl⟩:=h1;exact j,wp_ret⟩
def So {id:Nat}:Wp κ (.exit id) S R=R (.exit id) S:=propext ⟨fun⟨m,o,S',h1,j⟩=>by
 cases m<;>simp[Je] at h1;obtain⟨rfl,rfl⟩:=h1;exact j,wp_exit⟩
def Sp:Wp κ .skip S R=R .norm S:=propext ⟨fun⟨m,o,S',h1,j⟩=>by
 cases m<;>simp[Je] at h1;obtain⟨rfl,rfl⟩:=h1;exact j,wp_skip⟩
theorem AX {b:C}:jl κ b R .norm S=Wp κ b S R:=rfl
theorem Ra {b:C}:jl κ b R .ret S=R .ret S:=rfl
theorem Rn {b:C} {id:Nat}:jl κ b R (.exit id) S=R (.exit id) S:=rfl
theorem Nt {id:Nat}:gm id R .norm S=R .norm S:=rfl
theorem Su {id:Nat}:gm id R .ret S=R .ret S:=rfl
theorem Q9 {id j:Nat}:gm id R (.exit j) S=if j=id then R .norm S else R (.exit j) S:=rfl
def Sn {x:bF} {a b:C}:Wp κ (.cond x a b) S R=wq κ a b S R (aK (fun _=>.undef) S.ρ x):=by
 refine propext ⟨fun h=>?_,fun h=>?_⟩
 ·have⟨m,j,S',h1,o⟩:=h;cases m with
  |zero=>simp[Je] at h1
  |succ m=>
   simp only[Je] at h1;split at h1
   ·rename_i t ht;rw[ht];refine⟨fun e=>?_,fun e=>?_⟩<;>subst e
    ·exact⟨m,j,S',h1,o⟩
    ·exact⟨m,j,S',h1,o⟩
   ·simp at h1
 ·unfold wq at h;split at h
  ·rename_i t ht;exact wp_cond t ht h.1 h.2
  ·exact h.elim
def U3 {a b:C}:wq κ a b S R (.bool true)=Wp κ a S R:=by simp[wq]
def U1 {a b:C}:wq κ a b S R (.bool false)=Wp κ b S R:=by simp[wq]
def Tm:Wr κ [] i e S Q=Q S:=by simp[Wr,Jr]
def FP {dst:Option Nat} {gl:Bool} {k:K}:Wr κ (⟨dst,gl,k,none⟩::ops) i e S Q=Ce κ dst gl ops i e Q (ev κ (dst.getD 0) e S k):=by
 unfold Wr Ce;simp only[Jr,step,Jk,Option.bind_assoc];cases ev κ (dst.getD 0) e S k with
 |none=>simp
 |some r=>
  have⟨v,j⟩:=r;simp only[Option.bind_some,FE,Wr]
theorem Sq {dst:Option Nat} {gl:Bool} {v:V}:Ce κ dst gl ops i e Q (some (v,S))=Wr κ ops (i+1) (aI e i v) (lV gl dst S v) Q:=rfl
def FJ {o:Op} (h:Jk e o.gd=some false):Wr κ (o::ops) i e S Q=Wr κ ops (i+1) (aI e i .un) (lV o.gl o.dst S .un) Q:=by
 have⟨dst,gl,k,gd⟩:=o;unfold Wr;simp only[Jr,step,h,FE,Option.bind_some]
def NJ {o:Op} (h:Jk e o.gd=some true):Wr κ (o::ops) i e S Q=Wr κ ({o with gd:=none}::ops) i e S Q:=by
 have⟨dst,gl,k,gd⟩:=o;have h0:Jk e (Op.mk dst gl k none).gd=some true:=rfl;unfold Wr;simp only[Jr,step,h,h0,FE]
def U4 {dst:Option Nat} {gl:Bool} {k:K} {j:Nat} {b:Bool}:Wr κ (⟨dst,gl,k,some (j,b)⟩::ops) i e S Q=mJ κ ⟨dst,gl,k,some (j,b)⟩ ops i e S Q b (e j):=by
 have u:∀t b':Bool,t≠b'->t=!b':=by decide
 unfold mJ;split
 ·rename_i w;exact FJ (by simp[Jk,w])
 ·rename_i t ht;refine propext ⟨fun h=>⟨fun p=>?_,fun p=>?_⟩,fun⟨h1,q⟩=>?_⟩
  ·rwa [NJ (by simp[Jk,ht,p])] at h
  ·rwa [FJ (by simp[Jk,ht,p])] at h
  ·by_cases o:t=b
   ·rw[NJ (by simp[Jk,ht,o])];exact h1 o
   ·rw[FJ (by simp[Jk,ht,o])];exact q (u _ _ o)
 ·rename_i h1 q;refine propext ⟨fun h=>?_,fun h=>h.elim⟩;obtain⟨S',h,-⟩:=h;simp only[Jr,step] at h;have:Jk e (some (j,b))=none:=by
   unfold Jk;simp only
  rw[this] at h;simp at h
theorem UB {dst:Option Nat} {gl:Bool} {k:K} {gd} {b}:mJ κ ⟨dst,gl,k,gd⟩ ops i e S Q b (.tuple [])=Wr κ ops (i+1) (aI e i .un) (lV gl dst S .un) Q:=rfl
def UA {dst:Option Nat} {gl:Bool} {k:K} {gd}:mJ κ ⟨dst,gl,k,gd⟩ ops i e S Q true (.bool true)=Wr κ (⟨dst,gl,k,none⟩::ops) i e S Q:=by simp[mJ]
def Tn {dst:Option Nat} {gl:Bool} {k:K} {gd}:mJ κ ⟨dst,gl,k,gd⟩ ops i e S Q false (.bool false)=Wr κ (⟨dst,gl,k,none⟩::ops) i e S Q:=by simp[mJ]
def Tp {dst:Option Nat} {gl:Bool} {k:K} {gd}:mJ κ ⟨dst,gl,k,gd⟩ ops i e S Q true (.bool false)=Wr κ ops (i+1) (aI e i .un) (lV gl dst S .un) Q:=by simp[mJ]
def To {dst:Option Nat} {gl:Bool} {k:K} {gd}:mJ κ ⟨dst,gl,k,gd⟩ ops i e S Q false (.bool true)=Wr κ ops (i+1) (aI e i .un) (lV gl dst S .un) Q:=by simp[mJ]
def SH {α:Type} {f:Nat->α} {k:Nat} {v:α}:aI f k v k=v:=by simp[aI]
def jr {α:Type} {f:Nat->α} {k i:Nat} {v:α} (h:(i == k)=false):aI f k v i=f i:=by
 have:i≠k:=by simpa using h
 simp[aI,this]
def io {o:Op} {t:Bool} (h1:t=true->Wr κ ({o with gd:=none}::ops) i e S Q) (j:t=false->Wr κ ops (i+1) (aI e i .un) (lV o.gl o.dst S .un) Q):mJ κ o ops i e S Q true (.bool t):=⟨h1,j⟩
def sj {o:Op} {t:Bool} (h1:t=false->Wr κ ({o with gd:=none}::ops) i e S Q) (j:t=true->Wr κ ops (i+1) (aI e i .un) (lV o.gl o.dst S .un) Q):mJ κ o ops i e S Q false (.bool t):=⟨h1,j⟩
def aY {a b:C} {t:Bool} (h1:t=true->Wp κ a S R) (j:t=false->Wp κ b S R):wq κ a b S R (.bool t):=⟨h1,j⟩
theorem Tc {l:Eq} {t:Nat}:(JC l).ρ t=(l[t]?).getD .undef:=rfl
theorem Tb {l:Eq}:(JC l).μ=fun _=>none:=rfl
theorem Ta {l:Eq}:(JC l).A=fun _=>none:=rfl
def LQ {σ:Type} (I:σ->St->Prop) (m:σ->Nat) (s:σ) (W L Wv Wa:List Nat) (Q:Ex->St->Prop):Ex->St->Prop
 |.norm,S'=>∃s',m s'<m s/\I s' (S'.head W L Wv Wa)
 |x,S'=>Q x S'
theorem RD {σ:Type} {I:σ->St->Prop} {m:σ->Nat} {s:σ} {W L Wv Wa:List Nat}:LQ I m s W L Wv Wa R .norm S=∃s',m s'<m s/\I s' (S.head W L Wv Wa):=rfl
theorem T5 {σ:Type} {I:σ->St->Prop} {m:σ->Nat} {s:σ} {W L Wv Wa:List Nat}:LQ I m s W L Wv Wa R .ret S=R .ret S:=rfl
theorem RC {σ:Type} {I:σ->St->Prop} {m:σ->Nat} {s:σ} {W L Wv Wa:List Nat} {id:Nat}:LQ I m s W L Wv Wa R (.exit id) S=R (.exit id) S:=rfl
def bu {W L Wv Wa:List Nat} {c:C} {σ:Type} (I:σ->St->Prop) (m:σ->Nat) (s:σ) (h0:I s (S.head W L Wv Wa))
  (j:∀s S,I s S->Wp κ c S (LQ I m s W L Wv Wa R)):Wp κ (.loop W L Wv Wa c) S R:=
 xl I m s h0 fun s S p=>(j s S p).mono fun o S' h=>by cases o<;>exact h
theorem TQ {Wv Wa:List Nat} {t:Nat}:(S.head [] [] Wv Wa).ρ t=Ji Wv Wa (S.ρ t):=rfl
theorem TP {Wv Wa:List Nat} {t:Nat}:(S.head [] [] Wv Wa).μ t=if Wv.contains t then none else (S.μ t).map fun m=>(bif Wa.isEmpty then m.1 else m.1.map (Ju Wa),m.2):=rfl
theorem R5 {Wv Wa:List Nat} {t:Nat}:(S.head [] [] Wv Wa).A t=if Wa.contains t then none else S.A t:=rfl
theorem Q3 {Wv Wa:List Nat} {k n}:Ji Wv Wa (.int k n)=.int k n:=rfl
theorem QN {Wv Wa:List Nat} {n}:Ji Wv Wa (.bool n)=.bool n:=rfl
theorem Q5 {Wv Wa:List Nat} {n}:Ji Wv Wa (.str n)=.str n:=rfl
theorem QG {Wv Wa:List Nat} {z n}:Ji Wv Wa (.slice z n)=.slice z n:=rfl
theorem QO {Wv Wa:List Nat} {z n}:Ji Wv Wa (.func z n)=.func z n:=rfl
theorem QP {Wv Wa:List Nat} {s o}:Ji Wv Wa (.lref s o)=if Wv.contains s then .undef else .lref s o:=rfl
theorem Q4 {Wv Wa:List Nat} {s z n}:Ji Wv Wa (.own s z n)=if Wa.contains s then .undef else .own s z n:=rfl
theorem QF {a b:Nat} {l:List Nat}:(a::l).contains b=((b == a)||l.contains b):=rfl
theorem QR {b:Nat}:([]:List Nat).contains b=false:=rfl
theorem Uu {v:V}:ni [v]=v:=rfl
theorem JgT {v v':V} {l:Eq}:ni (v::v'::l)=.tuple (v::v'::l):=rfl
theorem U8 {A j v}:oj A none j v=dT A v:=rfl
theorem vM {α:Type} {a:α} {l:List α}:(a::l)[0]?=some a:=rfl
theorem JgB {α:Type} {a:α} {l:List α} {n:Nat}:(a::l)[n+1]?=l[n]?:=rfl
end
section
open _root_.Go (IntKind BinOp UnOp)
variable {S:St} {A:Nat->Option (Nat×List Eq×Fz)}
def UE {o:BinOp} {k:IntKind} {a b:Int}:xy o (.int k a) (.int k b)=vH o k a b:=by simp[xy]
theorem UF {o:BinOp} {a b:mp}:xy o (.str a) (.str b)=AO o a b:=rfl
def Ut {k k':IntKind} {a:Int}:tx .shr (.int k a) (.int k' 1)=some (.int k (a.fdiv 2)):=by cases k<;>simp[tx,IntKind.bits]
def UQ {k:IntKind} {a b:Int}:xa .i (.int k a) (.int k b)=some (decide (a=b)):=by simp[xa]
theorem UP {a b:Bool}:xa .b (.bool a) (.bool b)=some (a == b):=rfl
theorem UR {a b:mp}:xa .s (.str a) (.str b)=some (decide (a=b)):=rfl
theorem Vc {b:Bool}:E6 .not (.bool b)=some (.bool !b):=rfl
theorem Va {z lo hi s}:uD true z (.str s) lo hi=(dp hi s.length).bind fun h => (dp lo 0).bind fun l =>
      if l <= h /\ h <= s.length then some (.str ((s.take h).drop l)) else none:=rfl
def U9 {z lo hi rows}:uD false z (.slice z rows) lo hi=(dp hi rows.length).bind fun h => (dp lo 0).bind fun l =>
      if l <= h /\ h <= rows.length then some (.slice z ((rows.take h).drop l)) else none:=by simp [uD]
theorem RL {d}:dp none d=some d:=rfl
def RK {k d} {n:Nat}:dp (some (.int k n)) d=some n:=by simp[dp]
theorem Un {z rows}:xA false (.slice z rows)=some (.int .i64 rows.length):=rfl
theorem Uo {s}:xA true (.str s)=some (.int .i64 s.length):=rfl
theorem Um {s z n}:xA false (.own s z n)=some (.int .i64 n):=rfl
def Uj {z rows k} {n:Nat}:kj z (.slice z rows) (.int k n)=(rows[n]?).map fun r=>.cptr r 0:=by simp[kj]
def Ui {s z m k} {n:Nat}:kj z (.own s z m) (.int k n)=if n<m then some (.eref s n 0 m) else none:=by simp[kj]
theorem UV {off s o}:xz off (.lref s o)=some (.lref s (o+off)):=rfl
theorem UU {off s i o n}:xz off (.eref s i o n)=some (.eref s i (o+off) n):=rfl
theorem UT {off cs o}:xz off (.cptr cs o)=some (.cptr cs (o+off)):=rfl
def Uk {s k} {n:Nat}:tQ (.str s) (.int k n)=(s[n]?).map fun b=>.int .u8 b.toNat:=by simp[tQ]
theorem US {i vs}:DK i (.tuple vs)=vs[i]?:=rfl
theorem SP {k k' n}:DD (.int k) (.int k' n)=some (.int k (k.wrap n)):=rfl
def U7 {s n off}:Jw S (.v s) n (.lref s off)=(S.μ s).bind fun m=>JU m.1 off n:=by simp[Jw]
theorem U5 {n cs off}:Jw S .c n (.cptr cs off)=JU cs off n:=rfl
def L3 (n:Option Nat) (i off m:Nat):Option (Nat×List Eq×Fz)->Option V
 |some (_,rows,f)=>if rows.length=m/\f≠.dead then (rows[i]?).bind fun r=>JU r off n else none
 |none=>none
theorem Ul {n i off m z rows f}:L3 n i off m (some (z,rows,f))=if rows.length=m/\f≠.dead then (rows[i]?).bind fun r=>JU r off n else none:=rfl
theorem U6 {s n i off m}:Jw S (.e s) n (.eref s i off m)=L3 n i off m (S.A s):=by
 unfold Jw L3;simp only[Gw]
 rfl
def na (S:St) (s off:Nat) (xs:Eq):Option (Eq×Bool)->Option St
 |some (cs,false)=>(JZ cs off xs).bind fun du=>some {S with μ:=aI S.μ s (some (du,false))}
 |_=>none
theorem DN {s off xs cs}:na S s off xs (some (cs,false))=(JZ cs off xs).bind fun du=>some ⟨S.ρ,aI S.μ s (some (du,false)),S.A⟩:=rfl
theorem vL {s n off x}:Jz S (.v s) n (.lref s off) x=x.cells.bind fun xs=>if xs.length=n then na S s off xs (S.μ s) else none:=by
 unfold Jz
 congr 1;funext xs
 split
 ·simp only[Gw];split
  ·rename_i h;rw[h];rfl
  ·rename_i h;unfold na;split
   ·rename_i cs j;exact absurd j (h cs)
   ·rfl
 ·rfl
theorem RT {k n}:(V.int k n).cells=some [.int k n]:=rfl
theorem RS {n}:(V.bool n).cells=some [.bool n]:=rfl
theorem RW {n}:(V.str n).cells=some [.str n]:=rfl
theorem RV {z n}:(V.slice z n).cells=some [.slice z n]:=rfl
theorem RR {n}:(V.agg n).cells=some n:=rfl
theorem RU {s z n}:(V.own s z n).cells=some [.own s z n]:=rfl
def Ty {z rows}:V.rowsOf z (.slice z rows)=some rows:=by simp[V.rowsOf]
theorem Tz {s}:V.rowsOf 1 (.str s)=some (s.map fun b=>[.int .u8 b.toNat]):=rfl
theorem UW {k n}:dT A (.int k n)=some (.int k n):=rfl
theorem Ug {n}:dT A (.bool n)=some (.bool n):=rfl
theorem UZ {n}:dT A (.str n)=some (.str n):=rfl
theorem UY {z n}:dT A (.slice z n)=some (.slice z n):=rfl
theorem Uh {z n}:dT A (.func z n)=some (.func z n):=rfl
theorem Uf {n}:dT A (.agg n)=(Jn (cn A) n).map .agg:=rfl
theorem UX {s z n}:dT A (.own s z n)=cn A (.own s z n):=rfl
theorem TG {k n}:cn A (.int k n)=some (.int k n):=rfl
theorem TF {n}:cn A (.bool n)=some (.bool n):=rfl
theorem Th {n}:cn A (.str n)=some (.str n):=rfl
theorem TI {z n}:cn A (.slice z n)=some (.slice z n):=rfl
theorem ND {z}:cn A (.nslice z)=some (.slice z []):=rfl
def DM (z n:Nat):Option (Nat×List Eq×Fz)->Option V
 |some (z',rows,f)=>if z'=z/\rows.length=n/\f≠.dead then some (.slice z rows) else none
 |none=>none
def Tq {z n:Nat} {rows f}:DM z n (some (z,rows,f))=if rows.length=n/\f≠.dead then some (.slice z rows) else none:=by simp[DM]
theorem TH {s z n}:cn A (.own s z n)=DM z n (A s):=by unfold cn DM;rfl
def FW (n:Option Nat):Option (Eq×Bool)->Option V
 |some (cs,_)=>JU cs 0 n
 |none=>none
theorem Tw {n cs f}:FW n (some (cs,f))=JU cs 0 n:=rfl
def FX (S:St) (n:Option Nat):V->Option V
 |.lref s 0=>FW n (S.μ s)
 |_=>none
theorem Tx {n s}:FX S n (.lref s 0)=FW n (S.μ s):=rfl
theorem Tv {t}:iV S (.t t)=some (S.ρ t):=rfl
theorem Tu {a n}:iV S (.cell a n)=FX S n (S.ρ a):=by
 simp only[iV,FX];generalize S.ρ a=x;cases x with
 |lref s o=>cases o with
  |zero=>rfl
  |succ o=>rfl
 |_=>rfl
theorem TZ {cs:Eq} {off}:JU cs off none=cs[off]?:=rfl
theorem T1 {cs:Eq} {off n}:JU cs off (some n)=if off+n<=cs.length then some (.agg ((cs.drop off).take n)) else none:=rfl
theorem RO {κ d own fc avs}:fh κ d S .no own fc avs=if avs.all V.dat then (κ fc.1 (avs++fc.2)).bind fun r=>ea d S own r else none:=rfl
theorem RM {κ d own fc avs}:fh κ d S .borrow own fc avs=(Jn (dT S.A) avs).bind fun j=>(κ fc.1 (j++fc.2)).bind fun r=>if r.scalar then some (r,S) else none:=rfl
theorem RN {κ d own fc avs}:fh κ d S .freeze own fc avs=(Jn (dT S.A) avs).bind fun j=>(κ fc.1 (j++fc.2)).bind fun r=>ea d {S with A:=JL S.A (avs.flatMap Jd)} own r:=rfl
theorem Sr {d r}:ea d S none r=some (r,S):=rfl
def CY (d:Nat) (S:St) (z:Nat) (rows:List Eq):Option (Nat×List Eq×Fz)->Option (V×St)
 |none=>some (.own d z rows.length,⟨S.ρ,S.μ,aI S.A d (some (z,rows,.live))⟩)
 |some _=>none
theorem UC {d z rows}:CY d S z rows none=some (.own d z rows.length,⟨S.ρ,S.μ,aI S.A d (some (z,rows,.live))⟩):=rfl
def Ss {d j z rows}:ea d S (some j) (.slice z rows)=CY d S z rows (S.A d):=by
 simp only[ea,CY];cases S.A d<;>rfl
def CZ (S:St) (s z n:Nat) (y:V):Option (Nat × List Eq × Fz) -> Option (V × St)
  | some (z'', rows, .live) => if z'' = z /\ rows.length=n then (V.rowsOf z y).bind fun j =>
          if rows.length + j.length <= aU then some (.own s z (rows.length + j.length), { S with A:=aI S.A s (some (z, rows ++ j, .live)) }) else none
        else none
  | _ => none
theorem NU {s z n y}:JX S s z (.own s z n) y=CZ S s z n y (S.A s):=by
 simp only[JX,CZ,and_self,Gw]
 rfl
theorem NL {s z n y s'}:jD S s z (.own s' z n) y=JX S s z (.own s' z n) y:=rfl
def DL (S:St) (s z:Nat) (y:V):Option (Nat×List Eq×Fz)->Option (V×St)
 |none=>(V.rowsOf z y).bind fun j=>if j.length<=aU then some (.own s z j.length,{S with A:=aI S.A s (some (z,j,.live))}) else none
 |some _=>none
def NK {s z y}:jD S s z (.nslice z) y=DL S s z y (S.A s):=by
 simp only[jD,DL,Gw];cases S.A s<;>rfl
def NT {s z n y rows}:CZ S s z n y (some (z, rows, .live))=if rows.length=n then (V.rowsOf z y).bind fun j =>
          if rows.length + j.length <= aU then some (.own s z (rows.length + j.length), ⟨S.ρ, S.μ, aI S.A s (some (z, rows ++ j, .live))⟩) else none
        else none:=by simp [CZ]
theorem Ny:JL A []=A:=rfl
theorem S7 {n}:Jd (.bool n)=[]:=rfl
theorem S9 {z n}:Jd (.slice z n)=[]:=rfl
theorem S6 {n}:Jd (.agg n)=n.flatMap Jc:=rfl
theorem S8 {s z n}:Jd (.own s z n)=[s]:=rfl
theorem Sd {k n}:Jc (.int k n)=[]:=rfl
theorem Si {n}:Jc (.str n)=[]:=rfl
theorem Sf {z n}:Jc (.slice z n)=[]:=rfl
theorem Se {s z n}:Jc (.own s z n)=[s]:=rfl
theorem Rh {f:V->List Nat}:[].flatMap f=[]:=rfl
theorem Nx {f:V->List Nat} {a l}:(a::l).flatMap f=f a++l.flatMap f:=rfl
theorem Rj {s l}:JL A (s::l)=JL (aI A s ((A s).map fun (z,rows,f)=>(z,rows,if f=.live then .frz else f))) l:=rfl
theorem TB {k n}:(V.int k n).scalar=true:=rfl
theorem TA {n}:(V.bool n).scalar=true:=rfl
theorem TC {n}:(V.str n).scalar=true:=rfl
theorem UL {k n}:(V.int k n).dat=true:=rfl
theorem UJ {n}:(V.bool n).dat=true:=rfl
theorem UN {n}:(V.str n).dat=true:=rfl
theorem UM {z n}:(V.slice z n).dat=true:=rfl
theorem UK {z n}:(V.func z n).dat=true:=rfl
theorem UI {n}:(V.agg n).dat=n.all V.datC:=rfl
theorem Sx {k n}:(V.int k n).datC=true:=rfl
theorem Sw {n}:(V.bool n).datC=true:=rfl
theorem Sz {n}:(V.str n).datC=true:=rfl
theorem Sy {z n}:(V.slice z n).datC=true:=rfl
end
attribute [go_sem] Tk NE Ns SK So Sp AX Ra Rn Nt Su Q9 Sn U3 U1 Tm FP Sq U4 UB UA Tn Tp To SH jr S5 Ts Tt Tc Tb Ta vM JgB
attribute [go_sem] RD T5 RC TQ TP R5 Q3 QN Q5 QG QO QP Q4 QF QR List.isEmpty_nil List.isEmpty_cons Bool.or_false Bool.false_or Bool.or_true Bool.true_or Bool.false_eq_true
attribute [go_sem] ev aK vH AO callee Jn J2 tO pr jT U8 Uu JgT
attribute [go_sem] NL NK ND UE UF Ut UQ UP UR Vc Va U9 RL RK Un Uo Um Uj Ui UV UU UT Uk US SP U7 U5 U6 vL RT RS RW RV RR RU Ty Tz UW Ug UZ UY Uf Uh UX TG TF Th TI TH Tv Tu TZ T1 RO RM RN Sr TB TA TC UL UJ UN UM UI UK Sx Sw Sz Sy Jj List.reduceReplicate List.set_cons_zero List.set_cons_succ Nat.reduceLT Nat.reduceEqDiff and_self Ny Rj S7 S9 S6 S8 Sd Si Sf Se Rh Nx Ss UC NU NT ne_eq not_false_eq_true DN Ul Tq Tw Tx JZ List.length_map List.getElem?_map List.drop_zero List.drop_succ_cons List.take_succ_cons List.take_zero List.drop_nil List.take_nil Nat.reduceLeDiff Nat.zero_add Nat.add_zero
attribute [go_sem] Option.bind_some Option.bind_none Option.getD_some Option.getD_none Nat.reduceBEq Nat.reduceAdd reduceIte List.length_cons List.length_nil List.map_cons List.map_nil List.all_cons List.all_nil Option.map_some Option.map_none cond_true cond_false Bool.and_true Bool.true_and Bool.and_false Bool.false_and Bool.false_xor Bool.true_xor Nat.zero_le Nat.le_add_right Nat.le_refl beq_self_eq_true Int.ofNat_zero Int.cast_ofNat_Int decide_true decide_false Int.reduceEq Int.reduceLT Int.reduceLE Bool.not_true Bool.not_false List.length_append List.append_nil List.nil_append List.cons_append reduceCtorEq or_true true_or true_and and_true false_or or_false ite_true ite_false eq_self List.getElem?_nil
abbrev iz (n:Int):V:=.int .i64 n
def bv {n:Int} (h1:-9223372036854775808<=n) (j:n<=9223372036854775807):_root_.Go.IntKind.i64.wrap n=n:=_root_.Go.IntWalk.i64_in n ⟨h1,j⟩
def aZ {α:Type} {l:List α} {i:Nat} (h:i<l.length):∃x,l[i]?=some x/\l.drop i=x::l.drop (i+1):=
 ⟨l[i],by simp[h],List.drop_eq_getElem_cons h⟩
end Sg
namespace Sg
open _root_.Go
def bO (z:Nat) (zero:Eq):F where
 np:=1
 gl:=[0,2,4]
 res:=[.t 2]
 own:=some 0
 body:=.seq (.region false [⟨some 2,true,.mov (.c (.slice z [])),none⟩])
  (.seq (.seq (.region false [⟨some 3,false,.mov (.g 0),none⟩,⟨some 4,true,.nilq (.l 0),none⟩])
   (.cond (.g 4) (.seq (.region false [⟨some 2,true,.mko z,none⟩]) .ret) .skip))
  (.seq (.region false [⟨some 5,false,.mkb z 0 zero [],none⟩,⟨some 6,false,.mov (.g 0),none⟩,⟨some 7,false,.app 5 z (.l 0) (.l 1),none⟩,⟨some 2,true,.mov (.l 2),none⟩]) .ret))
def b7 (id:Nat) (F:F):Nat->Option Fn:=fun k=>if k=id then some (.code F) else none
def jh {P:Program} {cx:Cx} {id:Nat} {F:F} (hm:P.follows .mixedOrders=true) (hok:jg P cx (b7 id F) (cx.fm id) F=true) (n f:Nat) (args:Eq) (r:V) (h:Jm (b7 id F) n f args=some r) :
  jR P cx (aR (b7 id F) f) f args r:=
 (J0 (P:=P) (cx:=cx) (Pg:=b7 id F) hm (fun f F hF=>by
   unfold b7 at hF;split at hF<;>simp only[Gb,Fn.code.injEq,reduceCtorEq] at hF;rename_i e;subst e;subst hF;exact hok) (fun f own p hp=>by
   unfold b7 at hp;split at hp<;>simp at hp) (fun f z p _ hp=>by
   unfold b7 at hp;split at hp<;>simp at hp) (fun f z p hp=>by
   unfold b7 at hp;split at hp<;>simp at hp) (fun f F k hp=>by
   unfold b7 at hp;split at hp<;>simp at hp) (fun f own p hp=>by
   unfold b7 at hp;split at hp<;>simp at hp) n f args r h).1
theorem NS {A v}:oj A (some 0) 0 v=match v with
  |.own s z n=>match A s with
   |some (z',rows,.live)=>if z'=z/\rows.length=n then some (.slice z rows) else none
   |_=>none
  |_=>none:=by simp only[oj,Gw];rfl
def Rl (id z:Nat) (zero:Eq):K' (b7 id (bO z zero)) id [.nslice z]=some (.slice z []):=by
 refine aA (F:=bO z zero) (by simp[b7]) rfl ?_;simp[go_sem,bO,NS]
def Rm (id z:Nat) (zero:Eq) (rows:List Eq) (h:rows.length<=aU):K' (b7 id (bO z zero)) id [.xslice z rows]=some (.slice z rows):=by
 refine aA (F:=bO z zero) (by simp[b7]) rfl ?_;simp[go_sem,bO,NS,V.rowsOf,h]
def dH {P:Program} {cx:Cx} {id z:Nat} {zero:Eq} (hm:P.follows .mixedOrders=true) (H:jg P cx (b7 id (bO z zero)) (cx.fm id) (bO z zero)=true) :
  ∀args r,bJ z args=some r->jR P cx (some 0) id args r:=by
 intro args r h
 unfold bJ at h
 split at h<;>try (simp at h;done)
 rename_i j rows
 split at h<;>simp only[Gb,reduceCtorEq] at h
 rename_i E
 obtain⟨E,rfl⟩:=E
 subst h
 have own:aR (b7 id (bO j zero)) id=some 0:=by simp[aR,b7,bO]
 have all:∀args r,K' (b7 id (bO j zero)) id args=some r->jR P cx (some 0) id args r:=fun args r N=>by
  have⟨n,O⟩:=eF.1 N;have:=jh hm H n id args r O;rwa [own] at this
 have I:=all _ _ (Rl id j zero)
 have M:=all _ _ (Rm id j zero rows E)
 refine⟨I.1,fun w X vs L q J D B=>?_⟩
 have⟨u,hu,Q⟩:=B 0 (by simp)
 have one:∀x,aC cx w X u x->∀i,i<[x].length->∃u,vs[i]?=some u/\aC cx w X u (gv [x] i):=fun x R i hi=>by
  have:i=0:=by simp at hi;exact hi
  subst this;exact⟨u,hu,R⟩
 have y:aC cx w X u (.slice j rows):=Q
 have p:(u=.slice none 0 0/\rows=[])\/∃a n c,u=.slice (some a) n c:=by
  rcases JB y with⟨⟨a,rfl⟩,rfl⟩|⟨b,o,aN,c,e,fr,rfl,-⟩
  ·cases a with
   |none=>exact .inl ⟨rfl,rfl⟩
   |some a=>exact .inr ⟨_,_,_,rfl⟩
  ·exact .inr ⟨_,_,_,rfl⟩
 rcases p with⟨rfl,rfl⟩|⟨a,n,c,rfl⟩
 ·exact I.2 w X vs L q J (by simpa using D) (one _ (.nslice j))
 ·exact M.2 w X vs L q J (by simpa using D) (one _ (.xslice a n c j rows y))
end Sg
namespace Sg
open _root_.Go _root_.Go.RowKit _root_.Go.Proofs
def dN (l:mp):Nat×Nat:=Lib.decodeN l.length (l.getD 0 0).toNat (l.getD 1 0).toNat (l.getD 2 0).toNat (l.getD 3 0).toNat
def ol (l:mp):Nat×Nat:=if l=[] then (65533,0) else dN l
theorem get!_list (s:ByteArray) (i:Nat):s.get! i=s.data.toList.getD i 0:=by
 show s.data[i]! = _
 by_cases h:i<s.data.size
 ·rw[getElem!_pos s.data i h,List.getD_eq_getElem?_getD,Array.getElem?_toList,Array.getElem?_eq_getElem h]
  rfl
 ·rw[getElem!_neg s.data i h,List.getD_eq_getElem?_getD,List.getElem?_eq_none (by simpa using h)]
  rfl
def eL (s:ByteArray) (i:Nat):Utf8.decode s i=dN (s.data.toList.drop i):=by
 rw[Lib.decode_at];have j:s.size-i=(s.data.toList.drop i).length:=by
  rw[GP,Array.length_toList];rfl
 have e:∀k,s.get! (i+k)=(s.data.toList.drop i).getD k 0:=fun k=>by
  rw[get!_list,List.getD_eq_getElem?_getD,List.getD_eq_getElem?_getD,List.getElem?_drop]
 simp only[dN,j,<-e,Nat.add_zero]
def MV (s:ByteArray):Lib.decodeGo s=ol s.data.toList:=by
 have j:s.size=s.data.toList.length:=by rw[Array.length_toList];rfl
 unfold Lib.decodeGo ol;by_cases h:s.data.toList=[]
 ·rw[Gt h,Gt (by rw[j,h];rfl)]
 ·rw[Gn h,Gn (by rw[j];intro e;exact h (GJ e)),eL];simp
def nf (s:ByteArray) (pos:Nat):1<=(Utf8.decode s pos).2:=by
 rw[Lib.decode_at];unfold Lib.decodeN
 repeat' split
 all_goals simp
def QS (s:ByteArray) (pos n:Nat) (j:n=s.size):(s.extract pos n).data.toList=s.data.toList.drop pos:=by
 have o:s.size=s.data.toList.length:=by rw[Array.length_toList];rfl
 rw[ByteArray.data_extract,Array.toList_extract,List.extract_eq_take_drop,tG];rw[GP];omega
def iA (s:ByteArray) (pos n:Nat) (j:n=s.size) (o:pos<s.size):Lib.decodeGo (s.extract pos n)=Utf8.decode s pos:=by
 have p:s.size=s.data.toList.length:=by rw[Array.length_toList];rfl
 rw[MV,QS s pos n j,eL,ol,Gn];intro e;have:=gp List.length e;rw[GP] at this;simp only[List.length_nil] at this;omega
def ti (s:ByteArray) (pos:Nat) (j:pos<s.size):s.data.toList.drop pos≠[]:=fun e=>by
 have o:s.size=s.data.toList.length:=by rw[Array.length_toList];rfl
 have:=gp List.length e;rw[GP] at this;simp only[List.length_nil] at this;omega
theorem gh (s:ByteArray):s.data.toList.length=s.size:=by rw[Array.length_toList];rfl
def oX:Eq->Option V
 |[.str s]=>some (.tuple [.int .i32 (ol s).1,.int .i64 (ol s).2])
 |_=>none
section
variable {P:Program} {cx:Cx}
def Nw {w:World} {X:Nat->Prop} {u:Value} {l:mp} (h:aC cx w X u (.str l)):∃s:ByteArray,u=.string s/\s.data.toList=l:=by
 cases h;exact⟨_,rfl,rfl⟩
def NF {vs:Array Value} (h:vs.size=1) {u:Value} (h0:vs[0]?=some u):vs=#[u]:=by
 apply Array.ext_getElem?;intro i;rcases GF i 1 with hi|hi
 ·have:i=0:=by omega
  subst this;simpa using h0
 ·rw[Array.getElem?_eq_none (by omega),Array.getElem?_eq_none (by simpa using hi)]
def Ti {w:World} {X:Nat->Prop} {a b:Value} {x y:V} (h1:aC cx w X a x) (j:aC cx w X b y):aC cx w X (.tuple #[a,b]) (.tuple [x,y]):=
 .tuple _ _ (fun i=>if i=0 then a else b) rfl (fun i hi=>by
  match i,hi with
  |0,_=>rfl
  |1,_=>rfl
  |n+2,hi=>exact absurd hi (by simp)) (fun i hi=>by
  match i,hi with
  |0,_=>simpa [gv] using h1
  |1,_=>simpa [gv] using j
  |n+2,hi=>exact absurd hi (by simp))
def th {id:Nat} (q:pj P (cx.fm id)) (p:∀(s:ByteArray) (w:World),cx.G w->Calls P (cx.fm id) #[.string s] w fun e w'=>e=.returned (.tuple #[.int .i32 (Lib.decodeGo s).1,.int .i64 (Lib.decodeGo s).2])/\Below w.heap.size w w') :
  ∀args r,oX args=some r->jR P cx none id args r:=by
 intro args r h
 unfold oX at h
 split at h<;>simp only[Gb,reduceCtorEq] at h
 rename_i l
 subst h
 refine⟨q,fun w X vs H D y o j=>?_⟩
 have⟨u,hu,E⟩:=j 0 (by simp)
 obtain⟨s,rfl,rfl⟩:=Nw (l:=l) E
 rw[NF (by simpa using o) hu]
 refine (p s w y).mono fun e w' ⟨B,z⟩=>?_
 subst B
 rw[MV]
 exact⟨_,rfl,z,Ti (.int _ _) (.int _ _)⟩
def cM (r n:Int):Bool:=decide (33<=r)&&(decide (r<127)||decide (159<r))&&(!decide (r=65533)||decide (n=3))
def bK:Nat->mp->Bool
 |0,_=>true
 |f+1,l=>if l=[] then true else cM (dN l).1 (dN l).2&&bK f (l.drop (dN l).2)
def aS (l:mp):Bool:=bK l.length l&&(decide (1<=l.length)&&decide (l.length<=16))
def mX:Eq->Option V
 |[.str s]=>some (.bool (aS s))
 |_=>none
def tu {id:Nat} (y:pj P (cx.fm id)) (q:∀(s:ByteArray) (w:World),cx.gn<=w.heap.size->cx.G w->Calls P (cx.fm id) #[.string s] w fun e w'=>e=.returned (.bool (aS s.data.toList))/\Below w.heap.size w w') :
  ∀args r,mX args=some r->jR P cx none id args r:=by
 intro args r h
 unfold mX at h
 split at h<;>simp only[Gb,reduceCtorEq] at h
 rename_i l
 subst h
 refine⟨y,fun w X vs H o z p j=>?_⟩
 have⟨u,hu,E⟩:=j 0 (by simp)
 obtain⟨s,rfl,rfl⟩:=Nw (l:=l) E
 rw[NF (by simpa using p) hu]
 refine (q s w o z).mono fun e w' ⟨D,B⟩=>?_
 subst D
 exact⟨_,rfl,B,.bool _⟩
end
end Sg
namespace Sg
open Go Go.RowKit Go.Lib Go.Proofs
variable {P:Program} {Z:Nat} {TS EL:TypeId}
def jL (E:P.underlying TS=some (.slice EL)) (D:(P.info? EL).map (·.size)=some Z) (b off n c i I o m X:Nat) (cs vs:List Value) (w:World) (hi:i<n) (hm:0<m) (R:I≠b)
  (N:cs.length=n*Z) (S:vs.length=m*Z)
  (O:∀j v,cs[j]?=some v->w.cell? ⟨b,off+j,none⟩=some v) (u:∀j,j<(n+m)*Z->(w.cell? ⟨b,off+j,none⟩).isSome=true) (z:∀j,w.frozen? ⟨b,j,none⟩=false)
  (T:∀j v,vs[j]?=some v->w.cell? ⟨I,o+j,none⟩=some v) (J:∀v∈cs,v.oneCell'=true) (L:∀v∈vs,v.oneCell'=true) :
  ∃H,H=w.drew.setCells b (off+(i+m)*Z) (cs.drop (i*Z))/\
  (∀ty q U,(Builtin.copy_ #[TS,TS] ty #[.slice (some ⟨b,off+(i+m)*Z,none⟩) (n+m-(i+m)) q,.slice (some ⟨b,off+i*Z,none⟩) (n+m-i) U]).run P w.drew=.ok (goInt (n-i:Nat)) H)/\
  ∀(W:World),(∀x,W.cell? x=H.cell? x)->(∀x,W.frozen? x=H.frozen? x)->∀ty q,(Builtin.copy_ #[TS,TS] ty #[.slice (some ⟨b,off+i*Z,none⟩) (n+m-i) q,.slice (some ⟨I,o,none⟩) m X]).run P W=.ok (goInt (m:Nat)) (W.setCells b (off+i*Z) vs):=by
 have e1:(i+m)*Z=i*Z+m*Z:=jn ..
 have e2:(n+m)*Z=n*Z+m*Z:=jn ..
 have e3:(n-i)*Z=n*Z-i*Z:=Nat.sub_mul ..
 have e4:i*Z<=n*Z:=GU _ (by omega)
 have Q:(cs.drop (i*Z)).length=(n-i)*Z:=by rw[GP,N];omega
 refine⟨_,rfl,fun ty q U=>?_,fun W y M ty q=>?_⟩
 ·exact J6 Z w.drew _ _ ty EL b (off+(i+m)*Z) (n+m-(i+m)) q ⟨b,off+i*Z,none⟩ (n+m-i) U (cs.drop (i*Z)) (n-i) E D (by simp only[Nat.min_def];split<;>omega) (by rw[Q])
   (fun j v p=>by rw[Addr.add_lit,lU];exact O (i*Z+j) v (by rwa [List.getElem?_drop] at p))
   (fun j p=>by rw[lU];exact u _ (by omega)) (fun j p=>z _) (fun v hv=>J v (tH hv))
 ·have B:∀k,k<(n+m)*Z->((w.drew.setCells b (off+(i+m)*Z) (cs.drop (i*Z))).cell? ⟨b,off+k,none⟩).isSome=true:=fun k Y=>
   eM b _ _ _ (fun j p=>by rw[lU];exact u _ (by omega)) _ (u k Y)
  exact J6 Z W _ _ ty EL b (off+i*Z) (n+m-i) q ⟨I,o,none⟩ m X vs m E D (by simp only[Nat.min_def];split<;>omega) S
   (fun j v p=>by
    rw[Addr.add_lit,y,World.cell?_setCells_out b _ _ _ _ (fun h _=>absurd h R)];exact T j v p)
   (fun j p=>by rw[y,lU];exact B _ (by omega)) (fun j p=>by rw[M,World.frozen?_setCells];exact z _) L
def jM (I:P.underlying TS=some (.slice EL)) (t3:P.underlying 3=some (.int .i64)) (z:TypeInfo) (L:Value) (T:P.info? EL=some z) (ar:z.zero=some L) (ab:z.size=Z) (hZ:0<Z) (R:z.bytes<=65536) (aa:∀k,(Builtin.zeroCells L.cells k).size=k*Z)
  (b off n c i J y m vc:Nat) (cs vs:List Value) (w:World) (hi:i<n) (hm:0<m) (au:n<=c) (E:c<n+m) (X:n+m<=1073741824)
  (ak:cs.length=n*Z) (ao:vs.length=m*Z) (aj:b<w.heap.size) (aq:J<w.heap.size)
  (S:∀j v,cs[j]?=some v->w.cell? ⟨b,off+j,none⟩=some v)
  (ap:∀j v,vs[j]?=some v->w.cell? ⟨J,y+j,none⟩=some v) (ac:∀v∈cs,v.oneCell'=true) (ad:∀v∈vs,v.oneCell'=true) :
  ∃(G:Nat) (o:Array Value),n+m<=G/\(n+m)*Z<=o.size/\o.size=G*Z/\(∀(j:Nat) (v:Value),(cs.take (i*Z))[j]?=some v->o[j]?=some v)/\G<=9223372036854775807/\
  (∀ty,(Builtin.append_ #[TS,3] ty #[.slice (some ⟨b,off,none⟩) i c,.int .i64 ((n:Int)+(m:Int)-(i:Int))]).run P w=.ok (.slice (some ⟨w.heap.size,0,none⟩) (n+m) G) (w.drew.alloc (.cells o EL)))/\
  (∀(W:World),(∀x,W.cell? x=(w.drew.alloc (.cells o EL)).cell? x)->(∀x,W.frozen? x=(w.drew.alloc (.cells o EL)).frozen? x)->∀ty B,(Builtin.copy_ #[TS,TS] ty #[.slice (some ⟨w.heap.size,i*Z,none⟩) (n+m-i) B,.slice (some ⟨J,y,none⟩) m vc]).run P W=.ok (goInt (m:Nat)) (W.setCells w.heap.size (i*Z) vs))/\
  ∀(W:World),(∀x,W.cell? x=((w.drew.alloc (.cells o EL)).setCells w.heap.size (i*Z) vs).cell? x)->(∀x,W.frozen? x=((w.drew.alloc (.cells o EL)).setCells w.heap.size (i*Z) vs).frozen? x)->∀ty B sc,(Builtin.copy_ #[TS,TS] ty #[.slice (some ⟨w.heap.size,(i+m)*Z,none⟩) (n+m-(i+m)) B,.slice (some ⟨b,off+i*Z,none⟩) (n-i) sc]).run P W=.ok (goInt (n-i:Nat)) (W.setCells w.heap.size ((i+m)*Z) (cs.drop (i*Z))):=by
 have e1:(i+m)*Z=i*Z+m*Z:=jn ..
 have e2:(n+m)*Z=n*Z+m*Z:=jn ..
 have e3:(n-i)*Z=n*Z-i*Z:=Nat.sub_mul ..
 have e5:(n+m-i)*Z=n*Z+m*Z-i*Z:=by rw[Nat.sub_mul,e2]
 have e4:i*Z<=n*Z:=GU _ (by omega)
 have Y:(P.info? EL).map (·.size)=some Z:=by rw[T];simp[ab]
 have an:(n:Int)+(m:Int)-(i:Int)=((n+m-i:Nat):Int):=by omega
 have U:i+(n+m-i)=n+m:=by omega
 have hold:(Builtin.firstCells z.size i (.slice (some ⟨b,off,none⟩) i c)).run P w.drew=.ok (cs.take (i*Z)).toArray w.drew:=by
  rw[ab];exact run_firstCells_some w.drew Z i ⟨b,off,none⟩ i c (cs.take (i*Z)) (by rw[GK];omega) (fun j v p=>by
   rw[Addr.add_lit];rw[List.getElem?_take] at p;split at p
   ·exact S j v p
   ·cases p)
 have b1:(n+m-i)*z.bytes<=1073741824*65536:=Nat.mul_le_mul (by omega) R
 have b2:(n+m)*z.bytes<=1073741824*65536:=Nat.mul_le_mul X R
 have H:∀ty,(Builtin.append_ #[TS,3] ty #[.slice (some ⟨b,off,none⟩) i c,.int .i64 ((n:Int)+(m:Int)-(i:Int))]).run P w=
   .ok (.slice (some ⟨w.heap.size,0,none⟩) (n+m) (grownCap w (n+m) c EL)) (w.drew.alloc (.cells ((cs.take (i*Z)).toArray++Builtin.zeroCells L.cells (n+m-i)++Builtin.zeroCells L.cells (grownCap w (n+m) c EL-(n+m))) EL)):=fun ty=>by
  have h:=Lib.run_append_grow_zeros w TS 3 ty EL z _ .i64 .i64 I t3 T ar (some ⟨b,off,none⟩) i c (cs.take (i*Z)) hold (n+m-i) (by omega) (by omega) (by omega) (by omega) (by omega) (by rw[U];exact growslice_fits E (by omega))
  rw[U] at h
  rw[an]
  exact h
 obtain⟨G,hG⟩:∃G,G=grownCap w (n+m) c EL:=⟨_,rfl⟩
 obtain⟨o,q⟩:∃o:Array Value,o=(cs.take (i*Z)).toArray++Builtin.zeroCells L.cells (n+m-i)++Builtin.zeroCells L.cells (G-(n+m)):=⟨_,rfl⟩
 rw[<-hG] at H
 rw[<-q] at H
 have N:n+m<=G:=by rw[hG];exact grownCap_ge w _ _ _
 have e6:(G-(n+m))*Z=G*Z-(n+m)*Z:=Nat.sub_mul ..
 have e7:(n+m)*Z<=G*Z:=GU _ N
 have Q:o.size=G*Z:=by
  rw[q,Array.size_append,Array.size_append,aa,aa,rh,GK];omega
 have ag:(n+m)*Z<=o.size:=by rw[Q];omega
 have ah:∀(j:Nat) v,(cs.take (i*Z))[j]?=some v->o[j]?=some v:=fun j v p=>by
  have am:j<(cs.take (i*Z)).length:=by
   rcases GF j (cs.take (i*Z)).length with h|h
   ·exact h
   ·rw[List.getElem?_eq_none h] at p;simp at p
  rw[q,Array.append_assoc,Array.getElem?_append_left (by simpa using am)];simpa using p
 have hN:∀j,j<(n+m)*Z->((w.drew.alloc (.cells o EL)).cell? ⟨w.heap.size,j,none⟩).isSome=true:=fun j p=>by
  rw[World.cell?_alloc_at (w:=w.drew) o _ w.heap.size j rfl,Array.getElem?_eq_getElem (by omega)];rfl
 have O:∀j,(w.drew.alloc (.cells o EL)).frozen? ⟨w.heap.size,j,none⟩=false:=fun j=>World.frozen?_alloc_at (w:=w.drew) o _ w.heap.size j rfl
 have ae:∀j v,w.cell? ⟨b,j,none⟩=some v->(w.drew.alloc (.cells o EL)).cell? ⟨b,j,none⟩=some v:=fun j v h=>by rw[World.cell?_alloc_past (w:=w.drew) _ b j aj];exact h
 have af:∀j v,w.cell? ⟨J,j,none⟩=some v->(w.drew.alloc (.cells o EL)).cell? ⟨J,j,none⟩=some v:=fun j v h=>by rw[World.cell?_alloc_past (w:=w.drew) _ J j aq];exact h
 have M:G<=9223372036854775807:=by
  have:=grownCap_le_maxLen w (n+m) c EL (by unfold maxLen;omega);rw[<-hG] at this;unfold maxLen at this;omega
 have ai:b≠w.heap.size:=by omega
 have al:(cs.drop (i*Z)).length=(n-i)*Z:=by rw[GP,ak];omega
 refine⟨G,o,N,ag,Q,ah,M,H,fun W u D ty B=>?_,fun W u D ty B sc=>?_⟩
 ·exact J6 Z W _ _ ty EL w.heap.size (i*Z) (n+m-i) B ⟨J,y,none⟩ m vc vs m I Y (by simp only[Nat.min_def];split<;>omega) ao
   (fun j v p=>by rw[Addr.add_lit,u];exact af _ v (ap j v p))
   (fun j p=>by rw[u];exact hN _ (by omega)) (fun j p=>by rw[D];exact O _) ad
 ·exact J6 Z W _ _ ty EL w.heap.size ((i+m)*Z) (n+m-(i+m)) B ⟨b,off+i*Z,none⟩ (n-i) sc (cs.drop (i*Z)) (n-i) I Y (by simp only[Nat.min_def];split<;>omega) al
   (fun j v p=>by
    rw[Addr.add_lit,u,World.cell?_setCells_out _ _ _ _ _ (fun h _=>absurd h ai),lU];exact ae _ v (S (i*Z+j) v (by rwa [List.getElem?_drop] at p)))
   (fun j p=>by rw[u];exact eM _ _ _ _ (fun t ht=>hN _ (by omega)) _ (hN _ (by omega)))
   (fun j p=>by rw[D,World.frozen?_setCells];exact O _) (fun v hv=>ac v (tH hv))
end Sg
namespace Sg
@[go_sem] abbrev f_ (d:Nat) (k:K):Op:=⟨some d,false,k,none⟩
@[go_sem] abbrev t_ (d:Nat) (k:K):Op:=⟨some d,true,k,none⟩
@[go_sem] abbrev y_ (d j:Nat) (k:K):Op:=⟨some d,false,k,some (j,true)⟩
@[go_sem] abbrev n_ (d j:Nat) (k:K):Op:=⟨some d,false,k,some (j,false)⟩
@[go_sem] abbrev u_ (k:K):Op:=⟨none,false,k,none⟩
@[go_sem] abbrev ci (n:Int):bF:=.c (.int .i64 n)
@[go_sem] abbrev cb (b:Bool):bF:=.c (.bool b)
def NW:Option (Eq×Bool)->Bool
 |some m=>m.1.all V.datC
 |none=>true
theorem Ro {μ s}:JH μ s=NW (μ s):=rfl
theorem SA {cs b}:NW (some (cs,b))=cs.all V.datC:=rfl
def FT (s:Nat) (j:List Nat):Option (Eq×Bool)->Option V
 |some (cs,_)=>if j.contains s/\cs.all V.datC then some (.cptr cs 0) else none
 |none=>none
theorem SO {μ sites s}:jF μ sites (.lref s 0)=FT s sites (μ s):=by
 unfold jF FT;rfl
theorem SN {s sites cs b}:FT s sites (some (cs,b))=if sites.contains s/\cs.all V.datC then some (.cptr cs 0) else none:=rfl
theorem Rk {μ}:J9 μ []=μ:=rfl
theorem Jco {μ s l}:J9 μ (s::l)=J9 (aI μ s ((μ s).map fun m=>(m.1,true))) l:=rfl
def L7 (S:St) (s i off m:Nat) (xs:Eq):Option (Nat×List Eq×Fz)->Option St
 |some (z,rows,.live)=>if rows.length=m then (rows[i]?).bind fun r=>(JZ r off xs).bind fun j=>some {S with A:=aI S.A s (some (z,rows.set i j,.live))} else none
 |_=>none
theorem Uw {S:St} {s i off m:Nat} {xs:Eq} {z rows}:L7 S s i off m xs (some (z,rows,.live))=if rows.length=m then (rows[i]?).bind fun r=>(JZ r off xs).bind fun j=>some ⟨S.ρ,S.μ,aI S.A s (some (z,rows.set i j,.live))⟩ else none:=rfl
theorem Vb {S:St} {s n i off m x}:Jz S (.e s) n (.eref s i off m) x=x.cells.bind fun xs=>if xs.length=n then (if xs.all V.datC then L7 S s i off m xs (S.A s) else none) else none:=by
 unfold Jz
 congr 1;funext xs
 split
 ·simp only[true_and];split
  ·unfold L7;rfl
  ·rfl
 ·rfl
def AU (S:St) (s z n k:Nat) (j:List Eq):Option (Nat×List Eq×Fz)->Option (V×St)
 |some (z3,rows,.live)=>if z3=z/\rows.length=n/\k<=n/\rows.length+j.length<=aU then
   some (.own s z (rows.length+j.length),{S with A:=aI S.A s (some (z,rows.take k++(j++rows.drop k),.live))}) else none
 |_=>none
def TX {S:St} {s z n k:Nat} {ys rows}:AU S s z n k ys (some (z, rows, .live))=if rows.length=n /\ k <= n /\ rows.length + ys.length <= aU then
      some (.own s z (rows.length + ys.length), ⟨S.ρ, S.μ, aI S.A s (some (z, rows.take k ++ (ys ++ rows.drop k), .live))⟩) else none:=by simp [AU]
def DH (S:St) (s z:Nat):V->V->V->Option (V×St)
 |.own s' z' n,.int .i64 k,.slice z'' ys=>if s'=s/\z'=z/\z''=z then (if 0<=k then AU S s z n k.toNat ys (S.A s) else none) else none
 |_,_,_=>none
def TY {S:St} {s z n k:Nat} {ys}:DH S s z (.own s z n) (.int .i64 (k:Int)) (.slice z ys)=AU S s z n k ys (S.A s):=by simp[DH]
def AW (S:St) (d s z n k m:Nat):Option (Nat×List Eq×Fz)->Option (Nat×List Eq×Fz)->Option (V×St)
 |some (z3,rows,.live),none=>if z3=z/\rows.length=n/\k<=m/\m<=n/\n<=aU then
   some (.own d z (rows.take k++rows.drop m).length,{S with A:=aI (aI S.A s (some (z,[],.dead))) d (some (z,rows.take k++rows.drop m,.live))}) else none
 |_,_=>none
def SC {S:St} {d s z n k m:Nat} {rows}:AW S d s z n k m (some (z, rows, .live)) none=if rows.length=n /\ k <= m /\ m <= n /\ n <= aU then
      some (.own d z (rows.take k ++ rows.drop m).length, ⟨S.ρ, S.μ, aI (aI S.A s (some (z, [], .dead))) d (some (z, rows.take k ++ rows.drop m, .live))⟩) else none:=by simp [AW]
def DI (S:St) (d s z:Nat):V->V->V->Option (V×St)
 |.own s' z' n,.int .i64 k,.int .i64 m=>if s'=s/\z'=z then (if 0<=k/\0<=m then AW S d s z n k.toNat m.toNat (S.A s) (S.A d) else none) else none
 |_,_,_=>none
def Je7 {S:St} {d s z n k m:Nat}:DI S d s z (.own s z n) (.int .i64 (k:Int)) (.int .i64 (m:Int))=AW S d s z n k m (S.A s) (S.A d):=by simp[DI]
section
variable {κ:Nat->Eq->Option V} {S:St} {Q:St->Prop} {e:Nat->V} {i:Nat} {ops:List Op}
theorem Tl {dst:Option Nat} {gl:Bool} {f s z:Nat} {x y j:bF}:Wr κ (⟨dst,gl,.ins f s z x j y,none⟩::ops) i e S Q=Ce κ dst gl ops i e Q (DH S s z (aK e S.ρ x) (aK e S.ρ j) (aK e S.ρ y)):=by
 rw[FP]
 congr 1
 simp only[ev,DH];split
 ·rename_i s' D n k o B h1 q u;rw[h1,q,u];simp only;split
  ·unfold AU;by_cases w:0<=k
   ·have E:∀n:Nat,(k<=(n:Int))=(k.toNat<=n):=fun n=>propext (by omega);simp only[w,true_and,Gw,E];rcases S.A s with _|⟨H,rows,p⟩
    ·rfl
    ·cases p<;>rfl
   ·simp only[w,false_and,and_false,Gv];rcases S.A s with _|⟨H,rows,p⟩
    ·rfl
    ·cases p<;>simp
  ·rfl
 ·rename_i h;split
  ·rename_i s' D n k o B h1 q u;exact absurd u (h s' D n k o B h1 q)
  ·rfl
theorem Jf4 {dst:Option Nat} {gl:Bool} {f s z:Nat} {x y j:bF}:Wr κ (⟨dst,gl,.del f s z x j y,none⟩::ops) i e S Q=Ce κ dst gl ops i e Q (DI S (dst.getD 0) s z (aK e S.ρ x) (aK e S.ρ j) (aK e S.ρ y)):=by
 rw[FP]
 congr 1
 simp only[ev,DI];split
 ·rename_i s' D n k m h1 u w;rw[h1,u,w];simp only;split
  ·unfold AW;by_cases B:0<=k
   ·by_cases hm:0<=m
    ·have H:(k<=m)=(k.toNat<=m.toNat):=propext (by omega);have I:∀n:Nat,(m<=(n:Int))=(m.toNat<=n):=fun n=>propext (by omega);simp only[B,hm,and_self,true_and,Gw,H,I];rcases S.A s with _|⟨E,rows,o⟩
     ·rfl
     ·cases o<;>cases S.A (dst.getD 0)<;>rfl
    ·have L:∀(p q:Prop),(p/\q/\k<=m)↔False:=fun p q=>⟨fun h=>by omega,fun h=>h.elim⟩;have J:¬(k<=m):=by omega
     simp only[B,hm,J,and_false,false_and,Gv];rcases S.A s with _|⟨E,rows,o⟩
     ·rfl
     ·cases o<;>cases S.A (dst.getD 0)<;>simp
   ·simp only[B,false_and,and_false,Gv];rcases S.A s with _|⟨E,rows,o⟩
    ·rfl
    ·cases o<;>cases S.A (dst.getD 0)<;>simp
  ·rfl
 ·rename_i h;split
  ·rename_i s' D n k m h1 u w;exact absurd w (h s' D n k m h1 u)
  ·rfl
end
def TT {z rows k}:kj z (.slice z rows) (.int k 0)=(rows[0]?).map fun r=>.cptr r 0:=by simp[kj]
def TU {z rows k}:kj z (.slice z rows) (.int k 1)=(rows[1]?).map fun r=>.cptr r 0:=by simp[kj]
theorem Sv {k d}:dp (some (.int k 0)) d=some 0:=rfl
theorem JdA {k d}:dp (some (.int k 1)) d=some 1:=rfl
attribute [go_sem] TT TU Sv JdA
attribute [go_sem] Uw Vb TX TY SC Je7
attribute [go_sem high] Tl Jf4
attribute [go_sem] Ro SA SO SN Rk Jco
end Sg
namespace Sg
open _root_.Go (IntKind BinOp UnOp)
abbrev Kn:=Nat->Nat->Option (Nat×Bool)->List Op
abbrev Gd:=Option (Nat×Bool)
def qe (d i:Nat) (g:Gd):List Op:=[]
def qD (n:Nat) (k:Kn) (d i:Nat) (g:Gd):List Op:=k n i g
def y1 (j:Nat) (k:Kn) (d i:Nat) (g:Gd):List Op:=k d i (some (j,true))
def y0 (j:Nat) (k:Kn) (d i:Nat) (g:Gd):List Op:=k d i (some (j,false))
def yn (k:Kn) (d i:Nat) (g:Gd):List Op:=k d i none
def qr (v o:Nat) (k:Kn) (d i:Nat) (g:Gd):List Op:=⟨some d,false,.fad (.g v) o,g⟩::⟨some (d+1),false,.load (.v v) none (.l i),g⟩::k (d+2) (i+2) g
def qR (v o n:Nat) (k:Kn) (d i:Nat) (g:Gd):List Op:=⟨some d,false,.fad (.g v) o,g⟩::⟨some (d+1),false,.load (.v v) (some n) (.l i),g⟩::k (d+2) (i+2) g
def ya (k:Kn) (d i:Nat) (g:Gd):List Op:=⟨some d,false,.mov (.l (i-1)),g⟩::k (d+1) (i+1) (some (i,true))
def yo (k:Kn) (d i:Nat) (g:Gd):List Op:=⟨some d,false,.mov (.l (i-1)),g⟩::k (d+1) (i+1) (some (i,false))
def za (j:Nat) (k:Kn) (d i:Nat) (g:Gd):List Op:=⟨some d,false,.pick (.l j) (.l (i-1)) (.c (.bool false)),none⟩::k (d+1) (i+1) none
def zA (j:Nat) (k:Kn) (d i:Nat) (g:Gd):List Op:=⟨some d,true,.pick (.l j) (.l (i-1)) (.c (.bool false)),none⟩::k (d+1) (i+1) none
def zo (j:Nat) (k:Kn) (d i:Nat) (g:Gd):List Op:=⟨some d,false,.pick (.l j) (.c (.bool true)) (.l (i-1)),none⟩::k (d+1) (i+1) none
def zO (j:Nat) (k:Kn) (d i:Nat) (g:Gd):List Op:=⟨some d,true,.pick (.l j) (.c (.bool true)) (.l (i-1)),none⟩::k (d+1) (i+1) none
def qm (v:Nat) (k:Kn) (d i:Nat) (g:Gd):List Op:=⟨some d,false,.mov (.g v),g⟩::k (d+1) (i+1) g
def qf (v o:Nat) (k:Kn) (d i:Nat) (g:Gd):List Op:=⟨some d,false,.fad (.g v) o,g⟩::k (d+1) (i+1) g
def ql (v:Nat) (k:Kn) (d i:Nat) (g:Gd):List Op:=⟨some d,false,.load (.v v) none (.l (i-1)),g⟩::k (d+1) (i+1) g
def qb (v n:Nat) (k:Kn) (d i:Nat) (g:Gd):List Op:=⟨some d,false,.load (.v v) (some n) (.g v),g⟩::k (d+1) (i+1) g
def qp (k:Kn) (d i:Nat) (g:Gd):List Op:=⟨some d,false,.mov (.l (i-1)),g⟩::k (d+1) (i+1) g
def qv (v:Nat) (k:Kn) (d i:Nat) (g:Gd):List Op:=⟨some v,true,.mov (.l (i-1)),g⟩::k d (i+1) g
def qw (v:Nat) (k:Kn) (d i:Nat) (g:Gd):List Op:=⟨some v,true,.mov (.l (i-2)),g⟩::k d (i+1) g
def qV (v j:Nat) (k:Kn) (d i:Nat) (g:Gd):List Op:=⟨some v,true,.mov (.l j),g⟩::k d (i+1) g
def qc (f:Nat) (k:Kn) (d i:Nat) (g:Gd):List Op:=⟨some d,false,.call (.k f) .no none [.l (i-1)],g⟩::k (d+1) (i+1) g
def qd (f:Nat) (k:Kn) (d i:Nat) (g:Gd):List Op:=⟨some d,false,.call (.k f) .no none [.l (i-2),.l (i-1)],g⟩::k (d+1) (i+1) g
def q0 (f:Nat) (k:Kn) (d i:Nat) (g:Gd):List Op:=⟨some d,false,.call (.k f) .no none [],g⟩::k (d+1) (i+1) g
def qC (f:Nat) (xs:List bF) (k:Kn) (d i:Nat) (g:Gd):List Op:=⟨some d,false,.call (.k f) .no none xs,g⟩::k (d+1) (i+1) g
def qz (v:Nat) (n:Int) (k:Kn) (d i:Nat) (g:Gd):List Op:=⟨some v,true,.mov (.c (.int .i64 n)),g⟩::k d (i+1) g
def qF (v:Nat) (k:Kn) (d i:Nat) (g:Gd):List Op:=⟨some v,true,.mov (.c (.bool false)),g⟩::k d (i+1) g
def qT (v:Nat) (k:Kn) (d i:Nat) (g:Gd):List Op:=⟨some v,true,.mov (.c (.bool true)),g⟩::k d (i+1) g
def qS (v z:Nat) (k:Kn) (d i:Nat) (g:Gd):List Op:=⟨some v,true,.mov (.c (.slice z [])),g⟩::k d (i+1) g
def qE (v:Nat) (k:Kn) (d i:Nat) (g:Gd):List Op:=⟨some v,true,.mov (.c (.str [])),g⟩::k d (i+1) g
def qn (k:Kn) (d i:Nat) (g:Gd):List Op:=⟨some d,false,.un .not (.l (i-1)),g⟩::k (d+1) (i+1) g
def qN (k:Kn) (d i:Nat) (g:Gd):List Op:=⟨some d,true,.un .not (.l (i-1)),g⟩::k (d+1) (i+1) g
def qg (o:Nat) (k:Kn) (d i:Nat) (g:Gd):List Op:=⟨some d,false,.fad (.l (i-1)) o,g⟩::k (d+1) (i+1) g
def qa (j:Nat) (k:Kn) (d i:Nat) (g:Gd):List Op:=⟨some d,false,.pick (.l j) (.l (i-1)) (.c (.bool false)),g⟩::k (d+1) (i+1) g
def qA (j:Nat) (k:Kn) (d i:Nat) (g:Gd):List Op:=⟨some d,true,.pick (.l j) (.l (i-1)) (.c (.bool false)),g⟩::k (d+1) (i+1) g
def qo (j:Nat) (k:Kn) (d i:Nat) (g:Gd):List Op:=⟨some d,false,.pick (.l j) (.c (.bool true)) (.l (i-1)),g⟩::k (d+1) (i+1) g
def qO (j:Nat) (k:Kn) (d i:Nat) (g:Gd):List Op:=⟨some d,true,.pick (.l j) (.c (.bool true)) (.l (i-1)),g⟩::k (d+1) (i+1) g
def qB (v u:Nat) (k:Kn) (d i:Nat) (g:Gd):List Op:=⟨some v,true,.box (.g u),g⟩::k d (i+1) g
def qh (s:Bool) (k:Kn) (d i:Nat) (g:Gd):List Op:=⟨some d,false,.len s (.l (i-1)),g⟩::k (d+1) (i+1) g
def qH (s:Bool) (k:Kn) (d i:Nat) (g:Gd):List Op:=⟨some d,true,.len s (.l (i-1)),g⟩::k (d+1) (i+1) g
def qx (o:Nat) (k:Kn) (d i:Nat) (g:Gd):List Op:=⟨some d,false,.ext (.l (i-1)) o,g⟩::k (d+1) (i+1) g
def qy (o:Nat) (k:Kn) (d i:Nat) (g:Gd):List Op:=⟨some d,false,.ext (.l (i-2)) o,g⟩::k (d+1) (i+1) g
def qY (j o:Nat) (k:Kn) (d i:Nat) (g:Gd):List Op:=⟨some d,false,.ext (.l j) o,g⟩::k (d+1) (i+1) g
def qs (v n a b:Nat) (k:Kn) (d i:Nat) (g:Gd):List Op:=⟨none,false,.store (.v v) n (.l a) (.l b),g⟩::k d (i+1) g
def qt (v n b:Nat) (k:Kn) (d i:Nat) (g:Gd):List Op:=⟨none,false,.store (.v v) n (.g v) (.l b),g⟩::k d (i+1) g
def qu (v a:Nat) (n:Int) (k:Kn) (d i:Nat) (g:Gd):List Op:=⟨none,false,.store (.v v) 1 (.l a) (.c (.int .i64 n)),g⟩::k d (i+1) g
def qi (z:Nat) (k:Kn) (d i:Nat) (g:Gd):List Op:=⟨some d,false,.iad z (.l (i-2)) (.l (i-1)),g⟩::k (d+1) (i+1) g
def qj (k:Kn) (d i:Nat) (g:Gd):List Op:=⟨some d,false,.load (.c) none (.l (i-1)),g⟩::k (d+1) (i+1) g
def qJ (n:Nat) (k:Kn) (d i:Nat) (g:Gd):List Op:=⟨some d,false,.load (.c) (some n) (.l (i-1)),g⟩::k (d+1) (i+1) g
def qk (o:BinOp) (n:Int) (k:Kn) (d i:Nat) (g:Gd):List Op:=⟨some d,false,.bin o (.l (i-1)) (.c (.int .i64 n)),g⟩::k (d+1) (i+1) g
def qK (o:BinOp) (n:Int) (k:Kn) (d i:Nat) (g:Gd):List Op:=⟨some d,true,.bin o (.l (i-1)) (.c (.int .i64 n)),g⟩::k (d+1) (i+1) g
def qq (o:BinOp) (j:Nat) (k:Kn) (d i:Nat) (g:Gd):List Op:=⟨some d,false,.bin o (.l j) (.l (i-1)),g⟩::k (d+1) (i+1) g
def qQ (o:BinOp) (j:Nat) (k:Kn) (d i:Nat) (g:Gd):List Op:=⟨some d,true,.bin o (.l j) (.l (i-1)),g⟩::k (d+1) (i+1) g
def qG (v:Nat) (z:Eq) (k:Kn) (d i:Nat) (g:Gd):List Op:=⟨some v,true,.alloc z,g⟩::k d (i+1) g
def q1 (x:K) (k:Kn) (d i:Nat) (g:Gd):List Op:=⟨some d,false,x,g⟩::k (d+1) (i+1) g
def q2 (v:Nat) (x:K) (k:Kn) (d i:Nat) (g:Gd):List Op:=⟨some v,false,x,g⟩::k d (i+1) g
def q3 (x:K) (k:Kn) (d i:Nat) (g:Gd):List Op:=⟨some d,true,x,g⟩::k (d+1) (i+1) g
def q4 (v:Nat) (x:K) (k:Kn) (d i:Nat) (g:Gd):List Op:=⟨some v,true,x,g⟩::k d (i+1) g
def q5 (x:K) (k:Kn) (d i:Nat) (g:Gd):List Op:=⟨none,false,x,g⟩::k d (i+1) g
def rs (d:Nat) (k:Kn->Kn) (c:C):C:=.seq (.region false (k qe d 0 none)) c
def rt (d:Nat) (k:Kn->Kn) (c:C):C:=.seq (.region true (k qe d 0 none)) c
def r1 (d:Nat) (k:Kn->Kn):C:=.region false (k qe d 0 none)
def r2 (d:Nat) (k:Kn->Kn):C:=.region true (k qe d 0 none)
def sq (a b:C):C:=.seq a b
def i1 (d:Nat) (k:Kn->Kn) (n:Nat) (a b:C):C:=.seq (.seq (.region false (k qe d 0 none)) (.cond (.g n) a .skip)) b
def i2 (d:Nat) (k:Kn->Kn) (n:Nat) (a b:C):C:=.seq (.seq (.region true (k qe d 0 none)) (.cond (.g n) a .skip)) b
def cd (n:Nat) (a b:C):C:=.cond (.g n) a b
def em (c:C):C:=.loop [] [] [] [] c
def bk (n:Nat) (a:C):C:=.block n a
def lq (d:Nat) (k:Kn->Kn) (n e:Nat) (c:C):C:=.seq (.seq (.region false (k qe d 0 none)) (.cond (.g n) .skip (.exit e))) c
def ls (l:List Nat):List bF:=l.map .l
def opsG:List Op->List Nat
 |[]=>[]
 |o::l=>match o.gl,o.dst with
  |true,some d=>d::opsG l
  |_,_=>opsG l
def glC:C->List Nat
 |.region _ ops=>opsG ops
 |.seq a b=>glC a++glC b
 |.cond _ a b=>glC a++glC b
 |.block _ c=>glC c
 |.loop _ _ _ _ c=>glC c
 |_=>[]
def mF (n:Nat) (r:List wn) (o:Option Nat) (c:C):F:=⟨n,List.range n++glC c,r,o,c⟩
instance pwI:HPow (Kn->Kn) (Kn->Kn) (Kn->Kn):=⟨fun a b k=>a (b k)⟩
theorem pw_e (a b:Kn->Kn) (k:Kn):(a^b) k=a (b k):=rfl
theorem ls_c {n:Nat} {l:List Nat}:ls (n::l)=.l n::ls l:=rfl
theorem ls_n:ls []=[]:=rfl
theorem mF_b {n r o c}:(mF n r o c).body=c:=rfl
theorem mF_p {n r o c}:(mF n r o c).np=n:=rfl
theorem mF_r {n r o c}:(mF n r o c).res=r:=rfl
theorem mF_o {n r o c}:(mF n r o c).own=o:=rfl
def eq:=qh false
def ge:=qh true
attribute [go_sem] pw_e eq ge em Nat.reduceSub ls_c ls_n mF_b mF_p mF_r mF_o qe qD y1 y0 yn qr qR rs rt r1 r2 sq i1 i2 cd bk lq ya yo za zA zo zO qm qf ql qb qp qv qw qV qc qd q0 qC qz qF qT qS qE qn qN qg qa qA qo qO qB qh qH qx qy qY qs qt qu qi qj qJ qk qK qq qQ qG q1 q2 q3 q4 q5
section
variable {A:AA} {S:St} {κ:Nat->Eq->Option V}
theorem FL:kl [] A=some ([],A):=rfl
theorem FM {x xs}:kl (x::xs) A=(cH A x).bind fun r=>(kl xs r.2).bind fun q=>some (r.1::q.1,q.2):=rfl
theorem R4 {k n}:cH A (.int k n)=some (.int k n,A):=rfl
def LW (A:AA) (s z n:Nat):Option (Nat×List Eq×Fz)->Option (V×AA)
 |some (z',rows,.live)=>if z'=z/\rows.length=n then some (.tuple [.slice z rows],aI A s (some (z,[],.dead))) else none
 |_=>none
theorem Nz {s z n}:cH A (.own s z n)=LW A s z n (A s):=rfl
def NR {s z n rows}:LW A s z n (some (z,rows,.live))=if rows.length=n then some (.tuple [.slice z rows],aI A s (some (z,[],.dead))) else none:=by simp[LW]
theorem FO {d}:JO d [] A=some ([],A):=rfl
theorem FK {d x xs}:JO d (x::xs) A=(fi d A x).bind fun r=>(JO (d+1) xs r.2).bind fun q=>some (r.1::q.1,q.2):=rfl
theorem SG {d k n}:fi d A (.int k n)=some (.int k n,A):=rfl
def Mc (d:Nat) (A:AA) (z:Nat) (rows:List Eq):Option (Nat×List Eq×Fz)->Option (V×AA)
 |none=>some (.own d z rows.length,aI A d (some (z,rows,.live)))
 |some _=>none
def NC {d z rows}:fi d A (.tuple [.slice z rows])=Mc d A z rows (A d):=by
 simp only[fi,Mc];cases A d<;>rfl
theorem NP {d z rows}:Mc d A z rows none=some (.own d z rows.length,aI A d (some (z,rows,.live))):=rfl
theorem T6 {z}:fu (.nslice z)=.tuple [.slice z []]:=rfl
theorem si {b f k s avs}:sg κ b S f k s avs=(ew S k s avs).bind fun q=>(κ f q.1).bind fun r=>iH b S s q.2 r:=rfl
def FV (S:St) (k:Nat) (avs j:Eq):Option (Eq×Bool)->Option (Eq×AA)
 |some (cs,false)=>(kl cs (JL S.A ((avs.set k .undef).flatMap Jd))).bind fun h=>some (j.set k (.tuple (.lref 0 0::h.1)),h.2)
 |_=>none
def FU (S:St) (k s:Nat) (avs:Eq):Option V->Option (Eq×AA)
 |some (.lref s' 0)=>if s'=s then (Jn (dT S.A) (avs.set k .undef)).bind fun j=>FV S k avs j (S.μ s) else none
 |_=>none
theorem NA {k s avs}:ew S k s avs=FU S k s avs (avs[k]?):=rfl
def NN {k s avs}:FU S k s avs (some (.lref s 0))=(Jn (dT S.A) (avs.set k .undef)).bind fun j=>FV S k avs j (S.μ s):=by simp[FU]
theorem NO {k avs bs cs}:FV S k avs bs (some (cs,false))=(kl cs (JL S.A ((avs.set k .undef).flatMap Jd))).bind fun h=>some (bs.set k (.tuple (.lref 0 0::h.1)),h.2):=rfl
theorem NB {b s r0 us}:iH b S s A (.tuple [r0,.tuple us])=(JO b us A).bind fun t=>some (r0,⟨S.ρ,aI S.μ s (some (t.1,false)),t.2⟩):=rfl
theorem NX:dT A .undef=some .undef:=rfl
theorem NM:Jd .undef=[]:=rfl
theorem SL {s z z' n y}:sX S z (.own s z' n) y=JX S s z (.own s z' n) y:=rfl
def Qv:Option V->Option V
 |some (.slice 1 rows)=>(cA rows).bind fun l=>some (.str l)
 |_=>none
theorem UD {x}:FS A x=Qv (cn A x):=rfl
theorem UG {rows}:Qv (some (.slice 1 rows))=(cA rows).bind fun l=>some (.str l):=rfl
theorem DG:∀(l:mp),cA (l.map fun b=>[.int .u8 b.toNat])=some l
 |[]=>rfl
 |b::l=>by simp[cA,DG l]
theorem Jce {n:Int}:cA [[.int .u8 n]]=some [UInt8.ofNat n.toNat]:=rfl
theorem AY {s j h:Nat} {L Wv Wa:List Nat}:S.head [] (s::j::h::L) Wv Wa=(S.swp1 s j h).head [] L Wv Wa:=rfl
def Ma (S:St) (h:Nat):Option V->St
 |some (.own x _ _)=>S.ren x h
 |_=>S
def L9 (S:St) (j h:Nat):Option (Eq×Bool)->St
 |some (cs,_)=>Ma S h cs[j]?
 |none=>S
theorem xB {s j h:Nat}:S.swp1 s j h=L9 S j h (S.μ s):=by
 unfold St.swp1 L9 Ma
 rfl
theorem xC {j h cs f}:L9 S j h (some (cs,f))=Ma S h cs[j]?:=rfl
def xD {x h:Nat}:dm x h x=h:=by simp[dm]
def Ue {x h:Nat}:dm x h h=x:=by unfold dm;split<;>simp_all
end
attribute [go_sem] FL FM R4 Nz NR FO FK SG NC NP T6 NA NN NO NB NX NM SL UD UG Jce
attribute [go_sem] xB xC xD Ue
section
variable {S:St} {s off n:Nat}
theorem Uz {a z m}:Jz S (.v s) 1 (.lref s off) (.own a z m)=na S s off [.own a z m] (S.μ s):=by rw[vL];rfl
theorem Uy {k m}:Jz S (.v s) 1 (.lref s off) (.int k m)=na S s off [.int k m] (S.μ s):=by rw[vL];rfl
theorem Ux {m}:Jz S (.v s) 1 (.lref s off) (.bool m)=na S s off [.bool m] (S.μ s):=by rw[vL];rfl
theorem Ud {m}:Jz S (.v s) 1 (.lref s off) (.str m)=na S s off [.str m] (S.μ s):=by rw[vL];rfl
theorem Uc {z m}:Jz S (.v s) 1 (.lref s off) (.slice z m)=na S s off [.slice z m] (S.μ s):=by rw[vL];rfl
theorem JgW {cs}:Jz S (.v s) n (.lref s off) (.agg cs)=if cs.length=n then na S s off cs (S.μ s) else none:=by rw[vL];rfl
end
attribute [go_sem high] Uz Uy Ux Ud Uc JgW
attribute [go_sem] List.set_cons_zero List.set_cons_succ
end Sg
namespace Sg
def gj (Wv:List Nat):V->Bool
 |.int ..|.bool _|.str _|.slice ..|.func ..|.undef=>true
 |.lref s _=>!Wv.contains s
 |_=>false
section
variable {S:St}
def Sb {Wv:List Nat} {x h:Nat} {v:V} (j:gj Wv v=true):AQ x h v=v:=by cases v<;>simp_all [gj,AQ]
def QQ {Wv Wa:List Nat} {v:V} (j:gj Wv v=true):Ji Wv Wa v=v:=by
 cases v<;>simp_all [gj,Ji]
def Sa {x h:Nat} {cs:Eq} (j:cs.all V.datC=true):cs.map (JS x h)=cs:=by
 rw[GG] at j
 conv=>rhs;rw[<-List.map_id cs]
 refine tI fun y o=>?_;have:=j y o;cases y<;>simp_all [JS,V.datC]
def Nf {Wa:List Nat} {cs:Eq} (j:cs.all V.datC=true):cs.map (Ju Wa)=cs:=by
 rw[GG] at j
 conv=>rhs;rw[<-List.map_id cs]
 refine tI fun y o=>?_;have:=j y o;cases y<;>simp_all [Ju,V.datC]
theorem TE {s j h i:Nat} {Wv:List Nat} (o:gj Wv (S.ρ i)=true):(S.swp1 s j h).ρ i=S.ρ i:=by
 unfold St.swp1;split
 ·split
  ·exact Sb o
  ·rfl
 ·rfl
def TD {s j h i:Nat} {cs:Eq} {f:Bool} (hm:S.μ i=some (cs,f)) (o:cs.all V.datC=true):(S.swp1 s j h).μ i=some (cs,f):=by
 unfold St.swp1;split
 ·split
  ·simp only[St.ren,hm,Option.map_some,Sa o]
  ·exact hm
 ·exact hm
def Tf {s j h i:Nat} (hm:S.μ i=none):(S.swp1 s j h).μ i=none:=by
 unfold St.swp1;split
 ·split
  ·simp only[St.ren,hm,Option.map_none]
  ·exact hm
 ·exact hm
def Fs {Wv:List Nat}:∀(n:Nat) (L:List Nat) (S:St),L.length<=n->(∀i,gj Wv (S.ρ i)=true->(S.swps L).ρ i=S.ρ i)/\(∀i cs f,S.μ i=some (cs,f)->cs.all V.datC=true->(S.swps L).μ i=some (cs,f))/\
  ∀i,S.μ i=none->(S.swps L).μ i=none:=by
 intro n
 induction n with
 |zero=>
  intro L S o
  have:L=[]:=GJ (by omega)
  subst this
  exact⟨fun _ _=>rfl,fun _ _ _ h _=>h,fun _ h=>h⟩
 |succ n z=>
  intro L S o
  match L,o with
  |[],_=>exact⟨fun _ _=>rfl,fun _ _ _ h _=>h,fun _ h=>h⟩
  |[_],_=>exact⟨fun _ _=>rfl,fun _ _ _ h _=>h,fun _ h=>h⟩
  |[_,_],_=>exact⟨fun _ _=>rfl,fun _ _ _ h _=>h,fun _ h=>h⟩
  |s::j::h::l,o=>
   have⟨u,w,y⟩:=z l (S.swp1 s j h) (by simp at o;omega)
   refine⟨fun i q=>?_,fun i cs f hm p=>w i cs f (TD hm p) p,fun i hm=>y i (Tf hm)⟩
   have e:=TE (s:=s) (j:=j) (h:=h) q
   exact (u i (by rw[e];exact q)).trans e
def bB {L Wv Wa:List Nat} {i:Nat} {v:V} (o:S.ρ i=v) (j:gj Wv v=true):(S.head [] L Wv Wa).ρ i=v:=by
 subst o;have e:=(Fs (Wv:=Wv) L.length L S (GC _)).1 i j
 show Ji Wv Wa ((S.swps L).ρ i)=_
 rw[e];exact QQ j
def km {L Wv Wa:List Nat} {i:Nat} {cs:Eq} {f:Bool} (hm:S.μ i=some (cs,f)) (j:cs.all V.datC=true) (hw:Wv.contains i=false):(S.head [] L Wv Wa).μ i=some (cs,f):=by
 have e:=(Fs (Wv:=Wv) L.length L S (GC _)).2.1 i cs f hm j
 show (if Wv.contains i then none else _)=_
 rw[hw,e];simp only[Gl,Gv,Option.map_some,Nf j];cases Wa.isEmpty<;>rfl
theorem gZ {L Wv Wa:List Nat} {i:Nat} (hm:S.μ i=none\/Wv.contains i=true):(S.head [] L Wv Wa).μ i=none:=by
 show (if Wv.contains i then none else _)=_
 rcases hm with hm|hm
 ·have e:=(Fs (Wv:=Wv) L.length L S (GC _)).2.2 i hm;rw[e];split<;>rfl
 ·rw[hm];rfl
def nj:S.head [] [] [] []=S:=by
 have⟨ρ,μ,A⟩:=S;have j:∀v:V,Ji [] [] v=v:=fun v=>by cases v<;>simp[Ji]
 show St.mk _ _ _=_
 congr 1
 ·funext t;exact j _
 ·funext s
  show (μ s).map _=μ s
  cases μ s<;>rfl
end
end Sg
namespace Sg
open Go Go.RowKit
inductive CT where
 |bool
 |int (k:IntKind)
 |str
 |slice (r:List CT)
 deriving Inhabited
abbrev gt (r:List CT) (j:Nat):CT:=r.getD j .bool
inductive eo (N:Nat):CT->V->Prop
 |bool (b):eo N .bool (.bool b)
 |int (k n) (h:(Lit.int k n).wf=true):eo N (.int k) (.int k n)
 |str (s) (h:s.length<=N):eo N .str (.str s)
 |slice (r:List CT) (rows:List Eq) (hl:rows.length<=N) (hz:∀i,i<rows.length->(gr rows i).length=r.length)
   (h:∀i j,i<rows.length->j<r.length->eo N (gt r j) (gv (gr rows i) j)):eo N (.slice r) (.slice r.length rows)
structure BK {H:Type} (bk:DataW H->Nat) (bkA:List (DataW H)->Nat):Prop where
 str:∀b,bk (.lit (.string b))=b.length+1
 slice:∀e s,bk (.slice e s)=bkA e+bkA s+1
 agg:∀p,bk (.agg p)=bkA p+1
 cons:∀d l,bkA (d::l)=bk d+bkA l
 one:∀d,1<=bk d
theorem BK.part {H:Type} {bk:DataW H->Nat} {bkA:List (DataW H)->Nat} (h:BK bk bkA) {d:DataW H}:∀{l:List (DataW H)},d∈l->bk d<=bkA l
 |x::l,hd=>by
  rw[h.cons];rcases GH.1 hd with rfl|hd
  ·omega
  ·have:=h.part hd;omega
theorem BK.len {H:Type} {bk:DataW H->Nat} {bkA:List (DataW H)->Nat} (h:BK bk bkA):∀{l:List (DataW H)},l.length<=bkA l
 |[]=>GY _
 |x::l=>by
  rw[h.cons];have:=h.len (l:=l);have:=h.one x;simp only[List.length_cons];omega
mutual
def tC:V->Nat
 |.str s=>s.length
 |.slice _ rows=>rows.length+xm rows
 |.agg cs=>j6 cs
 |_=>0
def j6:Eq->Nat
 |[]=>0
 |v::l=>tC v+j6 l
def xm:List Eq->Nat
 |[]=>0
 |r::l=>j6 r+xm l
end
theorem iI:∀{a b:Eq},j6 (a++b)=j6 a+j6 b
 |[],b=>by simp[j6]
 |x::a,b=>by simp only[List.cons_append,j6,iI (a:=a)];omega
def J7 {x:V}:j6 [x]=tC x:=by simp[j6]
theorem BK.rows {H:Type} {bk:DataW H->Nat} {bkA:List (DataW H)->Nat} (h:BK bk bkA):∀{es:List (DataW H)} {f:Nat->Eq},(∀i d,es[i]?=some d->j6 (f i)+1<=bk d)->xm ((List.range es.length).map f)+es.length<=bkA es
 |[],f,_=>by simp[xm]
 |d::es,f,hf=>by
  have h0:=hf 0 d rfl;have p:=h.rows (es:=es) (f:=fun i=>f (i+1)) fun i j o=>hf (i+1) j (by simpa using o);rw[h.cons];simp only[List.length_cons,List.range_succ_eq_map,GA,List.map_map,xm];have e:(f ∘ Nat.succ)=fun i=>f (i+1):=rfl;rw[e];omega
def pk {H:Type} (N:Nat) (bk:DataW H->Nat) (bkA:List (DataW H)->Nat) (d:DataW H):Prop:=maxLen<=N\/(BK bk bkA/\bk d<=N)
section
variable (P:Program)
def AT (g:TypeId->Option (List CT)):List Field->Nat->Option (List CT)
 |[],_=>some []
 |f::fs,o=>if f.offset=o then (g f.type).bind fun r=>if dz P f.type=some r.length then (AT g fs (o+r.length)).bind fun j=>some (r++j) else none else none
def lR:Nat->TypeId->Option (List CT)
 |0,_=>none
 |n+1,t=>match P.underlying t with
  |some .bool=>some [.bool]
  |some (.int k)=>some [.int k]
  |some .string=>some [.str]
  |some (.slice e)=>(lR n e).bind fun r=>if dz P e=some r.length/\r.length≠0 then some [.slice r] else none
  |some (.struct fs)=>(AT P (lR n) fs.toList 0).bind fun r=>if dz P t=some r.length then some r else none
  |_=>none
end
section
variable {P:Program} {cx:Cx} {w:World} {X:Nat->Prop} {N:Nat}
def ky (N:Nat) (cx:Cx) (w:World) (X:Nat->Prop) (r:List CT) (f:Nat->Option Value) (xs:Eq):Prop:=
 xs.length=r.length/\∀j,j<r.length->∃u,f j=some u/\u.oneCell'=true/\aC cx w X u (gv xs j)/\eo N (gt r j) (gv xs j)
def ky.append {o r2:List CT} {f:Nat->Option Value} {xs q:Eq} (h1:ky N cx w X o f xs) (z:ky N cx w X r2 (fun j=>f (o.length+j)) q):ky N cx w X (o++r2) f (xs++q):=by
 refine⟨by simp[h1.1,z.1],fun j D=>?_⟩;simp only[Gf] at D;by_cases p:j<o.length
 ·have⟨u,a,b,c,d⟩:=h1.2 j p;refine⟨u,a,b,?_,?_⟩
  ·rw[show gv (xs++q) j=gv xs j from by simp[gv,List.getD_eq_getElem?_getD,List.getElem?_append_left (by rw[h1.1];exact p)]];exact c
  ·rw[show gv (xs++q) j=gv xs j from by simp[gv,List.getD_eq_getElem?_getD,List.getElem?_append_left (by rw[h1.1];exact p)],
    show gt (o++r2) j=gt o j from by simp[gt,List.getD_eq_getElem?_getD,List.getElem?_append_left p]];exact d
 ·have⟨u,a,b,c,d⟩:=z.2 (j-o.length) (by omega);have e:o.length+(j-o.length)=j:=by omega
  simp only[e] at a;have y:gv (xs++q) j=gv q (j-o.length):=by
   simp only[gv,List.getD_eq_getElem?_getD];rw[List.getElem?_append_right (by rw[h1.1];omega),h1.1]
  have B:gt (o++r2) j=gt r2 (j-o.length):=by
   simp only[gt,List.getD_eq_getElem?_getD];rw[List.getElem?_append_right (by omega)]
  exact⟨u,a,b,by rw[y];exact c,by rw[y,B];exact d⟩
def ky.one {c:CT} {f:Nat->Option Value} {u:Value} {x:V} (h0:f 0=some u) (h1:u.oneCell'=true) (p:aC cx w X u x) (q:eo N c x):ky N cx w X [c] f [x]:=
 ⟨rfl,fun j o=>by
  have:j=0:=by simp at o;exact o
  subst this;exact⟨u,h0,h1,p,q⟩⟩
def MY {a:Addr} {u:Value} (h:w.cell? a=some u):∃c e fr,a=⟨a.block,a.off,none⟩/\w.heap[a.block]?=some (.cells c e fr)/\c[a.off]?=some u:=by
 have⟨b,o,q⟩:=a;unfold World.cell? at h;split at h
 ·rename_i c e fr j;split at h
  ·simp at h
  ·rename_i p;cases q with
   |none=>exact⟨c,e,fr,rfl,j,h⟩
   |some x=>simp at p
 ·simp at h
theorem Ft {t:TypeId} {n:Nat} (h:dz P t=some n):P.cellsOf t=n:=by
 unfold dz at h;unfold Program.cellsOf;rw[h];rfl
theorem MS {H:Type} {enc:TypeId×Value->H} {bk:DataW H->Nat} {bkA:List (DataW H)->Nat} {p:Nat} {g:TypeId->Option (List CT)} {cs:List Value}
  (T:∀(t:TypeId) (cs:List Value) (d:DataW H) (R:List MemPlace) (r:List CT),DataW.trod enc P w 0 (fun _=>true) true p t cs=some (d,R)->g t=some r->pk N bk bkA d->∃xs,ky N cx w X r (fun j=>cs[j]?) xs/\(BK bk bkA->j6 xs+1<=bk d)) :
  ∀(B:List Field) (o:Nat) (z:List (DataW H×List MemPlace)) (r:List CT),(B.mapM fun f=>DataW.trod enc P w 0 (fun _=>true) true p f.type ((cs.drop f.offset).take (P.cellsOf f.type)))=some z->
   AT P g B o=some r->(∀y∈z,pk N bk bkA y.1)->∃xs,ky N cx w X r (fun j=>cs[o+j]?) xs/\(BK bk bkA->j6 xs<=bkA (z.map fun y=>y.1))
 |[],o,z,r,_,q,_=>by
  simp only[AT,Gb] at q;subst q;exact⟨[],⟨rfl,fun j D=>by simp at D⟩,fun _=>by simp[j6]⟩
 |f::B,o,z,r,h,q,cG=>by
  rw[List.mapM_cons] at h;simp only[AT] at q;split at q<;>try (simp at q;done)
  rename_i W;simp only[Gg] at q;have⟨U,J,q⟩:=q;split at q<;>try (simp at q;done)
  rename_i hz;simp only[Gg,Gb] at q;obtain⟨r2,L,rfl⟩:=q;cases h1:DataW.trod enc P w 0 (fun _=>true) true p f.type ((cs.drop f.offset).take (P.cellsOf f.type)) with
  |none=>simp[h1] at h
  |some y=>
   cases E:B.mapM fun f=>DataW.trod enc P w 0 (fun _=>true) true p f.type ((cs.drop f.offset).take (P.cellsOf f.type)) with
   |none=>simp[h1,E] at h
   |some zs=>
    have⟨d,R⟩:=y;have Q:z=(d,R)::zs:=by simpa [h1,E] using h.symm
    subst Q;have⟨xs,S,Y⟩:=T _ _ _ _ _ h1 J (cG _ (G0 ..));have⟨z,O,Z⟩:=MS T B (o+U.length) zs r2 E L (fun y O=>cG y (G2 _ O));have M:ky N cx w X U (fun j=>cs[o+j]?) xs:=⟨S.1,fun j D=>by
     have⟨u,a,b⟩:=S.2 j D;refine⟨u,?_,b⟩;simp only at a ⊢;rw[Ft hz,List.getElem?_take_of_lt D,List.getElem?_drop,W] at a;exact a⟩
    refine⟨xs++z,M.append ?_,fun I=>?_⟩
    ·simpa only [lU] using O
    ·have:=Y I;have:=Z I;rw[iI,GA,I.cons]
     show _<=bk d+_
     omega
theorem ml {H:Type} {enc:TypeId×Value->H} {bk:DataW H->Nat} {bkA:List (DataW H)->Nat}:∀(fuel:Nat) (n:Nat) (t:TypeId) (cs:List Value) (d:DataW H) (ps:List MemPlace) (r:List CT),
  DataW.trod enc P w 0 (fun _=>true) true fuel t cs=some (d,ps)->lR P n t=some r->pk N bk bkA d->∃xs,ky N cx w (fun _=>False) r (fun j=>cs[j]?) xs/\(BK bk bkA->j6 xs+1<=bk d)
 |0,n,t,cs,d,ps,r,h,_,_=>by simp[DataW.trod] at h
 |fuel+1,0,t,cs,d,ps,r,_,hr,_=>by simp[lR] at hr
 |fuel+1,n+1,t,cs,d,ps,r,h,hr,cG=>by
  have ih:=fun t cs d ps r=>ml (enc:=enc) (bk:=bk) (bkA:=bkA) fuel n t cs d ps r;unfold lR at hr;unfold DataW.trod at h;split at hr
  ·rename_i ht;rw[ht] at h;simp only[Gb] at hr;subst hr;split at h<;>simp_all
   subst_vars
   exact⟨_,ky.one rfl rfl (.bool _) (.bool _),fun hb=>by have:=hb.one d;simpa [J7,tC] using this⟩
  ·rename_i k ht;rw[ht] at h;simp only[Gb] at hr;subst hr;split at h<;>simp_all;obtain⟨⟨rfl,hw⟩,-⟩:=h
   subst_vars
   exact⟨_,ky.one rfl rfl (.int _ _) (.int _ _ hw),fun hb=>by have:=hb.one d;simpa [J7,tC] using this⟩
  ·rename_i ht;rw[ht] at h;simp only[Gb] at hr;subst hr;split at h
   all_goals try (simp_all;done)
   rename_i s heq;split at h<;>simp only[Gb,reduceCtorEq,Gr] at h;rename_i nz;obtain⟨rfl,-⟩:=h;have hl:s.data.toList.length=s.size:=Array.length_toList;exact⟨_,ky.one rfl rfl (.str s) (.str _ (by
    rcases cG with cG|⟨hb,cG⟩
    ·omega
    ·rw[hb.str] at cG;omega)),fun hb=>by rw[hb.str,J7,tC,hl];omega⟩
  ·rename_i e ht;simp only[Gg] at hr;have⟨r1,L1,hr⟩:=hr;split at hr<;>simp only[Gb,reduceCtorEq] at hr;rename_i hz;subst hr;rw[ht] at h;split at h
   all_goals try (simp_all;done)
   ·exact⟨_,ky.one rfl rfl (.nilslice none r1.length) (.slice r1 [] (by simp) (fun i hi=>by simp at hi) (fun i j hi=>by simp at hi)),fun hb=>by simpa [J7,tC,xm] using hb.one _⟩
   ·rename_i e' a len aN heq;simp only[Gb,TypeDesc.slice.injEq] at heq;subst heq;simp only at h;split at h<;>try (simp at h;done)
    rename_i hc;obtain⟨-,Z8,hc2⟩:=hc;have hsz:P.cellsOf e=r1.length:=Ft hz.1;simp only[Gg,uI] at h;have⟨fJ,C5,bL,mf,hd⟩:=h;simp only[Gr] at hd;obtain⟨rfl,-⟩:=hd;simp only[Gw] at mf;rw[hsz] at C5 mf;have el:∀i,i<aN->∃l,w.cells? 0 (a.add (i*r1.length)) r1.length=some l/\∃y,DataW.trod enc P w 0 (fun _=>true) true fuel e l=some y/\(y∈fJ\/y∈bL)/\(i<len->fJ[i]?=some y):=by
     intro i hi;have:∃y,((w.cells? 0 (a.add (i*r1.length)) r1.length).bind (DataW.trod enc P w 0 (fun _=>true) true fuel e))=some y/\(y∈fJ\/y∈bL)/\(i<len->fJ[i]?=some y):=by
      by_cases hlt:i<len
      ·have h1:=mapM_some_get C5 i i (by simp[hlt]);have h2:=mapM_some_length C5;simp only[List.length_range] at h2;exact⟨fJ[i],by rw[h1];simp,.inl (xp _),fun _=>by simp⟩
      ·have hr0:(List.range (aN-len))[i-len]?=some (i-len):=by
        rw[List.getElem?_range (by omega)]
       have h1:=mapM_some_get mf (i-len) (i-len) hr0;have h2:=mapM_some_length mf;simp only[List.length_range] at h2;rw[show len+(i-len)=i from by omega] at h1;exact⟨bL[i-len],by rw[h1];simp,.inr (xp _),fun h=>absurd h hlt⟩
     have⟨y,hy,L2⟩:=this;simp only[Gg] at hy;have⟨l,h1,h2⟩:=hy;exact⟨l,h1,y,h2,L2⟩
    have E1:∀y,(y∈fJ\/y∈bL)->pk N bk bkA y.1:=fun y hy=>by
     rcases cG with cG|⟨hb,cG⟩
     ·exact .inl cG
     ·rw[hb.slice] at cG;refine .inr ⟨hb,?_⟩;rcases hy with hy|hy
      ·have:=hb.part (List.mem_map_of_mem (f:=fun x:DataW H×List MemPlace=>x.1) hy);omega
      ·have:=hb.part (List.mem_map_of_mem (f:=fun x:DataW H×List MemPlace=>x.1) hy);omega
    have hln:len<=N:=by
     rcases cG with cG|⟨hb,cG⟩
     ·omega
     ·rw[hb.slice] at cG;have h1:=hb.len (l:=fJ.map fun x=>x.1);have h2:=mapM_some_length C5;simp only[List.length_range,Gi] at h1 h2;omega
    by_cases kT:aN=0
    ·subst kT;obtain rfl:len=0:=by omega
     exact⟨_,ky.one rfl rfl (.nilslice (some a) r1.length) (.slice r1 [] (by simp) (fun i hi=>by simp at hi) (fun i j hi=>by simp at hi)),fun hb=>by simpa [J7,tC,xm] using hb.one _⟩
    ·obtain⟨l0,xf,-⟩:=el 0 (by omega);have LY:=World.cells?_some xf;obtain⟨c,ec,fr,C7,kU,-⟩:=MY (w:=w) (a:=(a.add (0*r1.length)).add 0) (u:=l0[0]'(by omega)) (by rw[LY.2.2 0 (by omega)];simp);have o0:a=⟨a.block,a.off,none⟩:=by
      have⟨b,o,sp⟩:=a;simp only[Addr.add] at C7;cases sp<;>simp_all
     have⟨b,o,sp⟩:=a;simp only[Addr.mk.injEq,true_and] at o0;subst o0;have kU:w.heap[b]?=some (.cells c ec fr):=by simpa [Addr.add] using kU
     have jQ:∀i,i<len->∃xs,ky N cx w (fun _=>False) r1 (fun j=>c[o+i*r1.length+j]?) xs/\(BK bk bkA->∀d,(fJ.map fun x=>x.1)[i]?=some d->j6 xs+1<=bk d):=by
      intro i hi;have⟨l,hl,⟨d',ps'⟩,hd,L2,Z9⟩:=el i (by omega);have⟨xs,⟨hx1,hx2⟩,wx⟩:=ih _ _ _ _ _ hd L1 (E1 _ L2);obtain⟨-,hl1,hl2⟩:=World.cells?_some hl;refine⟨xs,⟨hx1,fun j hj=>?_⟩,fun hb d hd=>by
       rw[List.getElem?_map,Z9 hi] at hd;simp only[Option.map_some,Gb] at hd;rw[<-hd];exact wx hb⟩
      have⟨u,p1,p2⟩:=hx2 j hj;refine⟨u,?_,p2⟩;simp only at p1 ⊢;have h3:=hl2 j hj;rw[p1,Jv,Jv] at h3;have⟨c',_,_,_,h4,h5⟩:=MY h3;rw[kU] at h4;simp only[Gb,Obj.cells.injEq] at h4;obtain⟨rfl,-⟩:=h4;exact h5
     have⟨f,hf⟩:=oh jQ;have hlen:((List.range len).map f).length=len:=by simp
     have mW:∀i,i<len->gr ((List.range len).map f) i=f i:=fun i hi=>by simp[gr,hi]
     refine⟨[.slice r1.length ((List.range len).map f)],ky.one rfl rfl ?_ ?_,fun hb=>?_⟩
     ·refine Ds (c:=c) (e:=ec) (fr:=fr) (JG kU) id kU (by simpa using Z8) (fun i hi=>?_) (fun i j hi hj=>?_) hlen
      ·rw[hlen] at hi;rw[mW i hi];exact (hf i hi).1.1
      ·rw[hlen] at hi;rw[mW i hi];have⟨u,p1,p2,p3,p4⟩:=(hf i hi).1.2 j hj;exact⟨u,p1,p2,p3⟩
     ·refine .slice r1 _ (by rw[hlen];exact hln) (fun i hi=>?_) (fun i j hi hj=>?_)
      ·rw[hlen] at hi;rw[mW i hi];exact (hf i hi).1.1
      ·rw[hlen] at hi;rw[mW i hi];have⟨u,p1,p2,p3,p4⟩:=(hf i hi).1.2 j hj;exact p4
     ·have nz:=mapM_some_length C5;simp only[List.length_range] at nz;have:=hb.rows (es:=fJ.map fun x=>x.1) (f:=f) fun i d hd=>(hf i (by
       have:=(List.getElem?_eq_some_iff.1 hd).1;simp only[Gi] at this;omega)).2 hb d hd
      simp only[Gi,nz] at this;rw[hb.slice,J7,tC,hlen];omega
  ·rename_i fs ht;simp only[Gg] at hr;have⟨r1,L1,hr⟩:=hr;split at hr<;>simp only[Gb,reduceCtorEq] at hr;subst hr;rw[ht] at h;split at h
   all_goals try (simp_all;done)
   rename_i fs' _ heq;simp only[Gb,TypeDesc.struct.injEq] at heq;subst heq;split at h<;>try (simp at h;done)
   simp only[uI] at h;have⟨ys,hys,hd⟩:=h;simp only[Gr] at hd;obtain⟨rfl,-⟩:=hd;have hfy:∀y∈ys,pk N bk bkA y.1:=fun y hy=>by
    rcases cG with cG|⟨hb,cG⟩
    ·exact .inl cG
    ·rw[hb.agg] at cG;have:=hb.part (List.mem_map_of_mem (f:=fun x:DataW H×List MemPlace=>x.1) hy);exact .inr ⟨hb,by omega⟩
   have⟨xs,hx,wx⟩:=MS (fun t cs d ps r=>ih t cs d ps r) fs.toList 0 ys _ hys L1 hfy;exact⟨xs,by simpa using hx,fun hb=>by have:=wx hb;rw[hb.agg];omega⟩
  ·simp at hr
end
end Sg
namespace Sg
open Go Go.RowKit Go.ChangeShapes Go.WideShapes
def isAgg (P:Program) (t:TypeId):Bool:=
 match P.underlying t with
 |some (.struct _)=>true
 |_=>false
def AV (P:Program) (t:TypeId):Option (Bool×List CT):=(lR P 20 t).bind fun r=>some (isAgg P t,r)
def tP (N:Nat) (r:List CT) (xs:Eq):Prop:=xs.length=r.length/\∀j,j<r.length->eo N (gt r j) (gv xs j)
def iZ (N:Nat):Bool×List CT->V->Prop
 |(true,r),x=>∃xs,x=.agg xs/\tP N r xs
 |(false,r),x=>∃c,r=[c]/\eo N c x
def ik (N:Nat):List (Bool×List CT)->Eq->Prop
 |[],[]=>True
 |s::ss,x::xs=>iZ N s x/\ik N ss xs
 |_,_=>False
def nF (N:Nat) (x:V):Prop:=maxLen<=N\/tC x<=N
section
variable {P:Program} {cx:Cx} {w:World} {N:Nat}
def SM {H:Type} {enc:TypeId×Value->H} {bk:DataW H->Nat} {bkA:List (DataW H)->Nat} {t:TypeId} {v:Value} {d:DataW H} {M:List MemPlace} {s:Bool×List CT} {base:Nat} (h:DataW.Trod enc P w 0 (fun _=>true) true t v d M)
  (hw:Value.okWide P w .any base t v) (D:AV P t=some s) (p:pk N bk bkA d):∃x,aC cx w (fun _=>False) v x/\iZ N s x/\nF N x:=by
 unfold AV at D
 simp only[Gg,Gb] at D
 obtain⟨r,o,rfl⟩:=D
 have⟨q,U⟩:=h
 have⟨xs,⟨y,L⟩,I⟩:=ml (cx:=cx) (N:=N) (bk:=bk) (bkA:=bkA) q 20 t _ d M r U o p
 have J:nF N (.agg xs):=by
  rcases p with p|⟨S,p⟩
  ·exact .inl p
  ·have:=I S;exact .inr (by show j6 xs<=N;omega)
 have one:∀c,r=[c]->v.cells=#[v]->isAgg P t=false->∃x,aC cx w (fun _=>False) v x/\iZ N (isAgg P t,r) x/\nF N x:=by
  intro c T X z;subst T;have⟨u,h1,Z,Q,R⟩:=L 0 (by simp);rw[X] at h1;simp at h1;subst h1;refine⟨gv xs 0,Q,by rw[z];exact⟨c,rfl,R⟩,J.imp id fun h=>?_⟩
  match xs,y with
  |[x],_=>have h:j6 [x]<=N:=h;rw[J7] at h;exact h
 unfold lR at o
 split at o
 ·rename_i ht
  obtain⟨b,rfl⟩:=okWide_bool ht hw
  simp only[Gb] at o
  exact one _ o.symm rfl (by simp[isAgg,ht])
 ·rename_i k ht
  obtain⟨b,rfl⟩:=okWide_int ht hw
  simp only[Gb] at o
  exact one _ o.symm rfl (by simp[isAgg,ht])
 ·rename_i ht
  obtain⟨b,rfl⟩:=okWide_string ht hw
  simp only[Gb] at o
  exact one _ o.symm rfl (by simp[isAgg,ht])
 ·rename_i e ht
  obtain⟨a,len,aN,rfl⟩:=okWide_slice ht hw
  simp only[Gg] at o
  obtain⟨O,-,o⟩:=o
  split at o<;>simp only[Gb,reduceCtorEq] at o
  exact one _ o.symm rfl (by simp[isAgg,ht])
 ·rename_i Y ht
  obtain⟨cs,rfl,E⟩:=okWide_struct ht hw
  simp only[Gg] at o
  obtain⟨O,-,o⟩:=o
  split at o<;>simp only[Gb,reduceCtorEq] at o
  rename_i hz
  subst o
  have B:cs.size=O.length:=by rw[E];exact Ft hz
  have z:isAgg P t=true:=by simp[isAgg,ht]
  have⟨u,hu⟩:=oh L
  refine⟨.agg xs,.agg cs xs u (by rw[B,y]) (fun i hi=>?_) (fun i hi=>?_),?_⟩
  ·rw[y] at hi
   have:=(hu i hi).1
   exact⟨by simpa [Value.cells] using this,(hu i hi).2.1⟩
  ·rw[y] at hi;exact (hu i hi).2.2.1
  ·rw[z];exact⟨⟨xs,rfl,y,fun j W=>(hu j W).2.2.2⟩,J⟩
 ·simp at o
theorem eW {H:Type} {enc:TypeId×Value->H} {bk:DataW H->Nat} {bkA:List (DataW H)->Nat} {base:Nat}:∀(ts:List TypeId) (vs:List Value) (ds:List (DataW H)) (I:List MemPlace) (ss:List (Bool×List CT)),DataW.TrodAll enc P w 0 (fun _=>true) true ts vs ds I->
  (∀(j:Nat) t v,ts[j]?=some t->vs[j]?=some v->Value.okWide P w .any base t v)->Jn (AV P) ts=some ss->(∀d∈ds,pk N bk bkA d)->
  ∃xs:Eq,xs.length=vs.length/\(∀i,i<xs.length->∃u,vs[i]?=some u/\aC cx w (fun _=>False) u (gv xs i))/\ik N ss xs/\ds.length=ts.length/\∀x∈xs,nF N x
 |[],vs,ds,I,ss,h,_,hs,_=>by
  obtain⟨rfl,rfl,rfl⟩:=trodAll_nil h;simp only[Jn,Gb] at hs;subst hs;exact⟨[],rfl,fun i hi=>by simp at hi,GN,rfl,fun x S=>by cases S⟩
 |t::ts,vs,ds,I,ss,h,hok,hs,cG=>by
  match vs,ds,h,cG with
  |v::vs,d::ds,h,cG=>
   obtain⟨p,q,h1,M,rfl⟩:=h;simp only[Jn,Gg,Gb] at hs;obtain⟨s,o,J,z,rfl⟩:=hs;have⟨x,B,D,E⟩:=SM (cx:=cx) (N:=N) h1 (hok 0 t v rfl rfl) o (cG d (G0 ..));have⟨xs,a,b,c,e,L⟩:=eW ts vs ds q J M (fun j t v Q R=>hok (j+1) t v (by simpa using Q) (by simpa using R)) z (fun d O=>cG d (G2 _ O));refine⟨x::xs,by simp[a],fun i hi=>?_,⟨D,c⟩,by simp[e],fun y hy=>by
    rcases GH.1 hy with rfl|hy
    ·exact E
    ·exact L y hy⟩
   cases i with
   |zero=>exact⟨v,rfl,by simpa [gv] using B⟩
   |succ i=>have⟨u,T,U⟩:=b i (by simpa using hi);exact⟨u,by simpa using T,by simpa [gv] using U⟩
theorem Ng {H:Type} {enc:TypeId×Value->H} {W u:World} {B:Nat->Bool} (z:laidOutB P=true) (y:Below W.heap.size W u) :
  ∀(ts:List TypeId) (vs:List Value) (ds:List (DataW H)) (o:List MemPlace),(ts.all fun t=>P.readableRec t&&decide (t<P.types.size))=true->
  DataW.TrodAll enc P W 0 (fun _=>true) true ts vs ds o->(∀p∈o,p.block<W.heap.size)->(∀p∈o,B p.block=true)->DataW.TrodAll enc P u 0 B true ts vs ds o
 |[],vs,ds,o,_,h,_,_=>by
  obtain⟨rfl,rfl,rfl⟩:=trodAll_nil h;exact trodAll_mk0
 |t::ts,vs,ds,o,hc,h,hlt,hsp=>by
  match vs,ds,h with
  |v::vs,d::ds,h=>
   obtain⟨p,q,h1,D,rfl⟩:=h;simp only[List.all_cons,Ge,Gj] at hc;exact⟨p,q,WideElems.Trod_stays z hc.1.1 hc.1.2 h1 (fun x j=>y.same (hlt x (by simp[j]))) (fun x j=>hsp x (by simp[j])),
    Ng z y ts vs ds q (by simpa using hc.2) D (fun x j=>hlt x (by simp[j])) (fun x j=>hsp x (by simp[j])),rfl⟩
def C9 {H:Type} {enc:TypeId×Value->H} {bk:DataW H->Nat} {bkA:List (DataW H)->Nat} {fn:Func} {s:ChangeSpec} {conds:List PathCond} {kP oY jI oV:Bool} {own:Option Nat} {fid:Nat} {f:FuncId} {ss:List (Bool×List CT)} {tb:TypeId}
  (LV:cx.fm fid=f) (xh:Jn (AV P) fn.params.toList=some ss) (jJ:(fn.params.toList.all fun t=>P.readableRec t&&decide (t<P.types.size))=true) (hl:laidOutB P=true)
  (mg:s.vars=[]) (lN:fn.resultTypes=#[tb]) (E2:P.underlying tb=some .bool)
  (oZ:∀ds:List (DataW H),ds.length=fn.params.toList.length->s.fn H ds={results:=[.lit (.bool true)],args:=ds})
  (xd:∀xs,ik N ss xs->(∀x∈xs,nF N x)->jR P cx own fid xs (.bool true))
  (W:World) (hgn:cx.gn<=W.heap.size) (hG:cx.G W) (base:Nat) (args:Array Value) (ds gs:List (DataW H)) (aV:List MemPlace)
  (hval:∀(j:Nat) t v,fn.params[j]?=some t->args[j]?=some v->Value.okWide P W .any base t v)
  (hW:DataW.Whole enc P fn.params.toList s.vars kP W args.toList ds gs aV) (cG:∀d∈ds,pk N bk bkA d) :
  Calls P f args W fun e W'=>∃v,e=.returned v/\s.post enc P fn kP oY jI oV W args v W':=by
 have hlt:=hW.lt
 have Qy:=hW
 obtain⟨p,q,hA,hV,rfl,-,-⟩:=hW
 rw[mg] at hV
 obtain⟨rfl,rfl⟩:=trodVars_none hV
 have⟨xs,h1,h2,h3,h4,h5⟩:=eW (cx:=cx) (N:=N) (bk:=bk) (bkA:=bkA) (base:=base) fn.params.toList args.toList ds p ss hA (fun j t v hj hv=>hval j t v (by simpa using hj) (by simpa using hv)) xh cG
 obtain⟨-,hc⟩:=xd xs h3 h5
 subst LV
 refine (hc W (fun _=>False) args (fun b hb=>hb.elim) hgn hG (by simpa using h1.symm) (fun i hi=>by simpa using h2 i hi)).mono fun e W' ⟨v,he,hb,hr⟩=>?_
 subst he
 have L0:=hr.data (fun b hb=>hb.elim)
 have hv:v=.bool true:=by cases L0;rfl
 subst hv
 have hs:=oZ ds h4
 have xg:∀x∈p,x.block<W.heap.size:=fun x hx=>hlt x (by simpa using hx)
 have res:∀(b:Nat) (sp:Nat->Bool) (hd:Bool),DataW.TrodAll enc P W' b sp hd fn.resultTypes.toList ((Value.bool true).resultList fn.resultTypes.size) (s.fn H (ds++[])).results []:=fun b sp hd=>by
  rw[GD,hs,lN];exact trodAll_mk1 (shut_bool E2 true)
 have C0:∀sp:Nat->Bool,(∀x∈p,sp x.block=true)->DataW.TrodAll enc P W' 0 sp true fn.params.toList args.toList (s.fn H (ds++[])).args p:=fun sp hsp=>by
  rw[GD,hs];exact Ng hl hb _ _ _ _ jJ hA xg hsp
 have vars:∀sp:Nat->Bool,DataW.TrodVars enc P W' sp s.vars (s.fn H (ds++[])).vars []:=fun sp=>by
  rw[GD,hs,mg];rfl
 refine⟨_,rfl,ds,[],p++[],[],p,[],Qy,res _ _ _,C0 _ (fun x hx=>by simpa using xg x hx),vars _,hb.frame _,fun _=>⟨ok_one lN rfl (okWide_bool_mk E2 true),(s.fn H (ds++[])).results++(s.fn H (ds++[])).args,(s.fn H (ds++[])).vars,p,?_,fun x hx _=>by simpa using hx⟩⟩
 have⟨_,_,_,_,_,hz,hn⟩:=Qy
 refine⟨p,[],?_,vars _,by simp,fun b off hx=>?_,fun ha=>by simpa using hn ha⟩
 ·have:=trodAll_append (C0 (fun _=>true) (fun _ _=>rfl)) (res 0 (fun _=>true) true)
  simpa using this
 ·rw[hb.frozen (xg _ hx)]
  exact hz b off (by simpa using hx)
def C8 {H:Type} {enc:TypeId×Value->H} {bk:DataW H->Nat} {bkA:List (DataW H)->Nat} {fn:Func} {s:ChangeSpec} {conds:List PathCond} {kP oY jI oV:Bool} {own:Option Nat} {fid:Nat} {f:FuncId} {ss:List (Bool×List CT)} {tb:TypeId}
  (LV:cx.fm fid=f) (xh:Jn (AV P) fn.params.toList=some ss) (jJ:(fn.params.toList.all fun t=>P.readableRec t&&decide (t<P.types.size))=true) (hl:laidOutB P=true)
  (mg:s.vars=[]) (lN:fn.resultTypes=#[tb]) (E2:P.underlying tb=some .bool)
  (oZ:∀ds:List (DataW H),ds.length=fn.params.toList.length->s.fn H ds={results:=[.lit (.bool true)],args:=ds})
  (xd:∀xs,ik N ss xs->jR P cx own fid xs (.bool true))
  (W:World) (hgn:cx.gn<=W.heap.size) (hG:cx.G W) (base:Nat) (args:Array Value) (ds gs:List (DataW H)) (aV:List MemPlace)
  (hval:∀(j:Nat) t v,fn.params[j]?=some t->args[j]?=some v->Value.okWide P W .any base t v)
  (hW:DataW.Whole enc P fn.params.toList s.vars kP W args.toList ds gs aV) (cG:∀d∈ds,pk N bk bkA d) :
  Calls P f args W fun e W'=>∃v,e=.returned v/\s.post enc P fn kP oY jI oV W args v W':=
 C9 (conds:=conds) (bk:=bk) (bkA:=bkA) LV xh jJ hl mg lN E2 oZ (fun xs h _=>xd xs h) W hgn hG base args ds gs aV hval hW cG
end
end Sg
