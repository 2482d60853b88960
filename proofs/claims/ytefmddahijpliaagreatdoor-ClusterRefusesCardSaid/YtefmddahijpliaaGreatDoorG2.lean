/- A checked abstract run of translated code is sound: for every program and input that pass its checks. A general part, used by the proofs of this seat. -/
import Derived.Laws.BytesArg
import Derived.Lib.SliceRun
import Derived.Orders
import Derived.Attr
import Derived.IntWalk
import Derived.Shelf.Unicode.DecodeAny
import Derived.Lib.OthersKept
import Derived.Lib.AppendZeros
import Derived.Lib.AppendZerosOnto
import Derived.Test.YtefmddahijpliaaGreatDoorG1
set_option linter.unusedSimpArgs false
set_option linter.unusedVariables false
set_option linter.constructorNameAsVariable false
set_option linter.defProp false
set_option maxRecDepth 100000
namespace Sg
open Go Go.RowKit
section
variable {P:Program} {cx:Cx} {B:Nat→Prop} {X:Nat→Prop} {S:St} {w:World} {β:Nat→Nat} {α:Nat→Value} {M:Nat→Prop}
variable {a:Act} {ds:List (Option Nat)} {e:Nat→V} {κ:Nat→List V→Option V} {ownOf:Nat→Option Nat}
theorem JbY:∀(fs:List Field) (pl:List (Nat×Nat)),placesL P fs=some pl→(fs.mapM fun f=>do pure (f.offset,←Go.sizeOf f.type):Sem (List (Nat×Nat))).run P w=.ok pl w
 |[],pl,h=>by simp only[placesL,Ga] at h;subst h;simp
 |f::fs,pl,h=>by
  simp only[placesL,Gb,Ga] at h;obtain⟨n,hn,r,hr,rfl⟩:=h;have ih:=JbY fs r hr;simp only[List.mapM_cons,Sem.run_bind,Jh hn w,Result.andThen,Sem.run_pure,ih]
theorem Jem {t:TypeId} {pl:List (Nat×Nat)} (h:JbA P t=some pl):∃fs,P.underlying t=some (.struct fs)∧(fs.mapM fun f=>do pure (f.offset,←Go.sizeOf f.type):Sem (Array (Nat×Nat))).run P w=.ok pl.toArray w:=by
 unfold JbA at h;split at h
 ·rename_i fs hu;refine⟨fs,hu,?_⟩;rw[Array.mapM_eq_mapM_toList];have:=JbY (w:=w) fs.toList pl h;simp only[map_eq_pure_bind,Sem.run_bind,this,Result.andThen,Sem.run_pure]
 ·simp at h
theorem newData_post (h:RelW cx B X S w β α M) {z n:Nat} {rows:List (List V)} {cells:Array Value} {el:TypeId} (hdr:DR cx w (orP X M) z cells.toList rows) (hlen:rows.length=n) :
  OpPost cx B X S w β α M S (.slice z rows) (.slice (some ⟨w.heap.size,0,none⟩) n n) {w with heap:=w.heap.push (.cells cells el)}:=by
 have hgr:=Jcf w (.cells cells el)
 have hat:=JdS w (.cells cells el)
 have hbel:=JbH (B:=B) w (.cells cells el) h.size
 have hlt:w.heap.size<({w with heap:=w.heap.push (.cells cells el)}:World).heap.size:=by simp
 generalize ({w with heap:=w.heap.push (.cells cells el)}:World)=w2 at *
 have hw:=h.grow hgr (M':=M) (fun _ h=>h) (fun _ h=>.inl h)
 have hD:∀u x,RelD cx w (orP X M) u x→RelD cx w2 (orP X M) u x:=fun _ _ hr=>Jao hgr (fun _ h=>.inl h) hr
 have hdr':=hdr.mono hD
 refine⟨β,α,M,hw,fun u x hu=>RelT.tr hD (ATr.refl S α) (fun s hs=>⟨hs,rfl⟩) hu,?_,hbel⟩
 refine Jbf (o:=0) (c:=cells) (e:=el) (fr:=(0,0)) hlt ?_ hat (by omega) hdr'.2.1 (fun i j hi hj=>?_) hlen
 ·rintro (hx|hm)
  ·exact Nat.lt_irrefl _ (h.size _ (h.xb _ hx))
  ·have:=(h.m _ hm).2;omega
 ·obtain⟨u,q1,q2,q3⟩:=hdr'.2.2 i j hi hj
  exact⟨u,by simpa using q1,q2,q3⟩
theorem JcV {P:Program} {w:World} {t el:TypeId} {x y:Operand} {a0:Option Addr} {n c:Nat} (h:P.underlying t=some (.slice el)) :
  (do eqGuard .eql t x y (.slice a0 n c) (.slice none 0 0);Go.binOp .eql t (.slice a0 n c) (.slice none 0 0):Sem Value).run P w=.ok (.bool a0.isNone) w:=by
 have hG:(eqGuard .eql t x y (.slice a0 n c) (.slice none 0 0)).run P w=.ok () w:=by
  unfold eqGuard
  rfl
 simp only[Sem.run_bind,hG,Result.andThen]
 exact Lib.run_eql_slice_nil w t el a0 n c 0 0 h
def okOwn (ownOf:Nat→Option Nat):K→Bool
 |.call (.k f) _ own _=>own.isNone||own == ownOf f
 |.call (.v _) _ own _=>own.isNone
 |.ins f _ z _ _ _=>decide (z<1000)&&ownOf f == some (1000+z)
 |.del f _ z _ _ _=>decide (z<1000)&&ownOf f == some (2000+z)
 |.rcall f _ k _ _=>decide (k<1000)&&ownOf f == some (3000+k)
 |_=>true
theorem Jg9 {op:Go.Op} {f s z:Nat} {x y i:Arg} (h:okK P cx ds op (.ins f s z x i y)=true):∃c:Call,op=.call c∧c.callee=.value (.func (cx.fm f))∧Jj cx ds c.args.toList [x,i,y]=true:=by
 unfold okK at h;split at h<;>first|(simp_all;done)|skip
 all_goals (rename_i f' args ts f'' s' z' a' b' c' heq;simp only[K.ins.injEq] at heq;obtain⟨rfl,rfl,rfl,rfl,rfl,rfl⟩:=heq;simp only[Bool.and_eq_true,beq_iff_eq] at h;exact⟨_,rfl,by rw[←h.1],h.2⟩)
theorem Jg0 {op:Go.Op} {f s z:Nat} {x y i:Arg} (h:okK P cx ds op (.del f s z x i y)=true):∃c:Call,op=.call c∧c.callee=.value (.func (cx.fm f))∧Jj cx ds c.args.toList [x,i,y]=true:=by
 unfold okK at h;split at h<;>first|(simp_all;done)|skip
 all_goals (rename_i f' args ts f'' s' z' a' b' c' heq;simp only[K.del.injEq] at heq;obtain⟨rfl,rfl,rfl,rfl,rfl,rfl⟩:=heq;simp only[Bool.and_eq_true,beq_iff_eq] at h;exact⟨_,rfl,by rw[←h.1],h.2⟩)
theorem Jch {o:Oper} {c:Call} {f:FuncId} (ho:o.op=.call c) (hc:c.callee=.value (.func f)) (hE:Ent P f):(execOp a.eval o).run P w=.ok (.enter f (c.args.map a.eval)) w:=by
 have hres:(resolve a.eval c o.type).run P w=.ok {target:=.fn (.func f) #[],args:=#[]++c.args.map a.eval} w:=by
  unfold resolve;rw[hc];rfl
 unfold execOp;simp only[ho,Sem.run_bind,hres,Result.andThen,invoke];rw[JU hE];simp
theorem Jb3 (hg:∀t,RelT cx w (orP X M) S β α (a.tmps.getD t undef) (S.ρ t)) (hl:∀i d,ds[i]?=some (some d)→RelT cx w (orP X M) S β α (a.tmps.getD d undef) (e i))
  {c:Call} {x y z:Arg} (h:Jj cx ds c.args.toList [x,y,z]=true):∃u1 u2 u3,c.args.map a.eval=#[u1,u2,u3]∧RelT cx w (orP X M) S β α u1 (argv e S.ρ x)∧RelT cx w (orP X M) S β α u2 (argv e S.ρ y)∧RelT cx w (orP X M) S β α u3 (argv e S.ρ z):=by
 obtain⟨hlen,hrel⟩:=J1 hg hl _ _ h
 obtain⟨u1,p1,q1⟩:=hrel 0 (by simp)
 obtain⟨u2,p2,q2⟩:=hrel 1 (by simp)
 obtain⟨u3,p3,q3⟩:=hrel 2 (by simp)
 refine⟨u1,u2,u3,?_,q1,q2,q3⟩
 have hl:(c.args.toList.map a.eval).length=3:=by simpa using hlen
 generalize hll:c.args.toList.map a.eval=l at p1 p2 p3 hl
 match l,hl with
 |[a1,a2,a3],_=>
  simp at p1 p2 p3
  subst p1;subst p2;subst p3
  apply Array.ext'
  simpa using hll
theorem JcA {v:Value} {k:IntKind} {n:Int} (h:RelT cx w (orP X M) S β α v (.int k n)):v=.int k n:=by
 simp only[RelT] at h;cases h;rfl
structure KOK (P:Program) (cx:Cx) (ownOf:Nat→Option Nat) (κ:Nat→List V→Option V):Prop where
 call:∀f args r,κ f args=some r→Ctr P cx (ownOf f) f args r
 ins:∀f z,z<1000→ownOf f=some (1000+z)→∃tS el,InsC P (cx.fm f) z tS el
 del:∀f z,z<1000→ownOf f=some (2000+z)→DelC P (cx.fm f) z
 rf:∀f k,k<1000→ownOf f=some (3000+k)→∀args r,κ f args=some r→CtrR P cx k f args r
theorem b2s_ok {P:Program} {cx:Cx} {w:World} {Y:Nat→Prop} {u:Value} {rows:List (List V)} {l:List UInt8} {src dst e:TypeId} (hr:RelD cx w Y u (.slice 1 rows)) (hl:bytesR rows=some l)
  (hs:P.underlying src=some (.slice e)) (he:P.underlying e=some (.int .u8)) (hd:P.underlying dst=some .string) :
  ∃q,(Go.convert src dst u).run P w=.ok q w∧RelD cx w Y q (.str l):=by
 have hx:∀(rows:List (List V)) (l:List UInt8),bytesR rows=some l→∃xs:List Int,rows=xs.map (fun n=>[V.int .u8 n])∧l=xs.map fun n=>UInt8.ofNat n.toNat:=by
  intro rows
  induction rows with
  |nil=>intro l h;simp only[bytesR,Ga] at h;exact⟨[],rfl,h.symm⟩
  |cons r rs ih=>
   intro l h;unfold bytesR at h;split at h
   ·rename_i h0;simp at h0
   ·rename_i n rs' heq;simp only[List.cons.injEq] at heq;obtain⟨rfl,rfl⟩:=heq;simp only[Gb,Ga] at h;obtain⟨l',h1,rfl⟩:=h;obtain⟨xs,rfl,rfl⟩:=ih l' h1;exact⟨n::xs,rfl,rfl⟩
   ·simp at h
 obtain⟨xs,rfl,rfl⟩:=hx rows l hl
 have hq:RelD cx w Y (.string (strOfNums xs)) (.str (xs.map fun n=>UInt8.ofNat n.toNat)):=by
  have:=RelD.str (cx:=cx) (w:=w) (X:=Y) (strOfNums xs);rwa [strOfNums_data] at this
 refine⟨_,?_,hq⟩
 rcases JS hr with ⟨⟨a,rfl⟩,hn⟩|⟨b,o,cap,c,el,fr,rfl,hb,hX,hw,hcap,hz,hc⟩
 ·have hxs:xs=[]:=by simpa using hn
  subst hxs
  cases a with
  |none=>rw[run_convert_bytes_nil w src e hs he 0 0 dst hd];rfl
  |some a=>
   rw[run_convert_bytes_string w src dst e _ 0 0 hs he hd,run_bytesToString w a 0 0 [] (by
    have:=run_loadCells_list (P:=P) w a [] (fun j v hj=>by simp at hj);simpa using this)]
   rfl
 ·have hlen:(xs.map (fun n=>[V.int .u8 n])).length=xs.length:=by simp
  rw[hlen]
  refine run_convert_bytes_arg w src e hs he b o xs.length cap xs rfl (fun i hi=>?_) dst hd
  obtain⟨u,p,q,r⟩:=hc i 0 (by rw[hlen];exact hi) (by omega)
  have hg:gv (gr (xs.map (fun n=>[V.int .u8 n])) i) 0=.int .u8 (xs.getD i 0):=by
   simp[gr,gv,hi]
  rw[hg] at r
  cases r
  simp only[Nat.mul_one,Nat.add_zero] at p
  simp[World.cell?,hw,p]
theorem JeS {o:Oper} {k:K} {d:Nat} {r:V} {S1:St} (h:RelW cx B X S w β α M)
  (hg:∀t,RelT cx w (orP X M) S β α (a.tmps.getD t undef) (S.ρ t)) (hl:∀i d,ds[i]?=some (some d)→RelT cx w (orP X M) S β α (a.tmps.getD d undef) (e i))
  (hκ:KOK P cx ownOf κ) (hok:okK P cx ds o.op k=true) (hown:okOwn ownOf k=true)
  (hev:ev κ d e S k=some (r,S1)):Does P o a w (OpPost cx B X S w β α M S1 r):=by
 have arg:=fun {x:Operand} {y:Arg} (h:Ja cx ds x y=true)=>Jam hg hl h
 cases k with
 |mov y=>
  obtain⟨x,hop,hx⟩:=Jhg hok
  simp only[ev,Ga,Gf] at hev
  obtain⟨rfl,rfl⟩:=hev
  refine .inl ⟨a.eval x,w,?_,.pure h (arg hx)⟩
  rcases hop with hop|hop<;>simp[execOp,hop]
 |pick c x y=>
  obtain⟨c',x',y',hop,h1,h2,h3⟩:=Jfp hok
  simp only[ev] at hev
  have hc:=arg h1
  split at hev<;>try (simp at hev;done)
  rename_i t ht
  rw[ht] at hc
  simp only[Ga,Gf] at hev
  obtain⟨rfl,rfl⟩:=hev
  refine .inl ⟨if t then a.eval x' else a.eval y',w,?_,.pure h ?_⟩
  ·simp[execOp,hop,Jal hc,asBool]
  ·cases t
   ·exact arg h3
   ·exact arg h2
 |box y=>
  obtain⟨t,x,hop,hx⟩:=JgZ hok
  simp only[ev] at hev
  split at hev
  ·simp at hev
  ·rename_i hd
   simp only[Gb,Ga,Gf] at hev
   obtain⟨cs,hcs,rfl,rfl⟩:=hev
   have:=newVar_post (t:=t) h hd (cells_rel (arg hx) hcs)
   rw[Array.toArray_toList] at this
   exact .value (s:=Instr.box t (a.eval x)) (by simp[execOp,hop]) (by simp[Instr.box,newVar,newRow,Result.andThen]) this
 |alloc z=>
  obtain⟨t,hop,hz⟩:=Jef hok
  simp only[ev] at hev
  split at hev
  ·simp at hev
  ·rename_i hd
   simp only[Ga,Gf] at hev
   obtain⟨rfl,rfl⟩:=hev
   obtain⟨v,hv,hvz⟩:=Jbd (P:=P) (w:=w) hz
   have:=newVar_post (t:=t) h hd (JbC hvz)
   rw[Array.toArray_toList] at this
   exact .value (s:=Instr.alloc t true (.tuple #[])) (by simp[execOp,hop]) (by simp[Instr.alloc,hv,newVar,newRow,Result.andThen]) this
 |build z qs=>
  obtain⟨t,ps,hop,hz,hcase⟩:=Jeg hok
  simp only[ev,Gb,Ga,Gf] at hev
  obtain⟨cs,hcs,rfl,rfl⟩:=hev
  obtain⟨v,hv,hvz⟩:=Jbd (P:=P) (w:=w) hz
  rcases hcase with ⟨pl,hpl,hok'⟩|⟨harr,rfl,rfl⟩
  rotate_left
  ·simp only[Gt,Jae,Ga] at hcs
   subst hcs
   unfold arrT at harr
   split at harr
   ·rename_i m e hu
    obtain⟨sz,hsz⟩:=GE.1 harr
    have hcr:=JbC (cx:=cx) (w:=w) (X:=orP X M) (S:=S) (α:=α) hvz
    refine .value (s:=Instr.build t ((#[]:Array (Nat×Operand)).map fun (i,x)=>(i,a.eval x))) (v:=.agg v.cells) (by simp only[execOp,hop]) ?_ (.pure h (by simpa using hcr.agg (β:=β)))
    unfold Instr.build
    simp only[Sem.run_bind,hv,Result.andThen,run_underlying hu w,Jh hsz w,Array.toList_map,Gt,Instr.fill,Sem.run_pure]
   ·simp at harr
  obtain⟨cells,hf,hcr⟩:=JdL hg hl ps.toList qs v.cells z cs hok' (JbC hvz) hcs
  obtain⟨fs,hu,hpl'⟩:=Jem (w:=w) hpl
  refine .value (s:=Instr.build t (ps.map fun (i,x)=>(i,a.eval x))) (v:=.agg cells) (by simp only[execOp,hop]) ?_ (.pure h (by simpa using hcr.agg (β:=β)))
  unfold Instr.build
  simp only[Sem.run_bind,hv,Result.andThen,run_underlying hu w,hpl',Array.toList_map,List.getElem?_toArray,hf,Sem.run_pure]
 |mks z n zero qs=>
  simp only[ev,Gb,Ga,Gf] at hev
  obtain⟨rows,hrows,rfl,rfl⟩:=hev
  rcases JdP hok with ⟨t,len,ps,el,hop,h1,h2,h3,h4,h5,h6,h7,h8⟩|⟨t,el,ie,hop,h1,h2,h3,h4,h5,h6,rfl,h7,h8,h9⟩
  rotate_left
  ·simp only[Gt,Jr,Ga] at hrows
   subst hrows
   obtain⟨cells,hrun,hdr⟩:=make_ok (cx:=cx) (w:=w) (X:=orP X M) h1 h2 h3 h4 h5 h7 h8 h9 h6
   have hpost:=newData_post (el:=el) (n:=n) h hdr (by simp)
   generalize ({w with heap:=w.heap.push (.cells cells el)}:World)=w2 at hrun hpost
   refine .inl ⟨_,w2,?_,hpost⟩
   unfold execOp
   rw[hop]
   simp only[Sem.run_bind,Act.eval]
   erw [hrun]
   rfl
  obtain⟨cells,hrun,hdr,hlen⟩:=mks_ok hg hl h1 h2 h3 h4 h5 h6 h7 h8 hrows
  have e1:(ps.toList.map fun (i,x)=>(i,a.eval x)).toArray=ps.map fun (i,x)=>(i,a.eval x):=by apply Array.ext';simp
  rw[e1] at hrun
  have hpost:=newData_post (el:=el) h hdr hlen
  generalize ({w with heap:=w.heap.push (.cells cells el)}:World)=w2 at hrun hpost
  refine .inl ⟨_,w2,?_,hpost⟩
  unfold execOp
  rw[hop]
  simp only[Sem.run_bind]
  erw [hrun]
  rfl
 |mko z=>
  obtain⟨x,hop,rfl⟩:=Jhf hok
  simp only[ev] at hev
  split at hev
  ·simp at hev
  ·rename_i hd
   simp only[Ga,Gf] at hev
   obtain⟨rfl,rfl⟩:=hev
   refine .inl ⟨.slice none 0 0,w,by rcases hop with hop|hop<;>simp[execOp,hop,Act.eval],?_⟩
   have hadd:=h.addArr (d:=d) (z0:=z) (rows0:=[]) (v0:=.slice none 0 0) hd ⟨fun i hi=>by simp at hi,.inl ⟨rfl,rfl⟩⟩ (fun b hb=>by simp[hdr] at hb) (fun s b _ hb=>by simp[hdr] at hb) (fun s z' r f _ _ b hb=>by simp[hdr] at hb)
   have hT:ATr S {S with A:=upd S.A d (some (z,[],.live))} α (upd α d (.slice none 0 0)):=fun s z' r f hs=>by
    have:s≠d:=fun e=>by rw[e,hd] at hs;simp at hs
    exact⟨r,f,by simp[upd,this,hs],fun hf=>⟨hf,Gn _,fun _=>by simp[upd,this]⟩⟩
   exact⟨β,_,M,hadd,fun u x hu=>RelT.tr (fun _ _ h=>h) hT (fun s hs=>⟨hs,rfl⟩) hu,⟨[],.live,none,0,by simp[upd],rfl,by simp,fun _=>⟨by simp,fun _=>by simp[upd]⟩⟩,Kept.refl _ _⟩
 |mkb z n zero qs=>
  rcases JdP (Jhe hok) with ⟨t,len,ps,el,hop,h1,h2,h3,h4,h5,h6,h7,h8⟩|⟨t,el,ie,hop,-⟩
  rotate_left
  ·rw[hop] at hok
   simp[okK] at hok
  simp only[ev,Gb] at hev
  obtain⟨rows,hrows,hev⟩:=hev
  obtain⟨cells,hrun,hdr,hlen⟩:=mks_ok hg hl h1 h2 h3 h4 h5 h6 h7 h8 hrows
  have e1:(ps.toList.map fun (i,x)=>(i,a.eval x)).toArray=ps.map fun (i,x)=>(i,a.eval x):=by apply Array.ext';simp
  rw[e1] at hrun
  have hat:(w.heap.push (.cells cells el):Array Obj)[w.heap.size]?=some (.cells cells el):=by simp
  have hold:∀k,k<w.heap.size→(w.heap.push (.cells cells el):Array Obj)[k]?=w.heap[k]?:=fun k hk=>by
   rw[Array.getElem?_push];simp[Nat.ne_of_lt hk]
  have hbel:Below w.heap.size w {w with heap:=w.heap.push (.cells cells el)}:=⟨rfl,rfl,rfl,by simp,hold⟩
  have hD:∀u x,RelD cx w (orP X M) u x→RelD cx {w with heap:=w.heap.push (.cells cells el)} (orP (orP X M) fun b=>b=w.heap.size) u x:=fun u x hr=>
   hr.mono (by simp) (fun b hb _=>hold b hb) (fun b hb hn hx=>by
    rcases hx with hx|hx
    ·exact hn hx
    ·omega)
  have hall:=hdr.mono hD
  have hro:ROut cx w {w with heap:=w.heap.push (.cells cells el)} (orP X M) (some 0) (.slice (some ⟨w.heap.size,0,none⟩) n n) (.slice z rows):=
   ⟨_,z,rows,fun b=>b=w.heap.size,fun b hb=>by subst hb;exact⟨Gn _,by simp⟩,fun b hb=>by simpa [Sg.hdr,eq_comm] using hb,
    ArrOK.of_DR hat hall (fun k hk=>by simp) (by omega) (by
     have:=hdr.1;rw[Array.length_toList,hlen] at this;omega) hlen,.inl ⟨rfl,rfl⟩⟩
  have hpost:=adopt_ok (own:=some 0) h hbel (.inr rfl) hro (fun b hb=>by
   rcases hb with hb|hb
   ·exact h.size b (h.xb b hb)
   ·exact (h.m b hb).2) hev
  generalize ({w with heap:=w.heap.push (.cells cells el)}:World)=w2 at hrun hpost
  refine .inl ⟨_,w2,?_,hpost⟩
  unfold execOp
  rw[hop]
  simp only[Sem.run_bind]
  erw [hrun]
  rfl
 |frz s y=>
  obtain⟨x,hop,h1⟩:=Jg6 hok
  simp only[ev] at hev
  have r1:=arg h1
  split at hev<;>try (simp at hev;done)
  rename_i s' z n hy
  split at hev<;>try (simp at hev;done)
  rename_i e0
  subst e0
  simp only[Gb,Ga,Gf] at hev
  obtain⟨v,hv,rfl,rfl⟩:=hev
  rw[hy] at r1
  obtain⟨M',f1,f2,f3,f4⟩:=frzA_ok [s'] h
  refine .inl ⟨a.eval x,w,by simp[execOp,hop],β,α,M',f1,fun u x hu=>RelT.tr (S':={S with A:=Ju S.A [s']}) (fun _ _ hr=>Jaw f2 hr) f3 (fun s hs=>⟨hs,rfl⟩) hu,
   .of_data (toDC_ok h (x:=.own s' z n) r1 hv (fun b hb=>hb.imp id (f2 b)) (fun s hs b hb hex hn=>?_)),Kept.refl _ _⟩
  rcases hn with hx|hm
  ·obtain⟨z,rows,f,e1,e2⟩:=hex
   exact ((h.arr s z rows f e1 e2).2 b hb).1 (h.xb b hx)
  ·exact f4 s (by simpa [Jd] using hs) b hb hex hm
 |nilq y=>
  obtain⟨t,x,t',el,hop,h1,h2⟩:=Jfo hok
  simp only[ev] at hev
  have r1:=arg h1
  split at hev<;>simp only[Ga,Gf,reduceCtorEq] at hev
  ·rename_i z hz
   obtain⟨rfl,rfl⟩:=hev
   rw[hz] at r1
   simp only[RelT] at r1
   generalize hv:a.eval x=v at r1
   cases r1
   exact .value (s:=do eqGuard .eql t x (.const (.slice none 0 0)) (a.eval x) (.slice none 0 0);Go.binOp .eql t (a.eval x) (.slice none 0 0)) (v:=.bool true) (by simp only[execOp,hop];rfl) (by rw[hv];exact JcV h2) (.pure h (RelD.bool _))
  ·rename_i z rows hz
   obtain⟨rfl,rfl⟩:=hev
   rw[hz] at r1
   simp only[RelT] at r1
   generalize hv:a.eval x=v at r1
   cases r1
   exact .value (s:=do eqGuard .eql t x (.const (.slice none 0 0)) (a.eval x) (.slice none 0 0);Go.binOp .eql t (a.eval x) (.slice none 0 0)) (v:=.bool false) (by simp only[execOp,hop];rfl) (by rw[hv];exact JcV h2) (.pure h (RelD.bool _))
 |load l n y=>
  obtain⟨t,p,hop,hp,hu,hn⟩:=Jfl hok
  simp only[ev,Gb,Ga,Gf] at hev
  obtain⟨v,hv,rfl,rfl⟩:=hev
  obtain⟨q,hrun,hq⟩:=Jcw (l:=l) h (arg hp) hu hn hv
  exact .value (s:=Instr.loadAt t (a.eval p)) (by simp[execOp,hop]) hrun (.pure h hq)
 |ldf s v n y=>
  obtain⟨t,p,hop,hp,hu,hn⟩:=Jhb hok
  simp only[ev,Gb] at hev
  obtain⟨x,hx,hev⟩:=hev
  split at hev<;>try (simp at hev;done)
  rename_i hall
  simp only[Gb,Ga,Gf] at hev
  obtain⟨y',hy',rfl,rfl⟩:=hev
  obtain⟨q,hrun,hq⟩:=Jcw (l:=.v v) h (arg hp) hu hn hx
  obtain⟨M',f1,f2,f3,f4⟩:=frzA_ok [s] h
  refine .inl ⟨q,w,by simp[execOp,hop,hrun,Result.andThen],β,α,M',f1,fun u x hu=>RelT.tr (S':={S with A:=Ju S.A [s]}) (fun _ _ hr=>Jaw f2 hr) f3 (fun s hs=>⟨hs,rfl⟩) hu,
   .of_data (Jbo h hq hy' (fun b hb=>hb.imp id (f2 b)) (fun s' hs b hb hex hn=>?_)),Kept.refl _ _⟩
  have hs':s'=s:=GL.1 (Gv.1 hall s' hs)
  subst hs'
  rcases hn with hx|hm
  ·obtain⟨z,rows,f,e1,e2⟩:=hex
   exact ((h.arr s' z rows f e1 e2).2 b hb).1 (h.xb b hx)
  ·exact f4 s' (by simp) b hb hex hm
 |store l n y z=>
  obtain⟨t,p,x,hop,hp,hx,hz⟩:=Jek hok
  simp only[ev,Gb,Ga,Gf] at hev
  obtain⟨S2,hv,rfl,rfl⟩:=hev
  obtain⟨w',hrun,hpost⟩:=store_ok (l:=l) h (arg hp) (arg hx) hz hv
  exact .inr (.inl ⟨w',by simp[execOp,hop,hrun,Result.andThen],hpost⟩)
 |bin o' y z=>
  obtain⟨t,x,x',t',hop,h1,h2⟩:=JgY hok
  simp only[ev,Gb,Ga,Gf] at hev
  obtain⟨v,hv,rfl,rfl⟩:=hev
  obtain⟨q,hrun,hq⟩:=bin_ok (P:=P) (t:=t) (p:=x) (q:=x') (arg h1) (arg h2) hv
  exact .value (by simp only[execOp,hop]) hrun (.pure h (.of_data hq))
 |eqa ne sh y z=>
  obtain⟨t,x,x',t',hop,h1,h2,h3,h4,h5⟩:=Jg1 hok
  simp only[ev] at hev
  have r1:=arg h1
  have r2:=arg h2
  split at hev<;>try (simp at hev;done)
  rename_i xs ys e1 e2
  rw[e1] at r1
  rw[e2] at r2
  simp only[Gb,Ga,Gf] at hev
  obtain⟨b,hb,rfl,rfl⟩:=hev
  exact .value (by simp only[execOp,hop]) (JiA (p:=x) (q:=x') h3 h4 h5 r1 r2 hb) (.pure h (RelD.bool _))
 |eqb ne y z=>
  obtain⟨t,x,x',t',hop,h1,h2,h3⟩:=Jg2 hok
  simp only[ev] at hev
  have r1:=arg h1
  have r2:=arg h2
  split at hev<;>try (simp at hev;done)
  rename_i xs ys e1 e2
  rw[e1] at r1
  rw[e2] at r2
  simp only[Ga,Gf] at hev
  obtain⟨rfl,rfl⟩:=hev
  have hrun:=JiB (P:=P) (w:=w) (ne:=ne) (a:=xs) (b:=ys) (p:=x) (q:=x') h3
  rw[←Jal r1,←Jal r2] at hrun
  exact .value (by simp only[execOp,hop]) hrun (.pure h (RelD.bool _))
 |sh o' y z=>
  obtain⟨t,x,x',t',hop,h1,h2⟩:=Jjk hok
  simp only[ev,Gb,Ga,Gf] at hev
  obtain⟨v,hv,rfl,rfl⟩:=hev
  obtain⟨q,hrun,hq⟩:=Jlz (P:=P) (t:=t) (p:=x) (q:=x') (arg h1) (arg h2) hv
  exact .value (by simp only[execOp,hop]) hrun (.pure h (.of_data hq))
 |mm mx y z=>
  obtain⟨x,x',ts,hop,h1,h2⟩:=Jjj hok
  simp only[ev] at hev
  have r1:=arg h1
  have r2:=arg h2
  split at hev<;>try (simp at hev;done)
  rename_i k1 b1 k2 b2 e1 e2
  rw[e1] at r1
  rw[e2] at r2
  split at hev<;>try (simp at hev;done)
  rename_i hk
  subst hk
  simp only[Ga,Gf] at hev
  obtain⟨rfl,rfl⟩:=hev
  have hrun:=Jlr (P:=P) (w:=w) (mx:=mx) (k:=k1) (a:=b1) (b:=b2) (ts:=ts) (ty:=o.type)
  refine .inl ⟨_,w,?_,.pure h (RelD.int _ _)⟩
  cases mx
  ·simp only[Gr,GG] at hop hrun
   simp[execOp,hop,resolve,invoke,builtin,Jx r1,Jx r2,hrun,Result.andThen]
  ·simp only[GF] at hop hrun
   simp[execOp,hop,resolve,invoke,builtin,Jx r1,Jx r2,hrun,Result.andThen]
 |un o' y=>
  obtain⟨t,x,hop,h1⟩:=Jjm hok
  simp only[ev,Gb,Ga,Gf] at hev
  obtain⟨v,hv,rfl,rfl⟩:=hev
  obtain⟨q,hrun,hq⟩:=Jl3 (P:=P) (arg h1) hv
  exact .value (by simp only[execOp,hop]) hrun (.pure h (.of_data hq))
 |conv c y=>
  simp only[ev,Gb,Ga,Gf] at hev
  obtain⟨v,hv,rfl,rfl⟩:=hev
  cases c with
  |int k=>
   obtain⟨s,d',x,dd,hop,h1,h2,h3⟩:=Jeh hok
   have r1:=arg h1
   cases hy:argv e S.ρ y<;>rw[hy] at hv r1<;>simp only[Ja2,Ga,reduceCtorEq] at hv
   rename_i k1 n
   subst hv
   have hrun:=JeJ (P:=P) (w:=w) (n:=n) (k':=k1) h2 h3
   rw[←Jx r1] at hrun
   exact .value (by simp only[execOp,hop]) hrun (.pure h (RelD.int _ _))
  |same=>
   obtain⟨s,d',x,hop,h1,h2,h3⟩:=Jei hok
   have r1:=arg h1
   cases hy:argv e S.ρ y<;>rw[hy] at hv r1<;>simp only[Ja2,Ga,reduceCtorEq] at hv
   rename_i l
   subst hv
   obtain⟨b,hb,rfl⟩:=Jas r1
   have hrun:=JeK (P:=P) (w:=w) (n:=b) h2 h3
   rw[←hb] at hrun
   exact .value (by simp only[execOp,hop]) hrun (.pure h (by rw[hb];exact RelD.str _))
 |fn f asx sites=>
  obtain⟨cap,hop,h1⟩:=Jji hok
  have:=fn_ok h hg hl h1 (by simpa only [ev] using hev)
  refine .inl ⟨_,w,?_,this⟩
  have e1:(cap.toList.map a.eval).toArray=cap.map a.eval:=by apply Array.ext';simp
  simp[execOp,hop,Instr.makeFunc,e1]
 |sl st z y lo hi=>
  obtain⟨t,x,lo',hi',hop,h1,h2,h3,h4⟩:=Jjl hok
  simp only[ev,Gb,Ga,Gf] at hev
  obtain⟨v,hv,rfl,rfl⟩:=hev
  have opt:∀{o:Option Operand} {y:Option Arg},J0 cx ds o y=true→(o.map a.eval=none∧y.map (argv e S.ρ)=none)∨∃p q,o.map a.eval=some p∧y.map (argv e S.ρ)=some q∧RelT cx w (orP X M) S β α p q:=by
   intro o y hoy;unfold J0 at hoy;split at hoy
   ·exact .inl ⟨rfl,rfl⟩
   ·exact .inr ⟨_,_,rfl,rfl,arg hoy⟩
   ·simp at hoy
  obtain⟨q,hrun,hq⟩:=JfF (P:=P) h4 (arg h1) (opt h2) (opt h3) hv
  exact .value (by simp only[execOp,hop,Option.map_none]) hrun (.pure h (.of_data hq))
 |fad y off=>
  obtain⟨s,x,i,hop,h1,h2⟩:=Jg4 hok
  simp only[ev,Gb,Ga,Gf] at hev
  obtain⟨v,hv,rfl,rfl⟩:=hev
  obtain⟨q,hrun,hq⟩:=JiJ (P:=P) (arg h1) h2 hv
  exact .value (by simp only[execOp,hop]) hrun (.pure h hq)
 |iad z y i=>
  obtain⟨t,x,x',el,hop,h1,h2,h3,h4⟩:=Jg7 hok
  simp only[ev,Gb,Ga,Gf] at hev
  obtain⟨v,hv,rfl,rfl⟩:=hev
  obtain⟨q,hrun,hq⟩:=JiV (P:=P) h3 h4 (arg h1) (arg h2) hv
  exact .value (by simp only[execOp,hop]) hrun (.pure h hq)
 |iada z n y i=>
  obtain⟨t,x,x',el,hop,h1,h2,h3,h4⟩:=Jfk hok
  simp only[ev,Gb,Ga,Gf] at hev
  obtain⟨v,hv,rfl,rfl⟩:=hev
  obtain⟨q,hrun,hq⟩:=JgJ (P:=P) h3 h4 (arg h1) (arg h2) hv
  exact .value (by simp only[execOp,hop]) hrun (.pure h hq)
 |idx y i=>
  obtain⟨t,x,x',hop,h1,h2,h3⟩:=Jg8 hok
  simp only[ev,Gb,Ga,Gf] at hev
  obtain⟨v,hv,rfl,rfl⟩:=hev
  obtain⟨q,hrun,hq⟩:=Ji2 (P:=P) h3 (arg h1) (arg h2) hv
  exact .value (by simp only[execOp,hop]) hrun (.pure h (.of_data hq))
 |ext y i=>
  obtain⟨x,hop,h1⟩:=Jg3 hok
  simp only[ev,Gb,Ga,Gf] at hev
  obtain⟨v,hv,rfl,rfl⟩:=hev
  obtain⟨q,hrun,hq⟩:=JiD (P:=P) (arg h1) hv
  exact .value (by simp only[execOp,hop]) hrun (.pure h hq)
 |len st y=>
  obtain⟨x,t,hop,h1,h2⟩:=Jhc hok
  simp only[ev,Gb,Ga,Gf] at hev
  obtain⟨v,hv,rfl,rfl⟩:=hev
  obtain⟨q,hrun,hq⟩:=Jja (P:=P) (ty:=o.type) h2 (arg h1) hv
  refine .inl ⟨q,w,?_,.pure h (.of_data hq)⟩
  simp[execOp,hop,resolve,invoke,builtin,hrun,Result.andThen]
 |app s z y y'=>
  obtain⟨x,x',t,t',el,ie,zv,hop,h1,h2,h3,h4,h5,h6,h7,h8,h9,h10,hz0⟩:=Jcx hok
  simp only[ev] at hev
  have r1:=arg h1
  have r2:=arg h2
  by_cases hns:∃z',argv e S.ρ y=.nslice z'
  ·obtain⟨z',hns⟩:=hns
   rw[hns] at hev r1
   simp only[appN] at hev
   split at hev<;>try (simp at hev;done)
   rename_i hz'
   split at hev<;>try (simp at hev;done)
   rename_i hd
   have r1:RelD cx w (orP X M) _ (.nslice z'):=r1
   generalize hv1:a.eval x=v1 at r1
   cases r1
   have hadd:=h.addArr (d:=s) (z0:=z) (rows0:=[]) (v0:=.slice none 0 0) hd ⟨fun i hi=>by simp at hi,.inl ⟨rfl,rfl⟩⟩ (fun b hb=>by simp[hdr] at hb) (fun s b _ hb=>by simp[hdr] at hb) (fun s z' r f _ _ b hb=>by simp[hdr] at hb)
   have hT:ATr S {S with A:=upd S.A s (some (z,[],.live))} α (upd α s (.slice none 0 0)):=fun s' z' r f hs=>by
    have:s'≠s:=fun e=>by rw[e,hd] at hs;simp at hs
    exact⟨r,f,by simp[upd,this,hs],fun hf=>⟨hf,Gn _,fun _=>by simp[upd,this]⟩⟩
   have hmv:∀u x,RelT cx w (orP X M) S β α u x→RelT cx w (orP X M) {S with A:=upd S.A s (some (z,[],.live))} β (upd α s (.slice none 0 0)) u x:=
    fun u x hu=>RelT.tr (fun _ _ h=>h) hT (fun s hs=>⟨hs,rfl⟩) hu
   have r1':RelT cx w (orP X M) {S with A:=upd S.A s (some (z,[],.live))} β (upd α s (.slice none 0 0)) (.slice none 0 0) (.own s z 0):=
    ⟨[],.live,none,0,by simp[upd],rfl,by simp,fun _=>⟨by simp,fun _=>by simp[upd]⟩⟩
   have hev':J8 {S with A:=upd S.A s (some (z,[],.live))} s z (.own s z 0) (argv e S.ρ y')=some (r,S1):=by
    rw[←hev];have eu:∀q:Option (Nat×List (List V)×Fz),upd (upd S.A s (some (z,[],.live))) s q=upd S.A s q:=fun q=>by funext k;simp only[upd];split<;>rfl
    have e0:upd S.A s (some (z,[],.live)) s=some (z,[],.live):=by simp[upd]
    simp only[J8,and_self,GF,e0,List.length_nil,Gaj,List.nil_append,eu]
   obtain⟨q,w',hrun,hpost⟩:=JbG (ty:=o.type) hadd r1' (hmv _ _ r2) h3 h4 h5 h7 h8 h9 hz0 h10 hev'
   refine .inl ⟨q,w',by simp[execOp,hop,resolve,invoke,builtin,hv1,hrun,Result.andThen],?_⟩
   obtain⟨β',α',M',p1,p2,p3,p4⟩:=hpost
   exact⟨β',α',M',p1,fun u x hu=>p2 u x (hmv u x hu),p3,p4⟩
  have hap:appN S s z (argv e S.ρ y) (argv e S.ρ y')=J8 S s z (argv e S.ρ y) (argv e S.ρ y'):=by
   unfold appN;split
   ·rename_i z' hz';exact absurd ⟨z',hz'⟩ hns
   ·rfl
  rw[hap] at hev
  have hx:∃n,argv e S.ρ y=.own s z n:=by
   unfold J8 at hev;split at hev
   ·split at hev
    ·rename_i hc;obtain⟨rfl,rfl⟩:=hc;rename_i n hy;exact⟨n,hy⟩
    ·simp at hev
   ·simp at hev
  obtain⟨n,hx⟩:=hx
  rw[hx] at r1 hev
  obtain⟨q,w',hrun,hpost⟩:=JbG (ty:=o.type) h r1 r2 h3 h4 h5 h7 h8 h9 hz0 h10 hev
  exact .inl ⟨q,w',by simp[execOp,hop,resolve,invoke,builtin,hrun,Result.andThen],hpost⟩
 |apf s z y y'=>
  obtain⟨x,x',t,t',el,ie,zv,hop,h1,h2,h3,h4,h5,h6,h7,h8,h9,h10,hz0⟩:=Jcx (JgV hok)
  simp only[ev,Gb,Ga,Gf] at hev
  obtain⟨⟨v1,S1⟩,hev,v2,hv,rfl,rfl⟩:=hev
  have r1:=arg h1
  have r2:=arg h2
  have hx:∃n m,argv e S.ρ y=.own s z n∧v1=.own s z m:=by
   unfold J8 at hev;split at hev
   ·split at hev
    ·rename_i hc;obtain⟨rfl,rfl⟩:=hc;rename_i n hy;refine⟨n,?_⟩;split at hev
     ·split at hev
      ·simp only[Gb] at hev;obtain⟨ys,_,hev⟩:=hev;split at hev
       ·simp only[Ga,Gf] at hev;exact⟨_,hy,hev.1.symm⟩
       ·simp at hev
      ·simp at hev
     ·simp at hev
    ·simp at hev
   ·simp at hev
  obtain⟨n,m,hx,rfl⟩:=hx
  rw[hx] at r1 hev
  obtain⟨q,w',hrun,hpost⟩:=JbG (ty:=o.type) h r1 r2 h3 h4 h5 h7 h8 h9 hz0 h10 hev
  obtain⟨β1,α1,M1,g1,g2,g3,g4⟩:=hpost
  obtain⟨M',f1,f2,f3,f4⟩:=frzA_ok [s] g1
  refine .inl ⟨q,w',by simp[execOp,hop,resolve,invoke,builtin,hrun,Result.andThen],β1,α1,M',f1,fun u x hu=>RelT.tr (S':={S1 with A:=Ju S1.A [s]}) (fun _ _ hr=>Jaw f2 hr) f3 (fun s hs=>⟨hs,rfl⟩) (g2 u x hu),
   .of_data (toDC_ok g1 (x:=.own s z m) g3 hv (fun b hb=>hb.imp id (f2 b)) (fun s hs b hb hex hn=>?_)),g4⟩
  rcases hn with hx|hm
  ·obtain⟨z,rows,f,e1,e2⟩:=hex
   exact ((g1.arr s z rows f e1 e2).2 b hb).1 (g1.xb b hx)
  ·exact f4 s (by simpa [Jd] using hs) b hb hex hm
 |ins f s z x i y=>
  obtain⟨c,hop,hc,hargs⟩:=Jg9 hok
  simp only[okOwn,Gi,Gx,GL] at hown
  obtain⟨tS,el,hI⟩:=hκ.ins f z hown.1 hown.2
  obtain⟨u1,u2,u3,hu,r1,r2,r3⟩:=Jb3 hg hl hargs
  have hrun:=Jch (a:=a) (w:=w) hop hc hI.ent
  rw[hu] at hrun
  refine .inr (.inr ⟨_,_,_,hrun,?_⟩)
  simp only[ev] at hev
  split at hev<;>try (simp at hev;done)
  rename_i s' z' n k z'' ys hx hi hy
  split at hev<;>try (simp at hev;done)
  rename_i hsz
  obtain⟨rfl,rfl,rfl⟩:=hsz
  split at hev<;>try (simp at hev;done)
  rename_i z3 rows hA
  split at hev<;>try (simp at hev;done)
  rename_i hcond
  obtain⟨rfl,hn,hk0,hkn,hlim⟩:=hcond
  simp only[Ga,Gf] at hev
  obtain⟨rfl,rfl⟩:=hev
  rw[hx] at r1
  rw[hi] at r2
  rw[hy] at r3
  have hk:k=((k.toNat:Nat):Int):=by omega
  rw[JcA r2,hk]
  have:=Ji3 hI h hA hn (k:=k.toNat) (by omega) hlim r1 r3
  exact this
 |del f s z x i j=>
  obtain⟨c,hop,hc,hargs⟩:=Jg0 hok
  simp only[okOwn,Gi,Gx,GL] at hown
  have hI:=hκ.del f z hown.1 hown.2
  obtain⟨u1,u2,u3,hu,r1,r2,r3⟩:=Jb3 hg hl hargs
  have hrun:=Jch (a:=a) (w:=w) hop hc hI.ent
  rw[hu] at hrun
  refine .inr (.inr ⟨_,_,_,hrun,?_⟩)
  simp only[ev] at hev
  split at hev<;>try (simp at hev;done)
  rename_i s' z' n k m hx hi hy
  split at hev<;>try (simp at hev;done)
  rename_i hsz
  obtain⟨rfl,rfl⟩:=hsz
  split at hev<;>try (simp at hev;done)
  rename_i z3 rows hA hd
  split at hev<;>try (simp at hev;done)
  rename_i hcond
  obtain⟨rfl,hn,hk0,hkm,hmn,hlim⟩:=hcond
  simp only[Ga,Gf] at hev
  obtain⟨rfl,rfl⟩:=hev
  rw[hx] at r1
  rw[hi] at r2
  rw[hy] at r3
  have hk:k=((k.toNat:Nat):Int):=by omega
  have hm:m=((m.toNat:Nat):Int):=by omega
  rw[JcA r2,JcA r3,hk,hm]
  have:=Jix hI h hA hd hn (k:=k.toNat) (m:=m.toNat) (by omega) (by omega) hlim r1
  exact this
 |rcall f avs k s b0=>
  obtain⟨c,hop,hcx,hargs⟩:=Jej hok
  simp only[okOwn,Gi,Gx,GL] at hown
  exact Jfs h hg hl (hκ.rf f k hown.1 hown.2) hop hcx hargs (by simpa only [ev] using hev)
 |allo z b=>
  obtain⟨t,hop,hz⟩:=Jfg hok
  simp only[ev] at hev
  split at hev
  ·simp at hev
  ·rename_i hd
   simp only[Gb,Ga,Gf] at hev
   obtain⟨⟨cells,A'⟩,ht,rfl,rfl⟩:=hev
   obtain⟨v,hv,hvz⟩:=Jbd (P:=P) (w:=w) hz
   have:=newVarO_post (t:=t) h hd (JbC hvz) ht
   rw[Array.toArray_toList] at this
   exact .value (s:=Instr.alloc t true (.tuple #[])) (by simp[execOp,hop]) (by simp[Instr.alloc,hv,newVar,newRow,Result.andThen]) this
 |boxo y b=>
  obtain⟨t,x,hop,hx⟩:=Jfi hok
  simp only[ev] at hev
  split at hev
  ·simp at hev
  ·rename_i hd
   split at hev<;>try (simp at hev;done)
   rename_i cs hcs
   split at hev<;>try (simp at hev;done)
   rename_i hdat
   simp only[Gb,Ga,Gf] at hev
   obtain⟨⟨cells,A'⟩,ht,rfl,rfl⟩:=hev
   have r1:=arg hx
   rw[hcs] at r1
   have:=newVarO_post (t:=t) h hd (cells_rel (x:=.agg cs) r1 rfl) ht
   rw[Array.toArray_toList] at this
   exact .value (s:=Instr.box t (a.eval x)) (by simp[execOp,hop]) (by simp[Instr.box,newVar,newRow,Result.andThen]) this
 |appd z y y'=>
  obtain⟨x,x',t,t',el,ie,zv,hop,h1,h2,h3,h4,h5,h6,h7,h8,h9,h10,hz0⟩:=Jcx (Jfh (s:=0) hok)
  simp only[ev,appW] at hev
  have r1:=arg h1
  have r2:=arg h2
  split at hev<;>try (simp at hev;done)
  rename_i s z' n hx
  have hzz:z'=z:=by
   unfold J8 at hev;rw[hx] at hev;simp only at hev;split at hev
   ·rename_i hc;exact hc.2
   ·simp at hev
  subst hzz
  rw[hx] at r1 hev
  obtain⟨q,w',hrun,hpost⟩:=JbG (ty:=o.type) h r1 r2 h3 h4 h5 h7 h8 h9 hz0 h10 hev
  exact .inl ⟨q,w',by simp[execOp,hop,resolve,invoke,builtin,hrun,Result.andThen],hpost⟩
 |slf z y lo hi=>
  obtain⟨t,x,lo',hi',hop,h1,h2,h3,h4⟩:=Jhh hok
  simp only[ev,Gb,Ga,Gf] at hev
  obtain⟨y',hy',v,hv,rfl,rfl⟩:=hev
  obtain⟨M',f1,f2,f3,f4⟩:=frzA_ok (Jd (argv e S.ρ y)) h
  have hT:∀u x,RelT cx w (orP X M) S β α u x→RelT cx w (orP X M') {S with A:=Ju S.A (Jd (argv e S.ρ y))} β α u x:=
   fun u x hu=>RelT.tr (S':={S with A:=Ju S.A (Jd (argv e S.ρ y))}) (fun _ _ hr=>Jaw f2 hr) f3 (fun s hs=>⟨hs,rfl⟩) hu
  have opt:∀{o:Option Operand} {y0:Option Arg},J0 cx ds o y0=true→(o.map a.eval=none∧y0.map (argv e S.ρ)=none)∨∃p q,o.map a.eval=some p∧y0.map (argv e S.ρ)=some q∧RelT cx w (orP X M') {S with A:=Ju S.A (Jd (argv e S.ρ y))} β α p q:=by
   intro o y0 hoy;unfold J0 at hoy;split at hoy
   ·exact .inl ⟨rfl,rfl⟩
   ·exact .inr ⟨_,_,rfl,rfl,hT _ _ (arg hoy)⟩
   ·simp at hoy
  have hrC:RelC cx w (orP X M) S α (a.eval x) (argv e S.ρ y):=by
   have:=arg h1
   revert this hy'
   generalize argv e S.ρ y=q;intro hy' h;cases q<;>first|exact h|(simp[toDC,V.datC] at hy')
  have hdat:RelD cx w (orP X M') (a.eval x) y':=toDC_ok h hrC hy' (fun b hb=>hb.imp id (f2 b)) (fun s hs b hb hex hn=>by
   rcases hn with hx|hm
   ·obtain⟨z,rows,f,e1,e2⟩:=hex;exact ((h.arr s z rows f e1 e2).2 b hb).1 (h.xb b hx)
   ·exact f4 s hs b hb hex hm)
  obtain⟨q,hrun,hq⟩:=JfF (P:=P) h4 (.of_data hdat) (opt h2) (opt h3) hv
  exact .value (by simp only[execOp,hop,Option.map_none]) hrun ⟨β,α,M',f1,hT,.of_data hq,Kept.refl _ _⟩
 |mkoz z s=>
  have hop:=Jfm hok
  simp only[ev] at hev
  split at hev
  ·simp at hev
  ·rename_i hd
   simp only[Ga,Gf] at hev
   obtain⟨rfl,rfl⟩:=hev
   obtain⟨M',f1,f2,f3,f4⟩:=frzA_ok [s] h
   refine .inl ⟨.slice none 0 0,w,by simp[execOp,hop,Act.eval],?_⟩
   have hadd:=f1.addArr (d:=d) (z0:=z) (rows0:=[]) (v0:=.slice none 0 0) hd ⟨fun i hi=>by simp at hi,.inl ⟨rfl,rfl⟩⟩ (fun b hb=>by simp[hdr] at hb) (fun s b _ hb=>by simp[hdr] at hb) (fun s z' r f _ _ b hb=>by simp[hdr] at hb)
   have hT:ATr {S with A:=Ju S.A [s]} {S with A:=upd (Ju S.A [s]) d (some (z,[],.live))} α (upd α d (.slice none 0 0)):=fun s' z' r f hs=>by
    have:s'≠d:=fun e=>by rw[e] at hs;simp only at hs;rw[hd] at hs;simp at hs
    exact⟨r,f,by simp only[upd,GA this];exact hs,fun hf=>⟨hf,Gn _,fun _=>by simp[upd,this]⟩⟩
   exact⟨β,_,M',hadd,fun u x hu=>RelT.tr (S:=S) (fun _ _ hr=>Jaw f2 hr) (f3.trans hT) (fun s hs=>⟨hs,rfl⟩) hu,⟨[],.live,none,0,by simp[upd],rfl,by simp,fun _=>⟨by simp,fun _=>by simp[upd]⟩⟩,Kept.refl _ _⟩
 |slr s z y lo hi=>
  obtain⟨t,x,lo',hi',hop,h1,h2,h3,h4⟩:=Jhi hok
  simp only[ev,Gb,Ga,Gf] at hev
  obtain⟨y',hy',v,hv,rfl,rfl⟩:=hev
  have opt:∀{o:Option Operand} {y:Option Arg},J0 cx ds o y=true→(o.map a.eval=none∧y.map (argv e S.ρ)=none)∨∃p q,o.map a.eval=some p∧y.map (argv e S.ρ)=some q∧RelT cx w (orP X M) S β α p q:=by
   intro o y hoy;unfold J0 at hoy;split at hoy
   ·exact .inl ⟨rfl,rfl⟩
   ·exact .inr ⟨_,_,rfl,rfl,arg hoy⟩
   ·simp at hoy
  have r1:=arg h1
  unfold frzD at hy'
  split at hy'<;>try (simp at hy';done)
  rename_i s' z' n hx
  split at hy'<;>try (simp at hy';done)
  rename_i e0;subst e0
  split at hy'<;>try (simp at hy';done)
  rename_i z'' rows hA
  split at hy'<;>simp only[Ga,reduceCtorEq] at hy'
  rename_i hc
  obtain⟨rfl,hn⟩:=hc
  subst hy'
  rw[hx] at r1
  have hdat:RelD cx w (orP X M) (a.eval x) (.slice z'' rows):=toDC_ok h (x:=.own s' z'' n) r1 (by simp[toDC,hA,hn]) (fun b hb=>hb) (fun s hs b hb hex hn=>by
   have:s=s':=by simpa [Jd] using hs
   subst this;have p2:=(h.arr s z'' rows .frz hA (by simp)).2 b hb;rcases hn with hx|hm
   ·exact p2.1 (h.xb b hx)
   ·exact p2.2.2 rfl hm)
  obtain⟨q,hrun,hq⟩:=JfF (P:=P) h4 (.of_data hdat) (opt h2) (opt h3) hv
  exact .value (by simp only[execOp,hop,Option.map_none]) hrun (.pure h (.of_data hq))
 |fld y off n=>
  obtain⟨s,x,i,fs,f,hop,h1,h2,h3,h4,h5,h6⟩:=Jg5 hok
  simp only[ev] at hev
  have r1:=arg h1
  split at hev<;>try (simp at hev;done)
  rename_i cs hcs
  simp only[Gb,Ga,Gf] at hev
  obtain⟨v,hv,rfl,rfl⟩:=hev
  rw[hcs] at r1
  obtain⟨q,hrun,hq⟩:=JiL r1 h2 h3 h4 h5 h6 hv
  exact .value (by simp only[execOp,hop]) hrun (.pure h hq)
 |b2s y=>
  obtain⟨s,d,x,e',hop,h1,h2,h3,h4⟩:=JgX hok
  simp only[ev,Gb,Ga,Gf] at hev
  obtain⟨v,hv,rfl,rfl⟩:=hev
  unfold Jf1 at hv
  split at hv<;>try (simp at hv;done)
  rename_i rows hrows
  simp only[Gb,Ga] at hv
  obtain⟨l,hl',rfl⟩:=hv
  have hrC:RelC cx w (orP X M) S α (a.eval x) (argv e S.ρ y):=by
   have:=arg h1
   revert this hrows
   generalize argv e S.ρ y=q;intro hy' h;cases q<;>first|exact h|(simp[toDC,V.datC] at hy')
  have hdat:RelD cx w (fun _=>False) (a.eval x) (.slice 1 rows):=toDC_ok h hrC hrows (fun b hb=>hb.elim) (fun s hs b hb hex hn=>hn)
  obtain⟨q,hrun,hq⟩:=b2s_ok (dst:=d) hdat hl' h2 h4 h3
  have hq':RelD cx w (orP X M) q (.str l):=by cases hq;exact .str _
  exact .value (by simp only[execOp,hop]) hrun (.pure h hq')
 |mif t y=>
  obtain⟨x,hop,h1,h2⟩:=Jhd hok
  simp only[ev] at hev
  split at hev<;>simp only[Ga,Gf,reduceCtorEq] at hev
  rename_i hd
  obtain⟨rfl,rfl⟩:=hev
  have r1:RelD cx w (orP X M) (a.eval x) (argv e S.ρ y):=(arg h1).data hd
  exact .value (by simp only[execOp,hop]) (JgS h2) (.pure h (.of_data (.iface t _ _ r1)))
 |asr t z y=>
  obtain⟨x,xt,ok,hop,h1,h2,h3⟩:=JgW hok
  have r1:=arg h1
  simp only[ev] at hev
  have tup:∀{u:Value} {v:V} {b:Bool},RelD cx w (orP X M) u v→RelD cx w (orP X M) (.tuple #[u,.bool b]) (.tuple [v,.bool b]):=fun {u v b} hr=>
   .tuple _ _ (fun i=>if i=0 then u else .bool b) rfl (fun i hi=>by match i,hi with|0,_=>rfl|1,_=>rfl|n+2,hi=>simp at hi;omega)
    (fun i hi=>by match i,hi with|0,_=>exact hr|1,_=>exact .bool _|n+2,hi=>simp at hi;omega)
  split at hev<;>try (simp at hev;done)
  ·rename_i t' v hy
   rw[hy] at r1
   have r1:RelD cx w (orP X M) (a.eval x) (.iface t' v):=r1
   obtain⟨u,hu,hru⟩:∃u,a.eval x=.iface (cx.tm t') u∧RelD cx w (orP X M) u v:=by
    generalize a.eval x=p at r1;cases r1 with
    |iface t u v hr=>exact⟨u,rfl,hr⟩
   split at hev
   ·rename_i htt
    subst htt
    simp only[Ga,Gf] at hev
    obtain⟨rfl,rfl⟩:=hev
    have hrun:=JfZ (P:=P) (w:=w) (xt:=xt) (v:=u) (ok:=ok) h2
    rw[←hu] at hrun
    rcases h3 with ⟨rfl,rfl⟩|⟨z',rfl,rfl,_⟩
    ·exact .value (by simp only[execOp,hop]) hrun (.pure h (.of_data hru))
    ·exact .value (by simp only[execOp,hop]) hrun (.pure h (.of_data (tup hru)))
   ·rename_i htt
    simp only[Gb,Ga,Gf] at hev
    obtain⟨z',rfl,rfl,rfl⟩:=hev
    rcases h3 with ⟨_,h3⟩|⟨z2,rfl,h3,hz⟩
    ·simp at h3
    ·simp only[Ga] at h3
     subst h3
     obtain⟨zv,hz1,hz2⟩:=Jcl (w:=w) (cx:=cx) (Y:=orP X M) hz
     have hrun:=JeB (P:=P) (w:=w) (xt:=xt) (v:=u) h2 (fun e=>htt (cx.tinj _ _ e)) hz1
     rw[←hu] at hrun
     exact .value (by simp only[execOp,hop]) hrun (.pure h (.of_data (tup hz2)))
  ·rename_i hy
   rw[hy] at r1
   have r1:RelD cx w (orP X M) (a.eval x) .niface:=r1
   have hu:a.eval x=.nilIface:=by
    generalize a.eval x=p at r1;cases r1;rfl
   simp only[Gb,Ga,Gf] at hev
   obtain⟨z',rfl,rfl,rfl⟩:=hev
   rcases h3 with ⟨_,h3⟩|⟨z2,rfl,h3,hz⟩
   ·simp at h3
   ·simp only[Ga] at h3
    subst h3
    obtain⟨zv,hz1,hz2⟩:=Jcl (w:=w) (cx:=cx) (Y:=orP X M) hz
    have hrun:=Jf0 (P:=P) (w:=w) (xt:=xt) h2 hz1
    rw[←hu] at hrun
    exact .value (by simp only[execOp,hop]) hrun (.pure h (.of_data (tup hz2)))
 |inv l y avs=>
  obtain⟨x,name,c,hop,hcx,h1,h2,h3⟩:=Jha hok
  exact Ji6 h hg hl hκ.call hop hcx h1 h2 h3 hev
 |bad=>simp[ev] at hev
 |call f cv own asx=>
  obtain⟨x,c,hop,hcx,hcal,hargs⟩:=Jfj hok
  refine Jgc h hg hl hκ.call ?_ hop hcx hcal hargs (by simpa only [ev] using hev)
  cases f with
  |k f=>simp only[okOwn,Bool.or_eq_true,GL,G8] at hown;exact hown.imp id (fun h=>⟨f,rfl,h⟩)
  |v y=>simp only[okOwn,G8] at hown;exact .inl hown
 |nilc y=>
  obtain⟨x,hop,h1⟩:=Jfn hok
  have r1:=arg h1
  simp only[ev] at hev
  split at hev<;>simp only[Ga,Gf,reduceCtorEq] at hev
  ·rename_i s' o' hy
   obtain⟨rfl,rfl⟩:=hev
   rw[hy] at r1
   obtain⟨q1,q2⟩:=r1
   exact .inl ⟨_,w,by simp[execOp,hop,q2],.pure h ⟨q1,rfl⟩⟩
  ·rename_i s' i' o' n' hy
   obtain⟨rfl,rfl⟩:=hev
   rw[hy] at r1
   have r2:=r1
   obtain⟨_,_,_,_,_,_,_,q2,_⟩:=r1
   exact .inl ⟨a.eval x,w,by simp[execOp,hop,q2],.pure h r2⟩
  ·rename_i cs o' hy
   obtain⟨rfl,rfl⟩:=hev
   rw[hy] at r1
   have r2:=r1
   simp only[RelT] at r1
   obtain⟨b,o'',c,el,fr,q2,_⟩:=Ja3 r1
   exact .inl ⟨a.eval x,w,by simp[execOp,hop,q2],.pure h r2⟩
end
end Sg
namespace Sg
def Arg.lr:Arg→List Nat
 |.l i=>[i]
 |_=>[]
def Arg.gr:Arg→List Nat
 |.g t=>[t]
 |_=>[]
def Cal.args:Cal→List Arg
 |.v x=>[x]
 |.k _=>[]
def K.args:K→List Arg
 |.mov x|.frz _ x|.box x|.nilq x|.un _ x|.conv _ x|.fad x _|.ext x _|.len _ x|.nilc x=>[x]
 |.pick c a b=>[c,a,b]
 |.alloc _|.mko _|.bad=>[]
 |.build _ ps=>ps.map (·.2.2)
 |.mks _ _ _ ps|.mkb _ _ _ ps=>ps.map (·.2)
 |.load _ _ p|.ldf _ _ _ p=>[p]
 |.store _ _ p x=>[p,x]
 |.bin _ x y|.eqa _ _ x y|.eqb _ x y|.sh _ x y|.mm _ x y|.iad _ x y|.iada _ _ x y|.idx x y|.app _ _ x y|.apf _ _ x y=>[x,y]
 |.fn _ cap _=>cap
 |.sl _ _ x lo hi=>x::(lo.toList++hi.toList)
 |.ins _ _ _ x i y|.del _ _ _ x i y=>[x,i,y]
 |.rcall _ xs _ _ _=>xs
 |.allo _ _|.mkoz _ _=>[]
 |.boxo x _|.b2s x|.fld x _ _|.mif _ x|.asr _ _ x=>[x]
 |.inv _ x xs=>x::xs
 |.appd _ x y=>[x,y]
 |.slf _ x lo hi|.slr _ _ x lo hi=>x::(lo.toList++hi.toList)
 |.call f _ _ xs=>f.args++xs
def K.vs (d:Nat):K→List Nat
 |.box _|.alloc _|.allo _ _|.boxo _ _=>[d]
 |.rcall _ _ _ s _=>[s]
 |.load (.v s) _ _|.store (.v s) _ _ _|.ldf _ s _ _=>[s]
 |.fn _ _ sites=>sites
 |_=>[]
def K.vw (d:Nat):K→List Nat
 |.load ..|.ldf ..=>[]
 |k=>k.vs d
def K.avs (d:Nat):K→Option (List Nat)
 |.mko _|.mkb ..=>some [d]
 |.mkoz _ s=>some [s,d]
 |.slr s _ _ _ _=>some [s]
 |.load (.e s) _ _|.store (.e s) _ _ _|.app s _ _ _|.apf s _ _ _|.ins _ s _ _ _ _|.frz s _|.ldf s _ _ _=>some [s]
 |.del _ s _ _ _ _=>some [s,d]
 |.call _ .no none _=>some []
 |.call _ .no (some _) _=>some [d]
 |.call ..=>none
 |.rcall ..|.allo ..|.boxo ..|.appd ..|.slf ..|.b2s _|.load .x _ _|.store .x _ _ _=>none
 |_=>some []
def K.aw (d:Nat):K→Option (List Nat)
 |.load ..|.call _ .borrow _ _|.b2s _|.slr ..=>some []
 |k=>k.avs d
def inO (s:Nat):Option (List Nat)→Prop
 |none=>True
 |some l=>s∈l
section
variable (κ:Nat→List V→Option V)
def Same (d:Nat) (k:K) (S S':St):Option (V×St)→Option (V×St)→Prop
 |none,none=>True
 |some (v,T),some (v',T')=>v=v'∧T.ρ=S.ρ∧T'.ρ=S'.ρ∧(∀s,s∈k.vw d→T.μ s=T'.μ s)∧(∀s,s∉k.vw d→T.μ s=S.μ s∧T'.μ s=S'.μ s)∧
   (∀s,inO s (k.aw d)→T.A s=T'.A s)∧(∀s,¬inO s (k.aw d)→T.A s=S.A s∧T'.A s=S'.A s)
 |_,_=>False
theorem Same.pure {d:Nat} {k:K} {S S':St} {v:V} (h1:∀s,s∈k.vw d→S.μ s=S'.μ s) (h2:∀s,inO s (k.aw d)→S.A s=S'.A s):Same d k S S' (some (v,S)) (some (v,S')):=
 ⟨rfl,rfl,rfl,h1,fun _ _=>⟨rfl,rfl⟩,h2,fun _ _=>⟨rfl,rfl⟩⟩
theorem Same.bindV {d:Nat} {k:K} {S S':St} {o:Option V} (h1:∀s,s∈k.vw d→S.μ s=S'.μ s) (h2:∀s,inO s (k.aw d)→S.A s=S'.A s) :
  Same d k S S' (o.bind fun v=>some (v,S)) (o.bind fun v=>some (v,S')):=by
 cases o with
 |none=>exact Gm
 |some v=>exact .pure h1 h2
theorem JbU {α β:Type} {f g:α→Option β} {l:List α} (h:∀x∈l,f x=g x):Js f l=Js g l:=by
 induction l with
 |nil=>rfl
 |cons a l ih=>
  simp only[Js,h a (by simp)];rw[ih fun x hx=>h x (by simp[hx])]
theorem Jgz (l:List Nat):∀(μ μ':Nat→Option (List V×Bool)) (s:Nat),μ s=μ' s→Jaf μ l s=Jaf μ' l s:=by
 induction l with
 |nil=>intro μ μ' s h;exact h
 |cons a l ih=>
  intro μ μ' s h
  show Jaf (upd μ a _) l s=Jaf (upd μ' a _) l s
  refine ih _ _ s ?_;simp only[upd];split
  ·rename_i e;subst e;rw[h]
  ·exact h
theorem JcO (l:List Nat):∀(μ:Nat→Option (List V×Bool)) (s:Nat),s∉l→Jaf μ l s=μ s:=by
 induction l with
 |nil=>intro μ s _;rfl
 |cons a l ih=>
  intro μ s h
  show Jaf (upd μ a _) l s=μ s
  rw[ih _ s (fun hs=>h (by simp[hs]))];simp only[upd];rw[GA (fun e=>h (by simp[e]))]
theorem Jex {A A':Nat→Option (Nat×List (List V)×Fz)} {x:V} (h:∀s∈Jd x,A s=A' s):toDC A x=toDC A' x:=by
 cases x<;>try rfl
 rename_i s z n;have:=h s (by simp[Jd]);simp only[toDC,this]
theorem JfM {A A':Nat→Option (Nat×List (List V)×Fz)} {x:V} (h:∀s∈Jf x,A s=A' s):toD A x=toD A' x:=by
 cases x with
 |agg cs=>
  simp only[toD];rw[JbU fun y hy=>Jex fun s hs=>h s (Gaf.2 ⟨y,hy,hs⟩)]
 |own s z n=>
  have:=h s (by simp[Jf,Jd]);simp only[toD,toDC,this]
 |_=>rfl
theorem JdK (d:Nat) (k:K) (e e':Nat→V) (S S':St) (ha:∀x∈k.args,argv e S.ρ x=argv e' S'.ρ x) (hv:∀s,s∈k.vs d→S.μ s=S'.μ s) (hA:∀s,inO s (k.avs d)→S.A s=S'.A s) :
  Same d k S S' (ev κ d e S k) (ev κ d e' S' k):=by
 cases k with
 |mov x=>simp only[ev,ha x (by simp[K.args])];exact .pure (by simp[K.vw,K.vs]) (by simp[K.aw,K.avs,inO])
 |pick c a b=>
  simp only[ev,ha c (by simp[K.args]),ha a (by simp[K.args]),ha b (by simp[K.args])]
  split
  ·exact .pure (by simp[K.vw,K.vs]) (by simp[K.aw,K.avs,inO])
  ·exact Gm
 |box x=>
  simp only[ev,ha x (by simp[K.args]),hv d (by simp[K.vs])]
  split
  ·exact Gm
  ·cases (argv e' S'.ρ x).cells with
   |none=>exact Gm
   |some cs=>
    refine⟨rfl,rfl,rfl,fun s hs=>?_,fun s hs=>?_,fun s hs=>by simp[K.aw,K.avs,inO] at hs,fun s hs=>⟨rfl,rfl⟩⟩
    ·simp[K.vw,K.vs] at hs;simp[upd,hs]
    ·simp[K.vw,K.vs] at hs;simp[upd,hs]
 |alloc z=>
  simp only[ev,hv d (by simp[K.vs])]
  split
  ·exact Gm
  ·refine⟨rfl,rfl,rfl,fun s hs=>?_,fun s hs=>?_,fun s hs=>by simp[K.aw,K.avs,inO] at hs,fun s hs=>⟨rfl,rfl⟩⟩
   ·simp[K.vw,K.vs] at hs;simp[upd,hs]
   ·simp[K.vw,K.vs] at hs;simp[upd,hs]
 |build z ps=>
  have:ps.map (fun p=>(p.1,p.2.1,argv e S.ρ p.2.2))=ps.map (fun p=>(p.1,p.2.1,argv e' S'.ρ p.2.2)):=GS fun p hp=>by rw[ha p.2.2 (by simp only[K.args,List.mem_map];exact⟨p,hp,rfl⟩)]
  simp only[ev,this]
  cases Jae z (ps.map fun p=>(p.1,p.2.1,argv e' S'.ρ p.2.2)) with
  |none=>exact Gm
  |some cs=>exact .pure (by simp[K.vw,K.vs]) (by simp[K.aw,K.avs,inO])
 |mks z n zero ps=>
  have:ps.map (fun p=>(p.1,argv e S.ρ p.2))=ps.map (fun p=>(p.1,argv e' S'.ρ p.2)):=GS fun p hp=>by rw[ha p.2 (by simp only[K.args,List.mem_map];exact⟨p,hp,rfl⟩)]
  simp only[ev,this]
  cases Jr z (List.replicate n zero) (ps.map fun p=>(p.1,argv e' S'.ρ p.2)) with
  |none=>exact Gm
  |some cs=>exact .pure (by simp[K.vw,K.vs]) (by simp[K.aw,K.avs,inO])
 |mko z=>
  simp only[ev,hA d (by simp[K.avs,inO])]
  split
  ·exact Gm
  ·refine⟨rfl,rfl,rfl,fun s hs=>by simp[K.vw,K.vs] at hs,fun s hs=>⟨rfl,rfl⟩,fun s hs=>?_,fun s hs=>?_⟩
   ·simp[K.aw,K.avs,inO] at hs;simp[upd,hs]
   ·simp[K.aw,K.avs,inO] at hs;simp[upd,hs]
 |load l n p=>
  have:Jy S l n (argv e S.ρ p)=Jy S' l n (argv e' S'.ρ p):=by
   rw[ha p (by simp[K.args])];generalize argv e' S'.ρ p=p';unfold Jy;cases l with
   |v s=>
    have h1:=hv s (by simp[K.vs]);cases p'<;>simp only[h1]
   |e s=>
    have h1:=hA s (by simp[K.avs,inO]);cases p'<;>simp only[h1]
   |c=>cases p'<;>rfl
   |x=>
    have h1:S.A=S'.A:=funext fun s=>hA s (by simp[K.avs,inO]);cases p'<;>simp only[h1]
  simp only[ev,this]
  exact .bindV (by simp[K.vw]) (by simp[K.aw,inO])
 |store l n p x=>
  simp only[ev,ha p (by simp[K.args]),ha x (by simp[K.args])]
  generalize argv e' S'.ρ p=p'
  generalize argv e' S'.ρ x=x'
  unfold JC
  cases x'.cells with
  |none=>exact Gm
  |some xs=>
   simp only[Option.bind_some]
   split
   ·cases l with
    |v s=>
     cases p'<;>try exact Gm
     rename_i s' off
     simp only
     split
     ·rw[hv s (by simp[K.vs])]
      split
      ·rename_i cs _
       cases JH cs off xs with
       |none=>exact Gm
       |some cs'=>
        refine⟨rfl,rfl,rfl,fun s hs=>?_,fun s hs=>?_,fun s hs=>by simp[K.aw,K.avs,inO] at hs,fun s hs=>⟨rfl,rfl⟩⟩
        ·simp[K.vw,K.vs] at hs;simp[upd,hs]
        ·simp[K.vw,K.vs] at hs;simp[upd,hs]
      ·exact Gm
     ·exact Gm
    |e s=>
     cases p'<;>try exact Gm
     rename_i s' i off m
     simp only
     split
     ·rw[hA s (by simp[K.avs,inO])]
      split
      ·rename_i z rows _
       split
       ·cases rows[i]? with
        |none=>exact Gm
        |some r=>
         simp only[Option.bind_some]
         cases JH r off xs with
         |none=>exact Gm
         |some r'=>
          refine⟨rfl,rfl,rfl,fun s hs=>by simp[K.vw,K.vs] at hs,fun s hs=>⟨rfl,rfl⟩,fun s hs=>?_,fun s hs=>?_⟩
          ·simp[K.aw,K.avs,inO] at hs;simp[upd,hs]
          ·simp[K.aw,K.avs,inO] at hs;simp[upd,hs]
       ·exact Gm
      ·exact Gm
     ·exact Gm
    |c=>cases p'<;>exact Gm
    |x=>
     have h1:S.A=S'.A:=funext fun s=>hA s (by simp[K.avs,inO])
     cases p'<;>try exact Gm
     rename_i s i off m
     simp only
     split
     ·rw[h1]
      split
      ·rename_i z rows _
       split
       ·cases rows[i]? with
        |none=>exact Gm
        |some r=>
         simp only[Option.bind_some]
         cases JH r off xs with
         |none=>exact Gm
         |some r'=>exact⟨rfl,rfl,rfl,fun s hs=>by simp[K.vw,K.vs] at hs,fun s hs=>⟨rfl,rfl⟩,fun s hs=>rfl,fun s hs=>absurd (by simp[K.aw,K.avs,inO]) hs⟩
       ·exact Gm
      ·exact Gm
     ·exact Gm
   ·exact Gm
 |bin o x y=>simp only[ev,ha x (by simp[K.args]),ha y (by simp[K.args])];exact .bindV (by simp[K.vw,K.vs]) (by simp[K.aw,K.avs,inO])
 |eqa ne sh x y=>
  simp only[ev,ha x (by simp[K.args]),ha y (by simp[K.args])]
  split
  ·rename_i xs ys _ _
   cases JbK sh xs ys with
   |none=>exact Gm
   |some b=>exact .pure (by simp[K.vw,K.vs]) (by simp[K.aw,K.avs,inO])
  ·exact Gm
 |eqb ne x y=>
  simp only[ev,ha x (by simp[K.args]),ha y (by simp[K.args])]
  split
  ·exact .pure (by simp[K.vw,K.vs]) (by simp[K.aw,K.avs,inO])
  ·exact Gm
 |sh o x y=>simp only[ev,ha x (by simp[K.args]),ha y (by simp[K.args])];exact .bindV (by simp[K.vw,K.vs]) (by simp[K.aw,K.avs,inO])
 |mm mx x y=>
  simp only[ev,ha x (by simp[K.args]),ha y (by simp[K.args])]
  split
  ·split
   ·exact .pure (by simp[K.vw,K.vs]) (by simp[K.aw,K.avs,inO])
   ·exact Gm
  ·exact Gm
 |un o x=>simp only[ev,ha x (by simp[K.args])];exact .bindV (by simp[K.vw,K.vs]) (by simp[K.aw,K.avs,inO])
 |conv c x=>simp only[ev,ha x (by simp[K.args])];exact .bindV (by simp[K.vw,K.vs]) (by simp[K.aw,K.avs,inO])
 |fn f cap sites=>
  have hc:cap.map (argv e S.ρ)=cap.map (argv e' S'.ρ):=GS fun x hx=>ha x (by simp[K.args,hx])
  have hd:sites.all (JL S.μ)=sites.all (JL S'.μ):=by
   rw[Bool.eq_iff_iff,Gv,Gv];constructor<;>intro h s hs
   ·have:=h s hs;simp only[JL] at this ⊢;rwa [←hv s (by simpa [K.vs] using hs)]
   ·have:=h s hs;simp only[JL] at this ⊢;rwa [hv s (by simpa [K.vs] using hs)]
  have hcap:∀x:V,capV S.μ sites x=capV S'.μ sites x:=fun x=>by
   unfold capV;split
   ·rename_i s;by_cases hs:s∈sites
    ·rw[hv s (by simpa [K.vs] using hs)]
    ·have:sites.contains s=false:=by simpa using hs
     rw[this];cases S.μ s<;>cases S'.μ s<;>simp
   ·rfl
  simp only[ev,hc,hd,JbU (fun x _=>hcap x)]
  split
  ·cases Js (capV S'.μ sites) (cap.map (argv e' S'.ρ)) with
   |none=>exact Gm
   |some cs=>
    refine⟨rfl,rfl,rfl,fun s hs=>?_,fun s hs=>?_,fun s hs=>by simp[K.aw,K.avs,inO] at hs,fun s hs=>⟨rfl,rfl⟩⟩
    ·exact Jgz sites _ _ s (hv s hs)
    ·exact⟨JcO sites _ s hs,JcO sites _ s hs⟩
  ·exact Gm
 |sl st z x lo hi=>
  have hlo:lo.map (argv e S.ρ)=lo.map (argv e' S'.ρ):=by cases lo with|none=>rfl|some a=>simp[ha a (by simp[K.args])]
  have hhi:hi.map (argv e S.ρ)=hi.map (argv e' S'.ρ):=by cases hi with|none=>rfl|some a=>simp[ha a (by simp[K.args])]
  simp only[ev,ha x (by simp[K.args]),hlo,hhi];exact .bindV (by simp[K.vw,K.vs]) (by simp[K.aw,K.avs,inO])
 |fad x off=>simp only[ev,ha x (by simp[K.args])];exact .bindV (by simp[K.vw,K.vs]) (by simp[K.aw,K.avs,inO])
 |iad z x i=>simp only[ev,ha x (by simp[K.args]),ha i (by simp[K.args])];exact .bindV (by simp[K.vw,K.vs]) (by simp[K.aw,K.avs,inO])
 |iada z n x i=>simp only[ev,ha x (by simp[K.args]),ha i (by simp[K.args])];exact .bindV (by simp[K.vw,K.vs]) (by simp[K.aw,K.avs,inO])
 |idx x i=>simp only[ev,ha x (by simp[K.args]),ha i (by simp[K.args])];exact .bindV (by simp[K.vw,K.vs]) (by simp[K.aw,K.avs,inO])
 |ext x i=>simp only[ev,ha x (by simp[K.args])];exact .bindV (by simp[K.vw,K.vs]) (by simp[K.aw,K.avs,inO])
 |len st x=>simp only[ev,ha x (by simp[K.args])];exact .bindV (by simp[K.vw,K.vs]) (by simp[K.aw,K.avs,inO])
 |app s z x y=>
  simp only[ev,ha x (by simp[K.args]),ha y (by simp[K.args])]
  generalize argv e' S'.ρ x=x'
  generalize argv e' S'.ρ y=y'
  unfold appN J8
  cases x'<;>try exact Gm
  case nslice z'=>
   simp only
   split
   ·rw[hA s (by simp[K.avs,inO])]
    split
    ·cases V.rowsOf z y' with
     |none=>exact Gm
     |some ys=>
      simp only[Option.bind_some]
      split
      ·refine⟨rfl,rfl,rfl,fun s hs=>by simp[K.vw,K.vs] at hs,fun s hs=>⟨rfl,rfl⟩,fun s hs=>?_,fun s hs=>?_⟩
       ·simp[K.aw,K.avs,inO] at hs;simp[upd,hs]
       ·simp[K.aw,K.avs,inO] at hs;simp[upd,hs]
      ·exact Gm
    ·exact Gm
   ·exact Gm
  rename_i s' z' n
  simp only
  split
  ·rw[hA s (by simp[K.avs,inO])]
   split
   ·rename_i z'' rows _
    split
    ·cases V.rowsOf z y' with
     |none=>exact Gm
     |some ys=>
      simp only[Option.bind_some]
      split
      ·refine⟨rfl,rfl,rfl,fun s hs=>by simp[K.vw,K.vs] at hs,fun s hs=>⟨rfl,rfl⟩,fun s hs=>?_,fun s hs=>?_⟩
       ·simp[K.aw,K.avs,inO] at hs;simp[upd,hs]
       ·simp[K.aw,K.avs,inO] at hs;simp[upd,hs]
      ·exact Gm
    ·exact Gm
   ·exact Gm
  ·exact Gm
 |apf s z x y=>
  simp only[ev,ha x (by simp[K.args]),ha y (by simp[K.args])]
  generalize argv e' S'.ρ x=x'
  generalize argv e' S'.ρ y=y'
  unfold J8
  cases x'<;>try exact Gm
  rename_i s' z' n
  simp only
  split
  ·rw[hA s (by simp[K.avs,inO])]
   split
   ·rename_i z'' rows _
    split
    ·cases V.rowsOf z y' with
     |none=>exact Gm
     |some ys=>
      simp only[Option.bind_some]
      split
      ·rename_i hlen
       have e1:∀A:Nat→Option (Nat×List (List V)×Fz),toDC (upd A s (some (z,rows++ys,.live))) (.own s z (rows.length+ys.length))=some (.slice z (rows++ys)):=fun A=>by simp[toDC,upd]
       simp only[e1,Option.bind_some]
       refine⟨rfl,rfl,rfl,fun s hs=>by simp[K.vw,K.vs] at hs,fun s hs=>⟨rfl,rfl⟩,fun s hs=>?_,fun s hs=>?_⟩
       ·simp[K.aw,K.avs,inO] at hs;simp[Ju,upd,hs]
       ·simp[K.aw,K.avs,inO] at hs;simp[Ju,upd,hs]
      ·exact Gm
    ·exact Gm
   ·exact Gm
  ·exact Gm
 |ins f s z x i y=>
  simp only[ev,ha x (by simp[K.args]),ha i (by simp[K.args]),ha y (by simp[K.args])]
  split
  ·split
   ·rw[hA s (by simp[K.avs,inO])]
    split
    ·split
     ·refine⟨rfl,rfl,rfl,fun s hs=>by simp[K.vw,K.vs] at hs,fun s hs=>⟨rfl,rfl⟩,fun s hs=>?_,fun s hs=>?_⟩
      ·simp[K.aw,K.avs,inO] at hs;simp[upd,hs]
      ·simp[K.aw,K.avs,inO] at hs;simp[upd,hs]
     ·exact Gm
    ·exact Gm
   ·exact Gm
  ·exact Gm
 |del f s z x i j=>
  simp only[ev,ha x (by simp[K.args]),ha i (by simp[K.args]),ha j (by simp[K.args])]
  split
  ·split
   ·rw[hA s (by simp[K.avs,inO]),hA d (by simp[K.avs,inO])]
    split
    ·split
     ·refine⟨rfl,rfl,rfl,fun s hs=>by simp[K.vw,K.vs] at hs,fun s hs=>⟨rfl,rfl⟩,fun t ht=>?_,fun t ht=>?_⟩
      ·simp[K.aw,K.avs,inO] at ht
       by_cases e1:t=d
       ·simp[upd,e1]
       ·have:t=s:=by rcases ht with h|h<;>simp_all
        subst this;simp[upd,e1]
      ·simp[K.aw,K.avs,inO] at ht
       simp[upd,ht.1,ht.2]
     ·exact Gm
    ·exact Gm
   ·exact Gm
  ·exact Gm
 |call f cv own xs=>
  have hc:callee e S.ρ f=callee e' S'.ρ f:=by
   cases f with
   |k f=>rfl
   |v x=>simp only[callee,ha x (by simp[K.args,Cal.args])]
  have hx:xs.map (argv e S.ρ)=xs.map (argv e' S'.ρ):=GS fun x hx=>ha x (by simp[K.args,hx])
  simp only[ev,hc,hx]
  cases callee e' S'.ρ f with
  |none=>exact Gm
  |some fc=>
   simp only[Option.bind_some]
   generalize xs.map (argv e' S'.ρ)=avs
   unfold callV
   cases cv with
   |no=>
    simp only
    split
    ·cases κ fc.1 (avs++fc.2) with
     |none=>exact Gm
     |some r=>
      simp only[Option.bind_some]
      cases own with
      |none=>exact .pure (by simp[K.vw,K.vs]) (by simp[K.aw,K.avs,inO])
      |some j=>
       simp only[adopt,hA d (by simp[K.avs,inO])]
       split
       ·exact Gm
       ·split
        ·refine⟨rfl,rfl,rfl,fun s hs=>by simp[K.vw,K.vs] at hs,fun s hs=>⟨rfl,rfl⟩,fun s hs=>?_,fun s hs=>?_⟩
         ·simp[K.aw,K.avs,inO] at hs;simp[upd,hs]
         ·simp[K.aw,K.avs,inO] at hs;simp[upd,hs]
        ·split
         ·refine⟨rfl,rfl,rfl,fun s hs=>by simp[K.vw,K.vs] at hs,fun s hs=>⟨rfl,rfl⟩,fun s hs=>?_,fun s hs=>?_⟩
          ·simp[K.aw,K.avs,inO] at hs;simp[upd,hs]
          ·simp[K.aw,K.avs,inO] at hs;simp[upd,hs]
         ·exact Gm
        ·exact Gm
    ·exact Gm
   |borrow=>
    have:S.A=S'.A:=funext fun s=>hA s (by simp[K.avs,inO])
    simp only[this]
    cases Js (toD S'.A) avs with
    |none=>exact Gm
    |some bs=>
     simp only[Option.bind_some]
     cases κ fc.1 (bs++fc.2) with
     |none=>exact Gm
     |some r=>
      simp only[Option.bind_some]
      split
      ·exact .pure (by simp[K.vw,K.vs]) (by simp[K.aw,inO])
      ·exact Gm
   |freeze=>
    have hAA:S.A=S'.A:=funext fun s=>hA s (by simp[K.avs,inO])
    simp only[hAA]
    cases Js (toD S'.A) avs with
    |none=>exact Gm
    |some bs=>
     simp only[Option.bind_some]
     cases κ fc.1 (bs++fc.2) with
     |none=>exact Gm
     |some r=>
      simp only[Option.bind_some]
      unfold adopt
      cases own with
      |none=>exact⟨rfl,rfl,rfl,fun s hs=>by simp[K.vw,K.vs] at hs,fun s hs=>⟨rfl,rfl⟩,fun s hs=>rfl,fun s hs=>by simp[K.aw,K.avs,inO] at hs⟩
      |some j=>
       simp only
       split
       ·exact Gm
       ·split
        ·exact⟨rfl,rfl,rfl,fun s hs=>by simp[K.vw,K.vs] at hs,fun s hs=>⟨rfl,rfl⟩,fun s hs=>rfl,fun s hs=>by simp[K.aw,K.avs,inO] at hs⟩
        ·split
         ·exact⟨rfl,rfl,rfl,fun s hs=>by simp[K.vw,K.vs] at hs,fun s hs=>⟨rfl,rfl⟩,fun s hs=>rfl,fun s hs=>by simp[K.aw,K.avs,inO] at hs⟩
         ·exact Gm
        ·exact Gm
 |nilc x=>
  simp only[ev,ha x (by simp[K.args])]
  split<;>first|exact Gm|exact .pure (by simp[K.vw,K.vs]) (by simp[K.aw,K.avs,inO])
 |nilq x=>
  simp only[ev,ha x (by simp[K.args])]
  split<;>first|exact Gm|exact .pure (by simp[K.vw,K.vs]) (by simp[K.aw,K.avs,inO])
 |frz s x=>
  simp only[ev,ha x (by simp[K.args])]
  have hA0:S.A s=S'.A s:=hA s (by simp[K.avs,inO])
  split
  ·rename_i s' z n hx
   split
   ·have e1:toDC S.A (.own s z n)=toDC S'.A (.own s z n):=by simp only[toDC,hA0]
    rw[e1]
    cases toDC S'.A (.own s z n) with
    |none=>exact Gm
    |some v=>exact⟨rfl,rfl,rfl,fun s hs=>by simp[K.vw,K.vs] at hs,fun s hs=>⟨rfl,rfl⟩,fun t ht=>by
      simp[K.aw,K.avs,inO] at ht;subst ht;simp[Ju,upd,hA0],fun t ht=>by
      simp[K.aw,K.avs,inO] at ht;exact⟨by simp[Ju,upd,ht],by simp[Ju,upd,ht]⟩⟩
   ·exact Gm
  ·exact Gm
 |ldf s v n p=>
  have e0:Jy S (.v v) (some n) (argv e S.ρ p)=Jy S' (.v v) (some n) (argv e' S'.ρ p):=by
   rw[ha p (by simp[K.args])];generalize argv e' S'.ρ p=p';unfold Jy;have h1:=hv v (by simp[K.vs]);cases p'<;>simp only[h1]
  have hA0:S.A s=S'.A s:=hA s (by simp[K.avs,inO])
  simp only[ev,e0]
  cases Jy S' (.v v) (some n) (argv e' S'.ρ p) with
  |none=>exact Gm
  |some x=>
   simp only[Option.bind_some]
   split
   ·rename_i hall
    have e1:toD S.A x=toD S'.A x:=JfM fun t ht=>by
     have:=Gv.1 hall t ht;rw[GL.1 this];exact hA0
    rw[e1]
    cases toD S'.A x with
    |none=>exact Gm
    |some y=>exact⟨rfl,rfl,rfl,fun s hs=>by simp[K.vw] at hs,fun s hs=>⟨rfl,rfl⟩,fun t ht=>by
      simp[K.aw,K.avs,inO] at ht;subst ht;simp[Ju,upd,hA0],fun t ht=>by
      simp[K.aw,K.avs,inO] at ht;exact⟨by simp[Ju,upd,ht],by simp[Ju,upd,ht]⟩⟩
   ·exact Gm
 |mkb z n zero ps=>
  have:ps.map (fun p=>(p.1,argv e S.ρ p.2))=ps.map (fun p=>(p.1,argv e' S'.ρ p.2)):=GS fun p hp=>by rw[ha p.2 (by simp only[K.args,List.mem_map];exact⟨p,hp,rfl⟩)]
  have hA0:S.A d=S'.A d:=hA d (by simp[K.avs,inO])
  simp only[ev,this,adopt,←hA0]
  cases Jr z (List.replicate n zero) (ps.map fun p=>(p.1,argv e' S'.ρ p.2)) with
  |none=>exact Gm
  |some rows=>
   simp only[Option.bind_some]
   cases S.A d with
   |some x=>exact Gm
   |none=>exact⟨rfl,rfl,rfl,fun s hs=>by simp[K.vw,K.vs] at hs,fun s hs=>⟨rfl,rfl⟩,fun s hs=>by
     simp[K.aw,K.avs,inO] at hs;subst hs;simp[upd],fun s hs=>by
     simp[K.aw,K.avs,inO] at hs;exact⟨by simp[upd,hs],by simp[upd,hs]⟩⟩
 |rcall f xs k s b=>
  have hx:xs.map (argv e S.ρ)=xs.map (argv e' S'.ρ):=GS fun x hx=>ha x (by simp[K.args,hx])
  have hAA:S.A=S'.A:=funext fun s=>hA s (by simp[K.avs,inO])
  have h1:S.μ s=S'.μ s:=hv s (by simp[K.vs])
  simp only[ev,hx]
  generalize xs.map (argv e' S'.ρ)=avs
  have hA1:rcallA S k s avs=rcallA S' k s avs:=by unfold rcallA;simp only[hAA,h1]
  unfold JaW
  rw[hA1]
  cases rcallA S' k s avs with
  |none=>exact Gm
  |some q=>
   simp only[Option.bind_some]
   cases κ f q.1 with
   |none=>exact Gm
   |some r=>
    simp only[Option.bind_some]
    unfold rcallE
    split
    ·rename_i us
     cases JT b us q.2 with
     |none=>exact Gm
     |some t=>
      refine⟨rfl,rfl,rfl,fun s hs=>?_,fun s hs=>?_,fun s hs=>rfl,fun s hs=>by simp[K.aw,K.avs,inO] at hs⟩
      ·simp[K.vw,K.vs] at hs;simp[upd,hs]
      ·simp[K.vw,K.vs] at hs;simp[upd,hs]
    ·exact Gm
 |allo z b=>
  have hAA:S.A=S'.A:=funext fun s=>hA s (by simp[K.avs,inO])
  simp only[ev,hv d (by simp[K.vs]),hAA]
  split
  ·exact Gm
  ·cases JT b (z.map nilT) S'.A with
   |none=>exact Gm
   |some t=>
    refine⟨rfl,rfl,rfl,fun s hs=>?_,fun s hs=>?_,fun s hs=>rfl,fun s hs=>by simp[K.aw,K.avs,inO] at hs⟩
    ·simp[K.vw,K.vs] at hs;simp[upd,hs]
    ·simp[K.vw,K.vs] at hs;simp[upd,hs]
 |boxo x b=>
  have hAA:S.A=S'.A:=funext fun s=>hA s (by simp[K.avs,inO])
  simp only[ev,hv d (by simp[K.vs]),hAA,ha x (by simp[K.args])]
  split
  ·exact Gm
  ·split
   ·rename_i cs _
    split
    ·cases JT b (cs.map nilT) S'.A with
     |none=>exact Gm
     |some t=>
      refine⟨rfl,rfl,rfl,fun s hs=>?_,fun s hs=>?_,fun s hs=>rfl,fun s hs=>by simp[K.aw,K.avs,inO] at hs⟩
      ·simp[K.vw,K.vs] at hs;simp[upd,hs]
      ·simp[K.vw,K.vs] at hs;simp[upd,hs]
    ·exact Gm
   ·exact Gm
 |appd z x y=>
  have hAA:S.A=S'.A:=funext fun s=>hA s (by simp[K.avs,inO])
  simp only[ev,ha x (by simp[K.args]),ha y (by simp[K.args])]
  generalize argv e' S'.ρ x=x'
  generalize argv e' S'.ρ y=y'
  unfold appW J8
  cases x'<;>try exact Gm
  simp only[hAA]
  split
  ·split
   ·split
    ·cases V.rowsOf z y' with
     |none=>exact Gm
     |some ys=>
      simp only[Option.bind_some]
      split
      ·exact⟨rfl,rfl,rfl,fun s hs=>by simp[K.vw,K.vs] at hs,fun s hs=>⟨rfl,rfl⟩,fun s hs=>rfl,fun s hs=>by simp[K.aw,K.avs,inO] at hs⟩
      ·exact Gm
    ·exact Gm
   ·exact Gm
  ·exact Gm
 |slf z x lo hi=>
  have hAA:S.A=S'.A:=funext fun s=>hA s (by simp[K.avs,inO])
  have hlo:lo.map (argv e S.ρ)=lo.map (argv e' S'.ρ):=by cases lo with|none=>rfl|some a=>simp[ha a (by simp[K.args])]
  have hhi:hi.map (argv e S.ρ)=hi.map (argv e' S'.ρ):=by cases hi with|none=>rfl|some a=>simp[ha a (by simp[K.args])]
  simp only[ev,ha x (by simp[K.args]),hlo,hhi,hAA]
  cases toDC S'.A (argv e' S'.ρ x) with
  |none=>exact Gm
  |some y=>
   simp only[Option.bind_some]
   cases slV false z y (lo.map (argv e' S'.ρ)) (hi.map (argv e' S'.ρ)) with
   |none=>exact Gm
   |some v=>exact⟨rfl,rfl,rfl,fun s hs=>by simp[K.vw,K.vs] at hs,fun s hs=>⟨rfl,rfl⟩,fun s hs=>rfl,fun s hs=>by simp[K.aw,K.avs,inO] at hs⟩
 |mkoz z s=>
  have h1:S.A s=S'.A s:=hA s (by simp[K.avs,inO])
  have h2:S.A d=S'.A d:=hA d (by simp[K.avs,inO])
  have h3:Ju S.A [s] d=Ju S'.A [s] d:=by simp only[Ju,List.foldl_cons,List.foldl_nil,upd,h1,h2]
  simp only[ev,h3]
  split
  ·exact Gm
  ·refine⟨rfl,rfl,rfl,fun s hs=>by simp[K.vw,K.vs] at hs,fun s hs=>⟨rfl,rfl⟩,fun t ht=>?_,fun t ht=>?_⟩
   ·simp[K.aw,K.avs,inO] at ht
    by_cases e1:t=d
    ·simp[upd,e1]
    ·have:t=s:=by rcases ht with h|h<;>simp_all
     subst this;simp[upd,e1,Ju,h1]
   ·simp[K.aw,K.avs,inO] at ht
    simp[upd,Ju,ht.1,ht.2]
 |slr s z x lo hi=>
  have hA0:S.A s=S'.A s:=hA s (by simp[K.avs,inO])
  have hlo:lo.map (argv e S.ρ)=lo.map (argv e' S'.ρ):=by cases lo with|none=>rfl|some a=>simp[ha a (by simp[K.args])]
  have hhi:hi.map (argv e S.ρ)=hi.map (argv e' S'.ρ):=by cases hi with|none=>rfl|some a=>simp[ha a (by simp[K.args])]
  have hf:∀x,frzD S.A s x=frzD S'.A s x:=fun x=>by cases x<;>simp only[frzD,hA0]
  simp only[ev,ha x (by simp[K.args]),hlo,hhi,hf]
  cases frzD S'.A s (argv e' S'.ρ x) with
  |none=>exact Gm
  |some y=>
   simp only[Option.bind_some]
   exact .bindV (by simp[K.vw,K.vs]) (by simp[K.aw,inO])
 |fld x off n=>
  simp only[ev,ha x (by simp[K.args])]
  split
  ·exact .bindV (by simp[K.vw,K.vs]) (by simp[K.aw,K.avs,inO])
  ·exact Gm
 |b2s x=>
  have hAA:S.A=S'.A:=funext fun s=>hA s (by simp[K.avs,inO])
  simp only[ev,ha x (by simp[K.args]),hAA]
  exact .bindV (by simp[K.vw,K.vs]) (by simp[K.aw,inO])
 |mif t x=>
  simp only[ev,ha x (by simp[K.args])]
  split
  ·exact .pure (by simp[K.vw,K.vs]) (by simp[K.aw,K.avs,inO])
  ·exact Gm
 |asr t z x=>
  simp only[ev,ha x (by simp[K.args])]
  split
  ·split
   ·exact .pure (by simp[K.vw,K.vs]) (by simp[K.aw,K.avs,inO])
   ·cases z with
    |none=>exact Gm
    |some z=>exact .pure (by simp[K.vw,K.vs]) (by simp[K.aw,K.avs,inO])
  ·cases z with
   |none=>exact Gm
   |some z=>exact .pure (by simp[K.vw,K.vs]) (by simp[K.aw,K.avs,inO])
  ·exact Gm
 |inv l x xs=>
  have hxs:xs.map (argv e S.ρ)=xs.map (argv e' S'.ρ):=GS fun y hy=>ha y (by simp[K.args,hy])
  simp only[ev,ha x (by simp[K.args]),hxs]
  split
  ·split
   ·rename_i t v _ _
    cases l.find? (·.1 == t) with
    |none=>exact Gm
    |some f=>
     simp only[Option.bind_some]
     cases κ f.2 (v::xs.map (argv e' S'.ρ)) with
     |none=>exact Gm
     |some r=>exact .pure (by simp[K.vw,K.vs]) (by simp[K.aw,K.avs,inO])
   ·exact Gm
  ·exact Gm
 |bad=>exact Gm
def Op.gw (o:Op):List Nat:=if o.gl then o.dst.toList else []
def Op.d (o:Op):Nat:=o.dst.getD 0
def Op.lr (o:Op):List Nat:=(o.gd.toList.map (·.1))++o.k.args.flatMap Arg.lr
def Op.gr (o:Op):List Nat:=o.k.args.flatMap Arg.gr
structure Agree (o:Op) (e e':Nat→V) (S S':St):Prop where
 l:∀i,i∈o.lr→e i=e' i
 g:∀t,t∈o.gr→S.ρ t=S'.ρ t
 v:∀s,s∈o.k.vs o.d→S.μ s=S'.μ s
 a:∀s,inO s (o.k.avs o.d)→S.A s=S'.A s
def SameS (o:Op) (S S':St):Option (V×St)→Option (V×St)→Prop
 |none,none=>True
 |some (v,T),some (v',T')=>v=v'∧(∀t,t∈o.gw→T.ρ t=T'.ρ t)∧(∀t,t∉o.gw→T.ρ t=S.ρ t∧T'.ρ t=S'.ρ t)∧
   (∀s,s∈o.k.vw o.d→T.μ s=T'.μ s)∧(∀s,s∉o.k.vw o.d→T.μ s=S.μ s∧T'.μ s=S'.μ s)∧
   (∀s,inO s (o.k.aw o.d)→T.A s=T'.A s)∧(∀s,¬inO s (o.k.aw o.d)→T.A s=S.A s∧T'.A s=S'.A s)
 |_,_=>False
theorem Jh5 {d:Nat} {k:K} {s:Nat} (h:s∈k.vw d):s∈k.vs d:=by
 cases k<;>simp_all [K.vw]
theorem JhV {d:Nat} {k:K} {s:Nat} (h:inO s (k.aw d)):inO s (k.avs d):=by
 cases k<;>try (exact h)
 ·simp[K.aw,inO] at h
 ·rename_i f cv own xs;cases cv
  ·exact h
  ·simp[K.aw,inO] at h
  ·exact h
 ·simp[K.aw,inO] at h
 ·simp[K.aw,inO] at h
theorem JdU (S:St) (o:Op) (v:V):(∀t,t∈o.gw→(S.put o v).ρ t=v)∧(∀t,t∉o.gw→(S.put o v).ρ t=S.ρ t)∧(S.put o v).μ=S.μ∧(S.put o v).A=S.A:=by
 unfold St.put Op.gw;cases o.gl<;>cases o.dst<;>simp[upd];intro t ht e;exact absurd e ht
theorem Jbl (o:Op) (e e':Nat→V) (S S':St) (h:Agree o e e' S S'):SameS o S S' (step κ o e S) (step κ o e' S'):=by
 have hw:Jq e o.gd=Jq e' o.gd:=by
  unfold Jq;cases hg:o.gd with
  |none=>rfl
  |some jb=>obtain⟨j,b⟩:=jb;simp only;rw[h.l j (by simp[Op.lr,hg])]
 unfold step;rw[hw];have ha:∀x∈o.k.args,argv e S.ρ x=argv e' S'.ρ x:=fun x hx=>by
  cases x with
  |g t=>exact h.g t (by simp only[Op.gr,Gaf];exact⟨_,hx,by simp[Arg.gr]⟩)
  |l i=>exact h.l i (by simp only[Op.lr,GU,Gaf];exact .inr ⟨_,hx,by simp[Arg.lr]⟩)
  |c v=>rfl
  |f k=>rfl
 split
 ·exact Gm
 ·obtain⟨p1,p2,p3,p4⟩:=JdU S o .un;obtain⟨q1,q2,q3,q4⟩:=JdU S' o .un;refine⟨rfl,fun t ht=>by rw[p1 t ht,q1 t ht],fun t ht=>⟨p2 t ht,q2 t ht⟩,fun s hs=>by rw[p3,q3];exact h.v s (Jh5 hs),fun s hs=>by rw[p3,q3];exact⟨rfl,rfl⟩,
   fun s hs=>by rw[p4,q4];exact h.a s (JhV hs),fun s hs=>by rw[p4,q4];exact⟨rfl,rfl⟩⟩
 ·have hev:=JdK κ o.d o.k e e' S S' ha h.v h.a
  show SameS o S S' ((ev κ o.d e S o.k).bind _) ((ev κ o.d e' S' o.k).bind _)
  generalize ev κ o.d e S o.k=r at hev;generalize ev κ o.d e' S' o.k=r' at hev;cases r with
  |none=>cases r' with
   |none=>exact Gm
   |some _=>exact hev.elim
  |some r=>cases r' with
   |none=>exact hev.elim
   |some r'=>
    obtain⟨v,T⟩:=r
    obtain⟨v',T'⟩:=r'
    obtain⟨rfl,h1,h2,h3,h4,h5,h6⟩:=hev
    obtain⟨p1,p2,p3,p4⟩:=JdU T o v
    obtain⟨q1,q2,q3,q4⟩:=JdU T' o v
    exact⟨rfl,fun t ht=>by rw[p1 t ht,q1 t ht],fun t ht=>⟨by rw[p2 t ht,h1],by rw[q2 t ht,h2]⟩,fun s hs=>by rw[p3,q3];exact h3 s hs,fun s hs=>by rw[p3,q3];exact h4 s hs,
     fun s hs=>by rw[p4,q4];exact h5 s hs,fun s hs=>by rw[p4,q4];exact h6 s hs⟩
def Jgq:Option (List Nat)→Option (List Nat)→Bool
 |some [],_=>true
 |_,some []=>true
 |some l,some m=>l.all fun s=>!m.contains s
 |_,_=>false
theorem Jb8 {a b:Option (List Nat)} (h:Jgq a b=true) (s:Nat) (ha:inO s a):¬inO s b:=by
 unfold Jgq at h;split at h
 ·simp[inO] at ha
 ·simp[inO]
 ·rw[Gv] at h;have:=h s ha;simpa [inO] using this
 ·simp at h
theorem JkC (l:List Nat) (x:Nat):l.contains x=false↔x∉l:=by simp
def indep (i j:Nat) (p q:Op):Bool:=
 !q.lr.contains i&&!p.lr.contains j &&
 (p.gw.all fun t=>!q.gr.contains t&&!q.gw.contains t)&&(q.gw.all fun t=>!p.gr.contains t) &&
 ((p.k.vw p.d).all fun s=>!(q.k.vs q.d).contains s)&&((q.k.vw q.d).all fun s=>!(p.k.vs p.d).contains s) &&
 Jgq (p.k.aw p.d) (q.k.avs q.d)&&Jgq (q.k.aw q.d) (p.k.avs p.d)
theorem SameS.refl {o:Op} {e:Nat→V} {S:St}:SameS o S S (step κ o e S) (step κ o e S):=Jbl κ o e e S S ⟨fun _ _=>rfl,fun _ _=>rfl,fun _ _=>rfl,fun _ _=>rfl⟩
theorem St.ext' {S T:St} (h1:∀t,S.ρ t=T.ρ t) (h2:∀s,S.μ s=T.μ s) (h3:∀s,S.A s=T.A s):S=T:=by
 cases S;cases T;congr<;>funext x<;>simp_all
theorem Jev {i j:Nat} (hij:i≠j) {p q:Op} (h:indep i j p q=true) (e:Nat→V) (S:St) :
  ((step κ p e S).bind fun r=>(step κ q (upd e i r.1) r.2).bind fun r'=>some (upd (upd e i r.1) j r'.1,r'.2))=
  ((step κ q e S).bind fun r=>(step κ p (upd e j r.1) r.2).bind fun r'=>some (upd (upd e j r.1) i r'.1,r'.2)):=by
 simp only[indep,Gi,Gv,GJ,JkC] at h
 obtain⟨⟨⟨⟨⟨⟨⟨h1,h2⟩,h3⟩,h4⟩,h5⟩,h6⟩,h7⟩,h8⟩:=h
 have a7:=Jb8 h7
 have a8:=Jb8 h8
 -- q behind p
 have Q:∀v T,step κ p e S=some (v,T)→SameS q S T (step κ q e S) (step κ q (upd e i v) T):=fun v T hp=>by
  have:=SameS.refl κ (o:=p) (e:=e) (S:=S);rw[hp] at this;obtain⟨-,-,g,-,m,-,a⟩:=this;refine Jbl κ q e (upd e i v) S T ⟨fun k hk=>?_,fun t ht=>?_,fun s hs=>?_,fun s hs=>?_⟩
  ·have:k≠i:=fun he=>h1 (he▸hk);simp[upd,this]
  ·exact (g t (fun hg=>(h3 t hg).1 ht)).1.symm
  ·exact (m s (fun hm=>h5 s hm hs)).1.symm
  ·exact (a s (fun ha=>a7 s ha hs)).1.symm
 have P:∀v T,step κ q e S=some (v,T)→SameS p S T (step κ p e S) (step κ p (upd e j v) T):=fun v T hq=>by
  have:=SameS.refl κ (o:=q) (e:=e) (S:=S);rw[hq] at this;obtain⟨-,-,g,-,m,-,a⟩:=this;refine Jbl κ p e (upd e j v) S T ⟨fun k hk=>?_,fun t ht=>?_,fun s hs=>?_,fun s hs=>?_⟩
  ·have:k≠j:=fun he=>h2 (he▸hk);simp[upd,this]
  ·exact (g t (fun hg=>h4 t hg ht)).1.symm
  ·exact (m s (fun hm=>h6 s hm hs)).1.symm
  ·exact (a s (fun ha=>a8 s ha hs)).1.symm
 cases hp:step κ p e S with
 |none=>
  cases hq:step κ q e S with
  |none=>rfl
  |some r=>
   have:=P r.1 r.2 (by rw[hq])
   rw[hp] at this
   cases hh:step κ p (upd e j r.1) r.2 with
   |none=>simp[hh]
   |some _=>rw[hh] at this;exact this.elim
 |some r=>
  obtain⟨v,T⟩:=r
  have hQ:=Q v T hp
  cases hq:step κ q e S with
  |none=>
   rw[hq] at hQ
   cases hh:step κ q (upd e i v) T with
   |none=>simp[hh]
   |some _=>rw[hh] at hQ;exact hQ.elim
  |some r'=>
   obtain⟨u,U⟩:=r'
   have hP:=P u U hq
   rw[hq] at hQ
   rw[hp] at hP
   cases hh:step κ q (upd e i v) T with
   |none=>rw[hh] at hQ;exact hQ.elim
   |some x=>
    cases hh':step κ p (upd e j u) U with
    |none=>rw[hh'] at hP;exact hP.elim
    |some y=>
     obtain⟨u',T2⟩:=x
     obtain⟨v',U2⟩:=y
     rw[hh] at hQ
     rw[hh'] at hP
     obtain⟨rfl,q1,q2,q3,q4,q5,q6⟩:=hQ
     obtain⟨rfl,p1,p2,p3,p4,p5,p6⟩:=hP
     simp only[Option.bind_some,hh,hh',Ga,Gf]
     refine⟨?_,St.ext' (fun t=>?_) (fun s=>?_) (fun s=>?_)⟩
     ·funext k;simp only[upd];split<;>split<;>simp_all
     ·by_cases t1:t∈p.gw
      ·rw[←p1 t t1];exact (q2 t (h3 t t1).2).2
      ·rw[(p2 t t1).2]
       by_cases t2:t∈q.gw
       ·exact (q1 t t2).symm
       ·rw[(q2 t t2).2,(q2 t t2).1,(p2 t t1).1]
     ·by_cases t1:s∈p.k.vw p.d
      ·rw[←p3 s t1];exact (q4 s (fun hh=>h5 s t1 (Jh5 hh))).2
      ·rw[(p4 s t1).2]
       by_cases t2:s∈q.k.vw q.d
       ·exact (q3 s t2).symm
       ·rw[(q4 s t2).2,(q4 s t2).1,(p4 s t1).1]
     ·by_cases t1:inO s (p.k.aw p.d)
      ·rw[←p5 s t1];exact (q6 s (fun hh=>a7 s t1 (JhV hh))).2
      ·rw[(p6 s t1).2]
       by_cases t2:inO s (q.k.aw q.d)
       ·exact (q5 s t2).symm
       ·rw[(q6 s t2).2,(q6 s t2).1,(p6 s t1).1]
def runIx (ops:List Op):List Nat→(Nat→V)→St→Option St
 |[],_,S=>some S
 |i::l,e,S=>match ops[i]? with
  |none=>runIx ops l e S
  |some o=>(step κ o e S).bind fun r=>runIx ops l (upd e i r.1) r.2
theorem Jds {ops:List Op} {i j:Nat} (hij:i≠j) (h:∀p q,ops[i]?=some p→ops[j]?=some q→indep i j p q=true) (l:List Nat) (e:Nat→V) (S:St) :
  runIx κ ops (i::j::l) e S=runIx κ ops (j::i::l) e S:=by
 simp only[runIx]
 cases hi:ops[i]? with
 |none=>cases hj:ops[j]?<;>rfl
 |some p=>cases hj:ops[j]? with
  |none=>rfl
  |some q=>
   have:=Jev κ hij (h p q hi hj) e S
   have c:=congrArg (fun x=>x.bind fun r:(Nat→V)×St=>runIx κ ops l r.1 r.2) this
   simpa [Option.bind_assoc] using c
def Jbw (a:Nat):List Nat→List Nat
 |[]=>[a]
 |b::l=>if a≤b then a::b::l else b::Jbw a l
def JaE:List Nat→List Nat
 |[]=>[]
 |a::l=>Jbw a (JaE l)
theorem JcU {a x:Nat} {l:List Nat}:x∈Jbw a l↔x=a∨x∈l:=by
 induction l with
 |nil=>simp[Jbw]
 |cons b l ih=>
  simp only[Jbw];split
  ·simp
  ·simp[ih];constructor
   ·rintro (h|h|h)<;>simp_all
   ·rintro (h|h|h)<;>simp_all
theorem Jee {x:Nat} {l:List Nat}:x∈JaE l↔x∈l:=by
 induction l with
 |nil=>simp[JaE]
 |cons a l ih=>simp[JaE,JcU,ih]
theorem Jbk {ops:List Op} {a:Nat}:∀(s:List Nat) (e:Nat→V) (S:St),(∀b∈s,b<a→∀p q,ops[a]?=some p→ops[b]?=some q→indep a b p q=true)→
  runIx κ ops (a::s) e S=runIx κ ops (Jbw a s) e S
 |[],e,S,_=>rfl
 |b::s,e,S,h=>by
  simp only[Jbw];split
  ·rfl
  ·rename_i hab;rw[Jds κ (by omega) (h b (by simp) (by omega))];simp only[runIx];cases ops[b]? with
   |none=>exact Jbk s e S fun c hc=>h c (by simp[hc])
   |some q=>
    simp only;cases step κ q e S with
    |none=>rfl
    |some r=>exact Jbk s _ _ fun c hc=>h c (by simp[hc])
theorem runIx_sort {ops:List Op}:∀(l:List Nat) (e:Nat→V) (S:St),(l.Pairwise fun a b=>b<a→∀p q,ops[a]?=some p→ops[b]?=some q→indep a b p q=true)→
  runIx κ ops l e S=runIx κ ops (JaE l) e S
 |[],e,S,_=>rfl
 |a::l,e,S,h=>by
  rw[Gac] at h;have h1:runIx κ ops (a::l) e S=runIx κ ops (a::JaE l) e S:=by
   simp only[runIx];cases ops[a]? with
   |none=>exact runIx_sort l e S h.2
   |some p=>
    simp only;cases step κ p e S with
    |none=>rfl
    |some r=>exact runIx_sort l _ _ h.2
  rw[h1];exact Jbk κ (JaE l) e S fun b hb=>h.1 b (Jee.1 hb)
theorem Jc5 {a:Nat} {l:List Nat} (h:l.Pairwise (·≤·)):(Jbw a l).Pairwise (·≤·):=by
 induction l with
 |nil=>simp[Jbw]
 |cons b l ih=>
  rw[Gac] at h;simp only[Jbw];split
  ·rename_i hab;rw[Gac];exact⟨fun c hc=>by rcases GM.1 hc with rfl|hc;exact hab;exact GH hab (h.1 c hc),Gac.2 h⟩
  ·rename_i hab;rw[Gac];refine⟨fun c hc=>?_,ih h.2⟩;rcases JcU.1 hc with rfl|hc
   ·omega
   ·exact h.1 c hc
theorem JcE (l:List Nat):(JaE l).Pairwise (·≤·):=by
 induction l with
 |nil=>simp[JaE]
 |cons a l ih=>exact Jc5 ih
theorem Jel (a:Nat) (l:List Nat):(Jbw a l).Perm (a::l):=by
 induction l with
 |nil=>exact .refl _
 |cons b l ih=>
  simp only[Jbw];split
  ·exact .refl _
  ·exact (ih.cons b).trans (.swap a b l)
theorem Jdp (l:List Nat):(JaE l).Perm l:=by
 induction l with
 |nil=>exact .refl _
 |cons a l ih=>exact (Jel a _).trans (ih.cons a)
theorem Jc4 {l:List Nat} {n:Nat} (h:l.Perm (List.range n)):JaE l=List.range n:=by
 refine List.Perm.eq_of_pairwise (le:=(·≤·)) (fun a b _ _ h1 h2=>Nat.le_antisymm h1 h2) (JcE l) ?_ ((Jdp l).trans h);exact List.pairwise_le_range
theorem Jcg {ops:List Op}:∀(l:List Op) (i:Nat) (e:Nat→V) (S:St),(∀j,l[j]?=ops[i+j]?)→Jz κ l i e S=runIx κ ops (List.range' i l.length) e S
 |[],i,e,S,_=>rfl
 |o::l,i,e,S,h=>by
  have h0:ops[i]?=some o:=by simpa using (h 0).symm
  simp only[Jz,List.length_cons,List.range'_succ,runIx,h0];cases step κ o e S with
  |none=>rfl
  |some r=>exact Jcg l (i+1) _ _ fun j=>by have:=h (j+1);simpa [G0,Nat.add_comm 1 j] using this
end
end Sg
namespace Sg
open Go
def bindsAny (e:Edge):Bool:=Region.binds .any e
def okEdges (ops:Array Oper):Bool:=
 (List.range ops.size).all fun i=>match ops[i]? with
  |some o=>o.after.toList.all fun e=>!bindsAny e||decide (e.on<i)
  |none=>true
def Jl (o:Oper):List Nat:=(o.after.toList.filter bindsAny).map (·.on)
theorem Jaa {ops:Array Oper} (h:okEdges ops=true) {i:Nat} {o:Oper} (ho:ops[i]?=some o) {j:Nat} (hj:j∈Jl o):j<i:=by
 have hi:i<ops.size:=by
  rcases Gw i ops.size with h'|h'
  ·exact h'
  ·simp[Array.getElem?_eq_none h'] at ho
 have:=Gv.1 h i (GR.2 hi);rw[ho] at this;simp only[Jl,List.mem_map,Gaa] at hj;obtain⟨e,⟨he,hb⟩,rfl⟩:=hj;have:=Gv.1 this e he;rw[hb] at this;simpa using this
def left (n:Nat) (listed:Array Bool):List Nat:=(List.range n).filter fun i=>!listed.getD i true
theorem Jfb {n i:Nat} {listed:Array Bool} (hs:listed.size=n) (hi:i∈left n listed) :
  (left n (listed.setIfInBounds i true)).length+1=(left n listed).length∧∀j,j∈left n (listed.setIfInBounds i true)↔j∈left n listed∧j≠i:=by
 have hmem:∀j,j∈left n (listed.setIfInBounds i true)↔j∈left n listed∧j≠i:=by
  intro j;simp only[left,Gaa,GR,GJ];by_cases e:j=i
  ·subst e;simp only[left,Gaa,GR] at hi;have:j<listed.size:=by omega
   simp[this]
  ·have e':i≠j:=fun h=>e h.symm;rw[getD_set_ne true e'];simp[e]
 refine⟨?_,hmem⟩
 have nd1:(left n listed).Nodup:=List.Nodup.sublist Gal List.nodup_range
 have nd2:(left n (listed.setIfInBounds i true)).Nodup:=List.Nodup.sublist Gal List.nodup_range
 have hp:(left n listed).Perm (i::left n (listed.setIfInBounds i true)):=by
  refine (List.perm_ext_iff_of_nodup nd1 (List.nodup_cons.2 ⟨fun hh=>((hmem i).1 hh).2 rfl,nd2⟩)).2 fun j=>?_;rw[GM,hmem];constructor
  ·intro hj;by_cases e:j=i
   ·exact .inl e
   ·exact .inr ⟨hj,e⟩
  ·rintro (rfl|⟨hj,_⟩)
   ·exact hi
   ·exact hj
 have:=hp.length_eq
 simpa using this.symm
theorem Jjb {ops:Array Oper} (hok:okEdges ops=true):∀(fuel t:Nat) (listed:Array Bool),listed.size=ops.size→(left ops.size listed).length≤fuel→
  (Region.linearise.go .any ops fuel t listed []).Perm (left ops.size listed)∧
  ∀pre i post,Region.linearise.go .any ops fuel t listed []=pre++i::post→∀o,ops[i]?=some o→∀j∈Jl o,j∈pre∨j∉left ops.size listed:=by
 intro fuel
 induction fuel with
 |zero=>
  intro t listed hs hl
  have h0:left ops.size listed=[]:=List.length_eq_zero_iff.1 (by omega)
  simp only[Region.linearise.go,List.reverse_nil,h0]
  exact⟨.refl _,fun pre i post h=>by simp at h⟩
 |succ fuel ih=>
  intro t listed hs hl
  simp only[Region.linearise.go]
  change (match (Region.ready .any ops listed)[t % (Region.ready .any ops listed).length]? with
   |some i=>Region.linearise.go .any ops fuel (t / (Region.ready .any ops listed).length) (listed.setIfInBounds i true) [i]
   |none=>[].reverse).Perm _∧∀pre i post,(match (Region.ready .any ops listed)[t % (Region.ready .any ops listed).length]? with
   |some i=>Region.linearise.go .any ops fuel (t / (Region.ready .any ops listed).length) (listed.setIfInBounds i true) [i]
   |none=>[].reverse)=pre++i::post→_
  cases hi:(Region.ready .any ops listed)[t % (Region.ready .any ops listed).length]? with
  |none=>
   have hnil:Region.ready .any ops listed=[]:=by
    cases hr:Region.ready .any ops listed with
    |nil=>rfl
    |cons x xs=>
     rw[hr] at hi;have hlt:t % (x::xs).length<(x::xs).length:=Nat.mod_lt _ (by simp);rw[List.getElem?_eq_getElem hlt] at hi;simp at hi
   have h0:left ops.size listed=[]:=by
    rcases hl0:left ops.size listed with _|⟨a,avs⟩
    ·rfl
    ·exfalso
     -- the least that is left is ready
     have hmin:∃m,m∈left ops.size listed∧∀k,k∈left ops.size listed→m≤k:=by
      refine⟨a,by rw[hl0];simp,fun k hk=>?_⟩;have hp:(left ops.size listed).Pairwise (·≤·):=List.Pairwise.sublist Gal List.pairwise_le_range;rw[hl0,Gac] at hp;rw[hl0] at hk;rcases GM.1 hk with rfl|hk
      ·exact Gn _
      ·exact hp.1 k hk
     obtain⟨m,hm,hle⟩:=hmin;have hm':=hm;simp only[left,Gaa,GR,GJ] at hm';have:m∈Region.ready .any ops listed:=mem_ready.2 ⟨hm'.2,ops[m]'hm'.1,by simp[hm'.1],fun e he hb=>by
      have hlt:e.on<m:=Jaa hok (i:=m) (o:=ops[m]'hm'.1) (by simp[hm'.1]) (by simp only[Jl,List.mem_map,Gaa];exact⟨e,⟨by simpa using he,hb⟩,rfl⟩);have hn:e.on∉left ops.size listed:=fun hh=>by have:=hle _ hh;omega
      simp only[left,Gaa,GR,GJ,not_and,Bool.not_eq_false] at hn;have:=hn (by omega);have hsz:e.on<listed.size:=by omega
      simpa [hsz] using this⟩
     rw[hnil] at this;simp at this
   simp only[List.reverse_nil,h0]
   exact⟨.refl _,fun pre i post h=>by simp at h⟩
  |some i=>
   have hmem:=List.mem_of_getElem? hi
   obtain⟨hl1,o,ho,hdeps⟩:=mem_ready.1 hmem
   have hisz:i<ops.size:=by
    rcases Gw i ops.size with h'|h'
    ·exact h'
    ·simp[Array.getElem?_eq_none h'] at ho
   have hil:i∈left ops.size listed:=by simp only[left,Gaa,GR];exact⟨hisz,by simpa using hl1⟩
   obtain⟨s1,s2⟩:=Jfb hs hil
   simp only[]
   rw[linearise_go_acc,List.reverse_singleton,List.singleton_append]
   obtain⟨ih1,ih2⟩:=ih (t / (Region.ready .any ops listed).length) (listed.setIfInBounds i true) (by simpa using hs) (by omega)
   refine⟨?_,fun pre k post hsplit o' ho' j hj=>?_⟩
   ·refine (ih1.cons i).trans ?_
    have nd1:(left ops.size listed).Nodup:=List.Nodup.sublist Gal List.nodup_range
    have nd2:(left ops.size (listed.setIfInBounds i true)).Nodup:=List.Nodup.sublist Gal List.nodup_range
    refine (List.perm_ext_iff_of_nodup (List.nodup_cons.2 ⟨fun hh=>((s2 i).1 hh).2 rfl,nd2⟩) nd1).2 fun j=>?_
    rw[GM,s2]
    constructor
    ·rintro (rfl|⟨hj,_⟩)
     ·exact hil
     ·exact hj
    ·intro hj
     by_cases e:j=i
     ·exact .inl e
     ·exact .inr ⟨hj,e⟩
   ·cases pre with
    |nil=>
     simp only[List.nil_append,List.cons.injEq] at hsplit
     obtain⟨rfl,-⟩:=hsplit
     rw[ho] at ho'
     simp only[Ga] at ho'
     subst ho'
     simp only[Jl,List.mem_map,Gaa] at hj
     obtain⟨e,⟨he,hb⟩,rfl⟩:=hj
     have:=hdeps e (by simpa using he) hb
     refine .inr fun hh=>?_
     simp only[left,Gaa,GR,GJ] at hh
     have hsz:e.on<listed.size:=by omega
     simp[hsz] at this hh
     rw[this] at hh;simp at hh
    |cons p pre=>
     simp only[List.cons_append,List.cons.injEq] at hsplit
     obtain⟨rfl,hsplit⟩:=hsplit
     rcases ih2 pre k post hsplit o' ho' j hj with h'|h'
     ·exact .inl (G1 _ h')
     ·rw[s2] at h'
      by_cases e:j=i
      ·exact .inl (by simp[e])
      ·exact .inr fun hh=>h' ⟨hh,e⟩
theorem lin_ok {ops:Array Oper} (hok:okEdges ops=true) (t:Nat) :
  (Region.linearise .any ops t).Perm (List.range ops.size)∧∀pre i post,Region.linearise .any ops t=pre++i::post→∀o,ops[i]?=some o→∀j∈Jl o,j∈pre:=by
 have hall:left ops.size (Array.replicate ops.size false)=List.range ops.size:=by
  unfold left;rw[List.filter_eq_self];intro i hi;have:=GR.1 hi;simp[this]
 obtain⟨h1,h2⟩:=Jjb hok ops.size t (Array.replicate ops.size false) (by simp) (by rw[hall];simp)
 rw[hall] at h1 h2
 refine⟨h1,fun pre i post hs o ho j hj=>(h2 pre i post hs o ho j hj).resolve_right fun hn=>hn (GR.2 ?_)⟩
 have:=Jaa hok ho hj
 have hi:i<ops.size:=by
  rcases Gw i ops.size with h'|h'
  ·exact h'
  ·simp[Array.getElem?_eq_none h'] at ho
 omega
def closure:List Oper→List (List Nat)→List (List Nat)
 |[],acc=>acc
 |o::os,acc=>closure os (acc++[Jl o++(Jl o).flatMap fun j=>acc.getD j []])
theorem Jay:∀(os:List Oper) (acc:List (List Nat)) (i:Nat),i<acc.length→(closure os acc).getD i []=acc.getD i []
 |[],acc,i,_=>rfl
 |o::os,acc,i,h=>by
  simp only[closure];rw[Jay os _ i (by simp;omega)];simp only[List.getD_eq_getElem?_getD];rw[List.getElem?_append_left h]
theorem JaR:∀(os:List Oper) (acc:List (List Nat)) (k:Nat) (o:Oper),os[k]?=some o→(∀j∈Jl o,j<acc.length+k)→
  ∀x,x∈(closure os acc).getD (acc.length+k) []→x∈Jl o∨∃j∈Jl o,x∈(closure os acc).getD j []
 |[],acc,k,o,h,_=>by simp at h
 |o'::os,acc,0,o,h,hb=>by
  simp only[List.getElem?_cons_zero,Ga] at h;subst h;intro x hx;simp only[closure,Nat.add_zero] at hx ⊢;rw[Jay os _ acc.length (by simp)] at hx;have:(acc++[Jl o'++(Jl o').flatMap fun j=>acc.getD j []]).getD acc.length []=Jl o'++(Jl o').flatMap fun j=>acc.getD j []:=by
   simp[List.getD_eq_getElem?_getD]
  rw[this,GU,Gaf] at hx;rcases hx with hx|⟨j,hj,hx⟩
  ·exact .inl hx
  ·refine .inr ⟨j,hj,?_⟩;have hlt:=hb j hj;rw[Jay os _ j (by simp;omega)];simp only[List.getD_eq_getElem?_getD];rw[List.getElem?_append_left (by omega)];simpa [List.getD_eq_getElem?_getD] using hx
 |o'::os,acc,k+1,o,h,hb=>by
  simp only[List.getElem?_cons_succ] at h;have:=JaR os (acc++[Jl o'++(Jl o').flatMap fun j=>acc.getD j []]) k o h (fun j hj=>by have:=hb j hj;simp;omega);simp only[Gc,List.length_cons,List.length_nil] at this;intro x hx;simp only[closure] at hx ⊢;rw[show acc.length+(k+1)=acc.length+(0+1)+k by omega] at hx;exact this x hx
def closureB:List Oper→List Nat→List Nat
 |[],acc=>acc
 |o::os,acc=>closureB os (acc++[(Jl o).foldl (fun m j=>(m ||| acc.getD j 0) ||| (1 <<< j)) 0])
theorem JbO {accB:List Nat} {b:Nat}:∀(l:List Nat) (m:Nat),(l.foldl (fun m j=>(m ||| accB.getD j 0) ||| (1 <<< j)) m).testBit b=true→m.testBit b=true∨∃j∈l,b=j∨(accB.getD j 0).testBit b=true
 |[],m,h=>.inl h
 |j::l,m,h=>by
  rcases JbO l _ h with h|⟨k,hk,h⟩
  ·simp only[Nat.testBit_or,Bool.or_eq_true] at h;rcases h with (h|h)|h
   ·exact .inl h
   ·exact .inr ⟨j,by simp,.inr h⟩
   ·refine .inr ⟨j,by simp,.inl ?_⟩;rw[Nat.one_shiftLeft,Nat.testBit_two_pow] at h;exact (Gp h).symm
  ·exact .inr ⟨k,by simp[hk],h⟩
theorem JaO:∀(os:List Oper) (acc:List (List Nat)) (accB:List Nat),acc.length=accB.length→(∀i b,(accB.getD i 0).testBit b=true→b∈acc.getD i [])→
  ∀i b,((closureB os accB).getD i 0).testBit b=true→b∈(closure os acc).getD i []
 |[],acc,accB,_,h,i,b,hb=>h i b hb
 |o::os,acc,accB,hl,h,i,b,hb=>by
  simp only[closureB] at hb;simp only[closure];refine JaO os _ _ (by simp[hl]) (fun i b hb=>?_) i b hb;rcases Nat.lt_trichotomy i accB.length with hi|hi|hi
  ·have h0:=h i b;simp only[List.getD_eq_getElem?_getD] at hb h0 ⊢;rw[List.getElem?_append_left hi] at hb;rw[List.getElem?_append_left (by omega)];exact h0 hb
  ·subst hi;rw[List.getD_eq_getElem?_getD,List.getElem?_append_right (Gn _)] at hb;rw[List.getD_eq_getElem?_getD,List.getElem?_append_right (by omega)];simp only[hl,Nat.sub_self] at hb ⊢;have hb:((Jl o).foldl (fun m j=>(m ||| accB.getD j 0) ||| (1 <<< j)) 0).testBit b=true:=hb
   show b∈Jl o++(Jl o).flatMap fun j=>acc.getD j []
   rw[GU,Gaf];rcases JbO _ _ hb with h0|⟨j,hj,h0⟩
   ·simp at h0
   ·rcases h0 with rfl|h0
    ·exact .inl hj
    ·exact .inr ⟨j,hj,h j b h0⟩
  ·rw[List.getD_eq_getElem?_getD,List.getElem?_eq_none (by simp;omega)] at hb;simp at hb
def okDraw (os:List Oper) (ps:List Op):Bool:=
 let cl:=closureB os []
 (List.range ps.length).all fun a=>(List.range a).all fun b=>(cl.getD a 0).testBit b||(match ps[a]?,ps[b]? with|some p,some q=>indep a b p q|_,_=>true)
theorem JeO {os:Array Oper} {ps:List Op} (hok:okEdges os=true) (hlen:ps.length=os.size) (hd:okDraw os.toList ps=true) (t:Nat) :
  (Region.linearise .any os t).Pairwise fun a b=>b<a→∀p q,ps[a]?=some p→ps[b]?=some q→indep a b p q=true:=by
 obtain⟨hperm,hdeps⟩:=lin_ok hok t
 -- what a hangs on,near and far,stands ahead of it
 have far:∀n,∀a,a≤n→∀pre post,Region.linearise .any os t=pre++a::post→∀x,x∈(closure os.toList []).getD a []→x∈pre:=by
  intro n
  induction n with
  |zero=>
   intro a ha pre post hs x hx;obtain rfl:a=0:=by omega
   have:(0:Nat)∈List.range os.size:=hperm.mem_iff.1 (by rw[hs];simp);have h0:=GR.1 this;have ho:os.toList[0]?=some os[0]:=by simp[h0]
   have hnone:Jl os[0]=[]:=by
    rcases hdd:Jl os[0] with _|⟨j,js⟩
    ·rfl
    ·have:=Jaa hok (i:=0) (o:=os[0]) (by simp[h0]) (j:=j) (by rw[hdd];simp);omega
   have:=JaR os.toList [] 0 os[0] ho (fun j hj=>by rw[hnone] at hj;simp at hj) x (by simpa using hx);rw[hnone] at this;simp at this
  |succ n ih=>
   intro a ha pre post hs x hx;have:a∈List.range os.size:=hperm.mem_iff.1 (by rw[hs];simp);have h0:=GR.1 this;have ho:os[a]?=some os[a]:=by simp[h0]
   have hlt:∀j∈Jl os[a],j<a:=fun j hj=>Jaa hok ho hj;have:=JaR os.toList [] a os[a] (by simp[h0]) (fun j hj=>by have:=hlt j hj;simp;omega) x (by simpa using hx);rcases this with hdir|⟨j,hj,hx'⟩
   ·exact hdeps pre a post hs _ ho x hdir
   ·have hjp:=hdeps pre a post hs _ ho j hj;obtain⟨p1,p2,rfl⟩:=List.append_of_mem hjp;have:=ih j (by have:=hlt j hj;omega) p1 (p2++a::post) (by rw[hs];simp) x hx';simp[this]
 have nd:(Region.linearise .any os t).Nodup:=hperm.nodup_iff.2 List.nodup_range
 -- split by places
 rw[List.pairwise_iff_forall_sublist]
 intro a b hab hlt p q hp hq
 have hin:∃pre post,Region.linearise .any os t=pre++a::post∧b∈post:=by
  have:∀(l:List Nat),[a,b].Sublist l→∃pre post,l=pre++a::post∧b∈post:=by
   intro l
   induction l with
   |nil=>intro h;simp at h
   |cons c l ih=>
    intro h;rcases List.sublist_cons_iff.1 h with h|⟨r,hr,h⟩
    ·obtain⟨pre,post,rfl,hb⟩:=ih h;exact⟨c::pre,post,rfl,hb⟩
    ·simp only[List.cons.injEq] at hr;obtain⟨rfl,rfl⟩:=hr;exact⟨[],l,rfl,List.singleton_sublist.1 h⟩
  exact this _ hab
 obtain⟨pre,post,hs,hb⟩:=hin
 have hnot:b∉(closure os.toList []).getD a []:=fun hh=>by
  have h1:=far a a (Gn _) pre post hs b hh;rw[hs,Gai] at nd;exact nd.2.2 b h1 b (by simp[hb]) rfl
 have ha:a<ps.length:=by
  rcases Gw a ps.length with h'|h'
  ·exact h'
  ·simp[List.getElem?_eq_none h'] at hp
 have:=Gv.1 (Gv.1 hd a (GR.2 ha)) b (GR.2 hlt)
 rw[hp,hq] at this
 simp only[Bool.or_eq_true] at this
 exact this.resolve_left fun hh=>hnot (JaO os.toList [] [] rfl (fun i b hb=>by simp at hb) a b hh)
end Sg
namespace Sg
open Go Go.RowKit
def Pin (pin:Option (Nat×Nat)) (S:St) (β:Nat→Nat):Prop:=∀k b,pin=some (k,b)→(S.μ k).isSome∧β k=b
theorem Pin.tr {cx:Cx} {w w':World} {Y Y':Nat→Prop} {S S':St} {β β':Nat→Nat} {α α':Nat→Value} {pin:Option (Nat×Nat)} (h:Pin pin S β)
  (hT:∀u x,RelT cx w Y S β α u x→RelT cx w' Y' S' β' α' u x):Pin pin S' β':=fun k b hp=>by
 obtain⟨h1,h2⟩:=h k b hp
 obtain⟨h3,h4⟩:=hT (.pointer (some ⟨b,0,none⟩)) (.lref k 0) ⟨h1,by rw[h2]⟩
 simp only[Value.pointer.injEq,Ga,Addr.mk.injEq] at h4
 exact⟨h3,h4.1.symm⟩
def FR (cx:Cx) (B:Nat→Prop) (X:Nat→Prop) (pin:Option (Nat×Nat)) (G:List Nat) (ds:List (Option Nat)) (e:Nat→V) (S:St) (tm:Array Value) (w:World):Prop:=
 (∀t,t∉G→S.ρ t=.undef)∧∃β α M,RelW cx B X S w β α M∧(∀t,RelT cx w (orP X M) S β α (tm.getD t undef) (S.ρ t))∧
  (∀i d,ds[i]?=some (some d)→RelT cx w (orP X M) S β α (tm.getD d undef) (e i))∧Pin pin S β
section
variable (P:Program) (cx:Cx) (ownOf:Nat→Option Nat) (G:List Nat) (N:Nat)
def okOper (ds:List (Option Nat)) (o:Oper) (p:Op):Bool:=
 o.dst == p.dst&&o.guard == p.gd&&(match p.dst with|some d=>p.gl == G.contains d&&decide (d<N)|none=>true) &&
 (match p.gd with|some (j,_)=>(match ds[j]? with|some (some _)=>true|_=>false)|none=>true) &&
 okK P cx ds o.op p.k&&okOwn ownOf p.k
def Jaq (ds:List (Option Nat)):List Oper→List Op→Bool
 |[],[]=>true
 |o::os,p::ps=>okOper P cx ownOf G N ds o p&&Jaq ds os ps
 |_,_=>false
def distinctDst:List (Option Nat)→Bool
 |[]=>true
 |none::ds=>distinctDst ds
 |some d::ds=>!ds.contains (some d)&&distinctDst ds
def JbX (draw:Bool) (os:Array Oper) (dr:Bool) (ps:List Op):Bool:=
 let ds:=ps.map (·.dst)
 Jaq P cx ownOf G N ds os.toList ps&&distinctDst ds&&draw == dr&&(!draw||(okEdges os&&okDraw os.toList ps))
end
theorem JaB {P:Program} {cx:Cx} {ownOf:Nat→Option Nat} {G:List Nat} {N:Nat} {ds:List (Option Nat)}:∀{os:List Oper} {ps:List Op},Jaq P cx ownOf G N ds os ps=true→
  os.length=ps.length∧∀(i:Nat) (o:Oper) (p:Op),os[i]?=some o→ps[i]?=some p→okOper P cx ownOf G N ds o p=true
 |[],[],_=>⟨rfl,fun i o p h=>by simp at h⟩
 |o::os,p::ps,h=>by
  simp only[Jaq,Gi] at h;obtain⟨h1,h2⟩:=JaB h.2;refine⟨by simp[h1],fun i o' p' ho hp=>?_⟩;cases i with
  |zero=>simp at ho hp;subst ho;subst hp;exact h.1
  |succ i=>exact h2 i o' p' (by simpa using ho) (by simpa using hp)
 |[],_::_,h=>by simp[Jaq] at h
 |_::_,[],h=>by simp[Jaq] at h
theorem JaQ:∀{ds:List (Option Nat)},distinctDst ds=true→∀(i j:Nat) (d:Nat),ds[i]?=some (some d)→ds[j]?=some (some d)→i=j
 |[],_,i,j,d,h,_=>by simp at h
 |x::ds,hd,i,j,d,hi,hj=>by
  have hd':distinctDst ds=true:=by cases x<;>simp_all [distinctDst]
  have hx:∀d',x=some d'→some d'∉ds:=fun d' e=>by subst e;simp[distinctDst] at hd;exact hd.1
  cases i with
  |zero=>cases j with
   |zero=>rfl
   |succ j=>
    simp at hi hj
    exact absurd (List.mem_of_getElem? hj) (hx d hi)
  |succ i=>cases j with
   |zero=>
    simp at hi hj
    exact absurd (List.mem_of_getElem? hi) (hx d hj)
   |succ j=>rw[JaQ hd' i j d (by simpa using hi) (by simpa using hj)]
section
variable {P:Program} {cx:Cx} {ownOf:Nat→Option Nat} {G:List Nat} {N:Nat} {B:Nat→Prop} {X:Nat→Prop} {pin:Option (Nat×Nat)} {κ:Nat→List V→Option V}
theorem JcS {tm:Array Value} {d t:Nat} {u:Value} (hd:d<tm.size):(tm.setIfInBounds d u).getD t undef=if t=d then u else tm.getD t undef:=by
 by_cases e:t=d
 ·subst e;simp[hd]
 ·have:d≠t:=fun h=>e h.symm;simp[e,Array.getElem?_setIfInBounds_ne this]
theorem FR.put {ds:List (Option Nat)} {e:Nat→V} {S S1:St} {a:Act} {w w':World} {i:Nat} {o:Oper} {p:Op} {v:V} {u:Value} {β α M}
  (hG:∀t,t∉G→S.ρ t=.undef) (hρ:S1.ρ=S.ρ) (hsz:a.tmps.size=N)
  (hg:∀t,RelT cx w (orP X M) S β α (a.tmps.getD t undef) (S.ρ t)) (hl:∀i d,ds[i]?=some (some d)→RelT cx w (orP X M) S β α (a.tmps.getD d undef) (e i))
  (hpin:Pin pin S β) (hp:OpPost cx B X S w β α M S1 v u w') (hdi:ds[i]?=some p.dst) (hdist:distinctDst ds=true) (hdst:o.dst=p.dst)
  (hgl:∀d,p.dst=some d→p.gl=G.contains d∧d<N):FR cx B X pin G ds (upd e i v) (S1.put p v) (a.put o.dst u).tmps w':=by
 obtain⟨β',α',M',q1,q2,q3,-⟩:=hp
 have hw':RelW cx B X (S1.put p v) w' β' α' M':=by
  have:(S1.put p v).μ=S1.μ∧(S1.put p v).A=S1.A:=by unfold St.put;split<;>exact⟨rfl,rfl⟩
  obtain⟨e1,e2⟩:=this;have:S1.put p v={ρ:=(S1.put p v).ρ,μ:=S1.μ,A:=S1.A}:=by rw[←e1,←e2]
  rw[this];exact⟨q1.xb,q1.glob,q1.size,q1.m,q1.var,q1.varInj,q1.arr,q1.arrInj,q1.arrVar⟩
 have hT:∀{u x},RelT cx w' (orP X M') S1 β' α' u x→RelT cx w' (orP X M') (S1.put p v) β' α' u x:=by
  intro u x h;have:(S1.put p v).μ=S1.μ∧(S1.put p v).A=S1.A:=by unfold St.put;split<;>exact⟨rfl,rfl⟩
  obtain⟨e1,e2⟩:=this;exact RelT.tr (S:=S1) (S':=S1.put p v) (fun _ _ h=>h) (fun s z rows f hs=>⟨rows,f,by rw[e2];exact hs,fun hf=>⟨hf,Gn _,fun _=>rfl⟩⟩) (fun s hs=>⟨by rw[e1];exact hs,rfl⟩) h
 have hP:Pin pin (S1.put p v) β':=(hpin.tr q2).tr (S':=S1.put p v) (β':=β') (fun _ _ h=>hT h)
 cases hd:p.dst with
 |none=>
  rw[hdst,hd]
  have hS:(S1.put p v).ρ=S.ρ:=by unfold St.put;rw[hd];cases p.gl<;>exact hρ
  refine⟨fun t ht=>by rw[hS];exact hG t ht,β',α',M',hw',fun t=>?_,fun j d hj=>?_,hP⟩
  ·rw[hS];exact hT (q2 _ _ (hg t))
  ·have hne:j≠i:=fun e'=>by subst e';rw[hdi,hd] at hj;simp at hj
   simp only[upd,GA hne]
   exact hT (q2 _ _ (hl j d hj))
 |some d=>
  obtain⟨g1,g2⟩:=hgl d hd
  rw[hdst,hd]
  have hlt:d<a.tmps.size:=by omega
  have hput:(a.put (some d) u).tmps=a.tmps.setIfInBounds d u:=rfl
  rw[hput]
  have hSρ:∀t,(S1.put p v).ρ t=if t=d∧d∈G then v else S.ρ t:=by
   intro t;unfold St.put;rw[hd,g1];by_cases hin:d∈G
   ·have:G.contains d=true:=by simpa using hin
    rw[this];simp only[upd,hρ,hin,and_true]
   ·have:G.contains d=false:=by simpa using hin
    rw[this];simp only[hρ,hin,and_false,GG]
  refine⟨fun t ht=>?_,β',α',M',hw',fun t=>?_,fun j d' hj=>?_,hP⟩
  ·rw[hSρ,GA (show ¬(t=d∧d∈G) from fun h=>ht (by rw[h.1];exact h.2))];exact hG t ht
  ·rw[hSρ,JcS hlt]
   by_cases e1:t=d
   ·subst e1
    by_cases hin:t∈G
    ·simp only[hin,and_self,GF];exact hT q3
    ·simp only[hin,and_false,GG,GF];rw[hG t hin];exact RelD.undef _
   ·simp only[e1,false_and,GG];exact hT (q2 _ _ (hg t))
  ·rw[JcS hlt]
   by_cases e1:j=i
   ·subst e1
    rw[hdi,hd] at hj
    simp only[Ga] at hj
    subst hj
    simp only[upd,GF];exact hT q3
   ·have e2:d'≠d:=fun e'=>e1 (JaQ hdist j i d (e'▸hj) (by rw[hdi,hd]))
    simp only[upd,GA e1,GA e2]
    exact hT (q2 _ _ (hl j d' hj))
theorem ops_sim {ops:Array Oper} {ps:List Op} (hκ:KOK P cx ownOf κ)
  (hok:Jaq P cx ownOf G N (ps.map (·.dst)) ops.toList ps=true) (hdist:distinctDst (ps.map (·.dst))=true) {Q:Exit→Act→World→Prop} {S':St} {w0:World}
  (hQ:∀(a:Act) (w:World) (e:Nat→V),FR cx B X pin G (ps.map (·.dst)) e S' a.tmps w→a.defers=[]→a.tmps.size=N→Kept B w0 w→Q .normal a w) :
  ∀(l:List Nat) (e:Nat→V) (S:St) (a:Act) (w:World),FR cx B X pin G (ps.map (·.dst)) e S a.tmps w→a.defers=[]→a.tmps.size=N→Kept B w0 w→
   runIx κ ps l e S=some S'→wpOps P ops Q l a w:=by
 obtain⟨hlen,hget⟩:=JaB hok
 intro l
 induction l with
 |nil=>
  intro e S a w hF hd hs hb hr
  simp only[runIx,Ga] at hr
  subst hr
  exact hQ a w e hF hd hs hb
 |cons i l ih=>
  intro e S a w hF hd hs hb hr
  simp only[runIx] at hr
  simp only[wpOps]
  cases hp:ps[i]? with
  |none=>
   rw[hp] at hr
   have:ops[i]?=none:=by
    have:ps.length≤i:=by
     rcases Gw i ps.length with h'|h'
     ·simp[h'] at hp
     ·exact h'
    have h2:ops.size≤i:=by simpa using (by omega:ops.toList.length≤i)
    simp[h2]
   rw[this]
   exact ih e S a w hF hd hs hb hr
  |some p=>
   rw[hp] at hr
   have hi:i<ops.size:=by
    have:i<ps.length:=by
     rcases Gw i ps.length with h'|h'
     ·exact h'
     ·simp[List.getElem?_eq_none h'] at hp
    simpa using (by omega:i<ops.toList.length)
   have ho:ops[i]?=some ops[i]:=by simp[hi]
   simp only[ho]
   have hoo:=hget i ops[i] p (by simp[hi]) hp
   simp only[okOper,Gi,GL] at hoo
   obtain⟨⟨⟨⟨⟨o1,o2⟩,o3⟩,o4⟩,o5⟩,o6⟩:=hoo
   have hgl:∀d,p.dst=some d→p.gl=G.contains d∧d<N:=fun d hd=>by
    rw[hd] at o3;simpa using o3
   have hdi:(ps.map (·.dst))[i]?=some p.dst:=by simp[hp]
   simp only[Gb] at hr
   obtain⟨r,hst,hr⟩:=hr
   obtain⟨hG,β,α,M,hW,hg,hl,hpin⟩:=hF
   unfold step at hst
   have hwant:∀b,Jq e p.gd=some b→Region.wanted ops[i] (yielded ops a.tmps)=b:=by
    intro b hb';unfold Region.wanted;rw[o2];unfold Jq at hb';cases hgd:p.gd with
    |none=>rw[hgd] at hb';simpa using hb'
    |some jb=>
     obtain⟨j,want⟩:=jb;rw[hgd] at hb' o4;simp only at hb' o4 ⊢;split at hb'<;>simp only[Ga,reduceCtorEq] at hb'
     rotate_left
     ·rename_i hej;subst hb';split at o4
      ·rename_i d hdj;have hr:=hl j d hdj;rw[hej] at hr;obtain⟨cs,hv,hsz,-⟩:=hr;have hcs:cs=#[]:=Array.eq_empty_of_size_eq_zero hsz;have hyd:yielded ops a.tmps j=none:=by
        unfold yielded;split
        ·rename_i t hb
         exfalso
         simp only[Gb] at hb;obtain⟨d',⟨o',ho',hd'⟩,ht⟩:=hb;have hj:j<ops.size:=by
          rcases Gw j ops.size with h'|h'
          ·exact h'
          ·simp[Array.getElem?_eq_none h'] at ho'
         have hpj:∃q,ps[j]?=some q∧q.dst=some d:=by
          simp only[List.getElem?_map,GX] at hdj;exact hdj
         obtain⟨q,hq1,hq2⟩:=hpj;have hoj:=hget j o' q (by simpa using ho') hq1;simp only[okOper,Gi,GL] at hoj;have:o'.dst=some d:=by rw[hoj.1.1.1.1.1];exact hq2
         rw[this] at hd';simp only[Ga] at hd';subst hd';rw[Array.getD_eq_getD_getElem?,ht] at hv;simp at hv
        ·rfl
       rw[hyd];rfl
      ·simp at o4
     rename_i t hej;subst hb';split at o4
     ·rename_i d hdj;have hr:=hl j d hdj;rw[hej] at hr;have hv:=Jal hr;have hj:j<ops.size:=by
       have:j<(ps.map (·.dst)).length:=by
        rcases Gw j (ps.map (·.dst)).length with h'|h'
        ·exact h'
        ·simp[List.getElem?_eq_none h'] at hdj
       simp only[Gl] at this;simpa using (by omega:j<ops.toList.length)
      have hpj:∃q,ps[j]?=some q∧q.dst=some d:=by
       simp only[List.getElem?_map,GX] at hdj;exact hdj
      obtain⟨q,hq1,hq2⟩:=hpj;have hoj:=hget j ops[j] q (by simp[hj]) hq1;simp only[okOper,Gi,GL] at hoj;have hdj':ops[j].dst=some d:=by rw[hoj.1.1.1.1.1];exact hq2
      have hyd:yielded ops a.tmps j=some t:=by
       unfold yielded;have hoj':ops[j]?=some ops[j]:=by simp[hj]
       rw[hoj'];simp only[Option.bind_some,hdj'];have hin:d<a.tmps.size:=by
        rcases Gw d a.tmps.size with h'|h'
        ·exact h'
        ·simp[h',undef] at hv
       simp only[hin,Array.getD_eq_getD_getElem?,Array.getElem?_eq_getElem,Option.getD_some] at hv;simp[hin,hv]
      rw[hyd];cases t<;>cases want<;>rfl
     ·simp at o4
   split at hst
   ·simp at hst
   ·rename_i hw
    rw[hwant false hw]
    simp only[Ga] at hst
    subst hst
    simp only[Gr,GG]
    have hpost:OpPost cx B X S w β α M S .un undef w:=.pure hW ⟨#[],rfl,rfl,fun i hi=>by simp at hi⟩
    have hF':=FR.put (G:=G) (N:=N) (o:=ops[i]) hG rfl hs hg hl hpin hpost hdi hdist o1 hgl
    refine ih _ _ _ _ hF' ?_ ?_ hb hr
    ·unfold Act.put;cases ops[i].dst<;>exact hd
    ·unfold Act.put;cases ops[i].dst
     ·exact hs
     ·simpa using hs
   ·rename_i hw
    rw[hwant true hw]
    simp only[GF]
    simp only[Gb,Ga] at hst
    obtain⟨⟨v,S1⟩,hev,rfl⟩:=hst
    have hdoes:=JeS hW hg hl hκ o5 o6 hev
    refine .inl (hdoes.wp fun u w' hpost=>?_)
    have hρ:S1.ρ=S.ρ:=by
     have:=JdK κ (p.dst.getD 0) p.k e e S S (fun _ _=>rfl) (fun _ _=>rfl) (fun _ _=>rfl);rw[hev] at this;exact this.2.1
    have hF':=FR.put (G:=G) (N:=N) (o:=ops[i]) hG hρ hs hg hl hpin hpost hdi hdist o1 hgl
    obtain⟨_,_,_,_,_,_,hbel⟩:=hpost
    refine ih _ _ _ _ hF' ?_ ?_ (hb.trans hbel) hr
    ·unfold Act.put;cases ops[i].dst<;>exact hd
    ·unfold Act.put;cases ops[i].dst
     ·exact hs
     ·simpa using hs
theorem FR.start {ds ds':List (Option Nat)} {e:Nat→V} {S:St} {tm:Array Value} {w:World} (h:FR cx B X pin G ds e S tm w):FR cx B X pin G ds' (fun _=>.undef) S tm w:=by
 obtain⟨hG,β,α,M,hW,hg,hl,hpin⟩:=h;exact⟨hG,β,α,M,hW,hg,fun _ _ _=>CR.undef _,hpin⟩
theorem FR.drew {ds:List (Option Nat)} {e:Nat→V} {S:St} {tm:Array Value} {w w':World} (h:FR cx B X pin G ds e S tm w) (hh:w'.heap=w.heap):FR cx B X pin G ds e S tm w':=by
 obtain⟨hG,β,α,M,hW,hg,hl,hpin⟩:=h;have hgr:Grow w w':=⟨by rw[hh];exact Gn _,fun b _=>by rw[hh]⟩;have hD:∀u x,RelD cx w (orP X M) u x→RelD cx w' (orP X M) u x:=fun _ _ hr=>Jao hgr (fun _ h=>.inl h) hr;exact⟨hG,β,α,M,hW.grow hgr (fun _ h=>h) (fun _ h=>.inl h),fun t=>(hg t).tr hD (ATr.refl S α) (fun _ h=>⟨h,rfl⟩),fun i d hd=>(hl i d hd).tr hD (ATr.refl S α) (fun _ h=>⟨h,rfl⟩),hpin⟩
theorem Jdr {id:Nat} {ops:Array Oper} {draw dr:Bool} {ps:List Op} (hm:P.follows .mixedOrders=true) (hκ:KOK P cx ownOf κ)
  (hok:JbX P cx ownOf G N draw ops dr ps=true) {S S':St} {a:Act} {w:World} {Q:Exit→Act→World→Prop}
  (hF:FR cx B X pin G [] (fun _=>.undef) S a.tmps w) (hd:a.defers=[]) (hs:a.tmps.size=N) (hr:Jz κ ps 0 (fun _=>.undef) S=some S')
  (hQ:∀(a':Act) (w':World),FR cx B X pin G [] (fun _=>.undef) S' a'.tmps w'→a'.defers=[]→a'.tmps.size=N→Kept B w w'→Q .normal a' w') :
  (Code.region id ops draw).wp P Q a w:=by
 simp only[JbX,Gi,GL] at hok
 obtain⟨⟨⟨h1,h2⟩,rfl⟩,h4⟩:=hok
 obtain⟨hlen,-⟩:=JaB h1
 have hlen':ps.length=ops.size:=by simpa using hlen.symm
 have hix:runIx κ ps (List.range ps.length) (fun _=>.undef) S=some S':=by
  rw[List.range_eq_range',←Jcg κ ps 0 _ _ (fun j=>by simp)];exact hr
 have hQ':∀(a':Act) (w':World) (e:Nat→V),FR cx B X pin G (ps.map (·.dst)) e S' a'.tmps w'→a'.defers=[]→a'.tmps.size=N→Kept B w w'→Q .normal a' w':=
  fun a' w' e hF' hd' hs' hb'=>hQ a' w' hF'.start hd' hs' hb'
 cases draw with
 |false=>
  refine wp_region (ops_sim hκ h1 h2 hQ' _ _ _ _ _ hF.start hd hs (Kept.refl _ _) ?_)
  rw[←hlen'];exact hix
 |true=>
  simp only[Gam,Bool.false_or,Gi] at h4
  refine wp_region_draw fun t=>?_
  simp only[Region.schedule,hm,Bool.true_or,GF]
  refine ops_sim hκ h1 h2 hQ' _ (fun _=>.undef) S _ _ (hF.start.drew rfl) hd hs ⟨rfl,rfl,rfl,Gn _,fun _ _=>rfl⟩ ?_
  rw[runIx_sort κ _ _ _ (JeO h4.1 hlen' h4.2 t),Jc4 (lin_ok h4.1 t).1,←hlen']
  exact hix
end
section
variable (P:Program) (cx:Cx) (ownOf:Nat→Option Nat) (G:List Nat) (N:Nat)
def okC:Code→C→Bool
 |.skip,.skip=>true
 |.region _ ops draw,.region dr ps=>JbX P cx ownOf G N draw ops dr ps
 |.seq a b,.seq a' b'=>okC a a'&&okC b b'
 |.cond x a b,.cond y a' b'=>Ja cx [] x y&&okC a a'&&okC b b'
 |.block id c,.block id' c'=>id == id'&&okC c c'
 |.loop c,.loop _ _ _ _ c'=>okC c c'
 |.exit id,.exit id'=>id == id'
 |.ret,.ret=>true
 |_,_=>false
end
section
variable {P:Program} {cx:Cx} {ownOf:Nat→Option Nat} {G:List Nat} {N:Nat} {B:Nat→Prop} {X:Nat→Prop} {pin:Option (Nat×Nat)} {κ:Nat→List V→Option V}
theorem Je6 {S:St} {W Wv Wa:List Nat} {s:Nat} (h:s∉Wa):(S.scrub W Wv Wa).A s=S.A s:=by
 simp[St.scrub,h]
theorem Jad {S:St} {W Wv Wa:List Nat} {s:Nat} {x} (h:(S.scrub W Wv Wa).A s=some x):s∉Wa∧S.A s=some x:=by
 simp only[St.scrub] at h;split at h
 ·simp at h
 ·rename_i hn;exact⟨by simpa using hn,h⟩
theorem Je7 {S:St} {W Wv Wa:List Nat} {α:Nat→Value} {v:Value} {s z n:Nat} (h:RelO S α v s z n) (hs:s∉Wa):RelO (S.scrub W Wv Wa) α v s z n:=by
 obtain⟨rows,f,a,cap,hA,h⟩:=h;exact⟨rows,f,a,cap,by rw[Je6 hs];exact hA,h⟩
theorem Jdk {S:St} {W Wv Wa:List Nat} {α:Nat→Value} {w:World} {Y:Nat→Prop} {v:Value} {x:V} (h:RelC cx w Y S α v x):RelC cx w Y (S.scrub W Wv Wa) α v (JA Wa x):=by
 cases x with
 |own s z n=>
  simp only[JA];split
  ·exact RelD.undef _
  ·rename_i hn;exact Je7 h (by simpa using hn)
 |_=>exact h
theorem JiQ {S:St} {W Wv Wa:List Nat} {α:Nat→Value} {β:Nat→Nat} {w:World} {Y:Nat→Prop} {v:Value} {x:V} (h:RelT cx w Y S β α v x):RelT cx w Y (S.scrub W Wv Wa) β α v (Jo Wv Wa x):=by
 cases x with
 |own s z n=>
  simp only[Jo];split
  ·exact RelD.undef _
  ·rename_i hn;exact Je7 h (by simpa using hn)
 |lref s o=>
  simp only[Jo];split
  ·exact RelD.undef _
  ·rename_i hn;obtain⟨h1,h2⟩:=h;refine⟨?_,h2⟩;have:Wv.contains s=false:=by simpa using hn
   simp only[St.scrub,this];cases hm:S.μ s with
   |none=>simp[hm] at h1
   |some m=>simp
 |eref s i o m=>
  simp only[Jo];split
  ·exact RelD.undef _
  ·rename_i hn;obtain⟨z,rows,f,b,o',cap,hA,h⟩:=h;exact⟨z,rows,f,b,o',cap,by rw[Je6 (by simpa using hn)];exact hA,h⟩
 |agg vs=>
  simp only[Jo];split
  ·rename_i he;have he':Wa=[]:=by simpa using he
   subst he';obtain⟨cs,rfl,hl,hc⟩:=h;refine⟨cs,rfl,hl,fun i hi=>?_⟩;obtain⟨u,p,q,r⟩:=hc i hi;refine⟨u,p,q,?_⟩;have:=Jdk (W:=W) (Wv:=Wv) (Wa:=[]) r;have e:JA [] (gv vs i)=gv vs i:=by cases gv vs i<;>simp[JA]
   rwa [e] at this
  ·exact RelD.undef _
 |tuple vs=>
  simp only[Jo];split
  ·rename_i he;have he':Wa=[]:=by simpa using he
   subst he';obtain⟨cs,rfl,hl,hc⟩:=h;refine⟨cs,rfl,hl,fun i hi=>?_⟩;obtain⟨u,p,r⟩:=hc i hi;refine⟨u,p,?_⟩;have:=Jdk (W:=W) (Wv:=Wv) (Wa:=[]) r;have e:JA [] (gv vs i)=gv vs i:=by cases gv vs i<;>simp[JA]
   rwa [e] at this
  ·exact RelD.undef _
 |_=>exact h
theorem JiR {S:St} {W Wv Wa:List Nat} {α:Nat→Value} {β:Nat→Nat} {w:World} {M:Nat→Prop} (h:RelW cx B X S w β α M):RelW cx B X (S.scrub W Wv Wa) w β α M:=by
 have hm:∀s cs f,(S.scrub W Wv Wa).μ s=some (cs,f)→∃cs0,S.μ s=some (cs0,f)∧cs=(bif Wa.isEmpty then cs0 else cs0.map (JA Wa)):=by
  intro s cs f hs;simp only[St.scrub] at hs;split at hs
  ·simp at hs
  ·cases hm:S.μ s with
   |none=>simp[hm] at hs
   |some m=>
    simp only[hm,Option.map_some,Ga,Gf] at hs;obtain⟨rfl,rfl⟩:=hs;exact⟨m.1,rfl,rfl⟩
 have hi:∀s,((S.scrub W Wv Wa).μ s).isSome→(S.μ s).isSome:=fun s hs=>by
  obtain⟨x,hx⟩:=GE.1 hs;obtain⟨cs0,h0,-⟩:=hm s x.1 x.2 hx;simp[h0]
 refine⟨h.xb,h.glob,h.size,h.m,fun s cs f hs=>?_,fun s s' hs hs' he=>h.varInj s s' (hi s hs) (hi s' hs') he,fun s z rows f hs hf=>h.arr s z rows f (Jad hs).2 hf,
  fun s s' z rows f z' rows' f' hs hf hs' hf'=>h.arrInj s s' z rows f z' rows' f' (Jad hs).2 hf (Jad hs').2 hf',fun s z rows f s' hs hf hs'=>h.arrVar s z rows f s' (Jad hs).2 hf (hi s' hs')⟩
 obtain⟨cs0,h0,rfl⟩:=hm s cs f hs;obtain⟨a1,a2,a3,c,e,a4,a5,a6⟩:=h.var s cs0 f h0;have hlen:(bif Wa.isEmpty then cs0 else cs0.map (JA Wa)).length=cs0.length:=by cases Wa.isEmpty<;>simp
 have hgv:∀i,i<cs0.length→gv (bif Wa.isEmpty then cs0 else cs0.map (JA Wa)) i=JA Wa (gv cs0 i):=by
  intro i hi';cases hW:Wa.isEmpty with
  |true=>
   have:Wa=[]:=by simpa using hW
   subst this;simp only[cond_true];cases gv cs0 i<;>simp[JA]
  |false=>simp[gv,hi']
 refine⟨a1,a2,fun hf=>⟨(a3 hf).1,?_⟩,c,e,a4,by rw[hlen];exact a5,fun i hi'=>?_⟩
 ·have hd:=(a3 hf).2;cases Wa.isEmpty with
  |true=>exact hd
  |false=>
   simp only[cond_false,List.all_map,Gv,Function.comp] at hd ⊢;intro x hx;have:=hd x hx;cases x<;>simp_all [JA,V.datC]
 ·rw[hlen] at hi';obtain⟨u,p,q,r⟩:=a6 i hi';exact⟨u,p,q,by rw[hgv i hi'];exact Jdk r⟩
theorem JaL (x h t:Nat):swp x h (swp x h t)=t:=by
 unfold swp;by_cases e1:t=x
 ·subst e1;simp only[GF];split
  ·rename_i e;exact e
  ·rfl
 ·rw[GA e1];by_cases e2:t=h
  ·subst e2;simp
  ·rw[GA e2,GA e1,GA e2]
theorem Jhz {x h s t:Nat} (e:swp x h s=swp x h t):s=t:=by rw[←JaL x h s,e,JaL]
section
variable {S:St} {α:Nat→Value} {β:Nat→Nat} {w:World} {Y:Nat→Prop} {x0 h0:Nat}
theorem Jh3 {v:Value} {s z n:Nat} (h:RelO S α v s z n):RelO (S.ren x0 h0) (fun t=>α (swp x0 h0 t)) v (swp x0 h0 s) z n:=by
 obtain⟨rows,f,a,cap,hA,h⟩:=h;exact⟨rows,f,a,cap,by simp only[St.ren,JaL];exact hA,by simpa only [JaL] using h⟩
theorem Jft {v:Value} {x:V} (h:RelC cx w Y S α v x):RelC cx w Y (S.ren x0 h0) (fun t=>α (swp x0 h0 t)) v (JP x0 h0 x):=by
 cases x with
 |own s z n=>exact Jh3 h
 |_=>exact h
theorem Jlv {v:Value} {x:V} (h:RelT cx w Y S β α v x):RelT cx w Y (S.ren x0 h0) β (fun t=>α (swp x0 h0 t)) v (Jah x0 h0 x):=by
 cases x with
 |own s z n=>exact Jh3 h
 |lref s o=>
  obtain⟨h1,h2⟩:=h;exact⟨by simp only[St.ren,Option.isSome_map];exact h1,h2⟩
 |eref s i o m=>
  obtain⟨z,rows,f,b,o',cap,hA,h⟩:=h;exact⟨z,rows,f,b,o',cap,by simp only[St.ren,JaL];exact hA,by simpa only [JaL] using h⟩
 |agg vs=>
  obtain⟨cs,rfl,hl,hc⟩:=h;refine⟨cs,rfl,by simpa using hl,fun i hi=>?_⟩;have hi':i<vs.length:=by simpa using hi
  obtain⟨u,p,q,r⟩:=hc i hi';refine⟨u,p,q,?_⟩;have:=Jft (x0:=x0) (h0:=h0) r;have e:gv (vs.map (JP x0 h0)) i=JP x0 h0 (gv vs i):=by simp[gv,hi']
  rwa [←e] at this
 |tuple vs=>
  obtain⟨cs,rfl,hl,hc⟩:=h;refine⟨cs,rfl,by simpa using hl,fun i hi=>?_⟩;have hi':i<vs.length:=by simpa using hi
  obtain⟨u,p,r⟩:=hc i hi';refine⟨u,p,?_⟩;have:=Jft (x0:=x0) (h0:=h0) r;have e:gv (vs.map (JP x0 h0)) i=JP x0 h0 (gv vs i):=by simp[gv,hi']
  rwa [←e] at this
 |_=>exact h
theorem Jfu {x:V} (h:x.datC=true):JP x0 h0 x=x:=by cases x<;>simp_all [JP,V.datC]
theorem Jlw {M:Nat→Prop} (h:RelW cx B X S w β α M):RelW cx B X (S.ren x0 h0) w β (fun t=>α (swp x0 h0 t)) M:=by
 have hm:∀s cs f,(S.ren x0 h0).μ s=some (cs,f)→∃cs0,S.μ s=some (cs0,f)∧cs=cs0.map (JP x0 h0):=by
  intro s cs f hs;simp only[St.ren,GX,Gf] at hs;obtain⟨m,hm,rfl,rfl⟩:=hs;exact⟨m.1,hm,rfl⟩
 have hi:∀s,((S.ren x0 h0).μ s).isSome→(S.μ s).isSome:=fun s hs=>by simpa [St.ren] using hs
 refine⟨h.xb,h.glob,h.size,h.m,fun s cs f hs=>?_,fun s s' hs hs' he=>h.varInj s s' (hi s hs) (hi s' hs') he,fun s z rows f hs hf=>h.arr (swp x0 h0 s) z rows f hs hf,
  fun s s' z rows f z' rows' f' hs hf hs' hf' b hb hb'=>Jhz (h.arrInj (swp x0 h0 s) (swp x0 h0 s') z rows f z' rows' f' hs hf hs' hf' b hb hb'),fun s z rows f s' hs hf hs'=>h.arrVar (swp x0 h0 s) z rows f s' hs hf (hi s' hs')⟩
 obtain⟨cs0,h0',rfl⟩:=hm s cs f hs;obtain⟨a1,a2,a3,c,e,a4,a5,a6⟩:=h.var s cs0 f h0';refine⟨a1,a2,fun hf=>⟨(a3 hf).1,?_⟩,c,e,a4,by simpa using a5,fun i hi'=>?_⟩
 ·have hd:=(a3 hf).2;simp only[List.all_map,Gv,Function.comp] at hd ⊢;intro x hx;rw[Jfu (hd x hx)];exact hd x hx
 ·simp only[Gl] at hi';obtain⟨u,p,q,r⟩:=a6 i hi';have e:gv (cs0.map (JP x0 h0)) i=JP x0 h0 (gv cs0 i):=by simp[gv,hi']
  exact⟨u,p,q,by rw[e];exact Jft r⟩
end
structure Nam (cx:Cx) (B X:Nat→Prop) (w:World) (β:Nat→Nat) (M:Nat→Prop) (S S':St) (α α':Nat→Value):Prop where
 hw:RelW cx B X S w β α M→RelW cx B X S' w β α' M
 ht:∀t u,RelT cx w (orP X M) S β α u (S.ρ t)→RelT cx w (orP X M) S' β α' u (S'.ρ t)
 hm:∀k,(S.μ k).isSome→(S'.μ k).isSome
 hu:∀t,S.ρ t=.undef→S'.ρ t=.undef
theorem Jhx {w:World} {β:Nat→Nat} {M:Nat→Prop} (S:St) (α:Nat→Value) (s j h:Nat):∃α',Nam cx B X w β M S (S.swp1 s j h) α α':=by
 unfold St.swp1;split
 ·split
  ·exact⟨_,⟨Jlw,fun t u h=>Jlv h,fun k hk=>by simpa [St.ren] using hk,fun t ht=>by simp[St.ren,ht,Jah]⟩⟩
  ·exact⟨α,⟨fun h=>h,fun _ _ h=>h,fun _ h=>h,fun _ h=>h⟩⟩
 ·exact⟨α,⟨fun h=>h,fun _ _ h=>h,fun _ h=>h,fun _ h=>h⟩⟩
theorem JhA {w:World} {β:Nat→Nat} {M:Nat→Prop}:∀(n:Nat) (L:List Nat) (S:St) (α:Nat→Value),L.length≤n→∃α',Nam cx B X w β M S (S.swps L) α α':=by
 intro n
 induction n with
 |zero=>
  intro L S α hL;have:L=[]:=GD (by omega);subst this;exact⟨α,⟨fun h=>h,fun _ _ h=>h,fun _ h=>h,fun _ h=>h⟩⟩
 |succ n ih=>
  intro L S α hL
  match L,hL with
  |[],_=>exact⟨α,⟨fun h=>h,fun _ _ h=>h,fun _ h=>h,fun _ h=>h⟩⟩
  |[a],_=>exact⟨α,⟨fun h=>h,fun _ _ h=>h,fun _ h=>h,fun _ h=>h⟩⟩
  |[a,b],_=>exact⟨α,⟨fun h=>h,fun _ _ h=>h,fun _ h=>h,fun _ h=>h⟩⟩
  |s::j::h::l,hL=>
   obtain⟨α1,h1⟩:=Jhx (cx:=cx) (B:=B) (X:=X) (w:=w) (β:=β) (M:=M) S α s j h;obtain⟨α2,h2⟩:=ih l (S.swp1 s j h) α1 (by simp at hL;omega);exact⟨α2,⟨fun h=>h2.hw (h1.hw h),fun t u h=>h2.ht t u (h1.ht t u h),fun k hk=>h2.hm k (h1.hm k hk),fun t ht=>h2.hu t (h1.hu t ht)⟩⟩
def nsC (k:Nat):C→Bool
 |.seq a b=>nsC k a&&nsC k b
 |.cond _ a b=>nsC k a&&nsC k b
 |.block _ c=>nsC k c
 |.loop _ _ Wv _ c=>!Wv.contains k&&nsC k c
 |_=>true
def JdD (pin:Option (Nat×Nat)) (c:C):Prop:=∀k b,pin=some (k,b)→nsC k c=true
theorem FR.head {W L Wv Wa:List Nat} {ds:List (Option Nat)} {e:Nat→V} {S:St} {tm:Array Value} {w:World} (hpin:∀k b,pin=some (k,b)→Wv.contains k=false) (h:FR cx B X pin G ds e S tm w):FR cx B X pin G [] (fun _=>.undef) (S.head W L Wv Wa) tm w:=by
 obtain⟨hG,β,α,M,hW,hg,hl,hp⟩:=h;obtain⟨α',hN⟩:=JhA (cx:=cx) (B:=B) (X:=X) (w:=w) (β:=β) (M:=M) L.length L S α (Gn _);refine⟨fun t ht=>?_,β,α',M,JiR (hN.hw hW),fun t=>?_,fun i d hd=>by simp at hd,fun k b hk=>⟨?_,(hp k b hk).2⟩⟩
 ·simp only[St.head,St.scrub,hN.hu t (hG t ht),Jo];split<;>rfl
 ·simp only[St.head,St.scrub];split
  ·exact RelD.undef _
  ·exact JiQ (hN.ht t _ (hg t))
 ·have h1:=hN.hm k (hp k b hk).1;simp only[St.head,St.scrub,hpin k b hk,Gr,GG,Option.isSome_map];exact h1
def CPost (cx:Cx) (B:Nat→Prop) (X:Nat→Prop) (pin:Option (Nat×Nat)) (G:List Nat) (N:Nat) (w:World) (S':St) (ex:Ex):Exit→Act→World→Prop:=fun e a' w'=>
 (match ex with|.norm=>e=.normal|.ret=>e=.ret|.exit id=>e=.exit id)∧FR cx B X pin G [] (fun _=>.undef) S' a'.tmps w'∧a'.defers=[]∧a'.tmps.size=N∧Kept B w w'
def Head (P:Program) (c:Code) (Q:Exit→Act→World→Prop) (a:Act) (w:World):Prop:=
 ∀(b:Frame) (k:List Item) (cs:List Frame),∃e a' w',Q e a' w'∧Arrives P (lone (b.at a (.code c::.inLoop c::k)) cs w) b k cs e a' w'
theorem Head.loop {c:Code} {Q:Exit→Act→World→Prop} {a:Act} {w:World} (h:Head P c Q a w):(Code.loop c).wp P Q a w:=fun b k cs=>by
 obtain⟨e,a',w',hq,harr⟩:=h b k cs;exact⟨e,a',w',hq,.of_steps (.one step_loop) harr⟩
theorem Head.round {c:Code} {Q:Exit→Act→World→Prop} {a:Act} {w:World} (h:c.wp P (Exit.then (Head P c Q) Q) a w):Head P c Q a w:=fun b k cs=>by
 obtain⟨e,a₁,w₁,hq,harr⟩:=h b (.inLoop c::k) cs;cases e with
 |normal=>
  obtain⟨e₂,a₂,w₂,hq₂,harr₂⟩:=hq b k cs;exact⟨e₂,a₂,w₂,hq₂,.of_steps (Steps.trans harr (.one step_inLoop)) harr₂⟩
 |exit id=>exact⟨_,a₁,w₁,hq,.pass (x:=.inLoop c) rfl (fun _ _=>.inl (by simp)) harr⟩
 |goto l=>exact⟨_,a₁,w₁,hq,.pass (x:=.inLoop c) rfl (fun _ _=>.inl (by simp)) harr⟩
 |ret=>exact⟨_,a₁,w₁,hq,.pass (x:=.inLoop c) rfl (fun _ _=>.inl (by simp)) harr⟩
 |panic ch=>exact⟨_,a₁,w₁,hq,.pass (x:=.inLoop c) rfl (fun _ _=>.inl (by simp)) harr⟩
 |outgrown=>exact⟨_,a₁,w₁,hq,.pass (x:=.inLoop c) rfl (fun _ _=>.inl (by simp)) harr⟩
theorem JcI (hm:P.follows .mixedOrders=true) (hκ:KOK P cx ownOf κ):∀(m:Nat),
  (∀(c:Code) (c':C) (S S':St) (ex:Ex) (a:Act) (w:World),okC P cx ownOf G N c c'=true→JdD pin c'→Je κ m c' S=some (ex,S')→FR cx B X pin G [] (fun _=>.undef) S a.tmps w→a.defers=[]→a.tmps.size=N→
   c.wp P (CPost cx B X pin G N w S' ex) a w)∧
  (∀(c:Code) (W L Wv Wa:List Nat) (c':C) (S S':St) (ex:Ex) (a:Act) (w:World),okC P cx ownOf G N c c'=true→JdD pin (.loop W L Wv Wa c')→Je κ m (.loop W L Wv Wa c') S=some (ex,S')→FR cx B X pin G [] (fun _=>.undef) S a.tmps w→a.defers=[]→a.tmps.size=N→
   Head P c (CPost cx B X pin G N w S' ex) a w):=by
 intro m
 induction m with
 |zero=>exact⟨fun c c' S S' ex a w _ _ h=>by simp[Je] at h,fun c W L Wv Wa c' S S' ex a w _ _ h=>by simp[Je] at h⟩
 |succ m ih=>
  obtain⟨ih1,ih2⟩:=ih
  have loop:∀(c:Code) (W L Wv Wa:List Nat) (c':C) (S S':St) (ex:Ex) (a:Act) (w:World),okC P cx ownOf G N c c'=true→JdD pin (.loop W L Wv Wa c')→Je κ (m+1) (.loop W L Wv Wa c') S=some (ex,S')→FR cx B X pin G [] (fun _=>.undef) S a.tmps w→a.defers=[]→a.tmps.size=N→
    Head P c (CPost cx B X pin G N w S' ex) a w:=by
   intro c W L Wv Wa c' S S' ex a w hok hpn hex hF hd hs
   have hp1:JdD pin c':=fun k b hk=>by have:=hpn k b hk;simp only[nsC,Gi] at this;exact this.2
   have hp2:∀k b,pin=some (k,b)→Wv.contains k=false:=fun k b hk=>by have:=hpn k b hk;simp only[nsC,Gi,GJ] at this;exact this.1
   simp only[Je,Gb] at hex
   obtain⟨⟨x,S2⟩,h1,h2⟩:=hex
   refine Head.round (wp_mono (ih1 c c' _ S2 x a w hok hp1 h1 (hF.head hp2) hd hs) fun e a' w' hp=>?_)
   obtain⟨p1,p2,p3,p4,p5⟩:=hp
   cases x with
   |norm=>
    simp only at p1 h2
    subst p1
    intro b k cs
    obtain⟨e2,a2,w2,q,r⟩:=ih2 c W L Wv Wa c' S2 S' ex a' w' hok hpn h2 p2 p3 p4 b k cs
    obtain⟨q1,q2,q3,q4,q5⟩:=q
    exact⟨e2,a2,w2,⟨q1,q2,q3,q4,p5.trans q5⟩,r⟩
   |ret=>
    simp only[Ga,Gf] at p1 h2
    obtain⟨rfl,rfl⟩:=h2
    subst p1
    exact⟨rfl,p2,p3,p4,p5⟩
   |exit id=>
    simp only[Ga,Gf] at p1 h2
    obtain⟨rfl,rfl⟩:=h2
    subst p1
    exact⟨rfl,p2,p3,p4,p5⟩
  refine⟨fun c c' S S' ex a w hok hpn hex hF hd hs=>?_,loop⟩
  cases c' with
  |skip=>
   cases c<;>try (simp[okC] at hok;done)
   simp only[Je,Ga,Gf] at hex
   obtain⟨rfl,rfl⟩:=hex
   exact wp_skip ⟨rfl,hF,hd,hs,Kept.refl _ _⟩
  |ret=>
   cases c<;>try (simp[okC] at hok;done)
   simp only[Je,Ga,Gf] at hex
   obtain⟨rfl,rfl⟩:=hex
   exact wp_ret ⟨rfl,hF,hd,hs,Kept.refl _ _⟩
  |exit id=>
   cases c<;>try (simp[okC] at hok;done)
   simp only[okC,GL] at hok
   subst hok
   simp only[Je,Ga,Gf] at hex
   obtain⟨rfl,rfl⟩:=hex
   exact wp_exit ⟨rfl,hF,hd,hs,Kept.refl _ _⟩
  |region dr ps=>
   cases c<;>try (simp[okC] at hok;done)
   simp only[okC] at hok
   simp only[Je,Gb,Ga,Gf] at hex
   obtain⟨S2,hr,rfl,rfl⟩:=hex
   exact Jdr hm hκ hok hF hd hs hr fun a' w' q1 q2 q3 q4=>⟨rfl,q1,q2,q3,q4⟩
  |seq x y=>
   cases c<;>try (simp[okC] at hok;done)
   rename_i cx' cy'
   simp only[okC,Gi] at hok
   simp only[Je,Gb] at hex
   obtain⟨⟨e1,S2⟩,h1,h2⟩:=hex
   refine wp_seq (wp_mono (ih1 _ x S S2 e1 a w hok.1 (fun k b hk=>by have:=hpn k b hk;simp only[nsC,Gi] at this;exact this.1) h1 hF hd hs) fun e a' w' hp=>?_)
   obtain⟨p1,p2,p3,p4,p5⟩:=hp
   cases e1 with
   |norm=>
    simp only at p1 h2
    subst p1
    exact wp_mono (ih1 _ y S2 S' ex a' w' hok.2 (fun k b hk=>by have:=hpn k b hk;simp only[nsC,Gi] at this;exact this.2) h2 p2 p3 p4) fun e a'' w'' ⟨q1,q2,q3,q4,q5⟩=>⟨q1,q2,q3,q4,p5.trans q5⟩
   |ret=>
    simp only[Ga,Gf] at p1 h2
    obtain⟨rfl,rfl⟩:=h2
    subst p1
    exact⟨rfl,p2,p3,p4,p5⟩
   |exit id=>
    simp only[Ga,Gf] at p1 h2
    obtain⟨rfl,rfl⟩:=h2
    subst p1
    exact⟨rfl,p2,p3,p4,p5⟩
  |cond x y z=>
   cases c<;>try (simp[okC] at hok;done)
   simp only[okC,Gi] at hok
   simp only[Je] at hex
   split at hex<;>try (simp at hex;done)
   rename_i t ht
   have hF0:=hF
   obtain⟨hG,β,α,M,hW,hg,hl,hpp⟩:=hF
   have hr:=Jam (a:=a) (ds:=[]) (e:=fun _=>.undef) hg (fun i d hd=>by simp at hd) hok.1.1
   rw[ht] at hr
   refine wp_cond (Jal hr) ?_
   cases t
   ·exact ih1 _ z S S' ex a w hok.2 (fun k b hk=>by have:=hpn k b hk;simp only[nsC,Gi] at this;exact this.2) (by simpa using hex) hF0 hd hs
   ·exact ih1 _ y S S' ex a w hok.1.2 (fun k b hk=>by have:=hpn k b hk;simp only[nsC,Gi] at this;exact this.1) (by simpa using hex) hF0 hd hs
  |block id x=>
   cases c<;>try (simp[okC] at hok;done)
   simp only[okC,Gi,GL] at hok
   obtain⟨rfl,hok⟩:=hok
   simp only[Je,Gb] at hex
   obtain⟨⟨e1,S2⟩,h1,h2⟩:=hex
   refine wp_block (wp_mono (ih1 _ x S S2 e1 a w hok (fun k b hk=>by have:=hpn k b hk;simpa only [nsC] using this) h1 hF hd hs) fun e a' w' hp=>?_)
   obtain⟨p1,p2,p3,p4,p5⟩:=hp
   cases e1 with
   |norm=>
    simp only[Ga,Gf] at p1 h2
    obtain⟨rfl,rfl⟩:=h2
    subst p1
    exact⟨rfl,p2,p3,p4,p5⟩
   |ret=>
    simp only[Ga,Gf] at p1 h2
    obtain⟨rfl,rfl⟩:=h2
    subst p1
    exact⟨rfl,p2,p3,p4,p5⟩
   |exit id'=>
    simp only at p1 h2
    subst p1
    simp only[Exit.inBlock]
    split at h2
    ·rename_i he
     simp only[Ga,Gf] at h2
     obtain⟨rfl,rfl⟩:=h2
     rw[GC he]
     exact⟨rfl,p2,p3,p4,p5⟩
    ·rename_i he
     simp only[Ga,Gf] at h2
     obtain⟨rfl,rfl⟩:=h2
     rw[GA he]
     exact⟨rfl,p2,p3,p4,p5⟩
  |loop W L Wv Wa x=>
   cases c<;>try (simp[okC] at hok;done)
   simp only[okC] at hok
   exact (loop _ W L Wv Wa x S S' ex a w hok hpn hex hF hd hs).loop
end
def ownOf (Pg:Nat→Option Fn) (f:Nat):Option Nat:=
 match Pg f with
 |some (.code F)=>F.own
 |some (.prim own _)=>own
 |some (.codeR _ k)=>some (3000+k)
 |none=>none
section
variable (P:Program) (cx:Cx) (Pg:Nat→Option Fn)
def Jav (rs:List ResultVar) (qs:List Res):Bool:=
 match rs,qs with
 |[],[]=>true
 |.tmp t::rs,.t t'::qs=>t == t'&&Jav rs qs
 |.cell a t::rs,.cell a' n::qs=>a == a'&&(P.underlying t).isSome&&(if JI P t then szT P t == n&&n.isSome else n.isNone)&&Jav rs qs
 |_,_=>false
def okF (f:FuncId) (F:F):Bool:=
 match P.funcs[f]? with
 |some fn=>(fn.name == "runtime.NumGoroutine") == false&&(match fn.body with|some c=>okC P cx (ownOf Pg) F.gl fn.ntmps c F.body|none=>false) &&
   decide (F.np≤fn.ntmps)&&(List.range F.np).all (F.gl.contains ·)&&Jav P fn.results.toList F.res&&(match F.own with|some j=>decide (j<F.res.length)&&decide (j<1000)|none=>true)
 |none=>false
end
section
variable {P:Program} {cx:Cx} {Pg:Nat→Option Fn} {X:Nat→Prop}
theorem Jba {α β:Type} {f:Nat→α→Option β}:∀{l:List α} {r:List β} {k:Nat},Jap f k l=some r→r.length=l.length∧∀(i:Nat) (x:α),l[i]?=some x→∃y,r[i]?=some y∧f (k+i) x=some y
 |[],r,k,h=>by simp only[Jap,Ga] at h;subst h;exact⟨rfl,fun i x hx=>by simp at hx⟩
 |a::l,r,k,h=>by
  simp only[Jap,Gb,Ga] at h;obtain⟨y,hy,ys,hys,rfl⟩:=h;obtain⟨h1,h2⟩:=Jba hys;refine⟨by simp[h1],fun i x hx=>?_⟩;cases i with
  |zero=>simp at hx;subst hx;exact⟨y,rfl,hy⟩
  |succ i=>have:=h2 i x (by simpa using hx);simpa [G0,Nat.add_comm 1 i] using this
theorem results_ok {B:Nat→Prop} {S:St} {w:World} {β:Nat→Nat} {α:Nat→Value} {M:Nat→Prop} {tm:Array Value} (hW:RelW cx B X S w β α M) (hg:∀t,RelT cx w (orP X M) S β α (tm.getD t undef) (S.ρ t)) :
  ∀(rs:List ResultVar) (qs:List Res) (vs:List V),Jav P rs qs=true→Js (resV S) qs=some vs→
   ∃us:List Value,(rs.mapM fun|.tmp t=>pure (tm.getD t undef)|.cell a t=>do loadVar t (←asAddr (tm.getD a undef)):Sem (List Value)).run P w=.ok us w∧
    us.length=vs.length∧∀i,i<vs.length→∃u,us[i]?=some u∧RelT cx w (orP X M) S β α u (gv vs i)
 |[],[],vs,_,h=>by
  simp only[Js,Ga] at h;subst h;exact⟨[],by simp,rfl,fun i hi=>by simp at hi⟩
 |r::rs,q::qs,vs,hok,h=>by
  simp only[Js,Gb,Ga] at h;obtain⟨v,hv,ws,hws,rfl⟩:=h;have hok':Jav P rs qs=true:=by
   unfold Jav at hok;split at hok<;>simp_all
  obtain⟨us,h1,h2,h3⟩:=results_ok hW hg rs qs ws hok' hws;have key:∃u,((match r with|.tmp t=>pure (tm.getD t undef)|.cell a t=>do loadVar t (←asAddr (tm.getD a undef))):Sem Value).run P w=.ok u w∧RelT cx w (orP X M) S β α u v:=by
   cases r with
   |tmp t=>
    cases q with
    |cell a n=>simp[Jav] at hok
    |t t'=>
     simp only[Jav,Gi,GL] at hok;obtain⟨rfl,-⟩:=hok;simp only[resV,Ga] at hv;subst hv;exact⟨tm.getD t undef,by simp,hg t⟩
   |cell a t=>
    cases q with
    |t t'=>simp[Jav] at hok
    |cell a' n=>
     simp only[Jav,Gi,GL] at hok;obtain⟨⟨⟨rfl,hu⟩,hn⟩,-⟩:=hok;have ha:=hg a;simp only[resV] at hv;split at hv<;>try (simp at hv;done)
     rename_i s hs;split at hv<;>try (simp at hv;done)
     rename_i cs f hm;rw[hs] at ha;have hld:=Jcw (P:=P) (t:=t) (n:=n) (l:=.v s) (p:=.lref s 0) (r:=v) hW ha hu hn (by simp[Jy,hm,hv]);obtain⟨u,hrun,hr⟩:=hld;refine⟨u,?_,hr⟩
     show (do let x ←asAddr (tm.getD a undef);loadVar t x:Sem Value).run P w=_
     rw[JcX ha] at hrun ⊢;simpa [Instr.loadAt,Instr.sureAddr,asAddr] using hrun
  obtain⟨u,hrun,hr⟩:=key;refine⟨u::us,?_,by simp[h2],fun i hi=>?_⟩
  ·rw[List.mapM_cons,Sem.run_bind,hrun];simp only[Result.andThen,Sem.run_bind,h1,Sem.run_pure]
  ·cases i with
   |zero=>exact⟨u,rfl,by simpa [gv] using hr⟩
   |succ i=>obtain⟨x,p,q⟩:=h3 i (by simpa using hi);exact⟨x,by simpa using p,by simpa [gv] using q⟩
 |[],_::_,vs,hok,h=>by simp[Jav] at hok
 |_::_,[],vs,hok,h=>by
  unfold Jav at hok;split at hok<;>simp_all
theorem JgB (l:List V) (j:Nat) (h:j<l.length):l[j]?=some (gv l j):=by simp[gv,h]
theorem out_ok {S:St} {w w':World} {β:Nat→Nat} {α:Nat→Value} {M:Nat→Prop} {own:Option Nat} {vs rs:List V} {us:List Value} (hW:RelW cx (·<w.heap.size) X S w' β α M)
  (hlen:us.length=vs.length) (hr:∀i,i<vs.length→∃u,us[i]?=some u∧RelT cx w' (orP X M) S β α u (gv vs i)) (ho:Jap (Jcy S.A own) 0 vs=some rs) (hown:∀j,own=some j→j<vs.length) :
  ROut cx w w' X own (if us.length=1 then us.getD 0 undef else .tuple us.toArray) (Jb6 rs):=by
 obtain⟨h1,h2⟩:=Jba ho
 have at_:∀i,i<rs.length→∃u,us[i]?=some u∧RelT cx w' (orP X M) S β α u (gv vs i)∧Jcy S.A own i (gv vs i)=some (gv rs i):=fun i hi=>by
  have hi':i<vs.length:=by omega
  obtain⟨u,p,q⟩:=hr i hi';obtain⟨y,y1,y2⟩:=h2 i vs[i] (by simp[hi']);refine⟨u,p,q,?_⟩;have e1:gv vs i=vs[i]:=by simp[gv,hi']
  have e2:gv rs i=y:=by simp[gv,y1]
  rw[e1,e2];simpa using y2
 have hxb:∀s b,hdr (α s)=some b→(∃z rows f,S.A s=some (z,rows,f)∧f≠.dead)→¬X b:=fun s b hb hex hx=>by
  obtain⟨z,rows,f,e1,e2⟩:=hex;exact ((hW.arr s z rows f e1 e2).2 b hb).1 (hW.xb b hx)
 cases own with
 |none=>
  have hd:∀i,i<rs.length→∃u,us[i]?=some u∧RelD cx w' X u (gv rs i):=fun i hi=>by
   obtain⟨u,p,q,r⟩:=at_ i hi;simp only[Jcy,reduceCtorEq,GG,GF] at r;exact⟨u,p,Jbo hW q r (fun b hb=>.inl hb) (fun s _ b hb hex=>hxb s b hb hex)⟩
  match rs,hd,h1 with
  |[r],hd,h1=>
   obtain⟨u,p,q⟩:=hd 0 (by simp)
   have:us.length=1:=by simp at h1;omega
   rw[GC this]
   simp only[Jb6]
   have:us.getD 0 undef=u:=by simp[List.getD_eq_getElem?_getD,p]
   rw[this];exact q
  |[],hd,h1=>
   have:us=[]:=GD (by simp at h1;omega)
   subst this
   exact RelD.tuple #[] [] (fun _=>undef) rfl (fun i hi=>by simp at hi) (fun i hi=>by simp at hi)
  |r::r'::rs,hd,h1=>
   rw[GA (by simp at h1;omega)]
   obtain⟨u,hu⟩:=JaC hd
   exact RelD.tuple us.toArray _ u (by simp at h1 ⊢;omega) (fun i hi=>by simpa using (hu i hi).1) (fun i hi=>(hu i hi).2)
 |some j=>
  have hj:j<rs.length:=by have:=hown j rfl;omega
  ·obtain⟨u,p,q,r⟩:=at_ j hj
   simp only[Jcy,GF] at r
   split at r<;>try (simp at r;done)
   rename_i s z n hs
   split at r<;>try (simp at r;done)
   rename_i z' rows hA
   split at r<;>simp only[Ga,reduceCtorEq] at r
   rename_i hc
   obtain⟨rfl,hn⟩:=hc
   rw[hs] at q
   obtain⟨rows',f,a,cap,hA',rfl,ha,hoo⟩:=q
   rw[hA] at hA'
   simp only[Ga,Gf] at hA'
   obtain⟨-,rfl,rfl⟩:=hA'
   have hα:=(hoo (by simp)).2 hn
   obtain⟨a1,a2⟩:=hW.arr s z' rows .live hA (by simp)
   have hsub:∀b,hdr (α s)=some b→M b:=fun b hb=>(a2 b hb).2.1 rfl
   have hE:∀u x,RelD cx w' (orP X M) u x→RelD cx w' (orP X (fun b=>hdr (α s)=some b)) u x:=fun _ _ hr=>Jaw hsub hr
   refine⟨α s,z',rows,fun b=>hdr (α s)=some b,fun b hb=>⟨Nat.le_of_not_lt (a2 b hb).1,a1.lt hb⟩,fun b hb=>hb,a1.tr hE (fun _ _=>rfl),?_⟩
   have oth:∀i,i<rs.length→i≠j→∃u,us[i]?=some u∧RelD cx w' (orP X (fun b=>hdr (α s)=some b)) u (gv rs i):=fun i hi hne=>by
    obtain⟨u,p,q,r⟩:=at_ i hi;simp only[Jcy,Ga,Ne.symm hne,GG,reduceCtorEq] at r;split at r<;>try (simp at r;done)
    rename_i hd;refine⟨u,p,Jbo hW q r (fun b hb=>hb.imp id (hsub b)) (fun t ht b hb hex hn=>?_)⟩;rcases hn with hx|hx
    ·exact hxb t b hb hex hx
    ·have h1:=Gv.1 hd t ht;obtain⟨z1,rows1,f1,e1,e2⟩:=hex;rw[e1] at h1;have hf:f1=.frz:=by cases f1<;>simp[Jle] at h1<;>rfl
     subst hf;exact ((hW.arr t z1 rows1 .frz e1 e2).2 b hb).2.2 rfl (hsub b hx)
   match rs,at_,h1,hj,r,oth with
   |[r0],at_,h1,hj,r,oth=>
    have:us.length=1:=by simp at h1;omega
    rw[GC this]
    have hj0:j=0:=by simp at hj;exact hj
    subst hj0
    refine .inl ⟨by simpa [Jb6,gv] using r.symm,?_⟩
    rw[←hα];simp[List.getD_eq_getElem?_getD,p]
   |r0::r1::rs,at_,h1,hj,r,oth=>
    rw[GA (by simp at h1;omega)]
    refine .inr ⟨r0::r1::rs,us.toArray,rfl,rfl,by simp at h1 ⊢;omega,hj,?_,by rw[←hα];simpa using p,fun i hi hne=>?_⟩
    ·exact (JgB _ j hj).trans (by rw[←r])
    ·obtain⟨u',p',q'⟩:=oth i hi hne
     exact⟨u',by simpa using p',q'⟩
   |[],at_,h1,hj,r,oth=>simp at hj
theorem Jbt {fn:Func} {tm:Array Value} {w:World} {us:List Value}
  (hrun:(fn.results.toList.mapM fun|.tmp t=>pure (tm.getD t undef)|.cell a t=>do loadVar t (←asAddr (tm.getD a undef)):Sem (List Value)).run P w=.ok us w) :
  (results fn tm).run P w=.ok (if us.length=1 then us.getD 0 undef else .tuple us.toArray) w:=by
 unfold results
 rw[Array.mapM_eq_mapM_toList]
 simp only[map_eq_pure_bind,bind_assoc,pure_bind,Sem.run_bind]
 erw [hrun]
 simp only[Result.andThen,Sem.run_pure,G4]
 congr 1
 split
 ·rename_i h1
  rw[List.getD_eq_getElem?_getD]
  simp[h1]
 ·rfl
theorem JeX {f : Nat} {F : F} {κ : Nat → List V → Option V} {n : Nat} {args : List V} {r : V} (hm : P.follows .mixedOrders = true) (hκ : KOK P cx (ownOf Pg) κ)
    (hok : okF P cx Pg (cx.fm f) F = true) (hF : Pg f = some (.code F)) (hlen : args.length = F.np)
    (hr : ((Je κ n F.body (JE args)).bind fun r => match r.1 with
          | .norm | .ret => Jac F r.2
          | .exit _ => none) = some r) : Ctr P cx (ownOf Pg f) f args r := by
  unfold okF at hok
  split at hok <;> try (simp at hok; done)
  rename_i fn hfn
  simp only [Gi, GL, Gx] at hok
  obtain ⟨⟨⟨⟨⟨k1, k2⟩, k3⟩, k4⟩, k5⟩, k6⟩ := hok
  split at k2 <;> try (simp at k2; done)
  rename_i c hc
  have hown : ownOf Pg f = F.own := by simp [ownOf, hF]
  refine ⟨⟨fn, hfn, k1, by simp [hc]⟩, fun w X vs hX hgn hG hsz hrel => ?_⟩
  simp only [Gb] at hr
  obtain ⟨⟨ex, S'⟩, hex, hfin⟩ := hr
  have hRW : RelW cx (· < w.heap.size) X (JE args) w (fun _ => 0) (fun _ => undef) (fun _ => False) :=
    ⟨hX, ⟨fun b hb => GO hb hgn, hG⟩, fun _ h => h, fun b hb => hb.elim, fun s cs f hs => by simp [JE] at hs, fun s s' hs => by simp [JE] at hs, fun s z rows f hs => by simp [JE] at hs, fun s s' z rows f z' rows' f' hs => by simp [JE] at hs, fun s z rows f s' hs => by simp [JE] at hs⟩
  have hFR : FR cx (· < w.heap.size) X none F.gl [] (fun _ => .undef) (JE args) (vs ++ Array.replicate (fn.ntmps - vs.size) undef) w := by
    refine ⟨fun t ht => ?_, _, _, _, hRW, fun t => ?_, fun i d hd => by simp at hd, fun k b hk => by simp at hk⟩
    · have : ¬ t < F.np := fun hlt => ht (by
        have := Gv.1 k4 t (GR.2 hlt);simpa using this)
      simp only [JE]
      rw [List.getElem?_eq_none (by omega)]; rfl
    · by_cases ht : t < args.length
      · obtain ⟨u, p, q⟩ := hrel t ht
        have : (vs ++ Array.replicate (fn.ntmps - vs.size) undef).getD t undef = u := by
          rw [Array.getD_eq_getD_getElem?, Array.getElem?_append_left (by omega), p]; rfl
        rw [this]
        have : (JE args).ρ t = gv args t := by simp [JE, gv, List.getD_eq_getElem?_getD]
        rw [this]
        exact .of_data (q.mono (Gn _) (fun _ _ _ => rfl) (fun b _ hn hx => hn (hx.resolve_right id)))
      · have : (JE args).ρ t = .undef := by simp only [JE]; rw [List.getElem?_eq_none (by omega)]; rfl
        rw [this]; exact RelD.undef _
  refine calls_of_wp hfn hc (wp_mono ((JcI (N := fn.ntmps) hm hκ n).1 c F.body (JE args) S' ex _ w k2 (fun k b hk => by simp at hk) hex hFR rfl (by simp; omega)) fun e a' w' hp => ?_)
  obtain ⟨p1, p2, p3, p4, p5⟩ := hp
  have hfin' : Jac F S' = some r ∧ (e = .normal ∨ e = .ret) := by
    cases ex with
    | norm => exact ⟨hfin, .inl p1⟩
    | ret => exact ⟨hfin, .inr p1⟩
    | exit id => simp at hfin
  obtain ⟨hfin, he⟩ := hfin'
  obtain ⟨hG, β, α, M, hW, hg, hl, -⟩ := p2
  rw [hown]
  have main : ∃ v, (results fn a'.tmps).run P w' = .ok v w' ∧ ROut cx w w' X F.own v r := by
    unfold Jac at hfin;split at hfin
    · rename_i r' hfin'
      simp only [Ga] at hfin
      subst hfin
      unfold JbN at hfin'
      simp only [Gb, Ga] at hfin'
      obtain ⟨vs1, hv1, rs, hrs, rfl⟩ := hfin'
      obtain ⟨us, hrun, hlu, hru⟩ := results_ok (P := P) hW hg fn.results.toList F.res vs1 k5 hv1
      refine ⟨_, Jbt hrun, ?_⟩
      have hvl := (JG hv1).1
      exact out_ok hW hlu hru hrs (fun j hj => by rw [hj] at k6; simp only [Gi, Gx] at k6; omega)
    · unfold finishP at hfin
      split at hfin <;> try (simp at hfin; done)
      rename_i t hres howno
      split at hfin <;> try (simp at hfin; done)
      rename_i s hs
      split at hfin <;> try (simp at hfin; done)
      rename_i cs fz hm
      simp only [GX] at hfin
      obtain ⟨cs', hcs', rfl⟩ := hfin
      have hv1 : Js (resV S') F.res = some [.lref s 0] := by rw [hres]; simp only [Js, resV, hs, Option.bind_some]
      obtain ⟨us, hrun, hlu, hru⟩ := results_ok (P := P) hW hg fn.results.toList F.res _ k5 hv1
      refine ⟨_, Jbt hrun, ?_⟩
      have hl1 : us.length = 1 := by simpa using hlu
      rw [GC hl1, howno]
      obtain ⟨u, hu1, hu2⟩ := hru 0 (by simp)
      have hu : us.getD 0 undef = u := by simp [List.getD_eq_getElem?_getD, hu1]
      rw [hu]
      obtain ⟨_, rfl⟩ := hu2
      obtain ⟨a1, -, -, c, e', a4, a5, a6⟩ := hW.var s cs fz hm
      obtain ⟨h1, h2⟩ := JG hcs'
      show RelD cx w' X _ _
      refine Ja4 (JO a4) (fun hx => a1 (hW.xb _ hx)) a4 (Gn _) (fun j hj => ?_)
      have hj' : j < cs.length := by omega
      obtain ⟨u, b1, b2, b3⟩ := a6 j hj'
      obtain ⟨y, hy1, hy2⟩ := h2 j cs[j] (by simp [hj'])
      have hgc : gv cs j = cs[j] := by simp [gv, hj']
      rw [hgc] at b3
      have hgy : gv cs' j = y := by simp [gv, hy1]
      rw [hgy]
      refine ⟨u, by simpa using b1, b2, toDC_ok hW b3 hy2 (fun b hb => .inl hb) (fun s' _ b hb hex hx => ?_)⟩
      obtain ⟨z, rows, f, e1, e2⟩ := hex
      exact ((hW.arr s' z rows f e1 e2).2 b hb).1 (hW.xb b hx)
  obtain ⟨v, hres, hR⟩ := main
  rcases he with rfl | rfl
  · exact ⟨p3, _, hres, _, rfl, p5.below fun _ h => h, hR⟩
  · exact ⟨p3, _, hres, _, rfl, p5.below fun _ h => h, hR⟩
theorem JfL {A A':AA} (hd:Dies A A') {x y:V} (h:toD A' x=some y):toD A x=some y∧∀s∈Jf x,∃z rows f,A' s=some (z,rows,f)∧f≠.dead:=by
 have one:∀{x y:V},toDC A' x=some y→toDC A x=some y∧∀s∈Jd x,∃z rows f,A' s=some (z,rows,f)∧f≠.dead:=by
  intro x y h;cases x with
  |own s z n=>
   simp only[toDC] at h;split at h
   ·rename_i z' rows f hA;split at h<;>simp only[Ga,reduceCtorEq] at h;rename_i hc;have:=hd.keep hA hc.2.2;refine⟨by simp only[toDC,this,GC hc,h],fun t ht=>?_⟩;simp only[Jd,GM,List.not_mem_nil,or_false] at ht;subst ht;exact⟨z',rows,f,hA,hc.2.2⟩
   ·simp at h
  |_=>exact⟨h,fun s hs=>by simp[Jd] at hs⟩
 cases x with
 |agg cs=>
  simp only[toD,GX] at h ⊢;obtain⟨ys,hy,rfl⟩:=h;have:∀(l:List V) (ys:List V),Js (toDC A') l=some ys→Js (toDC A) l=some ys∧∀s∈l.flatMap Jd,∃z rows f,A' s=some (z,rows,f)∧f≠.dead:=by
   intro l
   induction l with
   |nil=>intro ys h;exact⟨h,fun s hs=>by simp at hs⟩
   |cons a l ih=>
    intro ys h;simp only[Js,Gb,Ga] at h;obtain⟨y,h1,ys',h2,rfl⟩:=h;obtain⟨a1,a2⟩:=one h1;obtain⟨b1,b2⟩:=ih ys' h2;refine⟨by simp only[Js,a1,b1,Option.bind_some],fun s hs=>?_⟩;simp only[Gu,GU] at hs;rcases hs with hs|hs
    ·exact a2 s hs
    ·exact b2 s hs
  obtain⟨c1,c2⟩:=this cs ys hy;exact⟨⟨ys,c1,rfl⟩,fun s hs=>c2 s (by simpa [Jf] using hs)⟩
 |own s z n=>exact one (x:=.own s z n) h
 |undef=>exact⟨h,fun s hs=>by simp[Jf,Jd] at hs⟩
 |bool b=>exact⟨h,fun s hs=>by simp[Jf,Jd] at hs⟩
 |int k n=>exact⟨h,fun s hs=>by simp[Jf,Jd] at hs⟩
 |str s=>exact⟨h,fun s hs=>by simp[Jf,Jd] at hs⟩
 |slice z r=>exact⟨h,fun s hs=>by simp[Jf,Jd] at hs⟩
 |tuple c=>simp[toD,toDC,V.datC] at h
 |func f c=>exact⟨h,fun s hs=>by simp[Jf,Jd] at hs⟩
 |cptr c o=>exact⟨h,fun s hs=>by simp[Jf,Jd] at hs⟩
 |lref s o=>simp[toD,toDC,V.datC] at h
 |eref s i o n=>simp[toD,toDC,V.datC] at h
 |iface t v=>exact⟨h,fun s hs=>by simp[Jf,Jd] at hs⟩
 |niface=>exact⟨h,fun s hs=>by simp[Jf,Jd] at hs⟩
 |nslice z=>exact⟨h,fun s hs=>by simp[Jf,Jd] at hs⟩
 |xslice z r=>exact⟨h,fun s hs=>by simp[Jf,Jd] at hs⟩
theorem fnR_sound {f k : Nat} {F : F} {κ : Nat → List V → Option V} {n : Nat} {args cs : List V} {S0 : St} {r : V} (hm : P.follows .mixedOrders = true) (hκ : KOK P cx (ownOf Pg) κ)
    (hok : okF P cx Pg (cx.fm f) F = true) (hown : F.own = none) (hns : nsC k F.body = true) (hlen : args.length = F.np) (hk : args[k]? = some (.tuple (.lref 0 0 :: cs))) (h0 : startR args k cs = some S0)
    (hr : ((Je κ n F.body S0).bind fun r => match r.1 with
          | .norm | .ret => JaK F k r.2
          | .exit _ => none) = some r) : CtrR P cx k f args r := by
  unfold okF at hok
  split at hok <;> try (simp at hok; done)
  rename_i fn hfn
  simp only [Gi, GL, Gx] at hok
  obtain ⟨⟨⟨⟨⟨k1, k2⟩, k3⟩, k4⟩, k5⟩, k6⟩ := hok
  split at k2 <;> try (simp at k2; done)
  rename_i c hc
  refine ⟨⟨fn, hfn, k1, by simp [hc]⟩, fun w X N b vs cs' hX hN hgn hG hsz hk' hvk hRef hrel => ?_⟩
  rw [hk] at hk'
  simp only [Ga, V.tuple.injEq, List.cons.injEq, true_and] at hk'
  subst hk'
  obtain ⟨hNb, l, el, hwb, hTr, hnd⟩ := hRef
  obtain ⟨hnd1, hnd2⟩ := List.nodup_cons.1 hnd
  simp only [Gb] at hr
  obtain ⟨⟨ex, S'⟩, hex, hfin⟩ := hr
  simp only [startR, Gb, Ga] at h0
  obtain ⟨⟨cells, A0⟩, ht0, rfl⟩ := h0
  have hBN : ∀ b, N b → ¬ (b < w.heap.size ∧ ¬ N b) := fun b h1 h2 => h2.2 h1
  have hRE : RelW cx (fun b => b < w.heap.size ∧ ¬ N b) X ⟨fun i => if i = k then .lref k 0 else (args[i]?).getD .undef, fun _ => none, fun _ => none⟩ w (fun _ => 0) (fun _ => undef) N :=
    ⟨fun b hb => ⟨hX b hb, fun hh => (hN b hh).2.1 hb⟩, ⟨fun b hb => ⟨GO hb hgn, fun hh => by have := (hN b hh).2.2; omega⟩, hG⟩, fun b hb => hb.1, fun b hb => ⟨hBN b hb, (hN b hb).1⟩,
      fun s cs f hs => by simp at hs, fun s s' hs => by simp at hs, fun s z rows f hs => by simp at hs, fun s s' z rows f z' rows' f' hs => by simp at hs, fun s z rows f s' hs => by simp at hs⟩
  obtain ⟨α0, t1, t2, t3, t4⟩ := take_ok cs 9000 _ (fun _ => undef) A0 cells l hRE ht0 hTr hnd2 (fun h hh => ⟨fun s hs => by simp at hs, fun s z rows f hs => by simp at hs⟩)
  have hRW := t1.addVar (d := k) (b0 := b) (cs := cells) rfl hNb hwb (by simpa using t2.1) (fun i hi => by obtain ⟨u, p, q, r⟩ := t2.2 i hi; exact ⟨u, by simpa using p, q, r⟩)
    (fun s hs => by simp at hs) (fun s z rows f hs hf hx => by
      rcases t4 s z rows f hs hf _ hx with h' | ⟨z1, r1, f1, b1, b2, b3⟩
      · exact hnd1 h'
      · simp at b1)
  have hkl : k < args.length := by
    rcases Gw k args.length with h' | h'
    · exact h'
    · rw [List.getElem?_eq_none h'] at hk; simp at hk
  have hFR : FR cx (fun b => b < w.heap.size ∧ ¬ N b) X (some (k, b)) F.gl [] (fun _ => .undef) ⟨fun i => if i = k then .lref k 0 else (args[i]?).getD .undef, upd (fun _ => none) k (some (cells, false)), A0⟩ (vs ++ Array.replicate (fn.ntmps - vs.size) undef) w := by
    have hin : ∀ t, t < F.np → t ∈ F.gl := fun t hlt => by
      have := Gv.1 k4 t (GR.2 hlt);simpa using this
    refine ⟨fun t ht => ?_, _, _, _, hRW, fun t => ?_, fun i d hd => by simp at hd, fun k' b' hkb => ?_⟩
    · have : ¬ t < F.np := fun hlt => ht (hin t hlt)
      have hne : t ≠ k := by omega
      simp only [GA hne]
      rw [List.getElem?_eq_none (by omega)]; rfl
    · by_cases hne : t = k
      · subst hne
        simp only [GF]
        refine ⟨by simp [upd], ?_⟩
        have : t < vs.size := by omega
        rw [Array.getD_eq_getD_getElem?, Array.getElem?_append_left this, hvk]
        simp [upd]
      · simp only [GA hne]
        by_cases ht : t < args.length
        · obtain ⟨u, p, q⟩ := hrel t ht hne
          have : (vs ++ Array.replicate (fn.ntmps - vs.size) undef).getD t undef = u := by
            rw [Array.getD_eq_getD_getElem?, Array.getElem?_append_left (by omega), p]; rfl
          rw [this]
          have : (args[t]?).getD .undef = gv args t := by simp [gv, List.getD_eq_getElem?_getD]
          rw [this]
          exact .of_data q
        · rw [List.getElem?_eq_none (by omega)]; exact RelD.undef _
    · simp only [Ga, Gf] at hkb
      obtain ⟨rfl, rfl⟩ := hkb
      exact ⟨by simp [upd], by simp [upd]⟩
  refine calls_of_wp hfn hc (wp_mono ((JcI (N := fn.ntmps) hm hκ n).1 c F.body _ S' ex _ w k2 (fun k' b' hkb => by
    simp only [Ga, Gf] at hkb; obtain ⟨rfl, rfl⟩ := hkb; exact hns) hex hFR rfl (by simp; omega)) fun e a' w' hp => ?_)
  obtain ⟨p1, p2, p3, p4, p5⟩ := hp
  have hfin' : JaK F k S' = some r ∧ (e = .normal ∨ e = .ret) := by
    cases ex with
    | norm => exact ⟨hfin, .inl p1⟩
    | ret => exact ⟨hfin, .inr p1⟩
    | exit id => simp at hfin
  obtain ⟨hfin, he⟩ := hfin'
  unfold JaK at hfin
  simp only [Gb] at hfin
  obtain ⟨vs1, hv1, hfin⟩ := hfin
  split at hfin <;> try (simp at hfin; done)
  rename_i cs1 hmk
  simp only [Gb, Ga] at hfin
  obtain ⟨⟨ts, A1⟩, hh, ws, hws, rfl⟩ := hfin
  obtain ⟨hG, β, α, M, hW, hg, hl, hpin⟩ := p2
  obtain ⟨hk1, hk2⟩ := hpin k b rfl
  obtain ⟨us, hrun, hlu, hru⟩ := results_ok (P := P) hW hg fn.results.toList F.res vs1 k5 hv1
  have hres : (results fn a'.tmps).run P w' = .ok (if us.length = 1 then us.getD 0 undef else .tuple us.toArray) w' := by
    unfold results;rw [Array.mapM_eq_mapM_toList];simp only [map_eq_pure_bind, bind_assoc, pure_bind, Sem.run_bind]
    erw [hrun]
    simp only [Result.andThen, Sem.run_pure, G4]
    congr 1
    split
    · rename_i h1
      rw [List.getD_eq_getElem?_getD]
      simp [h1]
    · rfl
  obtain ⟨a1, a2, a3, cb, el1, a4, a5, a6⟩ := hW.var k cs1 false hmk
  rw [hk2] at a4
  have hcr : CR cx w' (orP X M) S' α cb.toList cs1 := ⟨by simpa using a5, fun i hi => by obtain ⟨u, p, q, r⟩ := a6 i hi; exact ⟨u, by simpa using p, q, r⟩⟩
  obtain ⟨q1, q2, q3, q4⟩ := hand_ok cs1 S' cb.toList ts A1 (fun s z rows f hs hf => ⟨(hW.arr s z rows f hs hf).1, fun b hb hl => ((hW.arr s z rows f hs hf).2 b hb).2.1 hl⟩)
    (fun s s' z rows f z' rows' f' hs hf hs' hf' b hb hb' => hW.arrInj s s' z rows f z' rows' f' hs hf hs' hf' b hb hb') hcr hh
  generalize hH : JB cb.toList ts = H at q3 q4
  have hMb : M b := hk2 ▸ a2 rfl
  have hNM : ∀ x, (x = b ∨ x ∈ H) → M x := fun x hx => by
    rcases hx with rfl | hx
    · exact hMb
    · exact (q1.hdr x (hH ▸ hx)).1
  have hHs : b ∉ H := fun hb => by
    obtain ⟨t, z, rows, e1, e2, e3⟩ := q4 _ hb;exact hW.arrVar t z rows .live k e1 (by simp) hk1 (by rw [hk2]; exact e3)
  have hsub : ∀ u x, RelD cx w' (orP X M) u x → RelD cx w' (orP X fun x => x = b ∨ x ∈ H) u x := fun u x hr => Jaw hNM hr
  have hd : ∀ i, i < ws.length → ∃ u, us[i]? = some u ∧ RelD cx w' (orP X fun x => x = b ∨ x ∈ H) u (gv ws i) := fun i hi => by
    obtain ⟨m1, m2⟩ := JG hws;have hi' : i < vs1.length := by omega
    obtain ⟨u, p, q⟩ := hru i hi';obtain ⟨y, y1, y2⟩ := m2 i vs1[i] (by simp [hi']);have e1 : gv vs1 i = vs1[i] := by simp [gv, hi']
    have e2 : gv ws i = y := by simp [gv, y1]
    rw [e1] at q;rw [e2];obtain ⟨d1, d2⟩ := JfL q2 y2;refine ⟨u, p, Jbo hW q d1 (fun b hb => hb.imp id (hNM b)) (fun s hs b1 hb1 hex hn => ?_)⟩;obtain ⟨z, rows, f, g1, g2⟩ := d2 s hs;have g3 := q2.keep g1 g2;rcases hn with hx | hx | hx
    · exact ((hW.arr s z rows f g3 g2).2 b1 hb1).1 (hW.xb b1 hx)
    · exact hW.arrVar s z rows f k g3 g2 hk1 (by rw [hk2, ← hx]; exact hb1)
    · obtain ⟨t, z', rows', e1, e2, e3⟩ := q4 _ hx
      have := hW.arrInj s t z rows f z' rows' .live g3 g2 e1 (by simp) b1 hb1 e3
      subst this
      rw [g1] at e2
      simp only [Ga, Gf] at e2
      exact g2 e2.2.2
  have hwl : us.length = ws.length := by rw [hlu, (JG hws).1]
  have hR : RelD cx w' (orP X fun x => x = b ∨ x ∈ H) (if us.length = 1 then us.getD 0 undef else .tuple us.toArray) (Jb6 ws) := by
    match ws, hd, hwl with
    | [r], hd, h1 =>
      obtain ⟨u, p, q⟩ := hd 0 (by simp);have : us.length = 1 := by simpa using h1
      rw [GC this];simp only [Jb6];have : us.getD 0 undef = u := by simp [List.getD_eq_getElem?_getD, p]
      rw [this]; exact q
    | [], hd, h1 =>
      have : us = [] := GD (by simpa using h1);subst this;exact RelD.tuple #[] [] (fun _ => undef) rfl (fun i hi => by simp at hi) (fun i hi => by simp at hi)
    | r :: r' :: rs, hd, h1 =>
      rw [GA (by simp at h1; omega)];obtain ⟨u, hu⟩ := JaC hd;exact RelD.tuple us.toArray _ u (by simp at h1 ⊢; omega) (fun i hi => by simpa using (hu i hi).1) (fun i hi => (hu i hi).2)
  have hpost : ∃ v r0 cs' N', Ending.returned (if us.length = 1 then us.getD 0 undef else .tuple us.toArray) = .returned v ∧ V.tuple [Jb6 ws, .tuple ts] = .tuple [r0, .tuple cs'] ∧ Kept (fun b => b < w.heap.size ∧ ¬ N b) w w' ∧
      (∀ b, N' b → N b ∨ (w.heap.size ≤ b ∧ b < w'.heap.size)) ∧ RefOK cx w' (orP X N') N' b cs' ∧ RelD cx w' (orP X N') v r0 := by
    refine ⟨_, _, _, fun x => x = b ∨ x ∈ H, rfl, rfl, p5, fun x hx => ?_, ⟨.inl rfl, cb.toList, el1, by simpa using a4, q1.mono hsub (fun x hx => .inr (hH ▸ hx)), ?_⟩, hR⟩
    · obtain ⟨h1, h2⟩ := hW.m x (hNM x hx)
      by_cases hNx : N x
      · exact .inl hNx
      · refine .inr ⟨?_, h2⟩
        rcases Gw x w.heap.size with h' | h'
        · exact absurd ⟨h', hNx⟩ h1
        · exact h'
    · rw [hH]; exact List.nodup_cons.2 ⟨hHs, q3⟩
  rcases he with rfl | rfl
  · exact ⟨p3, _, hres, hpost⟩
  · exact ⟨p3, _, hres, hpost⟩
theorem Jan (hm:P.follows .mixedOrders=true) (hcode:∀f F,Pg f=some (.code F)→okF P cx Pg (cx.fm f) F=true)
  (hprim:∀f own p,Pg f=some (.prim own p)→∀args r,p args=some r→Ctr P cx own f args r)
  (hins:∀f z p,z<1000→Pg f=some (.prim (some (1000+z)) p)→∃tS el,InsC P (cx.fm f) z tS el) (hdel:∀f z p,Pg f=some (.prim (some (2000+z)) p)→DelC P (cx.fm f) z)
  (hcodeR:∀f F k,Pg f=some (.codeR F k)→okF P cx Pg (cx.fm f) F=true∧F.own=none∧nsC k F.body=true)
  (hpl:∀f own p,Pg f=some (.prim own p)→∀k,k<1000→own≠some (3000+k)) :
  ∀(n f:Nat) (args:List V) (r:V),Jw Pg n f args=some r→Ctr P cx (ownOf Pg f) f args r∧∀k,k<1000→ownOf Pg f=some (3000+k)→CtrR P cx k f args r
 |0,f,args,r,h=>by simp[Jw] at h
 |n+1,f,args,r,h=>by
  have own_lt:∀g G j,Pg g=some (.code G)→G.own=some j→j<1000:=fun g G j hg hj=>by
   have:=hcode g G hg;unfold okF at this;split at this
   ·simp only[Gi,hj,Gx] at this;exact this.2.2
   ·simp at this
  have hK:KOK P cx (ownOf Pg) (Jw Pg n):=⟨fun f args r h=>(Jan hm hcode hprim hins hdel hcodeR hpl n f args r h).1,fun g z hz ho=>by
    simp only[ownOf] at ho;split at ho
    ·rename_i G hG;have:=own_lt g G _ hG ho;omega
    ·rename_i own p hG;subst ho;exact hins g z p hz hG
    ·simp only[Ga] at ho;omega
    ·simp at ho,fun g z hz ho=>by
    simp only[ownOf] at ho;split at ho
    ·rename_i G hG;have:=own_lt g G _ hG ho;omega
    ·rename_i own p hG;subst ho;exact hdel g z p hG
    ·simp only[Ga] at ho;omega
    ·simp at ho,fun f k hk ho args r h=>(Jan hm hcode hprim hins hdel hcodeR hpl n f args r h).2 k hk ho⟩
  simp only[Jw] at h;split at h
  ·simp at h
  ·rename_i own p hf;have:ownOf Pg f=own:=by simp[ownOf,hf]
   rw[this];exact⟨hprim f own p hf args r h,fun k hk ho=>absurd ho (hpl f own p hf k hk)⟩
  ·rename_i F k hf;have how:ownOf Pg f=some (3000+k):=by simp[ownOf,hf]
   split at h<;>try (simp at h;done)
   rename_i hlen;split at h<;>try (simp at h;done)
   rename_i cs hk;simp only[Gb] at h;obtain⟨S0,h0,r1,h1,h2⟩:=h;obtain⟨c1,c2,c3⟩:=hcodeR f F k hf;have hR:CtrR P cx k f args r:=fnR_sound hm hK c1 c2 c3 hlen hk h0 (by simp only[Gb];exact⟨r1,h1,h2⟩);refine⟨⟨hR.1,fun w X vs hX hgn hG hsz hrel=>?_⟩,fun k' hk' ho=>?_⟩
   ·exfalso
    have hkl:k<args.length:=by
     rcases Gw k args.length with h'|h'
     ·exact h'
     ·rw[List.getElem?_eq_none h'] at hk;simp at hk
    obtain⟨u,p,q⟩:=hrel k hkl;have hg:gv args k=.tuple (.lref 0 0::cs):=by simp[gv,hk]
    rw[hg] at q;cases q with
    |tuple cs' vs' u' hl hc hr=>
     have:=hr 0 (by simp);simp only[gv,Gak] at this;generalize u' 0=q at this;cases this
   ·rw[how] at ho;simp only[Ga] at ho;have:k=k':=by omega
    subst this;exact hR
  ·rename_i F hf;split at h<;>try (simp at h;done)
   rename_i hlen;refine⟨JeX hm hK (hcode f F hf) hf hlen h,fun k hk ho=>?_⟩;simp only[ownOf,hf] at ho;have:=own_lt f F _ hf ho;omega
end
end Sg
namespace Sg
def Le (κ κ':Nat→List V→Option V):Prop:=∀f a r,κ f a=some r→κ' f a=some r
theorem Jgt {κ κ':Nat→List V→Option V} (h:Le κ κ') {d:Nat} {e:Nat→V} {S:St} {k:K} {r} (hr:ev κ d e S k=some r):ev κ' d e S k=some r:=by
 cases k<;>try exact hr
 rotate_left
 ·simp only[ev,JaW,Gb] at hr ⊢;obtain⟨q,h1,x,h2,h3⟩:=hr;exact⟨q,h1,x,h _ _ _ h2,h3⟩
 ·simp only[ev] at hr ⊢;split at hr<;>try (simp at hr;done)
  split at hr<;>try (simp at hr;done)
  rename_i hc;rw[GC hc];simp only[Gb] at hr ⊢;obtain⟨f,h1,x,h2,h3⟩:=hr;exact⟨f,h1,x,h _ _ _ h2,h3⟩
 rename_i f cv own xs;simp only[ev,Gb] at hr ⊢;obtain⟨fc,h1,h2⟩:=hr;refine⟨fc,h1,?_⟩;unfold callV at h2 ⊢;cases cv<;>simp only at h2 ⊢
 ·split at h2<;>try (simp at h2;done)
  rename_i hc;rw[GC hc];simp only[Gb] at h2 ⊢;obtain⟨x,h2,h3⟩:=h2;exact⟨x,h _ _ _ h2,h3⟩
 ·simp only[Gb] at h2 ⊢;obtain⟨bs,h2,x,h3,h4⟩:=h2;exact⟨bs,h2,x,h _ _ _ h3,h4⟩
 ·simp only[Gb] at h2 ⊢;obtain⟨bs,h2,x,h3,h4⟩:=h2;exact⟨bs,h2,x,h _ _ _ h3,h4⟩
theorem Jcj {κ κ':Nat→List V→Option V} (h:Le κ κ') {o:Op} {e:Nat→V} {S:St} {r} (hr:step κ o e S=some r):step κ' o e S=some r:=by
 unfold step at hr ⊢;split at hr
 ·simp at hr
 ·exact hr
 ·simp only[Gb] at hr ⊢;obtain⟨x,h1,h2⟩:=hr;exact⟨x,Jgt h h1,h2⟩
theorem JaD {κ κ':Nat→List V→Option V} (h:Le κ κ'):∀{ops:List Op} {i:Nat} {e:Nat→V} {S:St} {r},Jz κ ops i e S=some r→Jz κ' ops i e S=some r
 |[],_,_,_,_,hr=>hr
 |o::os,i,e,S,r,hr=>by
  simp only[Jz,Gb] at hr ⊢;obtain⟨x,h1,h2⟩:=hr;exact⟨x,Jcj h h1,JaD h h2⟩
theorem Jn {κ κ':Nat→List V→Option V} (h:Le κ κ'):∀{m m':Nat} {c:C} {S:St} {r},m≤m'→Je κ m c S=some r→Je κ' m' c S=some r
 |0,_,_,_,_,_,hr=>by simp[Je] at hr
 |m+1,0,_,_,_,hm,_=>by omega
 |m+1,m'+1,c,S,r,hm,hr=>by
  have hm':m≤m':=by omega
  have ih:=fun {c S r}=>Jn h (m:=m) (m':=m') (c:=c) (S:=S) (r:=r) hm';cases c with
  |skip=>simpa [Je] using hr
  |region d ops=>
   simp only[Je,Gb] at hr ⊢;obtain⟨x,h1,h2⟩:=hr;exact⟨x,JaD h h1,h2⟩
  |seq a b=>
   simp only[Je,Gb] at hr ⊢;obtain⟨⟨ex,x⟩,h1,h2⟩:=hr;refine⟨_,ih h1,?_⟩;cases ex<;>simp only at h2 ⊢
   ·exact ih h2
   ·exact h2
   ·exact h2
  |cond x a b=>
   simp only[Je] at hr ⊢;split at hr
   ·rename_i t ht;cases t<;>exact ih hr
   ·simp at hr
  |block id c=>
   simp only[Je,Gb] at hr ⊢;obtain⟨x,h1,h2⟩:=hr;exact⟨_,ih h1,h2⟩
  |loop W L Wv Wa c=>
   simp only[Je,Gb] at hr ⊢;obtain⟨⟨ex,x⟩,h1,h2⟩:=hr;refine⟨_,ih h1,?_⟩;cases ex<;>simp only at h2 ⊢
   ·exact ih h2
   ·exact h2
   ·exact h2
  |exit id=>simpa [Je] using hr
  |ret=>simpa [Je] using hr
theorem Le.refl (κ:Nat→List V→Option V):Le κ κ:=fun _ _ _ h=>h
theorem JbI (Pg:Nat→Option Fn):∀n,Le (Jw Pg n) (Jw Pg (n+1))
 |0=>fun f a r h=>by simp[Jw] at h
 |n+1=>fun f a r h=>by
  rw[Jw] at h ⊢;split at h
  ·simp at h
  ·exact h
  ·split at h<;>try (simp at h;done)
   rename_i hl;rw[GC hl];split at h<;>try (simp at h;done)
   simp only[Gb] at h ⊢;obtain⟨x,h0,y,h1,h2⟩:=h;exact⟨x,h0,y,Jn (JbI Pg n) (Nat.le_succ n) h1,h2⟩
  ·split at h<;>try (simp at h;done)
   rename_i hl;rw[GC hl];simp only[Gb] at h ⊢;obtain⟨x,h1,h2⟩:=h;exact⟨x,Jn (JbI Pg n) (Nat.le_succ n) h1,h2⟩
theorem JM (Pg:Nat→Option Fn) {n m:Nat} (h:n≤m):Le (Jw Pg n) (Jw Pg m):=by
 induction h with
 |refl=>exact .refl _
 |step _ ih=>exact fun f a r hr=>JbI Pg _ f a r (ih f a r hr)
open Classical in
noncomputable def K' (Pg:Nat→Option Fn) (f:Nat) (args:List V):Option V:=
 if h:∃n r,Jw Pg n f args=some r then some h.choose_spec.choose else none
theorem JdC {Pg:Nat→Option Fn} {n f:Nat} {args:List V} {r:V} (h:Jw Pg n f args=some r):K' Pg f args=some r:=by
 have hex:∃n r,Jw Pg n f args=some r:=⟨n,r,h⟩;unfold K';rw[dif_pos hex];have h1:=hex.choose_spec.choose_spec;have h2:=JM Pg (G6 hex.choose n) _ _ _ h1;have h3:=JM Pg (G3 hex.choose n) _ _ _ h;rw[h2] at h3;exact h3
theorem K'_iff {Pg:Nat→Option Fn} {f:Nat} {args:List V} {r:V}:K' Pg f args=some r↔∃n,Jw Pg n f args=some r:=by
 constructor
 ·intro h;unfold K' at h;split at h
  ·rename_i hex;simp only[Ga] at h;exact⟨hex.choose,by rw[hex.choose_spec.choose_spec,h]⟩
  ·simp at h
 ·exact fun⟨n,h⟩=>JdC h
theorem ev_cpt {Pg:Nat→Option Fn} {d:Nat} {e:Nat→V} {S:St} {k:K} {r} (hr:ev (K' Pg) d e S k=some r):∃n,ev (Jw Pg n) d e S k=some r:=by
 cases k<;>try exact⟨0,hr⟩
 rotate_left
 ·simp only[ev,JaW,Gb] at hr ⊢;obtain⟨q,h1,x,h2,h3⟩:=hr;obtain⟨n,hn⟩:=K'_iff.1 h2;exact⟨n,q,h1,x,hn,h3⟩
 ·simp only[ev] at hr ⊢;split at hr<;>try (simp at hr;done)
  split at hr<;>try (simp at hr;done)
  rename_i hc;simp only[GC hc,Gb] at hr ⊢;obtain⟨f,h1,x,h2,h3⟩:=hr;obtain⟨n,hn⟩:=K'_iff.1 h2;exact⟨n,f,h1,x,hn,h3⟩
 rename_i f cv own xs;simp only[ev,Gb] at hr;obtain⟨fc,h1,h2⟩:=hr;have key:∃n,callV (Jw Pg n) d S cv own fc (xs.map (argv e S.ρ))=some r:=by
  unfold callV at h2 ⊢;cases cv<;>simp only at h2 ⊢
  ·split at h2<;>try (simp at h2;done)
   rename_i hc;simp only[GC hc,Gb] at h2 ⊢;obtain⟨x,h2,h3⟩:=h2;obtain⟨n,hn⟩:=K'_iff.1 h2;exact⟨n,x,hn,h3⟩
  ·simp only[Gb] at h2 ⊢;obtain⟨bs,h2,x,h3,h4⟩:=h2;obtain⟨n,hn⟩:=K'_iff.1 h3;exact⟨n,bs,h2,x,hn,h4⟩
  ·simp only[Gb] at h2 ⊢;obtain⟨bs,h2,x,h3,h4⟩:=h2;obtain⟨n,hn⟩:=K'_iff.1 h3;exact⟨n,bs,h2,x,hn,h4⟩
 obtain⟨n,hn⟩:=key;exact⟨n,by simp only[ev,Gb];exact⟨fc,h1,hn⟩⟩
theorem JfJ {Pg:Nat→Option Fn} {o:Op} {e:Nat→V} {S:St} {r} (hr:step (K' Pg) o e S=some r):∃n,step (Jw Pg n) o e S=some r:=by
 unfold step at hr ⊢;split at hr
 ·simp at hr
 ·exact⟨0,hr⟩
 ·simp only[Gb] at hr ⊢;obtain⟨x,h1,h2⟩:=hr;obtain⟨n,hn⟩:=ev_cpt h1;exact⟨n,x,hn,h2⟩
theorem JbZ {Pg:Nat→Option Fn}:∀{ops:List Op} {i:Nat} {e:Nat→V} {S:St} {r},Jz (K' Pg) ops i e S=some r→∃n,Jz (Jw Pg n) ops i e S=some r
 |[],_,_,_,_,hr=>⟨0,hr⟩
 |o::os,i,e,S,r,hr=>by
  simp only[Jz,Gb] at hr ⊢;obtain⟨x,h1,h2⟩:=hr;obtain⟨n,hn⟩:=JfJ h1;obtain⟨m,hm⟩:=JbZ h2;exact⟨max n m,x,Jcj (JM Pg (G6 n m)) hn,JaD (JM Pg (G3 n m)) hm⟩
theorem J4 {Pg:Nat→Option Fn}:∀{m:Nat} {c:C} {S:St} {r},Je (K' Pg) m c S=some r→∃n,Je (Jw Pg n) m c S=some r
 |0,_,_,_,hr=>by simp[Je] at hr
 |m+1,c,S,r,hr=>by
  have up:=fun {n n' m c S r} (h:n≤n')=>Jn (JM Pg h) (m:=m) (m':=m) (c:=c) (S:=S) (r:=r) (Gn m);cases c with
  |skip=>exact⟨0,by simpa [Je] using hr⟩
  |region d ops=>
   simp only[Je,Gb] at hr ⊢;obtain⟨x,h1,h2⟩:=hr;obtain⟨n,hn⟩:=JbZ h1;exact⟨n,x,hn,h2⟩
  |seq a b=>
   simp only[Je,Gb] at hr ⊢;obtain⟨⟨ex,x⟩,h1,h2⟩:=hr;obtain⟨n,hn⟩:=J4 h1;cases ex<;>simp only at h2
   ·obtain⟨n',hn'⟩:=J4 h2;exact⟨max n n',_,up (G6 n n') hn,up (G3 n n') hn'⟩
   ·exact⟨n,_,hn,h2⟩
   ·exact⟨n,_,hn,h2⟩
  |cond x a b=>
   simp only[Je] at hr ⊢;split at hr
   ·rename_i t ht;cases t<;>exact J4 hr
   ·simp at hr
  |block id c=>
   simp only[Je,Gb] at hr ⊢;obtain⟨x,h1,h2⟩:=hr;obtain⟨n,hn⟩:=J4 h1;exact⟨n,_,hn,h2⟩
  |loop W L Wv Wa c=>
   simp only[Je,Gb] at hr ⊢;obtain⟨⟨ex,x⟩,h1,h2⟩:=hr;obtain⟨n,hn⟩:=J4 h1;cases ex<;>simp only at h2
   ·obtain⟨n',hn'⟩:=J4 h2;exact⟨max n n',_,up (G6 n n') hn,up (G3 n n') hn'⟩
   ·exact⟨n,_,hn,h2⟩
   ·exact⟨n,_,hn,h2⟩
  |exit id=>exact⟨0,by simpa [Je] using hr⟩
  |ret=>exact⟨0,by simpa [Je] using hr⟩
def Wp (κ:Nat→List V→Option V) (c:C) (S:St) (Q:Ex→St→Prop):Prop:=∃m ex S',Je κ m c S=some (ex,S')∧Q ex S'
def Cont (κ:Nat→List V→Option V) (b:C) (Q:Ex→St→Prop):Ex→St→Prop
 |.norm,S=>Wp κ b S Q
 |x,S=>Q x S
def Blk (id:Nat) (Q:Ex→St→Prop):Ex→St→Prop
 |.exit id',S=>if id'=id then Q .norm S else Q (.exit id') S
 |x,S=>Q x S
section
variable {κ:Nat→List V→Option V} {S:St} {Q:Ex→St→Prop}
theorem Wp.mono {c:C} {Q':Ex→St→Prop} (h:Wp κ c S Q) (hq:∀ex S',Q ex S'→Q' ex S'):Wp κ c S Q':=by
 obtain⟨m,ex,S',h1,h2⟩:=h;exact⟨m,ex,S',h1,hq _ _ h2⟩
theorem wp_skip (h:Q .norm S):Wp κ .skip S Q:=⟨1,.norm,S,rfl,h⟩
theorem wp_exit {id:Nat} (h:Q (.exit id) S):Wp κ (.exit id) S Q:=⟨1,.exit id,S,rfl,h⟩
theorem wp_ret (h:Q .ret S):Wp κ .ret S Q:=⟨1,.ret,S,rfl,h⟩
theorem wp_region {d:Bool} {ops:List Op} (h:∃S',Jz κ ops 0 (fun _=>.undef) S=some S'∧Q .norm S'):Wp κ (.region d ops) S Q:=by
 obtain⟨S',h1,h2⟩:=h;exact⟨1,.norm,S',by simp[Je,h1],h2⟩
theorem wp_seq {a b:C} (h:Wp κ a S (Cont κ b Q)):Wp κ (.seq a b) S Q:=by
 obtain⟨m,ex,S',h1,h2⟩:=h;cases ex with
 |norm=>
  obtain⟨m',ex,S'',h3,h4⟩:=h2;refine⟨max m m'+1,ex,S'',?_,h4⟩;simp only[Je,Jn (.refl κ) (G6 m m') h1,Option.bind_some];exact Jn (.refl κ) (G3 m m') h3
 |ret=>exact⟨m+1,_,_,by simp[Je,h1],h2⟩
 |exit id=>exact⟨m+1,_,_,by simp[Je,h1],h2⟩
theorem wp_cond {x:Arg} {a b:C} (t:Bool) (ht:argv (fun _=>.undef) S.ρ x=.bool t) (h1:t=true→Wp κ a S Q) (h2:t=false→Wp κ b S Q):Wp κ (.cond x a b) S Q:=by
 cases t with
 |true=>
  obtain⟨m,ex,S',h1,h2⟩:=h1 rfl;exact⟨m+1,ex,S',by simp[Je,ht,h1],h2⟩
 |false=>
  obtain⟨m,ex,S',h1,h2⟩:=h2 rfl;exact⟨m+1,ex,S',by simp[Je,ht,h1],h2⟩
theorem wp_block {id:Nat} {c:C} (h:Wp κ c S (Blk id Q)):Wp κ (.block id c) S Q:=by
 obtain⟨m,ex,S',h1,h2⟩:=h;cases ex with
 |norm=>exact⟨m+1,_,_,by simp[Je,h1],h2⟩
 |ret=>exact⟨m+1,_,_,by simp[Je,h1],h2⟩
 |exit id'=>
  simp only[Blk] at h2;split at h2
  ·rename_i e;exact⟨m+1,.norm,S',by simp[Je,h1,e],h2⟩
  ·rename_i e;exact⟨m+1,.exit id',S',by simp[Je,h1,e],h2⟩
theorem JhQ {W L Wv Wa:List Nat} {c:C} (h:Wp κ c (S.head W L Wv Wa) (Cont κ (.loop W L Wv Wa c) Q)):Wp κ (.loop W L Wv Wa c) S Q:=by
 obtain⟨m,ex,S',h1,h2⟩:=h;cases ex with
 |norm=>
  obtain⟨m',ex,S'',h3,h4⟩:=h2;refine⟨max m m'+1,ex,S'',?_,h4⟩;simp only[Je,Jn (.refl κ) (G6 m m') h1,Option.bind_some];exact Jn (.refl κ) (G3 m m') h3
 |ret=>exact⟨m+1,_,_,by simp[Je,h1],h2⟩
 |exit id=>exact⟨m+1,_,_,by simp[Je,h1],h2⟩
theorem wp_inv {W L Wv Wa:List Nat} {c:C} {σ:Type} (I:σ→St→Prop) (μ:σ→Nat) (s:σ) (h0:I s (S.head W L Wv Wa))
  (hstep:∀s S,I s S→Wp κ c S fun ex S'=>match ex with
   |.norm=>∃s',μ s'<μ s∧I s' (S'.head W L Wv Wa)
   |x=>Q x S'):Wp κ (.loop W L Wv Wa c) S Q:=by
 suffices ∀n s S,μ s=n→I s (S.head W L Wv Wa)→Wp κ (.loop W L Wv Wa c) S Q from this _ s S rfl h0
 intro n
 induction n using Nat.strongRecOn with
 |_ n ih=>
  intro s S hn hI
  refine JhQ ((hstep s _ hI).mono fun ex S' hq=>?_)
  cases ex with
  |norm=>
   obtain⟨s',h1,h2⟩:=hq
   exact ih _ (hn▸h1) s' S' rfl h2
  |ret=>exact hq
  |exit id=>exact hq
end
theorem K'_codeP {Pg:Nat→Option Fn} {f:Nat} {F:F} {args:List V} {r:V} (hF:Pg f=some (.code F)) (hl:args.length=F.np)
  (h:Wp (K' Pg) F.body (JE args) fun ex S=>(ex=.norm∨ex=.ret)∧Jac F S=some r):K' Pg f args=some r:=by
 obtain⟨m,ex,S',h1,h2,h3⟩:=h
 obtain⟨n,hn⟩:=J4 h1
 have h4:Je (Jw Pg (max n m)) (max n m) F.body (JE args)=some (ex,S'):=Jn (JM Pg (G6 n m)) (G3 n m) hn
 refine JdC (n:=max n m+1) ?_
 simp only[Jw,hF,GC hl,h4,Option.bind_some]
 rcases h2 with rfl|rfl<;>exact h3
theorem Jdh {F:F} {S:St} {r:V} (h:JbN F S=some r):Jac F S=some r:=by
 unfold Jac;rw[h]
theorem JdB {Pg:Nat→Option Fn} {f:Nat} {F:F} {args:List V} {r:V} (hF:Pg f=some (.code F)) (hl:args.length=F.np)
  (h:Wp (K' Pg) F.body (JE args) fun ex S=>(ex=.norm∨ex=.ret)∧JbN F S=some r):K' Pg f args=some r:=
 K'_codeP hF hl (Wp.mono h fun _ _ h=>⟨h.1,Jdh h.2⟩)
theorem Qa {Pg:Nat→Option Fn} {f k:Nat} {F:F} {args cs:List V} {r:V} {S0:St} (hF:Pg f=some (.codeR F k)) (hl:args.length=F.np)
  (hk:args[k]?=some (.tuple (.lref 0 0::cs))) (h0:startR args k cs=some S0)
  (h:Wp (K' Pg) F.body S0 fun ex S=>(ex=.norm∨ex=.ret)∧JaK F k S=some r):K' Pg f args=some r:=by
 obtain⟨m,ex,S',h1,h2,h3⟩:=h
 obtain⟨n,hn⟩:=J4 h1
 have h4:Je (Jw Pg (max n m)) (max n m) F.body S0=some (ex,S'):=Jn (JM Pg (G6 n m)) (G3 n m) hn
 refine JdC (n:=max n m+1) ?_
 simp only[Jw,hF,GC hl,hk,h0,h4,Option.bind_some]
 rcases h2 with rfl|rfl<;>exact h3
theorem JfU {Pg:Nat→Option Fn} {f:Nat} {own:Option Nat} {p:List V→Option V} {args:List V} (hF:Pg f=some (.prim own p)):K' Pg f args=p args:=by
 cases h:p args with
 |some r=>exact JdC (n:=1) (by simp[Jw,hF,h])
 |none=>
  cases h':K' Pg f args with
  |none=>rfl
  |some r=>
   obtain⟨n,hn⟩:=K'_iff.1 h';cases n<;>simp[Jw,hF,h] at hn
def cloneQ (z0:Nat) (args:List V):Option V:=match args with
 |[.slice z rows]=>if rows.length≤lim∧z=z0 then some (.slice z rows) else none
 |_=>none
def Wr (κ:Nat→List V→Option V) (ops:List Op) (i:Nat) (e:Nat→V) (S:St) (Q:St→Prop):Prop:=∃S',Jz κ ops i e S=some S'∧Q S'
def JaN (gl:Bool) (dst:Option Nat) (S:St) (v:V):St:=
 match gl,dst with
 |true,some d=>⟨upd S.ρ d v,S.μ,S.A⟩
 |_,_=>S
def WrO (κ:Nat→List V→Option V) (dst:Option Nat) (gl:Bool) (ops:List Op) (i:Nat) (e:Nat→V) (Q:St→Prop):Option (V×St)→Prop
 |none=>False
 |some (v,S)=>Wr κ ops (i+1) (upd e i v) (JaN gl dst S v) Q
def WrG (κ:Nat→List V→Option V) (o:Op) (ops:List Op) (i:Nat) (e:Nat→V) (S:St) (Q:St→Prop) (b:Bool):V→Prop
 |.tuple []=>Wr κ ops (i+1) (upd e i .un) (JaN o.gl o.dst S .un) Q
 |.bool t=>(t=b→Wr κ ({o with gd:=none}::ops) i e S Q)∧(t=!b→Wr κ ops (i+1) (upd e i .un) (JaN o.gl o.dst S .un) Q)
 |_=>False
def WpC (κ:Nat→List V→Option V) (a b:C) (S:St) (Q:Ex→St→Prop):V→Prop
 |.bool t=>(t=true→Wp κ a S Q)∧(t=false→Wp κ b S Q)
 |_=>False
section
variable {κ:Nat→List V→Option V} {S:St} {Q:St→Prop} {R:Ex→St→Prop} {e:Nat→V} {i:Nat} {ops:List Op}
theorem Jdq {dst:Option Nat} {gl:Bool} {k:K} {gd} {v:V}:S.put ⟨dst,gl,k,gd⟩ v=JaN gl dst S v:=by
 cases gl<;>cases dst<;>rfl
theorem Jju {d:Nat} {v:V} {ρ μ A}:JaN true (some d) ⟨ρ,μ,A⟩ v=⟨upd ρ d v,μ,A⟩:=rfl
theorem Jhk {d:Nat} {v:V}:JaN true (some d) S v=⟨upd S.ρ d v,S.μ,S.A⟩:=rfl
theorem Jjs {d:Option Nat} {v:V}:JaN false d S v=S:=rfl
theorem Jjt {gl:Bool} {v:V}:JaN gl none S v=S:=by cases gl<;>rfl
theorem Jkh {d:Bool}:Wp κ (.region d ops) S R=Wr κ ops 0 (fun _=>.undef) S (R .norm):=by
 refine propext ⟨fun h=>?_,fun h=>wp_region h⟩;obtain⟨m,ex,S',h1,h2⟩:=h;cases m with
 |zero=>simp[Je] at h1
 |succ m=>
  simp only[Je,Gb,Ga,Gf] at h1;obtain⟨x,h1,rfl,rfl⟩:=h1;exact⟨x,h1,h2⟩
theorem JhS {a b:C}:Wp κ (.seq a b) S R=Wp κ a S (Cont κ b R):=by
 refine propext ⟨fun h=>?_,wp_seq⟩;obtain⟨m,ex,S',h1,h2⟩:=h;cases m with
 |zero=>simp[Je] at h1
 |succ m=>
  simp only[Je,Gb] at h1;obtain⟨⟨x,S1⟩,h1,h3⟩:=h1;refine⟨m,x,S1,h1,?_⟩;cases x with
  |norm=>exact⟨m,ex,S',h3,h2⟩
  |ret=>simp only[Ga,Gf] at h3;obtain⟨rfl,rfl⟩:=h3;exact h2
  |exit id=>simp only[Ga,Gf] at h3;obtain⟨rfl,rfl⟩:=h3;exact h2
theorem Jey {id:Nat} {c:C}:Wp κ (.block id c) S R=Wp κ c S (Blk id R):=by
 refine propext ⟨fun h=>?_,wp_block⟩;obtain⟨m,ex,S',h1,h2⟩:=h;cases m with
 |zero=>simp[Je] at h1
 |succ m=>
  simp only[Je,Gb] at h1;obtain⟨⟨x,S1⟩,h1,h3⟩:=h1;refine⟨m,x,S1,h1,?_⟩;cases x with
  |norm=>simp only[Ga,Gf] at h3;obtain⟨rfl,rfl⟩:=h3;exact h2
  |ret=>simp only[Ga,Gf] at h3;obtain⟨rfl,rfl⟩:=h3;exact h2
  |exit id=>
   simp only at h3;simp only[Blk];split at h3<;>simp only[Ga,Gf] at h3<;>obtain⟨rfl,rfl⟩:=h3
   ·rename_i e;rw[GC e];exact h2
   ·rename_i e;rw[GA e];exact h2
theorem JhR:Wp κ .ret S R=R .ret S:=propext ⟨fun⟨m,ex,S',h1,h2⟩=>by
 cases m<;>simp[Je] at h1;obtain⟨rfl,rfl⟩:=h1;exact h2,wp_ret⟩
theorem JfP {id:Nat}:Wp κ (.exit id) S R=R (.exit id) S:=propext ⟨fun⟨m,ex,S',h1,h2⟩=>by
 cases m<;>simp[Je] at h1;obtain⟨rfl,rfl⟩:=h1;exact h2,wp_exit⟩
theorem JfQ:Wp κ .skip S R=R .norm S:=propext ⟨fun⟨m,ex,S',h1,h2⟩=>by
 cases m<;>simp[Je] at h1;obtain⟨rfl,rfl⟩:=h1;exact h2,wp_skip⟩
theorem Jd4 {b:C}:Cont κ b R .norm S=Wp κ b S R:=rfl
theorem JeG {b:C}:Cont κ b R .ret S=R .ret S:=rfl
theorem Jd3 {b:C} {id:Nat}:Cont κ b R (.exit id) S=R (.exit id) S:=rfl
theorem JeE {id:Nat}:Blk id R .norm S=R .norm S:=rfl
theorem Jf3 {id:Nat}:Blk id R .ret S=R .ret S:=rfl
theorem JeD {id id':Nat}:Blk id R (.exit id') S=if id'=id then R .norm S else R (.exit id') S:=rfl
theorem JfO {x:Arg} {a b:C}:Wp κ (.cond x a b) S R=WpC κ a b S R (argv (fun _=>.undef) S.ρ x):=by
 refine propext ⟨fun h=>?_,fun h=>?_⟩
 ·obtain⟨m,ex,S',h1,h2⟩:=h;cases m with
  |zero=>simp[Je] at h1
  |succ m=>
   simp only[Je] at h1;split at h1
   ·rename_i t ht;rw[ht];refine⟨fun e=>?_,fun e=>?_⟩<;>subst e
    ·exact⟨m,ex,S',h1,h2⟩
    ·exact⟨m,ex,S',h1,h2⟩
   ·simp at h1
 ·unfold WpC at h;split at h
  ·rename_i t ht;exact wp_cond t ht h.1 h.2
  ·exact h.elim
theorem Jl6 {a b:C}:WpC κ a b S R (.bool true)=Wp κ a S R:=by simp[WpC]
theorem Jl5 {a b:C}:WpC κ a b S R (.bool false)=Wp κ b S R:=by simp[WpC]
theorem Jkk:Wr κ [] i e S Q=Q S:=by simp[Wr,Jz]
theorem JfR {dst:Option Nat} {gl:Bool} {k:K}:Wr κ (⟨dst,gl,k,none⟩::ops) i e S Q=WrO κ dst gl ops i e Q (ev κ (dst.getD 0) e S k):=by
 unfold Wr WrO;simp only[Jz,step,Jq,Option.bind_assoc];cases ev κ (dst.getD 0) e S k with
 |none=>simp
 |some r=>
  obtain⟨v,S1⟩:=r;simp only[Option.bind_some,Jdq,Wr]
theorem JfS {dst:Option Nat} {gl:Bool} {v:V}:WrO κ dst gl ops i e Q (some (v,S))=Wr κ ops (i+1) (upd e i v) (JaN gl dst S v) Q:=rfl
theorem JcH {o:Op} (h:Jq e o.gd=some false):Wr κ (o::ops) i e S Q=Wr κ ops (i+1) (upd e i .un) (JaN o.gl o.dst S .un) Q:=by
 obtain⟨dst,gl,k,gd⟩:=o;unfold Wr;simp only[Jz,step,h,Jdq,Option.bind_some]
theorem Jh6 {o:Op} (h:Jq e o.gd=some true):Wr κ (o::ops) i e S Q=Wr κ ({o with gd:=none}::ops) i e S Q:=by
 obtain⟨dst,gl,k,gd⟩:=o;have h0:Jq e (Op.mk dst gl k none).gd=some true:=rfl;unfold Wr;simp only[Jz,step,h,h0,Jdq]
theorem Jl7 {dst:Option Nat} {gl:Bool} {k:K} {j:Nat} {b:Bool}:Wr κ (⟨dst,gl,k,some (j,b)⟩::ops) i e S Q=WrG κ ⟨dst,gl,k,some (j,b)⟩ ops i e S Q b (e j):=by
 have hb:∀t b':Bool,t≠b'→t=!b':=by decide
 unfold WrG;split
 ·rename_i he;exact JcH (by simp[Jq,he])
 ·rename_i t ht;refine propext ⟨fun h=>⟨fun e'=>?_,fun e'=>?_⟩,fun⟨h1,h2⟩=>?_⟩
  ·rwa [Jh6 (by simp[Jq,ht,e'])] at h
  ·rwa [JcH (by simp[Jq,ht,e'])] at h
  ·by_cases hb':t=b
   ·rw[Jh6 (by simp[Jq,ht,hb'])];exact h1 hb'
   ·rw[JcH (by simp[Jq,ht,hb'])];exact h2 (hb _ _ hb')
 ·rename_i h1 h2;refine propext ⟨fun h=>?_,fun h=>h.elim⟩;obtain⟨S',h,-⟩:=h;simp only[Jz,step] at h;have:Jq e (some (j,b))=none:=by
   unfold Jq;simp only
  rw[this] at h;simp at h
theorem Jkp {dst:Option Nat} {gl:Bool} {k:K} {gd} {b}:WrG κ ⟨dst,gl,k,gd⟩ ops i e S Q b (.tuple [])=Wr κ ops (i+1) (upd e i .un) (JaN gl dst S .un) Q:=rfl
theorem Jko {dst:Option Nat} {gl:Bool} {k:K} {gd}:WrG κ ⟨dst,gl,k,gd⟩ ops i e S Q true (.bool true)=Wr κ (⟨dst,gl,k,none⟩::ops) i e S Q:=by simp[WrG]
theorem Jkl {dst:Option Nat} {gl:Bool} {k:K} {gd}:WrG κ ⟨dst,gl,k,gd⟩ ops i e S Q false (.bool false)=Wr κ (⟨dst,gl,k,none⟩::ops) i e S Q:=by simp[WrG]
theorem Jkn {dst:Option Nat} {gl:Bool} {k:K} {gd}:WrG κ ⟨dst,gl,k,gd⟩ ops i e S Q true (.bool false)=Wr κ ops (i+1) (upd e i .un) (JaN gl dst S .un) Q:=by simp[WrG]
theorem Jkm {dst:Option Nat} {gl:Bool} {k:K} {gd}:WrG κ ⟨dst,gl,k,gd⟩ ops i e S Q false (.bool true)=Wr κ ops (i+1) (upd e i .un) (JaN gl dst S .un) Q:=by simp[WrG]
theorem JhJ {α:Type} {f:Nat→α} {k:Nat} {v:α}:upd f k v k=v:=by simp[upd]
theorem JhK {α:Type} {f:Nat→α} {k i:Nat} {v:α} (h:(i == k)=false):upd f k v i=f i:=by
 have:i≠k:=by simpa using h
 simp[upd,this]
theorem Jmr {o:Op} {t:Bool} (h1:t=true→Wr κ ({o with gd:=none}::ops) i e S Q) (h2:t=false→Wr κ ops (i+1) (upd e i .un) (JaN o.gl o.dst S .un) Q):WrG κ o ops i e S Q true (.bool t):=⟨h1,h2⟩
theorem Jmt {a b:C} {t:Bool} (h1:t=true→Wp κ a S R) (h2:t=false→Wp κ b S R):WpC κ a b S R (.bool t):=⟨h1,h2⟩
theorem Jhu {l:List V} {t:Nat}:(JE l).ρ t=(l[t]?).getD .undef:=rfl
theorem Jht {l:List V}:(JE l).μ=fun _=>none:=rfl
theorem Jhs {l:List V}:(JE l).A=fun _=>none:=rfl
def LQ {σ:Type} (I:σ→St→Prop) (m:σ→Nat) (s:σ) (W L Wv Wa:List Nat) (Q:Ex→St→Prop):Ex→St→Prop
 |.norm,S'=>∃s',m s'<m s∧I s' (S'.head W L Wv Wa)
 |x,S'=>Q x S'
theorem JgR {σ:Type} {I:σ→St→Prop} {m:σ→Nat} {s:σ} {W L Wv Wa:List Nat}:LQ I m s W L Wv Wa R .norm S=∃s',m s'<m s∧I s' (S.head W L Wv Wa):=rfl
theorem Jjc {σ:Type} {I:σ→St→Prop} {m:σ→Nat} {s:σ} {W L Wv Wa:List Nat}:LQ I m s W L Wv Wa R .ret S=R .ret S:=rfl
theorem JgQ {σ:Type} {I:σ→St→Prop} {m:σ→Nat} {s:σ} {W L Wv Wa:List Nat} {id:Nat}:LQ I m s W L Wv Wa R (.exit id) S=R (.exit id) S:=rfl
theorem Jms {W L Wv Wa:List Nat} {c:C} {σ:Type} (I:σ→St→Prop) (m:σ→Nat) (s:σ) (h0:I s (S.head W L Wv Wa))
  (hstep:∀s S,I s S→Wp κ c S (LQ I m s W L Wv Wa R)):Wp κ (.loop W L Wv Wa c) S R:=
 wp_inv I m s h0 fun s S hI=>(hstep s S hI).mono fun ex S' h=>by cases ex<;>exact h
theorem JiT {Wv Wa:List Nat} {t:Nat}:(S.head [] [] Wv Wa).ρ t=Jo Wv Wa (S.ρ t):=rfl
theorem JiS {Wv Wa:List Nat} {t:Nat}:(S.head [] [] Wv Wa).μ t=if Wv.contains t then none else (S.μ t).map fun m=>(bif Wa.isEmpty then m.1 else m.1.map (JA Wa),m.2):=rfl
theorem JgH {Wv Wa:List Nat} {t:Nat}:(S.head [] [] Wv Wa).A t=if Wa.contains t then none else S.A t:=rfl
theorem Jeo {Wv Wa:List Nat} {k n}:Jo Wv Wa (.int k n)=.int k n:=rfl
theorem Jdu {Wv Wa:List Nat} {n}:Jo Wv Wa (.bool n)=.bool n:=rfl
theorem Jeq {Wv Wa:List Nat} {n}:Jo Wv Wa (.str n)=.str n:=rfl
theorem Jc0 {Wv Wa:List Nat} {z n}:Jo Wv Wa (.slice z n)=.slice z n:=rfl
theorem Jdw {Wv Wa:List Nat} {z n}:Jo Wv Wa (.func z n)=.func z n:=rfl
theorem Jc2 {Wv Wa:List Nat}:Jo Wv Wa .undef=.undef:=rfl
theorem Jdx {Wv Wa:List Nat} {s o}:Jo Wv Wa (.lref s o)=if Wv.contains s then .undef else .lref s o:=rfl
theorem Jep {Wv Wa:List Nat} {s z n}:Jo Wv Wa (.own s z n)=if Wa.contains s then .undef else .own s z n:=rfl
theorem Jen {Wv:List Nat} {cs}:Jo Wv [] (.agg cs)=.agg cs:=rfl
theorem Jc1 {Wv:List Nat} {cs}:Jo Wv [] (.tuple cs)=.tuple cs:=rfl
theorem Jb5 {a b:Nat} {l:List Nat}:(a::l).contains b=((b == a)||l.contains b):=rfl
theorem Jcp {b:Nat}:([]:List Nat).contains b=false:=rfl
theorem JlD {v:V}:Jb6 [v]=v:=rfl
theorem JlE {v v':V} {l:List V}:Jb6 (v::v'::l)=.tuple (v::v'::l):=rfl
theorem Jmk {A j v}:Jcy A none j v=toD A v:=rfl
theorem Jlh {α:Type} {a:α} {l:List α}:(a::l)[0]?=some a:=rfl
theorem Jlg {α:Type} {a:α} {l:List α} {n:Nat}:(a::l)[n+1]?=l[n]?:=rfl
end
section
open _root_.Go (IntKind BinOp UnOp)
variable {S:St} {A:Nat→Option (Nat×List (List V)×Fz)}
theorem Jkx {o:BinOp} {k:IntKind} {a b:Int}:Jdc o (.int k a) (.int k b)=Ji o k a b:=by simp[Jdc]
theorem Jky {o:BinOp} {a b:List UInt8}:Jdc o (.str a) (.str b)=JaY o a b:=rfl
theorem Jmu {o:BinOp} {k k':IntKind} {a b:Int}:shV o (.int k a) (.int k' b)=if b<0 then none else match o with
  |.shl=>some (.int k (k.wrap (a*2 ^ (min b.toNat k.bits))))
  |.shr=>some (.int k (a.fdiv (2 ^ (min b.toNat k.bits))))
  |_=>none:=rfl
theorem JlA {k k':IntKind} {a:Int}:shV .shr (.int k a) (.int k' 1)=some (.int k (a.fdiv 2)):=by cases k<;>simp[shV,IntKind.bits]
theorem JkP {k:IntKind} {a b:Int}:eqV .i (.int k a) (.int k b)=some (decide (a=b)):=by simp[eqV]
theorem JkO {a b:Bool}:eqV .b (.bool a) (.bool b)=some (a == b):=rfl
theorem JkQ {a b:List UInt8}:eqV .s (.str a) (.str b)=some (decide (a=b)):=rfl
theorem Jmo {b:Bool}:unV .not (.bool b)=some (.bool !b):=rfl
theorem Jmp {k n}:unV .neg (.int k n)=some (.int k (k.wrap (0-n))):=rfl
theorem Jmm {z lo hi s} : slV true z (.str s) lo hi = (bound hi s.length).bind fun h => (bound lo 0).bind fun l =>
      if l ≤ h ∧ h ≤ s.length then some (.str ((s.take h).drop l)) else none := rfl
theorem Jml {z lo hi rows} : slV false z (.slice z rows) lo hi = (bound hi rows.length).bind fun h => (bound lo 0).bind fun l =>
      if l ≤ h ∧ h ≤ rows.length then some (.slice z ((rows.take h).drop l)) else none := by simp [slV]
theorem Jf8 {d}:bound none d=some d:=rfl
theorem Jf7 {k d} {n:Nat}:bound (some (.int k n)) d=some n:=by simp[bound]
theorem Jlp {z rows}:Jdm false (.slice z rows)=some (.int .i64 rows.length):=rfl
theorem Jlq {s}:Jdm true (.str s)=some (.int .i64 s.length):=rfl
theorem Jlo {s z n}:Jdm false (.own s z n)=some (.int .i64 n):=rfl
theorem Jlk {z rows k} {n:Nat}:Ja9 z (.slice z rows) (.int k n)=(rows[n]?).map fun r=>.cptr r 0:=by simp[Ja9]
theorem Jlj {s z m k} {n:Nat}:Ja9 z (.own s z m) (.int k n)=if n<m then some (.eref s n 0 m) else none:=by simp[Ja9]
theorem Ji0 {z n s off k} {i:Nat}:Jbr z n (.lref s off) (.int k i)=if i<n then some (.lref s (off+i*z)) else none:=by simp[Jbr]
theorem JiZ {z n cs off k} {i:Nat}:Jbr z n (.cptr cs off) (.int k i)=if i<n then some (.cptr cs (off+i*z)) else none:=by simp[Jbr]
theorem Jlb {off s o}:Jdg off (.lref s o)=some (.lref s (o+off)):=rfl
theorem Jla {off s i o n}:Jdg off (.eref s i o n)=some (.eref s i (o+off) n):=rfl
theorem Jk9 {off cs o}:Jdg off (.cptr cs o)=some (.cptr cs (o+off)):=rfl
theorem Jll {s k} {n:Nat}:Jed (.str s) (.int k n)=(s[n]?).map fun b=>.int .u8 b.toNat:=by simp[Jed]
theorem JkR {i vs}:JeT i (.tuple vs)=vs[i]?:=rfl
theorem Jin {k k' n}:Ja2 (.int k) (.int k' n)=some (.int k (k.wrap n)):=rfl
theorem Jio {s}:Ja2 .same (.str s)=some (.str s):=rfl
theorem Jmi {s n off}:Jy S (.v s) n (.lref s off)=(S.μ s).bind fun m=>J6 m.1 off n:=by simp[Jy]
theorem Jmg {n cs off}:Jy S .c n (.cptr cs off)=J6 cs off n:=rfl
def ldE (n:Option Nat) (i off m:Nat):Option (Nat×List (List V)×Fz)→Option V
 |some (_,rows,f)=>if rows.length=m∧f≠.dead then (rows[i]?).bind fun r=>J6 r off n else none
 |none=>none
theorem Jln {n i off m z rows f}:ldE n i off m (some (z,rows,f))=if rows.length=m∧f≠.dead then (rows[i]?).bind fun r=>J6 r off n else none:=rfl
theorem Jmh {s n i off m}:Jy S (.e s) n (.eref s i off m)=ldE n i off m (S.A s):=by
 unfold Jy ldE;simp only[GF]
 rfl
def stV (S:St) (s off:Nat) (xs:List V):Option (List V×Bool)→Option St
 |some (cs,false)=>(JH cs off xs).bind fun cs'=>some {S with μ:=upd S.μ s (some (cs',false))}
 |_=>none
theorem JlM {s off xs cs}:stV S s off xs (some (cs,false))=(JH cs off xs).bind fun cs'=>some ⟨S.ρ,upd S.μ s (some (cs',false)),S.A⟩:=rfl
theorem Jc6 {s n off x}:JC S (.v s) n (.lref s off) x=x.cells.bind fun xs=>if xs.length=n then stV S s off xs (S.μ s) else none:=by
 unfold JC
 congr 1;funext xs
 split
 ·simp only[GF];split
  ·rename_i h;rw[h];rfl
  ·rename_i h;unfold stV;split
   ·rename_i cs h';exact absurd h' (h cs)
   ·rfl
 ·rfl
theorem Jgg {k n}:(V.int k n).cells=some [.int k n]:=rfl
theorem Jge {n}:(V.bool n).cells=some [.bool n]:=rfl
theorem Jgk {n}:(V.str n).cells=some [.str n]:=rfl
theorem Jgj {z n}:(V.slice z n).cells=some [.slice z n]:=rfl
theorem Jgd {n}:(V.agg n).cells=some n:=rfl
theorem Jgl:V.undef.cells=none:=rfl
theorem Jgf {f n}:(V.func f n).cells=some [.func f n]:=rfl
theorem Jgh:V.niface.cells=some [.niface]:=rfl
theorem Jgi {s z n}:(V.own s z n).cells=some [.own s z n]:=rfl
theorem JjT {z rows}:V.rowsOf z (.slice z rows)=some rows:=by simp[V.rowsOf]
theorem JjU {s}:V.rowsOf 1 (.str s)=some (s.map fun b=>[.int .u8 b.toNat]):=rfl
theorem JlX {k n}:toD A (.int k n)=some (.int k n):=rfl
theorem JlV {n}:toD A (.bool n)=some (.bool n):=rfl
theorem Jl0 {n}:toD A (.str n)=some (.str n):=rfl
theorem JlZ {z n}:toD A (.slice z n)=some (.slice z n):=rfl
theorem JlW {z n}:toD A (.func z n)=some (.func z n):=rfl
theorem JlU {n}:toD A (.agg n)=(Js (toDC A) n).map .agg:=rfl
theorem JlY {s z n}:toD A (.own s z n)=toDC A (.own s z n):=rfl
theorem Jl1 {vs}:toD A (.tuple vs)=none:=rfl
theorem Jj8 {k n}:toDC A (.int k n)=some (.int k n):=rfl
theorem Jj7 {n}:toDC A (.bool n)=some (.bool n):=rfl
theorem Jkc {n}:toDC A (.str n)=some (.str n):=rfl
theorem Jkb {z n}:toDC A (.slice z n)=some (.slice z n):=rfl
theorem JhI {z}:toDC A (.nslice z)=some (.slice z []):=rfl
theorem Jgn {z}:(V.nslice z).datC=true:=rfl
theorem Jet {z}:Jd (.nslice z)=[]:=rfl
theorem JeF {z}:(V.nslice z).cells=some [.nslice z]:=rfl
theorem Jkd:toDC A .undef=some .undef:=rfl
theorem Jj9:toDC A .niface=some .niface:=rfl
def Jhj (z n:Nat):Option (Nat×List (List V)×Fz)→Option V
 |some (z',rows,f)=>if z'=z∧rows.length=n∧f≠.dead then some (.slice z rows) else none
 |none=>none
theorem Jjp {z n:Nat} {rows f}:Jhj z n (some (z,rows,f))=if rows.length=n∧f≠.dead then some (.slice z rows) else none:=by simp[Jhj]
theorem Jka {s z n}:toDC A (.own s z n)=Jhj z n (A s):=by unfold toDC Jhj;rfl
def JjN (n:Option Nat):Option (List V×Bool)→Option V
 |some (cs,_)=>J6 cs 0 n
 |none=>none
theorem JjR {n cs f}:JjN n (some (cs,f))=J6 cs 0 n:=rfl
def JjO (S:St) (n:Option Nat):V→Option V
 |.lref s 0=>JjN n (S.μ s)
 |_=>none
theorem JjS {n s}:JjO S n (.lref s 0)=JjN n (S.μ s):=rfl
theorem JjQ {t}:resV S (.t t)=some (S.ρ t):=rfl
theorem JjP {a n}:resV S (.cell a n)=JjO S n (S.ρ a):=by
 simp only[resV,JjO];generalize S.ρ a=x;cases x with
 |lref s o=>cases o with
  |zero=>rfl
  |succ o=>rfl
 |_=>rfl
theorem Ji7 {cs:List V} {off}:J6 cs off none=cs[off]?:=rfl
theorem Ji8 {cs:List V} {off n}:J6 cs off (some n)=if off+n≤cs.length then some (.agg ((cs.drop off).take n)) else none:=rfl
theorem Jgb {κ d own fc avs}:callV κ d S .no own fc avs=if avs.all V.dat then (κ fc.1 (avs++fc.2)).bind fun r=>adopt d S own r else none:=rfl
theorem Jf9 {κ d own fc avs}:callV κ d S .borrow own fc avs=(Js (toD S.A) avs).bind fun bs=>(κ fc.1 (bs++fc.2)).bind fun r=>if r.scalar then some (r,S) else none:=rfl
theorem Jga {κ d own fc avs}:callV κ d S .freeze own fc avs=(Js (toD S.A) avs).bind fun bs=>(κ fc.1 (bs++fc.2)).bind fun r=>adopt d {S with A:=Ju S.A (avs.flatMap Jf)} own r:=rfl
theorem JfW {d r}:adopt d S none r=some (r,S):=rfl
def adA (d:Nat) (S:St) (z:Nat) (rows:List (List V)):Option (Nat×List (List V)×Fz)→Option (V×St)
 |none=>some (.own d z rows.length,⟨S.ρ,S.μ,upd S.A d (some (z,rows,.live))⟩)
 |some _=>none
theorem Jkq {d z rows}:adA d S z rows none=some (.own d z rows.length,⟨S.ρ,S.μ,upd S.A d (some (z,rows,.live))⟩):=rfl
theorem JfX {d j z rows}:adopt d S (some j) (.slice z rows)=adA d S z rows (S.A d):=by
 simp only[adopt,adA];cases S.A d<;>rfl
def apA (S : St) (s z n : Nat) (y : V) : Option (Nat × List (List V) × Fz) → Option (V × St)
  | some (z'', rows, .live) => if z'' = z ∧ rows.length = n then (V.rowsOf z y).bind fun ys =>
          if rows.length + ys.length ≤ lim then some (.own s z (rows.length + ys.length), { S with A := upd S.A s (some (z, rows ++ ys, .live)) }) else none
        else none
  | _ => none
theorem Jkt {s z n y}:J8 S s z (.own s z n) y=apA S s z n y (S.A s):=by
 simp only[J8,apA,and_self,GF]
 rfl
theorem Jia {s z n y s'}:appN S s z (.own s' z n) y=J8 S s z (.own s' z n) y:=rfl
def Jh7 (S:St) (s z:Nat) (y:V):Option (Nat×List (List V)×Fz)→Option (V×St)
 |none=>(V.rowsOf z y).bind fun ys=>if ys.length≤lim then some (.own s z ys.length,{S with A:=upd S.A s (some (z,ys,.live))}) else none
 |some _=>none
theorem Jh9 {s z y}:appN S s z (.nslice z) y=Jh7 S s z y (S.A s):=by
 simp only[appN,Jh7,GF];cases S.A s<;>rfl
theorem Jh8 {s z y}:Jh7 S s z y none=(V.rowsOf z y).bind fun ys=>if ys.length≤lim then some (.own s z ys.length,⟨S.ρ,S.μ,upd S.A s (some (z,ys,.live))⟩) else none:=rfl
theorem Jks {s z n y rows} : apA S s z n y (some (z, rows, .live)) = if rows.length = n then (V.rowsOf z y).bind fun ys =>
          if rows.length + ys.length ≤ lim then some (.own s z (rows.length + ys.length), ⟨S.ρ, S.μ, upd S.A s (some (z, rows ++ ys, .live))⟩) else none
        else none := by simp [apA]
theorem JgA:Ju A []=A:=rfl
theorem Jhn {k n}:Jf (.int k n)=[]:=rfl
theorem Jhm {n}:Jf (.bool n)=[]:=rfl
theorem Jhq {n}:Jf (.str n)=[]:=rfl
theorem Jhp {z n}:Jf (.slice z n)=[]:=rfl
theorem Jhl {n}:Jf (.agg n)=n.flatMap Jd:=rfl
theorem Jho {s z n}:Jf (.own s z n)=[s]:=rfl
theorem JfB {k n}:Jd (.int k n)=[]:=rfl
theorem JfA {n}:Jd (.bool n)=[]:=rfl
theorem JfE {n}:Jd (.str n)=[]:=rfl
theorem JfD {z n}:Jd (.slice z n)=[]:=rfl
theorem JfC {s z n}:Jd (.own s z n)=[s]:=rfl
theorem JeV {f:V→List Nat}:[].flatMap f=[]:=rfl
theorem Jd9 {f:V→List Nat} {a l}:(a::l).flatMap f=f a++l.flatMap f:=rfl
theorem JeZ {s l}:Ju A (s::l)=Ju (upd A s ((A s).map fun (z,rows,f)=>(z,rows,if f=.live then .frz else f))) l:=rfl
theorem JjX {k n}:(V.int k n).scalar=true:=rfl
theorem JjW {n}:(V.bool n).scalar=true:=rfl
theorem JjY {n}:(V.str n).scalar=true:=rfl
theorem JkI {k n}:(V.int k n).dat=true:=rfl
theorem JkF {n}:(V.bool n).dat=true:=rfl
theorem JkK {n}:(V.str n).dat=true:=rfl
theorem JkJ {z n}:(V.slice z n).dat=true:=rfl
theorem JkH {z n}:(V.func z n).dat=true:=rfl
theorem JkG {z n}:(V.cptr z n).dat=true:=rfl
theorem JkE {n}:(V.agg n).dat=n.all V.datC:=rfl
theorem Jir {k n}:(V.int k n).datC=true:=rfl
theorem Jip {n}:(V.bool n).datC=true:=rfl
theorem Jiu {n}:(V.str n).datC=true:=rfl
theorem Jit {z n}:(V.slice z n).datC=true:=rfl
theorem Jiq {z n}:(V.func z n).datC=true:=rfl
theorem Jiv:V.undef.datC=true:=rfl
theorem Jis:V.niface.datC=true:=rfl
end
attribute [go_sem] Jkh JhS Jey JhR JfP JfQ Jd4 JeG Jd3 JeE Jf3 JeD JfO Jl6 Jl5 Jkk JfR JfS Jl7 Jkp Jko Jkl Jkn Jkm JhJ JhK Jju Jhk Jjs Jjt Jhu Jht Jhs Jlh Jlg
attribute [go_sem] JgR Jjc JgQ JiT JiS JgH Jeo Jdu Jeq Jc0 Jdw Jc2 Jdx Jep Jen Jc1 Jb5 Jcp List.isEmpty_nil List.isEmpty_cons Bool.or_false Bool.false_or Bool.or_true Bool.true_or Bool.false_eq_true
attribute [go_sem] ev argv Ji JaY callee Js Jap Jae JbK JbN Jmk JlD JlE
attribute [go_sem] Jia Jh9 Jh8 JhI Jgn Jet JeF Jkx Jky JlA JkP JkO JkQ Jmo Jmp Jmm Jml Jf8 Jf7 Jlp Jlq Jlo Jlk Jlj Ji0 JiZ Jlb Jla Jk9 Jll JkR Jin Jio Jmi Jmg Jmh Jc6 Jgg Jge Jgk Jgj Jgd Jgl Jgf Jgh Jgi JjT JjU JlX JlV Jl0 JlZ JlU JlW JlY Jl1 Jj8 Jj7 Jkc Jkb Jj9 Jka Jkd JjQ JjP Ji7 Ji8 Jgb Jf9 Jga JfW JjX JjW JjY JkI JkF JkK JkJ JkE JkH JkG Jir Jip Jiu Jit Jiq Jiv Jis Jr List.reduceReplicate List.set_cons_zero List.set_cons_succ Nat.reduceLT Nat.reduceEqDiff and_self JgA JeZ Jhn Jhm Jhq Jhp Jhl Jho JfB JfA JfE JfD JfC JeV Jd9 JfX Jkq Jkt Jks ne_eq not_false_eq_true JlM Jln Jjp JjR JjS JH List.length_map List.getElem?_map List.drop_zero List.drop_succ_cons List.take_succ_cons List.take_zero List.drop_nil List.take_nil Nat.reduceLeDiff Nat.zero_add Nat.add_zero
attribute [go_sem] Option.bind_some Option.bind_none Option.getD_some Option.getD_none Nat.reduceBEq Nat.reduceAdd reduceIte List.length_cons List.length_nil List.map_cons List.map_nil List.all_cons List.all_nil Option.map_some Option.map_none cond_true cond_false Bool.and_true Bool.true_and Bool.and_false Bool.false_and Bool.false_xor Bool.true_xor Nat.zero_le Nat.le_add_right Nat.le_refl beq_self_eq_true Int.ofNat_zero Int.cast_ofNat_Int decide_true decide_false Int.reduceEq Int.reduceLT Int.reduceLE Bool.not_true Bool.not_false List.length_append List.append_nil List.nil_append List.cons_append reduceCtorEq or_true true_or true_and and_true false_or or_false ite_true ite_false eq_self List.getElem?_nil
abbrev iz (n:Int):V:=.int .i64 n
theorem Jmq {n:Int} (h1:-9223372036854775808≤n) (h2:n≤9223372036854775807):_root_.Go.IntKind.i64.wrap n=n:=_root_.Go.IntWalk.i64_in n ⟨h1,h2⟩
theorem Jl8 {α:Type} {l:List α} {i:Nat} (h:i<l.length):∃x,l[i]?=some x∧l.drop i=x::l.drop (i+1):=
 ⟨l[i],by simp[h],List.drop_eq_getElem_cons h⟩
end Sg
namespace Sg
open _root_.Go
def cloneF (z:Nat) (zero:List V):F where
 np:=1
 gl:=[0,2,4]
 res:=[.t 2]
 own:=some 0
 body:=.seq (.region false [⟨some 2,true,.mov (.c (.slice z [])),none⟩])
  (.seq (.seq (.region false [⟨some 3,false,.mov (.g 0),none⟩,⟨some 4,true,.nilq (.l 0),none⟩])
   (.cond (.g 4) (.seq (.region false [⟨some 2,true,.mko z,none⟩]) .ret) .skip))
  (.seq (.region false [⟨some 5,false,.mkb z 0 zero [],none⟩,⟨some 6,false,.mov (.g 0),none⟩,⟨some 7,false,.app 5 z (.l 0) (.l 1),none⟩,⟨some 2,true,.mov (.l 2),none⟩]) .ret))
def onePg (id:Nat) (F:F):Nat→Option Fn:=fun k=>if k=id then some (.code F) else none
theorem one_sound {P:Program} {cx:Cx} {id:Nat} {F:F} (hm:P.follows .mixedOrders=true) (hok:okF P cx (onePg id F) (cx.fm id) F=true) (n f:Nat) (args:List V) (r:V) (h:Jw (onePg id F) n f args=some r) :
  Ctr P cx (ownOf (onePg id F) f) f args r:=
 (Jan (P:=P) (cx:=cx) (Pg:=onePg id F) hm (fun f F hF=>by
   unfold onePg at hF;split at hF<;>simp only[Ga,Fn.code.injEq,reduceCtorEq] at hF;rename_i e;subst e;subst hF;exact hok) (fun f own p hp=>by
   unfold onePg at hp;split at hp<;>simp at hp) (fun f z p _ hp=>by
   unfold onePg at hp;split at hp<;>simp at hp) (fun f z p hp=>by
   unfold onePg at hp;split at hp<;>simp at hp) (fun f F k hp=>by
   unfold onePg at hp;split at hp<;>simp at hp) (fun f own p hp=>by
   unfold onePg at hp;split at hp<;>simp at hp) n f args r h).1
theorem Jlt {A v}:Jcy A (some 0) 0 v=match v with
  |.own s z n=>match A s with
   |some (z',rows,.live)=>if z'=z∧rows.length=n then some (.slice z rows) else none
   |_=>none
  |_=>none:=by simp only[Jcy,GF];rfl
theorem Jd1 (id z:Nat) (zero:List V):K' (onePg id (cloneF z zero)) id [.nslice z]=some (.slice z []):=by
 refine JdB (F:=cloneF z zero) (by simp[onePg]) rfl ?_;simp[go_sem,cloneF,Jlt]
theorem Jd2 (id z:Nat) (zero:List V) (rows:List (List V)) (h:rows.length≤lim):K' (onePg id (cloneF z zero)) id [.xslice z rows]=some (.slice z rows):=by
 refine JdB (F:=cloneF z zero) (by simp[onePg]) rfl ?_;simp[go_sem,cloneF,Jlt,V.rowsOf,h]
theorem clone_ctr {P:Program} {cx:Cx} {id z:Nat} {zero:List V} (hm:P.follows .mixedOrders=true) (hok:okF P cx (onePg id (cloneF z zero)) (cx.fm id) (cloneF z zero)=true) :
  ∀args r,cloneQ z args=some r→Ctr P cx (some 0) id args r:=by
 intro args r h
 unfold cloneQ at h
 split at h<;>try (simp at h;done)
 rename_i z1 rows
 split at h<;>simp only[Ga,reduceCtorEq] at h
 rename_i hl
 obtain⟨hl,rfl⟩:=hl
 subst h
 have own:ownOf (onePg id (cloneF z1 zero)) id=some 0:=by simp[ownOf,onePg,cloneF]
 have all:∀args r,K' (onePg id (cloneF z1 zero)) id args=some r→Ctr P cx (some 0) id args r:=fun args r hk=>by
  obtain⟨n,hn⟩:=K'_iff.1 hk;have:=one_sound hm hok n id args r hn;rwa [own] at this
 have c1:=all _ _ (Jd1 id z1 zero)
 have c2:=all _ _ (Jd2 id z1 zero rows hl)
 refine⟨c1.1,fun w X vs hX hgn hG hsz hrel=>?_⟩
 obtain⟨u,hu,hr⟩:=hrel 0 (by simp)
 have one:∀x,RelD cx w X u x→∀i,i<[x].length→∃u,vs[i]?=some u∧RelD cx w X u (gv [x] i):=fun x hx i hi=>by
  have:i=0:=by simp at hi;exact hi
  subst this;exact⟨u,hu,hx⟩
 have hr0:RelD cx w X u (.slice z1 rows):=hr
 have conc:(u=.slice none 0 0∧rows=[])∨∃a n c,u=.slice (some a) n c:=by
  rcases JS hr0 with ⟨⟨a,rfl⟩,rfl⟩|⟨b,o,cap,c,e,fr,rfl,-⟩
  ·cases a with
   |none=>exact .inl ⟨rfl,rfl⟩
   |some a=>exact .inr ⟨_,_,_,rfl⟩
  ·exact .inr ⟨_,_,_,rfl⟩
 rcases conc with ⟨rfl,rfl⟩|⟨a,n,c,rfl⟩
 ·exact c1.2 w X vs hX hgn hG (by simpa using hsz) (one _ (.nslice z1))
 ·exact c2.2 w X vs hX hgn hG (by simpa using hsz) (one _ (.xslice a n c z1 rows hr0))
end Sg
namespace Sg
open _root_.Go _root_.Go.RowKit _root_.Go.Proofs
def dN (l:List UInt8):Nat×Nat:=Lib.decodeN l.length (l.getD 0 0).toNat (l.getD 1 0).toNat (l.getD 2 0).toNat (l.getD 3 0).toNat
def JeM (l:List UInt8):Nat×Nat:=if l=[] then (65533,0) else dN l
theorem get!_list (s:ByteArray) (i:Nat):s.get! i=s.data.toList.getD i 0:=by
 show s.data[i]! = _
 by_cases h:i<s.data.size
 ·rw[getElem!_pos s.data i h,List.getD_eq_getElem?_getD,Array.getElem?_toList,Array.getElem?_eq_getElem h]
  rfl
 ·rw[getElem!_neg s.data i h,List.getD_eq_getElem?_getD,List.getElem?_eq_none (by simpa using h)]
  rfl
theorem decode_drop (s:ByteArray) (i:Nat):Utf8.decode s i=dN (s.data.toList.drop i):=by
 rw[Lib.decode_at];have hs:s.size-i=(s.data.toList.drop i).length:=by
  rw[GI,Array.length_toList];rfl
 have e:∀k,s.get! (i+k)=(s.data.toList.drop i).getD k 0:=fun k=>by
  rw[get!_list,List.getD_eq_getElem?_getD,List.getD_eq_getElem?_getD,List.getElem?_drop]
 simp only[dN,hs,←e,Nat.add_zero]
theorem JaP (s:ByteArray):Lib.decodeGo s=JeM s.data.toList:=by
 have hs:s.size=s.data.toList.length:=by rw[Array.length_toList];rfl
 unfold Lib.decodeGo JeM;by_cases h:s.data.toList=[]
 ·rw[GC h,GC (by rw[hs,h];rfl)]
 ·rw[GA h,GA (by rw[hs];intro e;exact h (GD e)),decode_drop];simp
theorem width_pos (s:ByteArray) (pos:Nat):1≤(Utf8.decode s pos).2:=by
 rw[Lib.decode_at];unfold Lib.decodeN
 repeat' split
 all_goals simp
theorem Jct (s:ByteArray) (pos n:Nat) (hn:n=s.size):(s.extract pos n).data.toList=s.data.toList.drop pos:=by
 have hs:s.size=s.data.toList.length:=by rw[Array.length_toList];rfl
 rw[ByteArray.data_extract,Array.toList_extract,List.extract_eq_take_drop,G2];rw[GI];omega
theorem decode_extract (s:ByteArray) (pos n:Nat) (hn:n=s.size) (hp:pos<s.size):Lib.decodeGo (s.extract pos n)=Utf8.decode s pos:=by
 have hs:s.size=s.data.toList.length:=by rw[Array.length_toList];rfl
 rw[JaP,Jct s pos n hn,decode_drop,JeM,GA];intro e;have:=congrArg List.length e;rw[GI] at this;simp only[List.length_nil] at this;omega
theorem drop_ne (s:ByteArray) (pos:Nat) (hp:pos<s.size):s.data.toList.drop pos≠[]:=fun e=>by
 have hs:s.size=s.data.toList.length:=by rw[Array.length_toList];rfl
 have:=congrArg List.length e;rw[GI] at this;simp only[List.length_nil] at this;omega
theorem size_list (s:ByteArray):s.data.toList.length=s.size:=by rw[Array.length_toList];rfl
def decQ:List V→Option V
 |[.str s]=>some (.tuple [.int .i32 (JeM s).1,.int .i64 (JeM s).2])
 |_=>none
section
variable {P:Program} {cx:Cx}
theorem JdX {w:World} {X:Nat→Prop} {u:Value} {l:List UInt8} (h:RelD cx w X u (.str l)):∃s:ByteArray,u=.string s∧s.data.toList=l:=by
 cases h;exact⟨_,rfl,rfl⟩
theorem JhU {vs:Array Value} (h:vs.size=1) {u:Value} (h0:vs[0]?=some u):vs=#[u]:=by
 apply Array.ext_getElem?;intro i;rcases Gw i 1 with hi|hi
 ·have:i=0:=by omega
  subst this;simpa using h0
 ·rw[Array.getElem?_eq_none (by omega),Array.getElem?_eq_none (by simpa using hi)]
theorem Jke {w:World} {X:Nat→Prop} {a b:Value} {x y:V} (h1:RelD cx w X a x) (h2:RelD cx w X b y):RelD cx w X (.tuple #[a,b]) (.tuple [x,y]):=
 .tuple _ _ (fun i=>if i=0 then a else b) rfl (fun i hi=>by
  match i,hi with
  |0,_=>rfl
  |1,_=>rfl
  |n+2,hi=>exact absurd hi (by simp)) (fun i hi=>by
  match i,hi with
  |0,_=>simpa [gv] using h1
  |1,_=>simpa [gv] using h2
  |n+2,hi=>exact absurd hi (by simp))
theorem dec_ctr {id:Nat} (hE:Ent P (cx.fm id)) (hC:∀(s:ByteArray) (w:World),cx.G w→Calls P (cx.fm id) #[.string s] w fun e w'=>e=.returned (.tuple #[.int .i32 (Lib.decodeGo s).1,.int .i64 (Lib.decodeGo s).2])∧Below w.heap.size w w') :
  ∀args r,decQ args=some r→Ctr P cx none id args r:=by
 intro args r h
 unfold decQ at h
 split at h<;>simp only[Ga,reduceCtorEq] at h
 rename_i l
 subst h
 refine⟨hE,fun w X vs hX hgn hG hsz hrel=>?_⟩
 obtain⟨u,hu,hr⟩:=hrel 0 (by simp)
 obtain⟨s,rfl,rfl⟩:=JdX (l:=l) hr
 rw[JhU (by simpa using hsz) hu]
 refine (hC s w hG).mono fun e w' ⟨he,hb⟩=>?_
 subst he
 rw[JaP]
 exact⟨_,rfl,hb,Jke (.int _ _) (.int _ _)⟩
def plainR (r n:Int):Bool:=decide (33≤r)&&(decide (r<127)||decide (159<r))&&(!decide (r=65533)||decide (n=3))
def keyAll:Nat→List UInt8→Bool
 |0,_=>true
 |f+1,l=>if l=[] then true else plainR (dN l).1 (dN l).2&&keyAll f (l.drop (dN l).2)
def keyR (l:List UInt8):Bool:=keyAll l.length l&&(decide (1≤l.length)&&decide (l.length≤16))
def keyQ:List V→Option V
 |[.str s]=>some (.bool (keyR s))
 |_=>none
theorem key_ctr {id:Nat} (hE:Ent P (cx.fm id)) (hC:∀(s:ByteArray) (w:World),cx.gn≤w.heap.size→cx.G w→Calls P (cx.fm id) #[.string s] w fun e w'=>e=.returned (.bool (keyR s.data.toList))∧Below w.heap.size w w') :
  ∀args r,keyQ args=some r→Ctr P cx none id args r:=by
 intro args r h
 unfold keyQ at h
 split at h<;>simp only[Ga,reduceCtorEq] at h
 rename_i l
 subst h
 refine⟨hE,fun w X vs hX hgn hG hsz hrel=>?_⟩
 obtain⟨u,hu,hr⟩:=hrel 0 (by simp)
 obtain⟨s,rfl,rfl⟩:=JdX (l:=l) hr
 rw[JhU (by simpa using hsz) hu]
 refine (hC s w hgn hG).mono fun e w' ⟨he,hb⟩=>?_
 subst he
 exact⟨_,rfl,hb,.bool _⟩
end
end Sg
namespace Sg
open Go Go.RowKit Go.Lib Go.Proofs
variable {P : Program} {Z : Nat} {TS EL : TypeId}
theorem ins_p1 (t24:P.underlying TS=some (.slice EL)) (hsz:(P.info? EL).map (·.size)=some Z) (b off n c i vb voff m vc:Nat) (cs vs:List Value) (w:World) (hi:i<n) (hm:0<m) (hvb:vb≠b)
  (hcl:cs.length=n*Z) (hvl:vs.length=m*Z)
  (hcs:∀j v,cs[j]?=some v→w.cell? ⟨b,off+j,none⟩=some v) (hsp:∀j,j<(n+m)*Z→(w.cell? ⟨b,off+j,none⟩).isSome=true) (hfz:∀j,w.frozen? ⟨b,j,none⟩=false)
  (hvs:∀j v,vs[j]?=some v→w.cell? ⟨vb,voff+j,none⟩=some v) (h1c:∀v∈cs,v.oneCell'=true) (h1v:∀v∈vs,v.oneCell'=true) :
  ∃W1,W1=w.drew.setCells b (off+(i+m)*Z) (cs.drop (i*Z))∧
  (∀ty dc sc,(Builtin.copy_ #[TS,TS] ty #[.slice (some ⟨b,off+(i+m)*Z,none⟩) (n+m-(i+m)) dc,.slice (some ⟨b,off+i*Z,none⟩) (n+m-i) sc]).run P w.drew=.ok (goInt (n-i:Nat)) W1)∧
  ∀(W:World),(∀x,W.cell? x=W1.cell? x)→(∀x,W.frozen? x=W1.frozen? x)→∀ty dc,(Builtin.copy_ #[TS,TS] ty #[.slice (some ⟨b,off+i*Z,none⟩) (n+m-i) dc,.slice (some ⟨vb,voff,none⟩) m vc]).run P W=.ok (goInt (m:Nat)) (W.setCells b (off+i*Z) vs):=by
 have e1:(i+m)*Z=i*Z+m*Z:=GY ..
 have e2:(n+m)*Z=n*Z+m*Z:=GY ..
 have e3:(n-i)*Z=n*Z-i*Z:=Nat.sub_mul ..
 have e4:i*Z≤n*Z:=Gs _ (by omega)
 have hdl:(cs.drop (i*Z)).length=(n-i)*Z:=by rw[GI,hcl];omega
 refine⟨_,rfl,fun ty dc sc=>?_,fun W hWc hWf ty dc=>?_⟩
 ·exact Jat Z w.drew _ _ ty EL b (off+(i+m)*Z) (n+m-(i+m)) dc ⟨b,off+i*Z,none⟩ (n+m-i) sc (cs.drop (i*Z)) (n-i) t24 hsz (by simp only[Nat.min_def];split<;>omega) (by rw[hdl])
   (fun j v hj=>by rw[Addr.add_lit,G0];exact hcs (i*Z+j) v (by rwa [List.getElem?_drop] at hj))
   (fun j hj=>by rw[G0];exact hsp _ (by omega)) (fun j hj=>hfz _) (fun v hv=>h1c v (G7 hv))
 ·have hsp1:∀k,k<(n+m)*Z→((w.drew.setCells b (off+(i+m)*Z) (cs.drop (i*Z))).cell? ⟨b,off+k,none⟩).isSome=true:=fun k hk=>
   isSome_setK b _ _ _ (fun j hj=>by rw[G0];exact hsp _ (by omega)) _ (hsp k hk)
  exact Jat Z W _ _ ty EL b (off+i*Z) (n+m-i) dc ⟨vb,voff,none⟩ m vc vs m t24 hsz (by simp only[Nat.min_def];split<;>omega) hvl
   (fun j v hj=>by
    rw[Addr.add_lit,hWc,World.cell?_setCells_out b _ _ _ _ (fun h _=>absurd h hvb)];exact hvs j v hj)
   (fun j hj=>by rw[hWc,G0];exact hsp1 _ (by omega)) (fun j hj=>by rw[hWf,World.frozen?_setCells];exact hfz _) h1v
theorem ins_p2 (t24:P.underlying TS=some (.slice EL)) (t3:P.underlying 3=some (.int .i64)) (i0:TypeInfo) (zv:Value) (hi0:P.info? EL=some i0) (hz0:i0.zero=some zv) (hzs:i0.size=Z) (hZ:0<Z) (hby:i0.bytes≤65536) (hzc:∀k,(Builtin.zeroCells zv.cells k).size=k*Z)
  (b off n c i vb voff m vc:Nat) (cs vs:List Value) (w:World) (hi:i<n) (hm:0<m) (hnc:n≤c) (hroom:c<n+m) (hlim:n+m≤1073741824)
  (hcl:cs.length=n*Z) (hvl:vs.length=m*Z) (hbw:b<w.heap.size) (hvw:vb<w.heap.size)
  (hcs:∀j v,cs[j]?=some v→w.cell? ⟨b,off+j,none⟩=some v)
  (hvs:∀j v,vs[j]?=some v→w.cell? ⟨vb,voff+j,none⟩=some v) (h1c:∀v∈cs,v.oneCell'=true) (h1v:∀v∈vs,v.oneCell'=true) :
  ∃(G:Nat) (ROW:Array Value),n+m≤G∧(n+m)*Z≤ROW.size∧ROW.size=G*Z∧(∀(j:Nat) (v:Value),(cs.take (i*Z))[j]?=some v→ROW[j]?=some v)∧G≤9223372036854775807∧
  (∀ty,(Builtin.append_ #[TS,3] ty #[.slice (some ⟨b,off,none⟩) i c,.int .i64 ((n:Int)+(m:Int)-(i:Int))]).run P w=.ok (.slice (some ⟨w.heap.size,0,none⟩) (n+m) G) (w.drew.alloc (.cells ROW EL)))∧
  (∀(W:World),(∀x,W.cell? x=(w.drew.alloc (.cells ROW EL)).cell? x)→(∀x,W.frozen? x=(w.drew.alloc (.cells ROW EL)).frozen? x)→∀ty dc,(Builtin.copy_ #[TS,TS] ty #[.slice (some ⟨w.heap.size,i*Z,none⟩) (n+m-i) dc,.slice (some ⟨vb,voff,none⟩) m vc]).run P W=.ok (goInt (m:Nat)) (W.setCells w.heap.size (i*Z) vs))∧
  ∀(W:World),(∀x,W.cell? x=((w.drew.alloc (.cells ROW EL)).setCells w.heap.size (i*Z) vs).cell? x)→(∀x,W.frozen? x=((w.drew.alloc (.cells ROW EL)).setCells w.heap.size (i*Z) vs).frozen? x)→∀ty dc sc,(Builtin.copy_ #[TS,TS] ty #[.slice (some ⟨w.heap.size,(i+m)*Z,none⟩) (n+m-(i+m)) dc,.slice (some ⟨b,off+i*Z,none⟩) (n-i) sc]).run P W=.ok (goInt (n-i:Nat)) (W.setCells w.heap.size ((i+m)*Z) (cs.drop (i*Z))):=by
 have e1:(i+m)*Z=i*Z+m*Z:=GY ..
 have e2:(n+m)*Z=n*Z+m*Z:=GY ..
 have e3:(n-i)*Z=n*Z-i*Z:=Nat.sub_mul ..
 have e5:(n+m-i)*Z=n*Z+m*Z-i*Z:=by rw[Nat.sub_mul,e2]
 have e4:i*Z≤n*Z:=Gs _ (by omega)
 have hsz:(P.info? EL).map (·.size)=some Z:=by rw[hi0];simp[hzs]
 have hkk:(n:Int)+(m:Int)-(i:Int)=((n+m-i:Nat):Int):=by omega
 have hik:i+(n+m-i)=n+m:=by omega
 have hold:(Builtin.firstCells i0.size i (.slice (some ⟨b,off,none⟩) i c)).run P w.drew=.ok (cs.take (i*Z)).toArray w.drew:=by
  rw[hzs];exact run_firstCells_some w.drew Z i ⟨b,off,none⟩ i c (cs.take (i*Z)) (by rw[Gy];omega) (fun j v hj=>by
   rw[Addr.add_lit];rw[List.getElem?_take] at hj;split at hj
   ·exact hcs j v hj
   ·cases hj)
 have b1:(n+m-i)*i0.bytes≤1073741824*65536:=Nat.mul_le_mul (by omega) hby
 have b2:(n+m)*i0.bytes≤1073741824*65536:=Nat.mul_le_mul hlim hby
 have hrz:∀ty,(Builtin.append_ #[TS,3] ty #[.slice (some ⟨b,off,none⟩) i c,.int .i64 ((n:Int)+(m:Int)-(i:Int))]).run P w=
   .ok (.slice (some ⟨w.heap.size,0,none⟩) (n+m) (grownCap w (n+m) c EL)) (w.drew.alloc (.cells ((cs.take (i*Z)).toArray++Builtin.zeroCells zv.cells (n+m-i)++Builtin.zeroCells zv.cells (grownCap w (n+m) c EL-(n+m))) EL)):=fun ty=>by
  have h:=Lib.run_append_grow_zeros w TS 3 ty EL i0 _ .i64 .i64 t24 t3 hi0 hz0 (some ⟨b,off,none⟩) i c (cs.take (i*Z)) hold (n+m-i) (by omega) (by omega) (by omega) (by omega) (by omega) (by rw[hik];exact growslice_fits hroom (by omega))
  rw[hik] at h
  rw[hkk]
  exact h
 obtain⟨G,hG⟩:∃G,G=grownCap w (n+m) c EL:=⟨_,rfl⟩
 obtain⟨ROW,hROW⟩:∃ROW:Array Value,ROW=(cs.take (i*Z)).toArray++Builtin.zeroCells zv.cells (n+m-i)++Builtin.zeroCells zv.cells (G-(n+m)):=⟨_,rfl⟩
 rw[←hG] at hrz
 rw[←hROW] at hrz
 have hGn:n+m≤G:=by rw[hG];exact grownCap_ge w _ _ _
 have e6:(G-(n+m))*Z=G*Z-(n+m)*Z:=Nat.sub_mul ..
 have e7:(n+m)*Z≤G*Z:=Gs _ hGn
 have hRs:ROW.size=G*Z:=by
  rw[hROW,Array.size_append,Array.size_append,hzc,hzc,G4,Gy];omega
 have hRl:(n+m)*Z≤ROW.size:=by rw[hRs];omega
 have hRt:∀(j:Nat) v,(cs.take (i*Z))[j]?=some v→ROW[j]?=some v:=fun j v hj=>by
  have hjl:j<(cs.take (i*Z)).length:=by
   rcases Gw j (cs.take (i*Z)).length with h|h
   ·exact h
   ·rw[List.getElem?_eq_none h] at hj;simp at hj
  rw[hROW,Array.append_assoc,Array.getElem?_append_left (by simpa using hjl)];simpa using hj
 have hN:∀j,j<(n+m)*Z→((w.drew.alloc (.cells ROW EL)).cell? ⟨w.heap.size,j,none⟩).isSome=true:=fun j hj=>by
  rw[World.cell?_alloc_at (w:=w.drew) ROW _ w.heap.size j rfl,Array.getElem?_eq_getElem (by omega)];rfl
 have hNf:∀j,(w.drew.alloc (.cells ROW EL)).frozen? ⟨w.heap.size,j,none⟩=false:=fun j=>World.frozen?_alloc_at (w:=w.drew) ROW _ w.heap.size j rfl
 have hOb:∀j v,w.cell? ⟨b,j,none⟩=some v→(w.drew.alloc (.cells ROW EL)).cell? ⟨b,j,none⟩=some v:=fun j v h=>by rw[World.cell?_alloc_past (w:=w.drew) _ b j hbw];exact h
 have hOv:∀j v,w.cell? ⟨vb,j,none⟩=some v→(w.drew.alloc (.cells ROW EL)).cell? ⟨vb,j,none⟩=some v:=fun j v h=>by rw[World.cell?_alloc_past (w:=w.drew) _ vb j hvw];exact h
 have hG63:G≤9223372036854775807:=by
  have:=grownCap_le_maxLen w (n+m) c EL (by unfold maxLen;omega);rw[←hG] at this;unfold maxLen at this;omega
 have hbN:b≠w.heap.size:=by omega
 have hdl:(cs.drop (i*Z)).length=(n-i)*Z:=by rw[GI,hcl];omega
 refine⟨G,ROW,hGn,hRl,hRs,hRt,hG63,hrz,fun W hWc hWf ty dc=>?_,fun W hWc hWf ty dc sc=>?_⟩
 ·exact Jat Z W _ _ ty EL w.heap.size (i*Z) (n+m-i) dc ⟨vb,voff,none⟩ m vc vs m t24 hsz (by simp only[Nat.min_def];split<;>omega) hvl
   (fun j v hj=>by rw[Addr.add_lit,hWc];exact hOv _ v (hvs j v hj))
   (fun j hj=>by rw[hWc];exact hN _ (by omega)) (fun j hj=>by rw[hWf];exact hNf _) h1v
 ·exact Jat Z W _ _ ty EL w.heap.size ((i+m)*Z) (n+m-(i+m)) dc ⟨b,off+i*Z,none⟩ (n-i) sc (cs.drop (i*Z)) (n-i) t24 hsz (by simp only[Nat.min_def];split<;>omega) hdl
   (fun j v hj=>by
    rw[Addr.add_lit,hWc,World.cell?_setCells_out _ _ _ _ _ (fun h _=>absurd h hbN),G0];exact hOb _ v (hcs (i*Z+j) v (by rwa [List.getElem?_drop] at hj)))
   (fun j hj=>by rw[hWc];exact isSome_setK _ _ _ _ (fun t ht=>hN _ (by omega)) _ (hN _ (by omega)))
   (fun j hj=>by rw[hWf,World.frozen?_setCells];exact hNf _) (fun v hv=>h1c v (G7 hv))
end Sg
namespace Sg
@[go_sem] abbrev f_ (d:Nat) (k:K):Op:=⟨some d,false,k,none⟩
@[go_sem] abbrev t_ (d:Nat) (k:K):Op:=⟨some d,true,k,none⟩
@[go_sem] abbrev y_ (d j:Nat) (k:K):Op:=⟨some d,false,k,some (j,true)⟩
@[go_sem] abbrev n_ (d j:Nat) (k:K):Op:=⟨some d,false,k,some (j,false)⟩
@[go_sem] abbrev u_ (k:K):Op:=⟨none,false,k,none⟩
@[go_sem] abbrev ci (n:Int):Arg:=.c (.int .i64 n)
@[go_sem] abbrev cb (b:Bool):Arg:=.c (.bool b)
def JkD:Option (List V×Bool)→Bool
 |some m=>m.1.all V.datC
 |none=>true
theorem Jd6 {μ s}:JL μ s=JkD (μ s):=rfl
theorem Jiw {cs b}:JkD (some (cs,b))=cs.all V.datC:=rfl
def Jig (s:Nat) (sites:List Nat):Option (List V×Bool)→Option V
 |some (cs,_)=>if sites.contains s∧cs.all V.datC then some (.cptr cs 0) else none
 |none=>none
theorem Jik {μ sites s}:capV μ sites (.lref s 0)=Jig s sites (μ s):=by
 unfold capV Jig;rfl
theorem Jih {s sites cs b}:Jig s sites (some (cs,b))=if sites.contains s∧cs.all V.datC then some (.cptr cs 0) else none:=rfl
theorem Jij {μ sites k n}:capV μ sites (.int k n)=some (.int k n):=rfl
theorem Jii {μ sites n}:capV μ sites (.bool n)=some (.bool n):=rfl
theorem Jim {μ sites n}:capV μ sites (.str n)=some (.str n):=rfl
theorem Jil {μ sites z n}:capV μ sites (.slice z n)=some (.slice z n):=rfl
theorem Je0 {μ}:Jaf μ []=μ:=rfl
theorem Jeb {μ s l}:Jaf μ (s::l)=Jaf (upd μ s ((μ s).map fun m=>(m.1,true))) l:=rfl
def stE (S:St) (s i off m:Nat) (xs:List V):Option (Nat×List (List V)×Fz)→Option St
 |some (z,rows,.live)=>if rows.length=m then (rows[i]?).bind fun r=>(JH r off xs).bind fun r'=>some {S with A:=upd S.A s (some (z,rows.set i r',.live))} else none
 |_=>none
theorem JlF {S:St} {s i off m:Nat} {xs:List V} {z rows}:stE S s i off m xs (some (z,rows,.live))=if rows.length=m then (rows[i]?).bind fun r=>(JH r off xs).bind fun r'=>some ⟨S.ρ,S.μ,upd S.A s (some (z,rows.set i r',.live))⟩ else none:=rfl
theorem Jmn {S:St} {s n i off m x}:JC S (.e s) n (.eref s i off m) x=x.cells.bind fun xs=>if xs.length=n then (if xs.all V.datC then stE S s i off m xs (S.A s) else none) else none:=by
 unfold JC
 congr 1;funext xs
 split
 ·simp only[true_and];split
  ·unfold stE;rfl
  ·rfl
 ·rfl
def Je8 (S:St) (s z n k:Nat) (ys:List (List V)):Option (Nat×List (List V)×Fz)→Option (V×St)
 |some (z3,rows,.live)=>if z3=z∧rows.length=n∧k≤n∧rows.length+ys.length≤lim then
   some (.own s z (rows.length+ys.length),{S with A:=upd S.A s (some (z,rows.take k++(ys++rows.drop k),.live))}) else none
 |_=>none
theorem Ji4 {S : St} {s z n k : Nat} {ys rows} : Je8 S s z n k ys (some (z, rows, .live)) = if rows.length = n ∧ k ≤ n ∧ rows.length + ys.length ≤ lim then
      some (.own s z (rows.length + ys.length), ⟨S.ρ, S.μ, upd S.A s (some (z, rows.take k ++ (ys ++ rows.drop k), .live))⟩) else none := by simp [Je8]
def JgL (S:St) (s z:Nat):V→V→V→Option (V×St)
 |.own s' z' n,.int .i64 k,.slice z'' ys=>if s'=s∧z'=z∧z''=z then (if 0≤k then Je8 S s z n k.toNat ys (S.A s) else none) else none
 |_,_,_=>none
theorem Ji5 {S:St} {s z n k:Nat} {ys}:JgL S s z (.own s z n) (.int .i64 (k:Int)) (.slice z ys)=Je8 S s z n k ys (S.A s):=by simp[JgL]
def JeN (S:St) (d s z n k m:Nat):Option (Nat×List (List V)×Fz)→Option (Nat×List (List V)×Fz)→Option (V×St)
 |some (z3,rows,.live),none=>if z3=z∧rows.length=n∧k≤m∧m≤n∧n≤lim then
   some (.own d z (rows.take k++rows.drop m).length,{S with A:=upd (upd S.A s (some (z,[],.dead))) d (some (z,rows.take k++rows.drop m,.live))}) else none
 |_,_=>none
theorem Jiy {S : St} {d s z n k m : Nat} {rows} : JeN S d s z n k m (some (z, rows, .live)) none = if rows.length = n ∧ k ≤ m ∧ m ≤ n ∧ n ≤ lim then
      some (.own d z (rows.take k ++ rows.drop m).length, ⟨S.ρ, S.μ, upd (upd S.A s (some (z, [], .dead))) d (some (z, rows.take k ++ rows.drop m, .live))⟩) else none := by simp [JeN]
def Jgo (S:St) (d s z:Nat):V→V→V→Option (V×St)
 |.own s' z' n,.int .i64 k,.int .i64 m=>if s'=s∧z'=z then (if 0≤k∧0≤m then JeN S d s z n k.toNat m.toNat (S.A s) (S.A d) else none) else none
 |_,_,_=>none
theorem Jiz {S:St} {d s z n k m:Nat}:Jgo S d s z (.own s z n) (.int .i64 (k:Int)) (.int .i64 (m:Int))=JeN S d s z n k m (S.A s) (S.A d):=by simp[Jgo]
section
variable {κ:Nat→List V→Option V} {S:St} {Q:St→Prop} {e:Nat→V} {i:Nat} {ops:List Op}
theorem Jkj {dst:Option Nat} {gl:Bool} {f s z:Nat} {x y j:Arg}:Wr κ (⟨dst,gl,.ins f s z x j y,none⟩::ops) i e S Q=WrO κ dst gl ops i e Q (JgL S s z (argv e S.ρ x) (argv e S.ρ j) (argv e S.ρ y)):=by
 rw[JfR]
 congr 1
 simp only[ev,JgL];split
 ·rename_i s' z' n k z'' ys h1 h2 h3;rw[h1,h2,h3];simp only;split
  ·unfold Je8;by_cases hk:0≤k
   ·have e1:∀n:Nat,(k≤(n:Int))=(k.toNat≤n):=fun n=>propext (by omega);simp only[hk,true_and,GF,e1];rcases S.A s with _|⟨z3,rows,fz⟩
    ·rfl
    ·cases fz<;>rfl
   ·simp only[hk,false_and,and_false,GG];rcases S.A s with _|⟨z3,rows,fz⟩
    ·rfl
    ·cases fz<;>simp
  ·rfl
 ·rename_i h;split
  ·rename_i s' z' n k z'' ys h1 h2 h3;exact absurd h3 (h s' z' n k z'' ys h1 h2)
  ·rfl
theorem Jki {dst:Option Nat} {gl:Bool} {f s z:Nat} {x y j:Arg}:Wr κ (⟨dst,gl,.del f s z x j y,none⟩::ops) i e S Q=WrO κ dst gl ops i e Q (Jgo S (dst.getD 0) s z (argv e S.ρ x) (argv e S.ρ j) (argv e S.ρ y)):=by
 rw[JfR]
 congr 1
 simp only[ev,Jgo];split
 ·rename_i s' z' n k m h1 h2 h3;rw[h1,h2,h3];simp only;split
  ·unfold JeN;by_cases hk:0≤k
   ·by_cases hm:0≤m
    ·have e1:(k≤m)=(k.toNat≤m.toNat):=propext (by omega);have e2:∀n:Nat,(m≤(n:Int))=(m.toNat≤n):=fun n=>propext (by omega);simp only[hk,hm,and_self,true_and,GF,e1,e2];rcases S.A s with _|⟨z3,rows,fz⟩
     ·rfl
     ·cases fz<;>cases S.A (dst.getD 0)<;>rfl
    ·have e3:∀(p q:Prop),(p∧q∧k≤m)↔False:=fun p q=>⟨fun h=>by omega,fun h=>h.elim⟩;have e4:¬(k≤m):=by omega
     simp only[hk,hm,e4,and_false,false_and,GG];rcases S.A s with _|⟨z3,rows,fz⟩
     ·rfl
     ·cases fz<;>cases S.A (dst.getD 0)<;>simp
   ·simp only[hk,false_and,and_false,GG];rcases S.A s with _|⟨z3,rows,fz⟩
    ·rfl
    ·cases fz<;>cases S.A (dst.getD 0)<;>simp
  ·rfl
 ·rename_i h;split
  ·rename_i s' z' n k m h1 h2 h3;exact absurd h3 (h s' z' n k m h1 h2)
  ·rfl
end
theorem JiW {z rows k}:Ja9 z (.slice z rows) (.int k 0)=(rows[0]?).map fun r=>.cptr r 0:=by simp[Ja9]
theorem JiX {z rows k}:Ja9 z (.slice z rows) (.int k 1)=(rows[1]?).map fun r=>.cptr r 0:=by simp[Ja9]
theorem JiY {z rows k}:Ja9 z (.slice z rows) (.int k 2)=(rows[2]?).map fun r=>.cptr r 0:=by simp[Ja9]
theorem Jf4 {k d}:bound (some (.int k 0)) d=some 0:=rfl
theorem Jf5 {k d}:bound (some (.int k 1)) d=some 1:=rfl
theorem Jf6 {k d}:bound (some (.int k 2)) d=some 2:=rfl
attribute [go_sem] JiW JiX JiY Jf4 Jf5 Jf6
attribute [go_sem] JlF Jmn Ji4 Ji5 Jiy Jiz
attribute [go_sem high] Jkj Jki
attribute [go_sem] Jd6 Jiw Jik Jih Jij Jii Jim Jil Je0 Jeb
end Sg
namespace Sg
open _root_.Go (IntKind BinOp UnOp)
abbrev Kn:=Nat→Nat→Option (Nat×Bool)→List Op
abbrev Gd:=Option (Nat×Bool)
def qe (d i:Nat) (g:Gd):List Op:=[]
def qD (n:Nat) (k:Kn) (d i:Nat) (g:Gd):List Op:=k n i g
def y1 (j:Nat) (k:Kn) (d i:Nat) (g:Gd):List Op:=k d i (some (j,true))
def y0 (j:Nat) (k:Kn) (d i:Nat) (g:Gd):List Op:=k d i (some (j,false))
def yn (k:Kn) (d i:Nat) (g:Gd):List Op:=k d i none
def qr (v o:Nat) (k:Kn) (d i:Nat) (g:Gd):List Op:=⟨some d,false,.fad (.g v) o,g⟩::⟨some (d+1),false,.load (.v v) none (.l i),g⟩::k (d+2) (i+2) g
def qR (v o n:Nat) (k:Kn) (d i:Nat) (g:Gd):List Op:=⟨some d,false,.fad (.g v) o,g⟩::⟨some (d+1),false,.load (.v v) (some n) (.l i),g⟩::k (d+2) (i+2) g
def ya (k:Kn) (d i:Nat) (g:Gd):List Op:=⟨some d,false,.mov (.l (i-1)),g⟩::k (d+1) (i+1) (some (i,true))
def yo (k:Kn) (d i:Nat) (g:Gd):List Op:=⟨some d,false,.mov (.l (i-1)),g⟩::k (d+1) (i+1) (some (i,false))
def za (j:Nat) (k:Kn) (d i:Nat) (g:Gd):List Op:=⟨some d,false,.pick (.l j) (.l (i-1)) (.c (.bool false)),none⟩::k (d+1) (i+1) none
def zA (j:Nat) (k:Kn) (d i:Nat) (g:Gd):List Op:=⟨some d,true,.pick (.l j) (.l (i-1)) (.c (.bool false)),none⟩::k (d+1) (i+1) none
def zo (j:Nat) (k:Kn) (d i:Nat) (g:Gd):List Op:=⟨some d,false,.pick (.l j) (.c (.bool true)) (.l (i-1)),none⟩::k (d+1) (i+1) none
def zO (j:Nat) (k:Kn) (d i:Nat) (g:Gd):List Op:=⟨some d,true,.pick (.l j) (.c (.bool true)) (.l (i-1)),none⟩::k (d+1) (i+1) none
def qm (v:Nat) (k:Kn) (d i:Nat) (g:Gd):List Op:=⟨some d,false,.mov (.g v),g⟩::k (d+1) (i+1) g
def qf (v o:Nat) (k:Kn) (d i:Nat) (g:Gd):List Op:=⟨some d,false,.fad (.g v) o,g⟩::k (d+1) (i+1) g
def ql (v:Nat) (k:Kn) (d i:Nat) (g:Gd):List Op:=⟨some d,false,.load (.v v) none (.l (i-1)),g⟩::k (d+1) (i+1) g
def qb (v n:Nat) (k:Kn) (d i:Nat) (g:Gd):List Op:=⟨some d,false,.load (.v v) (some n) (.g v),g⟩::k (d+1) (i+1) g
def qp (k:Kn) (d i:Nat) (g:Gd):List Op:=⟨some d,false,.mov (.l (i-1)),g⟩::k (d+1) (i+1) g
def qv (v:Nat) (k:Kn) (d i:Nat) (g:Gd):List Op:=⟨some v,true,.mov (.l (i-1)),g⟩::k d (i+1) g
def qw (v:Nat) (k:Kn) (d i:Nat) (g:Gd):List Op:=⟨some v,true,.mov (.l (i-2)),g⟩::k d (i+1) g
def qV (v j:Nat) (k:Kn) (d i:Nat) (g:Gd):List Op:=⟨some v,true,.mov (.l j),g⟩::k d (i+1) g
def qc (f:Nat) (k:Kn) (d i:Nat) (g:Gd):List Op:=⟨some d,false,.call (.k f) .no none [.l (i-1)],g⟩::k (d+1) (i+1) g
def qd (f:Nat) (k:Kn) (d i:Nat) (g:Gd):List Op:=⟨some d,false,.call (.k f) .no none [.l (i-2),.l (i-1)],g⟩::k (d+1) (i+1) g
def q0 (f:Nat) (k:Kn) (d i:Nat) (g:Gd):List Op:=⟨some d,false,.call (.k f) .no none [],g⟩::k (d+1) (i+1) g
def qC (f:Nat) (xs:List Arg) (k:Kn) (d i:Nat) (g:Gd):List Op:=⟨some d,false,.call (.k f) .no none xs,g⟩::k (d+1) (i+1) g
def qz (v:Nat) (n:Int) (k:Kn) (d i:Nat) (g:Gd):List Op:=⟨some v,true,.mov (.c (.int .i64 n)),g⟩::k d (i+1) g
def qF (v:Nat) (k:Kn) (d i:Nat) (g:Gd):List Op:=⟨some v,true,.mov (.c (.bool false)),g⟩::k d (i+1) g
def qT (v:Nat) (k:Kn) (d i:Nat) (g:Gd):List Op:=⟨some v,true,.mov (.c (.bool true)),g⟩::k d (i+1) g
def qS (v z:Nat) (k:Kn) (d i:Nat) (g:Gd):List Op:=⟨some v,true,.mov (.c (.slice z [])),g⟩::k d (i+1) g
def qE (v:Nat) (k:Kn) (d i:Nat) (g:Gd):List Op:=⟨some v,true,.mov (.c (.str [])),g⟩::k d (i+1) g
def qn (k:Kn) (d i:Nat) (g:Gd):List Op:=⟨some d,false,.un .not (.l (i-1)),g⟩::k (d+1) (i+1) g
def qN (k:Kn) (d i:Nat) (g:Gd):List Op:=⟨some d,true,.un .not (.l (i-1)),g⟩::k (d+1) (i+1) g
def qg (o:Nat) (k:Kn) (d i:Nat) (g:Gd):List Op:=⟨some d,false,.fad (.l (i-1)) o,g⟩::k (d+1) (i+1) g
def qa (j:Nat) (k:Kn) (d i:Nat) (g:Gd):List Op:=⟨some d,false,.pick (.l j) (.l (i-1)) (.c (.bool false)),g⟩::k (d+1) (i+1) g
def qA (j:Nat) (k:Kn) (d i:Nat) (g:Gd):List Op:=⟨some d,true,.pick (.l j) (.l (i-1)) (.c (.bool false)),g⟩::k (d+1) (i+1) g
def qo (j:Nat) (k:Kn) (d i:Nat) (g:Gd):List Op:=⟨some d,false,.pick (.l j) (.c (.bool true)) (.l (i-1)),g⟩::k (d+1) (i+1) g
def qO (j:Nat) (k:Kn) (d i:Nat) (g:Gd):List Op:=⟨some d,true,.pick (.l j) (.c (.bool true)) (.l (i-1)),g⟩::k (d+1) (i+1) g
def qB (v u:Nat) (k:Kn) (d i:Nat) (g:Gd):List Op:=⟨some v,true,.box (.g u),g⟩::k d (i+1) g
def qh (s:Bool) (k:Kn) (d i:Nat) (g:Gd):List Op:=⟨some d,false,.len s (.l (i-1)),g⟩::k (d+1) (i+1) g
def qH (s:Bool) (k:Kn) (d i:Nat) (g:Gd):List Op:=⟨some d,true,.len s (.l (i-1)),g⟩::k (d+1) (i+1) g
def qx (o:Nat) (k:Kn) (d i:Nat) (g:Gd):List Op:=⟨some d,false,.ext (.l (i-1)) o,g⟩::k (d+1) (i+1) g
def qy (o:Nat) (k:Kn) (d i:Nat) (g:Gd):List Op:=⟨some d,false,.ext (.l (i-2)) o,g⟩::k (d+1) (i+1) g
def qY (j o:Nat) (k:Kn) (d i:Nat) (g:Gd):List Op:=⟨some d,false,.ext (.l j) o,g⟩::k (d+1) (i+1) g
def qs (v n a b:Nat) (k:Kn) (d i:Nat) (g:Gd):List Op:=⟨none,false,.store (.v v) n (.l a) (.l b),g⟩::k d (i+1) g
def qt (v n b:Nat) (k:Kn) (d i:Nat) (g:Gd):List Op:=⟨none,false,.store (.v v) n (.g v) (.l b),g⟩::k d (i+1) g
def qu (v a:Nat) (n:Int) (k:Kn) (d i:Nat) (g:Gd):List Op:=⟨none,false,.store (.v v) 1 (.l a) (.c (.int .i64 n)),g⟩::k d (i+1) g
def qi (z:Nat) (k:Kn) (d i:Nat) (g:Gd):List Op:=⟨some d,false,.iad z (.l (i-2)) (.l (i-1)),g⟩::k (d+1) (i+1) g
def qj (k:Kn) (d i:Nat) (g:Gd):List Op:=⟨some d,false,.load (.c) none (.l (i-1)),g⟩::k (d+1) (i+1) g
def qJ (n:Nat) (k:Kn) (d i:Nat) (g:Gd):List Op:=⟨some d,false,.load (.c) (some n) (.l (i-1)),g⟩::k (d+1) (i+1) g
def qk (o:BinOp) (n:Int) (k:Kn) (d i:Nat) (g:Gd):List Op:=⟨some d,false,.bin o (.l (i-1)) (.c (.int .i64 n)),g⟩::k (d+1) (i+1) g
def qK (o:BinOp) (n:Int) (k:Kn) (d i:Nat) (g:Gd):List Op:=⟨some d,true,.bin o (.l (i-1)) (.c (.int .i64 n)),g⟩::k (d+1) (i+1) g
def qq (o:BinOp) (j:Nat) (k:Kn) (d i:Nat) (g:Gd):List Op:=⟨some d,false,.bin o (.l j) (.l (i-1)),g⟩::k (d+1) (i+1) g
def qQ (o:BinOp) (j:Nat) (k:Kn) (d i:Nat) (g:Gd):List Op:=⟨some d,true,.bin o (.l j) (.l (i-1)),g⟩::k (d+1) (i+1) g
def qG (v:Nat) (z:List V) (k:Kn) (d i:Nat) (g:Gd):List Op:=⟨some v,true,.alloc z,g⟩::k d (i+1) g
def q1 (x:K) (k:Kn) (d i:Nat) (g:Gd):List Op:=⟨some d,false,x,g⟩::k (d+1) (i+1) g
def q2 (v:Nat) (x:K) (k:Kn) (d i:Nat) (g:Gd):List Op:=⟨some v,false,x,g⟩::k d (i+1) g
def q3 (x:K) (k:Kn) (d i:Nat) (g:Gd):List Op:=⟨some d,true,x,g⟩::k (d+1) (i+1) g
def q4 (v:Nat) (x:K) (k:Kn) (d i:Nat) (g:Gd):List Op:=⟨some v,true,x,g⟩::k d (i+1) g
def q5 (x:K) (k:Kn) (d i:Nat) (g:Gd):List Op:=⟨none,false,x,g⟩::k d (i+1) g
def rs (d:Nat) (k:Kn) (c:C):C:=.seq (.region false (k d 0 none)) c
def rt (d:Nat) (k:Kn) (c:C):C:=.seq (.region true (k d 0 none)) c
def r1 (d:Nat) (k:Kn):C:=.region false (k d 0 none)
def r2 (d:Nat) (k:Kn):C:=.region true (k d 0 none)
def sq (a b:C):C:=.seq a b
def i1 (d:Nat) (k:Kn) (n:Nat) (a b:C):C:=.seq (.seq (.region false (k d 0 none)) (.cond (.g n) a .skip)) b
def i2 (d:Nat) (k:Kn) (n:Nat) (a b:C):C:=.seq (.seq (.region true (k d 0 none)) (.cond (.g n) a .skip)) b
def cd (n:Nat) (a b:C):C:=.cond (.g n) a b
def bk (n:Nat) (a:C):C:=.block n a
def lq (d:Nat) (k:Kn) (n e:Nat) (c:C):C:=.seq (.seq (.region false (k d 0 none)) (.cond (.g n) .skip (.exit e))) c
def ls (l:List Nat):List Arg:=l.map .l
def opsG:List Op→List Nat
 |[]=>[]
 |o::l=>match o.gl,o.dst with
  |true,some d=>d::opsG l
  |_,_=>opsG l
def glC:C→List Nat
 |.region _ ops=>opsG ops
 |.seq a b=>glC a++glC b
 |.cond _ a b=>glC a++glC b
 |.block _ c=>glC c
 |.loop _ _ _ _ c=>glC c
 |_=>[]
def mF (n:Nat) (r:List Res) (o:Option Nat) (c:C):F:=⟨n,List.range n++glC c,r,o,c⟩
instance pwI:HPow (Kn→Kn) Kn Kn:=⟨fun a k=>a k⟩
theorem pw_e (a:Kn→Kn) (k:Kn):a ^ k=a k:=rfl
theorem ls_c {n:Nat} {l:List Nat}:ls (n::l)=.l n::ls l:=rfl
theorem ls_n:ls []=[]:=rfl
theorem mF_b {n r o c}:(mF n r o c).body=c:=rfl
theorem mF_p {n r o c}:(mF n r o c).np=n:=rfl
theorem mF_r {n r o c}:(mF n r o c).res=r:=rfl
theorem mF_o {n r o c}:(mF n r o c).own=o:=rfl
attribute [go_sem] pw_e Nat.reduceSub ls_c ls_n mF_b mF_p mF_r mF_o qe qD y1 y0 yn qr qR rs rt r1 r2 sq i1 i2 cd bk lq ya yo za zA zo zO qm qf ql qb qp qv qw qV qc qd q0 qC qz qF qT qS qE qn qN qg qa qA qo qO qB qh qH qx qy qY qs qt qu qi qj qJ qk qK qq qQ qG q1 q2 q3 q4 q5
end Sg
