/- A checked abstract run of translated code is sound: for every program and input that pass its checks. A general part, used by the proofs of this seat. -/
import Derived.Laws.BytesArg
import Derived.Lib.SliceRun
import Derived.Orders
import Derived.Attr
import Derived.IntWalk
import Derived.Shelf.Unicode.DecodeAny
import Derived.Lib.OthersKept
import Derived.Shelf.Strings.OnBuilder
import Derived.Shelf.Strings.BuilderK
import Derived.Shelf.Strings.BuilderRune
import Derived.WalkKit
import Derived.BigCall
import Derived.Test.YthppemaclcgpjaaGreatDoorG1
set_option linter.unusedSimpArgs false
set_option linter.unusedVariables false
set_option linter.constructorNameAsVariable false
set_option linter.defProp false
set_option maxHeartbeats 2000000
namespace Sg
open Go Go.RowKit
section
variable {P:Program} {cx:Cx} {B:Nat→Prop} {X:Nat→Prop} {S:St} {w:World} {β:Nat→Nat} {α:Nat→Value} {M:Nat→Prop}
variable {a:Act} {ds:List (Option Nat)} {e:Nat→V} {κ:Nat→List V→Option V} {ownOf:Nat→Option Nat}
theorem JbY:∀(fs:List Field) (pl:List (Nat×Nat)),placesL P fs=some pl→(fs.mapM fun f=>do pure (f.offset,←Go.sizeOf f.type):Sem (List (Nat×Nat))).run P w=.ok pl w
 |[],pl,h=>by simp only[placesL,Ga] at h;subst h;simp
 |f::fs,pl,h=>by
  simp only[placesL,Gb,Ga] at h;obtain⟨n,hn,r,hr,rfl⟩:=h;have ih:=JbY fs r hr;simp only[List.mapM_cons,Sem.run_bind,Jg hn w,Result.andThen,Sem.run_pure,ih]
theorem Jep {t:TypeId} {pl:List (Nat×Nat)} (h:JbC P t=some pl):∃fs,P.underlying t=some (.struct fs)∧(fs.mapM fun f=>do pure (f.offset,←Go.sizeOf f.type):Sem (Array (Nat×Nat))).run P w=.ok pl.toArray w:=by
 unfold JbC at h;split at h
 ·rename_i fs hu;refine⟨fs,hu,?_⟩;rw[Array.mapM_eq_mapM_toList];have:=JbY (w:=w) fs.toList pl h;simp only[map_eq_pure_bind,Sem.run_bind,this,Result.andThen,Sem.run_pure]
 ·simp at h
theorem newData_post (h:RelW cx B X S w β α M) {z n:Nat} {rows:List (List V)} {cells:Array Value} {el:TypeId} (hdr:DR cx w (orP X M) z cells.toList rows) (hlen:rows.length=n) :
  OpPost cx B X S w β α M S (.slice z rows) (.slice (some ⟨w.heap.size,0,none⟩) n n) {w with heap:=w.heap.push (.cells cells el)}:=by
 have hgr:=Jci w (.cells cells el)
 have hat:=JdW w (.cells cells el)
 have hbel:=JbJ (B:=B) w (.cells cells el) h.size
 have hlt:w.heap.size<({w with heap:=w.heap.push (.cells cells el)}:World).heap.size:=by simp
 generalize ({w with heap:=w.heap.push (.cells cells el)}:World)=w2 at *
 have hw:=h.grow hgr (M':=M) (fun _ h=>h) (fun _ h=>.inl h)
 have hD:∀u x,RelD cx w (orP X M) u x→RelD cx w2 (orP X M) u x:=fun _ _ hr=>Jao hgr (fun _ h=>.inl h) hr
 have hdr':=hdr.mono hD
 refine⟨β,α,M,hw,fun u x hu=>RelT.tr hD (ATr.refl S α) (fun s hs=>⟨hs,rfl⟩) hu,?_,hbel⟩
 refine Jbh (o:=0) (c:=cells) (e:=el) (fr:=(0,0)) hlt ?_ hat (by omega) hdr'.2.1 (fun i j hi hj=>?_) hlen
 ·rintro (hx|hm)
  ·exact Nat.lt_irrefl _ (h.size _ (h.xb _ hx))
  ·have:=(h.m _ hm).2;omega
 ·obtain⟨u,q1,q2,q3⟩:=hdr'.2.2 i j hi hj
  exact⟨u,by simpa using q1,q2,q3⟩
theorem JcX {P:Program} {w:World} {t el:TypeId} {x y:Operand} {a0:Option Addr} {n c:Nat} (h:P.underlying t=some (.slice el)) :
  (do eqGuard .eql t x y (.slice a0 n c) (.slice none 0 0);Go.binOp .eql t (.slice a0 n c) (.slice none 0 0):Sem Value).run P w=.ok (.bool a0.isNone) w:=by
 have hG:(eqGuard .eql t x y (.slice a0 n c) (.slice none 0 0)).run P w=.ok () w:=by
  unfold eqGuard
  rfl
 simp only[Sem.run_bind,hG,Result.andThen]
 exact Lib.run_eql_slice_nil w t el a0 n c 0 0 h
theorem Jfd {P:Program} {w:World} {t:TypeId} {ms} {x:Operand} (h:P.underlying t=some (.interface ms)) :
  (do eqGuard .neq t x (.const .nilIface) .nilIface .nilIface;Go.binOp .neq t .nilIface .nilIface:Sem Value).run P w=.ok (.bool false) w:=by
 have hG:(eqGuard .neq t x (.const .nilIface) .nilIface .nilIface).run P w=.ok () w:=by
  unfold eqGuard;simp
 simp only[Sem.run_bind,hG,Result.andThen]
 exact run_neq_nil_nil w t (by rw[h];simp[Program.methodsAt,h])
theorem Jfe {P:Program} {w:World} {t u:TypeId} {v:Value} {ms} {x y:Operand} (h:P.underlying t=some (.interface ms)) :
  (do eqGuard .neq t x y (.iface u v) .nilIface;Go.binOp .neq t (.iface u v) .nilIface:Sem Value).run P w=.ok (.bool true) w:=by
 have hG:(eqGuard .neq t x y (.iface u v) .nilIface).run P w=.ok () w:=by
  unfold eqGuard
  rfl
 simp only[Sem.run_bind,hG,Result.andThen]
 exact run_neq_held_nil w t u v (by rw[h];simp[Program.methodsAt,h])
def okOwn (ownOf:Nat→Option Nat):K→Bool
 |.call (.k f) _ own _=>own.isNone||own == ownOf f
 |.call (.v _) _ own _=>own.isNone
 |.ins f _ z _ _ _=>decide (z<1000)&&ownOf f == some (1000+z)
 |.del f _ z _ _ _=>decide (z<1000)&&ownOf f == some (2000+z)
 |.rcall f _ k _ _=>decide (k<1000)&&ownOf f == some (3000+k)
 |_=>true
theorem Jhj {op:Go.Op} {f s z:Nat} {x y i:Arg} (h:okK P cx ds op (.ins f s z x i y)=true):∃c:Call,op=.call c∧c.callee=.value (.func (cx.fm f))∧Ji cx ds c.args.toList [x,i,y]=true:=by
 unfold okK at h;split at h<;>first|(simp_all;done)|skip
 all_goals (rename_i f' args ts f'' s' z' a' b' c' heq;simp only[K.ins.injEq] at heq;obtain⟨rfl,rfl,rfl,rfl,rfl,rfl⟩:=heq;simp only[Bool.and_eq_true,beq_iff_eq] at h;exact⟨_,rfl,by rw[←h.1],h.2⟩)
theorem Jg9 {op:Go.Op} {f s z:Nat} {x y i:Arg} (h:okK P cx ds op (.del f s z x i y)=true):∃c:Call,op=.call c∧c.callee=.value (.func (cx.fm f))∧Ji cx ds c.args.toList [x,i,y]=true:=by
 unfold okK at h;split at h<;>first|(simp_all;done)|skip
 all_goals (rename_i f' args ts f'' s' z' a' b' c' heq;simp only[K.del.injEq] at heq;obtain⟨rfl,rfl,rfl,rfl,rfl,rfl⟩:=heq;simp only[Bool.and_eq_true,beq_iff_eq] at h;exact⟨_,rfl,by rw[←h.1],h.2⟩)
theorem Jck {o:Oper} {c:Call} {f:FuncId} (ho:o.op=.call c) (hc:c.callee=.value (.func f)) (hE:Ent P f):(execOp a.eval o).run P w=.ok (.enter f (c.args.map a.eval)) w:=by
 have hres:(resolve a.eval c o.type).run P w=.ok {target:=.fn (.func f) #[],args:=#[]++c.args.map a.eval} w:=by
  unfold resolve;rw[hc];rfl
 unfold execOp;simp only[ho,Sem.run_bind,hres,Result.andThen,invoke];rw[Jy hE];simp
theorem Jb5 (hg:∀t,RelT cx w (orP X M) S β α (a.tmps.getD t undef) (S.ρ t)) (hl:∀i d,ds[i]?=some (some d)→RelT cx w (orP X M) S β α (a.tmps.getD d undef) (e i))
  {c:Call} {x y z:Arg} (h:Ji cx ds c.args.toList [x,y,z]=true):∃u1 u2 u3,c.args.map a.eval=#[u1,u2,u3]∧RelT cx w (orP X M) S β α u1 (argv e S.ρ x)∧RelT cx w (orP X M) S β α u2 (argv e S.ρ y)∧RelT cx w (orP X M) S β α u3 (argv e S.ρ z):=by
 obtain⟨hlen,hrel⟩:=JZ hg hl _ _ h
 obtain⟨u1,p1,q1⟩:=hrel 0 (by simp)
 obtain⟨u2,p2,q2⟩:=hrel 1 (by simp)
 obtain⟨u3,p3,q3⟩:=hrel 2 (by simp)
 refine⟨u1,u2,u3,?_,q1,q2,q3⟩
 have hl:(c.args.toList.map a.eval).length=3:=by simpa using hlen
 generalize hll:c.args.toList.map a.eval=l at p1 p2 p3 hl
 match l,hl with
 |[a1,a2,a3],_=>
  simp at p1 p2 p3
  subst p1;subst p2;subst p3
  apply Array.ext'
  simpa using hll
theorem JcD {v:Value} {k:IntKind} {n:Int} (h:RelT cx w (orP X M) S β α v (.int k n)):v=.int k n:=by
 simp only[RelT] at h;cases h;rfl
structure KOK (P:Program) (cx:Cx) (ownOf:Nat→Option Nat) (κ:Nat→List V→Option V):Prop where
 call:∀f args r,κ f args=some r→Ctr P cx (ownOf f) f args r
 ins:∀f z,z<1000→ownOf f=some (1000+z)→∃tS el,InsC P (cx.fm f) z tS el
 del:∀f z,z<1000→ownOf f=some (2000+z)→DelC P (cx.fm f) z
 rf:∀f k,k<1000→ownOf f=some (3000+k)→∀args r,κ f args=some r→CtrR P cx k f args r
theorem b2s_ok {P:Program} {cx:Cx} {w:World} {Y:Nat→Prop} {u:Value} {rows:List (List V)} {l:List UInt8} {src dst e:TypeId} (hr:RelD cx w Y u (.slice 1 rows)) (hl:bytesR rows=some l)
  (hs:P.underlying src=some (.slice e)) (he:P.underlying e=some (.int .u8)) (hd:P.underlying dst=some .string) :
  ∃q,(Go.convert src dst u).run P w=.ok q w∧RelD cx w Y q (.str l):=by
 have hx:∀(rows:List (List V)) (l:List UInt8),bytesR rows=some l→∃xs:List Int,rows=xs.map (fun n=>[V.int .u8 n])∧l=xs.map fun n=>UInt8.ofNat n.toNat:=by
  intro rows
  induction rows with
  |nil=>intro l h;simp only[bytesR,Ga] at h;exact⟨[],rfl,h.symm⟩
  |cons r rs ih=>
   intro l h;unfold bytesR at h;split at h
   ·rename_i h0;simp at h0
   ·rename_i n rs' heq;simp only[Gab] at heq;obtain⟨rfl,rfl⟩:=heq;simp only[Gb,Ga] at h;obtain⟨l',h1,rfl⟩:=h;obtain⟨xs,rfl,rfl⟩:=ih l' h1;exact⟨n::xs,rfl,rfl⟩
   ·simp at h
 obtain⟨xs,rfl,rfl⟩:=hx rows l hl
 have hq:RelD cx w Y (.string (strOfNums xs)) (.str (xs.map fun n=>UInt8.ofNat n.toNat)):=by
  have:=RelD.str (cx:=cx) (w:=w) (X:=Y) (strOfNums xs);rwa [strOfNums_data] at this
 refine⟨_,?_,hq⟩
 rcases JR hr with ⟨⟨a,rfl⟩,hn⟩|⟨b,o,cap,c,el,fr,rfl,hb,hX,hw,hcap,hz,hc⟩
 ·have hxs:xs=[]:=by simpa using hn
  subst hxs
  cases a with
  |none=>rw[run_convert_bytes_nil w src e hs he 0 0 dst hd];rfl
  |some a=>
   rw[run_convert_bytes_string w src dst e _ 0 0 hs he hd,run_bytesToString w a 0 0 [] (by
    have:=run_loadCells_list (P:=P) w a [] (fun j v hj=>by simp at hj);simpa using this)]
   rfl
 ·have hlen:(xs.map (fun n=>[V.int .u8 n])).length=xs.length:=by simp
  rw[hlen]
  refine run_convert_bytes_arg w src e hs he b o xs.length cap xs rfl (fun i hi=>?_) dst hd
  obtain⟨u,p,q,r⟩:=hc i 0 (by rw[hlen];exact hi) (by omega)
  have hg:gv (gr (xs.map (fun n=>[V.int .u8 n])) i) 0=.int .u8 (xs.getD i 0):=by
   simp[gr,gv,hi]
  rw[hg] at r
  cases r
  simp only[Nat.mul_one,Nat.add_zero] at p
  simp[World.cell?,hw,p]
theorem JeX {o:Oper} {k:K} {d:Nat} {r:V} {S1:St} (h:RelW cx B X S w β α M)
  (hg:∀t,RelT cx w (orP X M) S β α (a.tmps.getD t undef) (S.ρ t)) (hl:∀i d,ds[i]?=some (some d)→RelT cx w (orP X M) S β α (a.tmps.getD d undef) (e i))
  (hκ:KOK P cx ownOf κ) (hok:okK P cx ds o.op k=true) (hown:okOwn ownOf k=true)
  (hev:ev κ d e S k=some (r,S1)):Does P o a w (OpPost cx B X S w β α M S1 r):=by
 have arg:=fun {x:Operand} {y:Arg} (h:Ja cx ds x y=true)=>J8 hg hl h
 cases k with
 |mov y=>
  obtain⟨x,hop,hx⟩:=Jhq hok
  simp only[ev,Ga,Gf] at hev
  obtain⟨rfl,rfl⟩:=hev
  refine .inl ⟨a.eval x,w,?_,.pure h (arg hx)⟩
  rcases hop with hop|hop<;>simp[execOp,hop]
 |pick c x y=>
  obtain⟨c',x',y',hop,h1,h2,h3⟩:=Jfy hok
  simp only[ev] at hev
  have hc:=arg h1
  split at hev<;>try (simp at hev;done)
  rename_i t ht
  rw[ht] at hc
  simp only[Ga,Gf] at hev
  obtain⟨rfl,rfl⟩:=hev
  refine .inl ⟨if t then a.eval x' else a.eval y',w,?_,.pure h ?_⟩
  ·simp[execOp,hop,Jab hc,asBool]
  ·cases t
   ·exact arg h3
   ·exact arg h2
 |box y=>
  obtain⟨t,x,hop,hx⟩:=Jg8 hok
  simp only[ev] at hev
  split at hev
  ·simp at hev
  ·rename_i hd
   simp only[Gb,Ga,Gf] at hev
   obtain⟨cs,hcs,rfl,rfl⟩:=hev
   have:=newVar_post (t:=t) h hd (cells_rel (arg hx) hcs)
   rw[Array.toArray_toList] at this
   exact .value (s:=Instr.box t (a.eval x)) (by simp[execOp,hop]) (by simp[Instr.box,newVar,newRow,Result.andThen]) this
 |alloc z=>
  obtain⟨t,hop,hz⟩:=Jei hok
  simp only[ev] at hev
  split at hev
  ·simp at hev
  ·rename_i hd
   simp only[Ga,Gf] at hev
   obtain⟨rfl,rfl⟩:=hev
   obtain⟨v,hv,hvz⟩:=Jbf (P:=P) (w:=w) hz
   have:=newVar_post (t:=t) h hd (JbE hvz)
   rw[Array.toArray_toList] at this
   exact .value (s:=Instr.alloc t true (.tuple #[])) (by simp[execOp,hop]) (by simp[Instr.alloc,hv,newVar,newRow,Result.andThen]) this
 |build z qs=>
  obtain⟨t,ps,hop,hz,hcase⟩:=Jej hok
  simp only[ev,Gb,Ga,Gf] at hev
  obtain⟨cs,hcs,rfl,rfl⟩:=hev
  obtain⟨v,hv,hvz⟩:=Jbf (P:=P) (w:=w) hz
  rcases hcase with ⟨pl,hpl,hok'⟩|⟨harr,rfl,rfl⟩
  rotate_left
  ·simp only[Gp,Jag,Ga] at hcs
   subst hcs
   unfold arrT at harr
   split at harr
   ·rename_i m e hu
    obtain⟨sz,hsz⟩:=Gw.1 harr
    have hcr:=JbE (cx:=cx) (w:=w) (X:=orP X M) (S:=S) (α:=α) hvz
    refine .value (s:=Instr.build t ((#[]:Array (Nat×Operand)).map fun (i,x)=>(i,a.eval x))) (v:=.agg v.cells) (by simp only[execOp,hop]) ?_ (.pure h (by simpa using hcr.agg (β:=β)))
    unfold Instr.build
    simp only[Sem.run_bind,hv,Result.andThen,run_underlying hu w,Jg hsz w,Array.toList_map,Gp,Instr.fill,Sem.run_pure]
   ·simp at harr
  obtain⟨cells,hf,hcr⟩:=JdN hg hl ps.toList qs v.cells z cs hok' (JbE hvz) hcs
  obtain⟨fs,hu,hpl'⟩:=Jep (w:=w) hpl
  refine .value (s:=Instr.build t (ps.map fun (i,x)=>(i,a.eval x))) (v:=.agg cells) (by simp only[execOp,hop]) ?_ (.pure h (by simpa using hcr.agg (β:=β)))
  unfold Instr.build
  simp only[Sem.run_bind,hv,Result.andThen,run_underlying hu w,hpl',Array.toList_map,List.getElem?_toArray,hf,Sem.run_pure]
 |mks z n zero qs=>
  simp only[ev,Gb,Ga,Gf] at hev
  obtain⟨rows,hrows,rfl,rfl⟩:=hev
  rcases JdS hok with ⟨t,len,ps,el,hop,h1,h2,h3,h4,h5,h6,h7,h8⟩|⟨t,el,ie,hop,h1,h2,h3,h4,h5,h6,rfl,h7,h8,h9⟩
  rotate_left
  ·simp only[Gp,Jr,Ga] at hrows
   subst hrows
   obtain⟨cells,hrun,hdr⟩:=make_ok (cx:=cx) (w:=w) (X:=orP X M) h1 h2 h3 h4 h5 h7 h8 h9 h6
   have hpost:=newData_post (el:=el) (n:=n) h hdr (by simp)
   generalize ({w with heap:=w.heap.push (.cells cells el)}:World)=w2 at hrun hpost
   refine .inl ⟨_,w2,?_,hpost⟩
   unfold execOp
   rw[hop]
   simp only[Sem.run_bind,Act.eval]
   erw [hrun]
   rfl
  obtain⟨cells,hrun,hdr,hlen⟩:=mks_ok hg hl h1 h2 h3 h4 h5 h6 h7 h8 hrows
  have e1:(ps.toList.map fun (i,x)=>(i,a.eval x)).toArray=ps.map fun (i,x)=>(i,a.eval x):=by apply Array.ext';simp
  rw[e1] at hrun
  have hpost:=newData_post (el:=el) h hdr hlen
  generalize ({w with heap:=w.heap.push (.cells cells el)}:World)=w2 at hrun hpost
  refine .inl ⟨_,w2,?_,hpost⟩
  unfold execOp
  rw[hop]
  simp only[Sem.run_bind]
  erw [hrun]
  rfl
 |mko z=>
  obtain⟨x,hop,rfl⟩:=Jhp hok
  simp only[ev] at hev
  split at hev
  ·simp at hev
  ·rename_i hd
   simp only[Ga,Gf] at hev
   obtain⟨rfl,rfl⟩:=hev
   refine .inl ⟨.slice none 0 0,w,by rcases hop with hop|hop<;>simp[execOp,hop,Act.eval],?_⟩
   have hadd:=h.addArr (d:=d) (z0:=z) (rows0:=[]) (v0:=.slice none 0 0) hd ⟨fun i hi=>by simp at hi,.inl ⟨rfl,rfl⟩⟩ (fun b hb=>by simp[hdr] at hb) (fun s b _ hb=>by simp[hdr] at hb) (fun s z' r f _ _ b hb=>by simp[hdr] at hb)
   have hT:ATr S {S with A:=upd S.A d (some (z,[],.live))} α (upd α d (.slice none 0 0)):=fun s z' r f hs=>by
    have:s≠d:=fun e=>by rw[e,hd] at hs;simp at hs
    exact⟨r,f,by simp[upd,this,hs],fun hf=>⟨hf,Gm _,fun _=>by simp[upd,this]⟩⟩
   exact⟨β,_,M,hadd,fun u x hu=>RelT.tr (fun _ _ h=>h) hT (fun s hs=>⟨hs,rfl⟩) hu,⟨[],.live,none,0,by simp[upd],rfl,by simp,fun _=>⟨by simp,fun _=>by simp[upd]⟩⟩,Kept.refl _ _⟩
 |mkb z n zero qs=>
  rcases JdS (Jho hok) with ⟨t,len,ps,el,hop,h1,h2,h3,h4,h5,h6,h7,h8⟩|⟨t,el,ie,hop,-⟩
  rotate_left
  ·rw[hop] at hok
   simp[okK] at hok
  simp only[ev,Gb] at hev
  obtain⟨rows,hrows,hev⟩:=hev
  obtain⟨cells,hrun,hdr,hlen⟩:=mks_ok hg hl h1 h2 h3 h4 h5 h6 h7 h8 hrows
  have e1:(ps.toList.map fun (i,x)=>(i,a.eval x)).toArray=ps.map fun (i,x)=>(i,a.eval x):=by apply Array.ext';simp
  rw[e1] at hrun
  have hat:(w.heap.push (.cells cells el):Array Obj)[w.heap.size]?=some (.cells cells el):=by simp
  have hold:∀k,k<w.heap.size→(w.heap.push (.cells cells el):Array Obj)[k]?=w.heap[k]?:=fun k hk=>by
   rw[Array.getElem?_push];simp[Nat.ne_of_lt hk]
  have hbel:Below w.heap.size w {w with heap:=w.heap.push (.cells cells el)}:=⟨rfl,rfl,rfl,by simp,hold⟩
  have hD:∀u x,RelD cx w (orP X M) u x→RelD cx {w with heap:=w.heap.push (.cells cells el)} (orP (orP X M) fun b=>b=w.heap.size) u x:=fun u x hr=>
   hr.mono (by simp) (fun b hb _=>hold b hb) (fun b hb hn hx=>by
    rcases hx with hx|hx
    ·exact hn hx
    ·omega)
  have hall:=hdr.mono hD
  have hro:ROut cx w {w with heap:=w.heap.push (.cells cells el)} (orP X M) (some 0) (.slice (some ⟨w.heap.size,0,none⟩) n n) (.slice z rows):=
   ⟨_,z,rows,fun b=>b=w.heap.size,fun b hb=>by subst hb;exact⟨Gm _,by simp⟩,fun b hb=>by simpa [Sg.hdr,eq_comm] using hb,
    ArrOK.of_DR hat hall (fun k hk=>by simp) (by omega) (by
     have:=hdr.1;rw[Array.length_toList,hlen] at this;omega) hlen,.inl ⟨rfl,rfl⟩⟩
  have hpost:=adopt_ok (own:=some 0) h hbel (.inr rfl) hro (fun b hb=>by
   rcases hb with hb|hb
   ·exact h.size b (h.xb b hb)
   ·exact (h.m b hb).2) hev
  generalize ({w with heap:=w.heap.push (.cells cells el)}:World)=w2 at hrun hpost
  refine .inl ⟨_,w2,?_,hpost⟩
  unfold execOp
  rw[hop]
  simp only[Sem.run_bind]
  erw [hrun]
  rfl
 |frz s y=>
  obtain⟨x,hop,h1⟩:=Jhf hok
  simp only[ev] at hev
  have r1:=arg h1
  split at hev<;>try (simp at hev;done)
  rename_i s' z n hy
  split at hev<;>try (simp at hev;done)
  rename_i e0
  subst e0
  simp only[Gb,Ga,Gf] at hev
  obtain⟨v,hv,rfl,rfl⟩:=hev
  rw[hy] at r1
  obtain⟨M',f1,f2,f3,f4⟩:=frzA_ok [s'] h
  refine .inl ⟨a.eval x,w,by simp[execOp,hop],β,α,M',f1,fun u x hu=>RelT.tr (S':={S with A:=Jt S.A [s']}) (fun _ _ hr=>Jaw f2 hr) f3 (fun s hs=>⟨hs,rfl⟩) hu,
   .of_data (toDC_ok h (x:=.own s' z n) r1 hv (fun b hb=>hb.imp id (f2 b)) (fun s hs b hb hex hn=>?_)),Kept.refl _ _⟩
  rcases hn with hx|hm
  ·obtain⟨z,rows,f,e1,e2⟩:=hex
   exact ((h.arr s z rows f e1 e2).2 b hb).1 (h.xb b hx)
  ·exact f4 s (by simpa [Jc] using hs) b hb hex hm
 |nilq y=>
  obtain⟨t,x,t',el,hop,h1,h2⟩:=Jfx hok
  simp only[ev] at hev
  have r1:=arg h1
  split at hev<;>simp only[Ga,Gf,reduceCtorEq] at hev
  ·rename_i z hz
   obtain⟨rfl,rfl⟩:=hev
   rw[hz] at r1
   simp only[RelT] at r1
   generalize hv:a.eval x=v at r1
   cases r1
   exact .value (s:=do eqGuard .eql t x (.const (.slice none 0 0)) (a.eval x) (.slice none 0 0);Go.binOp .eql t (a.eval x) (.slice none 0 0)) (v:=.bool true) (by simp only[execOp,hop];rfl) (by rw[hv];exact JcX h2) (.pure h (RelD.bool _))
  ·rename_i z rows hz
   obtain⟨rfl,rfl⟩:=hev
   rw[hz] at r1
   simp only[RelT] at r1
   generalize hv:a.eval x=v at r1
   cases r1
   exact .value (s:=do eqGuard .eql t x (.const (.slice none 0 0)) (a.eval x) (.slice none 0 0);Go.binOp .eql t (a.eval x) (.slice none 0 0)) (v:=.bool false) (by simp only[execOp,hop];rfl) (by rw[hv];exact JcX h2) (.pure h (RelD.bool _))
 |ifn y=>
  obtain⟨t,x,t',ms,hop,h1,h2⟩:=Jhi hok
  simp only[ev] at hev
  have r1:=arg h1
  split at hev<;>simp only[Ga,Gf,reduceCtorEq] at hev
  ·rename_i hz
   obtain⟨rfl,rfl⟩:=hev
   rw[hz] at r1
   simp only[RelT] at r1
   generalize hv:a.eval x=v at r1
   cases r1
   exact .value (s:=do eqGuard .neq t x (.const .nilIface) (a.eval x) .nilIface;Go.binOp .neq t (a.eval x) .nilIface) (v:=.bool false) (by simp only[execOp,hop];rfl) (by rw[hv];exact Jfd h2) (.pure h (.of_data (.bool _)))
  ·rename_i tt vv hz
   obtain⟨rfl,rfl⟩:=hev
   rw[hz] at r1
   simp only[RelT] at r1
   generalize hv:a.eval x=v at r1
   cases r1
   exact .value (s:=do eqGuard .neq t x (.const .nilIface) (a.eval x) .nilIface;Go.binOp .neq t (a.eval x) .nilIface) (v:=.bool true) (by simp only[execOp,hop];rfl) (by rw[hv];exact Jfe h2) (.pure h (.of_data (.bool _)))
 |load l n y=>
  obtain⟨t,p,hop,hp,hu,hn⟩:=Jfu hok
  simp only[ev,Gb,Ga,Gf] at hev
  obtain⟨v,hv,rfl,rfl⟩:=hev
  obtain⟨q,hrun,hq⟩:=Jcz (l:=l) h (arg hp) hu hn hv
  exact .value (s:=Instr.loadAt t (a.eval p)) (by simp[execOp,hop]) hrun (.pure h hq)
 |ldf s v n y=>
  obtain⟨t,p,hop,hp,hu,hn⟩:=Jhl hok
  simp only[ev,Gb] at hev
  obtain⟨x,hx,hev⟩:=hev
  split at hev<;>try (simp at hev;done)
  rename_i hall
  simp only[Gb,Ga,Gf] at hev
  obtain⟨y',hy',rfl,rfl⟩:=hev
  obtain⟨q,hrun,hq⟩:=Jcz (l:=.v v) h (arg hp) hu hn hx
  obtain⟨M',f1,f2,f3,f4⟩:=frzA_ok [s] h
  refine .inl ⟨q,w,by simp[execOp,hop,hrun,Result.andThen],β,α,M',f1,fun u x hu=>RelT.tr (S':={S with A:=Jt S.A [s]}) (fun _ _ hr=>Jaw f2 hr) f3 (fun s hs=>⟨hs,rfl⟩) hu,
   .of_data (Jbr h hq hy' (fun b hb=>hb.imp id (f2 b)) (fun s' hs b hb hex hn=>?_)),Kept.refl _ _⟩
  have hs':s'=s:=GA.1 (Gs.1 hall s' hs)
  subst hs'
  rcases hn with hx|hm
  ·obtain⟨z,rows,f,e1,e2⟩:=hex
   exact ((h.arr s' z rows f e1 e2).2 b hb).1 (h.xb b hx)
  ·exact f4 s' (by simp) b hb hex hm
 |store l n y z=>
  obtain⟨t,p,x,hop,hp,hx,hz⟩:=Jen hok
  simp only[ev,Gb,Ga,Gf] at hev
  obtain⟨S2,hv,rfl,rfl⟩:=hev
  obtain⟨w',hrun,hpost⟩:=store_ok (l:=l) h (arg hp) (arg hx) hz hv
  exact .inr (.inl ⟨w',by simp[execOp,hop,hrun,Result.andThen],hpost⟩)
 |bin o' y z=>
  obtain⟨t,x,x',t',hop,h1,h2⟩:=Jg7 hok
  simp only[ev,Gb,Ga,Gf] at hev
  obtain⟨v,hv,rfl,rfl⟩:=hev
  obtain⟨q,hrun,hq⟩:=bin_ok (P:=P) (t:=t) (p:=x) (q:=x') (arg h1) (arg h2) hv
  exact .value (by simp only[execOp,hop]) hrun (.pure h (.of_data hq))
 |eqa ne sh y z=>
  obtain⟨t,x,x',t',hop,h1,h2,h3,h4,h5⟩:=Jha hok
  simp only[ev] at hev
  have r1:=arg h1
  have r2:=arg h2
  split at hev<;>try (simp at hev;done)
  rename_i xs ys e1 e2
  rw[e1] at r1
  rw[e2] at r2
  simp only[Gb,Ga,Gf] at hev
  obtain⟨b,hb,rfl,rfl⟩:=hev
  exact .value (by simp only[execOp,hop]) (JiM (p:=x) (q:=x') h3 h4 h5 r1 r2 hb) (.pure h (RelD.bool _))
 |eqb ne y z=>
  obtain⟨t,x,x',t',hop,h1,h2,h3⟩:=Jhb hok
  simp only[ev] at hev
  have r1:=arg h1
  have r2:=arg h2
  split at hev<;>try (simp at hev;done)
  rename_i xs ys e1 e2
  rw[e1] at r1
  rw[e2] at r2
  simp only[Ga,Gf] at hev
  obtain⟨rfl,rfl⟩:=hev
  have hrun:=JiN (P:=P) (w:=w) (ne:=ne) (a:=xs) (b:=ys) (p:=x) (q:=x') h3
  rw[←Jab r1,←Jab r2] at hrun
  exact .value (by simp only[execOp,hop]) hrun (.pure h (RelD.bool _))
 |sh o' y z=>
  obtain⟨t,x,x',t',hop,h1,h2⟩:=Jjw hok
  simp only[ev,Gb,Ga,Gf] at hev
  obtain⟨v,hv,rfl,rfl⟩:=hev
  obtain⟨q,hrun,hq⟩:=JlN (P:=P) (t:=t) (p:=x) (q:=x') (arg h1) (arg h2) hv
  exact .value (by simp only[execOp,hop]) hrun (.pure h (.of_data hq))
 |mm mx y z=>
  obtain⟨x,x',ts,hop,h1,h2⟩:=Jjv hok
  simp only[ev] at hev
  have r1:=arg h1
  have r2:=arg h2
  split at hev<;>try (simp at hev;done)
  rename_i k1 b1 k2 b2 e1 e2
  rw[e1] at r1
  rw[e2] at r2
  split at hev<;>try (simp at hev;done)
  rename_i hk
  subst hk
  simp only[Ga,Gf] at hev
  obtain⟨rfl,rfl⟩:=hev
  have hrun:=JlF (P:=P) (w:=w) (mx:=mx) (k:=k1) (a:=b1) (b:=b2) (ts:=ts) (ty:=o.type)
  refine .inl ⟨_,w,?_,.pure h (RelD.int _ _)⟩
  cases mx
  ·simp only[Gr,GD] at hop hrun
   simp[execOp,hop,resolve,invoke,builtin,Jx r1,Jx r2,hrun,Result.andThen]
  ·simp only[Gx] at hop hrun
   simp[execOp,hop,resolve,invoke,builtin,Jx r1,Jx r2,hrun,Result.andThen]
 |un o' y=>
  obtain⟨t,x,hop,h1⟩:=Jjy hok
  simp only[ev,Gb,Ga,Gf] at hev
  obtain⟨v,hv,rfl,rfl⟩:=hev
  obtain⟨q,hrun,hq⟩:=Jmh (P:=P) (arg h1) hv
  exact .value (by simp only[execOp,hop]) hrun (.pure h (.of_data hq))
 |conv c y=>
  simp only[ev,Gb,Ga,Gf] at hev
  obtain⟨v,hv,rfl,rfl⟩:=hev
  cases c with
  |int k=>
   obtain⟨s,d',x,dd,hop,h1,h2,h3⟩:=Jek hok
   have r1:=arg h1
   cases hy:argv e S.ρ y<;>rw[hy] at hv r1<;>simp only[Ja5,Ga,reduceCtorEq] at hv
   rename_i k1 n
   subst hv
   have hrun:=JeO (P:=P) (w:=w) (n:=n) (k':=k1) h2 h3
   rw[←Jx r1] at hrun
   exact .value (by simp only[execOp,hop]) hrun (.pure h (RelD.int _ _))
  |same=>
   obtain⟨s,d',x,hop,h1,h2,h3⟩:=Jel hok
   have r1:=arg h1
   cases hy:argv e S.ρ y<;>rw[hy] at hv r1<;>simp only[Ja5,Ga,reduceCtorEq] at hv
   rename_i l
   subst hv
   obtain⟨b,hb,rfl⟩:=Jar r1
   have hrun:=JeP (P:=P) (w:=w) (n:=b) h2 h3
   rw[←hb] at hrun
   exact .value (by simp only[execOp,hop]) hrun (.pure h (by rw[hb];exact RelD.str _))
 |fn f asx sites=>
  obtain⟨cap,hop,h1⟩:=Jju hok
  have:=fn_ok h hg hl h1 (by simpa only [ev] using hev)
  refine .inl ⟨_,w,?_,this⟩
  have e1:(cap.toList.map a.eval).toArray=cap.map a.eval:=by apply Array.ext';simp
  simp[execOp,hop,Instr.makeFunc,e1]
 |sl st z y lo hi=>
  obtain⟨t,x,lo',hi',hop,h1,h2,h3,h4⟩:=Jjx hok
  simp only[ev,Gb,Ga,Gf] at hev
  obtain⟨v,hv,rfl,rfl⟩:=hev
  have opt:∀{o:Option Operand} {y:Option Arg},JY cx ds o y=true→(o.map a.eval=none∧y.map (argv e S.ρ)=none)∨∃p q,o.map a.eval=some p∧y.map (argv e S.ρ)=some q∧RelT cx w (orP X M) S β α p q:=by
   intro o y hoy;unfold JY at hoy;split at hoy
   ·exact .inl ⟨rfl,rfl⟩
   ·exact .inr ⟨_,_,rfl,rfl,arg hoy⟩
   ·simp at hoy
  obtain⟨q,hrun,hq⟩:=JfN (P:=P) h4 (arg h1) (opt h2) (opt h3) hv
  exact .value (by simp only[execOp,hop,Option.map_none]) hrun (.pure h (.of_data hq))
 |fad y off=>
  obtain⟨s,x,i,hop,h1,h2⟩:=Jhd hok
  simp only[ev,Gb,Ga,Gf] at hev
  obtain⟨v,hv,rfl,rfl⟩:=hev
  obtain⟨q,hrun,hq⟩:=JiV (P:=P) (arg h1) h2 hv
  exact .value (by simp only[execOp,hop]) hrun (.pure h hq)
 |iad z y i=>
  obtain⟨t,x,x',el,hop,h1,h2,h3,h4⟩:=Jhg hok
  simp only[ev,Gb,Ga,Gf] at hev
  obtain⟨v,hv,rfl,rfl⟩:=hev
  obtain⟨q,hrun,hq⟩:=Ji7 (P:=P) h3 h4 (arg h1) (arg h2) hv
  exact .value (by simp only[execOp,hop]) hrun (.pure h hq)
 |iada z n y i=>
  obtain⟨t,x,x',el,hop,h1,h2,h3,h4⟩:=Jft hok
  simp only[ev,Gb,Ga,Gf] at hev
  obtain⟨v,hv,rfl,rfl⟩:=hev
  obtain⟨q,hrun,hq⟩:=JgS (P:=P) h3 h4 (arg h1) (arg h2) hv
  exact .value (by simp only[execOp,hop]) hrun (.pure h hq)
 |idx y i=>
  obtain⟨t,x,x',hop,h1,h2,h3⟩:=Jhh hok
  simp only[ev,Gb,Ga,Gf] at hev
  obtain⟨v,hv,rfl,rfl⟩:=hev
  obtain⟨q,hrun,hq⟩:=Jje (P:=P) h3 (arg h1) (arg h2) hv
  exact .value (by simp only[execOp,hop]) hrun (.pure h (.of_data hq))
 |ext y i=>
  obtain⟨x,hop,h1⟩:=Jhc hok
  simp only[ev,Gb,Ga,Gf] at hev
  obtain⟨v,hv,rfl,rfl⟩:=hev
  obtain⟨q,hrun,hq⟩:=JiP (P:=P) (arg h1) hv
  exact .value (by simp only[execOp,hop]) hrun (.pure h hq)
 |len st y=>
  obtain⟨x,t,hop,h1,h2⟩:=Jhm hok
  simp only[ev,Gb,Ga,Gf] at hev
  obtain⟨v,hv,rfl,rfl⟩:=hev
  obtain⟨q,hrun,hq⟩:=Jjm (P:=P) (ty:=o.type) h2 (arg h1) hv
  refine .inl ⟨q,w,?_,.pure h (.of_data hq)⟩
  simp[execOp,hop,resolve,invoke,builtin,hrun,Result.andThen]
 |app s z y y'=>
  obtain⟨x,x',t,t',el,ie,zv,hop,h1,h2,h3,h4,h5,h6,h7,h8,h9,h10,hz0⟩:=JcA hok
  simp only[ev] at hev
  have r1:=arg h1
  have r2:=arg h2
  by_cases hns:∃z',argv e S.ρ y=.nslice z'
  ·obtain⟨z',hns⟩:=hns
   rw[hns] at hev r1
   simp only[appN] at hev
   split at hev<;>try (simp at hev;done)
   rename_i hz'
   split at hev<;>try (simp at hev;done)
   rename_i hd
   have r1:RelD cx w (orP X M) _ (.nslice z'):=r1
   generalize hv1:a.eval x=v1 at r1
   cases r1
   have hadd:=h.addArr (d:=s) (z0:=z) (rows0:=[]) (v0:=.slice none 0 0) hd ⟨fun i hi=>by simp at hi,.inl ⟨rfl,rfl⟩⟩ (fun b hb=>by simp[hdr] at hb) (fun s b _ hb=>by simp[hdr] at hb) (fun s z' r f _ _ b hb=>by simp[hdr] at hb)
   have hT:ATr S {S with A:=upd S.A s (some (z,[],.live))} α (upd α s (.slice none 0 0)):=fun s' z' r f hs=>by
    have:s'≠s:=fun e=>by rw[e,hd] at hs;simp at hs
    exact⟨r,f,by simp[upd,this,hs],fun hf=>⟨hf,Gm _,fun _=>by simp[upd,this]⟩⟩
   have hmv:∀u x,RelT cx w (orP X M) S β α u x→RelT cx w (orP X M) {S with A:=upd S.A s (some (z,[],.live))} β (upd α s (.slice none 0 0)) u x:=
    fun u x hu=>RelT.tr (fun _ _ h=>h) hT (fun s hs=>⟨hs,rfl⟩) hu
   have r1':RelT cx w (orP X M) {S with A:=upd S.A s (some (z,[],.live))} β (upd α s (.slice none 0 0)) (.slice none 0 0) (.own s z 0):=
    ⟨[],.live,none,0,by simp[upd],rfl,by simp,fun _=>⟨by simp,fun _=>by simp[upd]⟩⟩
   have hev':J7 {S with A:=upd S.A s (some (z,[],.live))} s z (.own s z 0) (argv e S.ρ y')=some (r,S1):=by
    rw[←hev];have eu:∀q:Option (Nat×List (List V)×Fz),upd (upd S.A s (some (z,[],.live))) s q=upd S.A s q:=fun q=>by funext k;simp only[upd];split<;>rfl
    have e0:upd S.A s (some (z,[],.live)) s=some (z,[],.live):=by simp[upd]
    simp only[J7,and_self,Gx,e0,List.length_nil,G7,List.nil_append,eu]
   obtain⟨q,w',hrun,hpost⟩:=JbI (ty:=o.type) hadd r1' (hmv _ _ r2) h3 h4 h5 h7 h8 h9 hz0 h10 hev'
   refine .inl ⟨q,w',by simp[execOp,hop,resolve,invoke,builtin,hv1,hrun,Result.andThen],?_⟩
   obtain⟨β',α',M',p1,p2,p3,p4⟩:=hpost
   exact⟨β',α',M',p1,fun u x hu=>p2 u x (hmv u x hu),p3,p4⟩
  have hap:appN S s z (argv e S.ρ y) (argv e S.ρ y')=J7 S s z (argv e S.ρ y) (argv e S.ρ y'):=by
   unfold appN;split
   ·rename_i z' hz';exact absurd ⟨z',hz'⟩ hns
   ·rfl
  rw[hap] at hev
  have hx:∃n,argv e S.ρ y=.own s z n:=by
   unfold J7 at hev;split at hev
   ·split at hev
    ·rename_i hc;obtain⟨rfl,rfl⟩:=hc;rename_i n hy;exact⟨n,hy⟩
    ·simp at hev
   ·simp at hev
  obtain⟨n,hx⟩:=hx
  rw[hx] at r1 hev
  obtain⟨q,w',hrun,hpost⟩:=JbI (ty:=o.type) h r1 r2 h3 h4 h5 h7 h8 h9 hz0 h10 hev
  exact .inl ⟨q,w',by simp[execOp,hop,resolve,invoke,builtin,hrun,Result.andThen],hpost⟩
 |apf s z y y'=>
  obtain⟨x,x',t,t',el,ie,zv,hop,h1,h2,h3,h4,h5,h6,h7,h8,h9,h10,hz0⟩:=JcA (Jg4 hok)
  simp only[ev,Gb,Ga,Gf] at hev
  obtain⟨⟨v1,S1⟩,hev,v2,hv,rfl,rfl⟩:=hev
  have r1:=arg h1
  have r2:=arg h2
  have hx:∃n m,argv e S.ρ y=.own s z n∧v1=.own s z m:=by
   unfold J7 at hev;split at hev
   ·split at hev
    ·rename_i hc;obtain⟨rfl,rfl⟩:=hc;rename_i n hy;refine⟨n,?_⟩;split at hev
     ·split at hev
      ·simp only[Gb] at hev;obtain⟨ys,_,hev⟩:=hev;split at hev
       ·simp only[Ga,Gf] at hev;exact⟨_,hy,hev.1.symm⟩
       ·simp at hev
      ·simp at hev
     ·simp at hev
    ·simp at hev
   ·simp at hev
  obtain⟨n,m,hx,rfl⟩:=hx
  rw[hx] at r1 hev
  obtain⟨q,w',hrun,hpost⟩:=JbI (ty:=o.type) h r1 r2 h3 h4 h5 h7 h8 h9 hz0 h10 hev
  obtain⟨β1,α1,M1,g1,g2,g3,g4⟩:=hpost
  obtain⟨M',f1,f2,f3,f4⟩:=frzA_ok [s] g1
  refine .inl ⟨q,w',by simp[execOp,hop,resolve,invoke,builtin,hrun,Result.andThen],β1,α1,M',f1,fun u x hu=>RelT.tr (S':={S1 with A:=Jt S1.A [s]}) (fun _ _ hr=>Jaw f2 hr) f3 (fun s hs=>⟨hs,rfl⟩) (g2 u x hu),
   .of_data (toDC_ok g1 (x:=.own s z m) g3 hv (fun b hb=>hb.imp id (f2 b)) (fun s hs b hb hex hn=>?_)),g4⟩
  rcases hn with hx|hm
  ·obtain⟨z,rows,f,e1,e2⟩:=hex
   exact ((g1.arr s z rows f e1 e2).2 b hb).1 (g1.xb b hx)
  ·exact f4 s (by simpa [Jc] using hs) b hb hex hm
 |ins f s z x i y=>
  obtain⟨c,hop,hc,hargs⟩:=Jhj hok
  simp only[okOwn,Gg,Gz,GA] at hown
  obtain⟨tS,el,hI⟩:=hκ.ins f z hown.1 hown.2
  obtain⟨u1,u2,u3,hu,r1,r2,r3⟩:=Jb5 hg hl hargs
  have hrun:=Jck (a:=a) (w:=w) hop hc hI.ent
  rw[hu] at hrun
  refine .inr (.inr ⟨_,_,_,hrun,?_⟩)
  simp only[ev] at hev
  split at hev<;>try (simp at hev;done)
  rename_i s' z' n k z'' ys hx hi hy
  split at hev<;>try (simp at hev;done)
  rename_i hsz
  obtain⟨rfl,rfl,rfl⟩:=hsz
  split at hev<;>try (simp at hev;done)
  rename_i z3 rows hA
  split at hev<;>try (simp at hev;done)
  rename_i hcond
  obtain⟨rfl,hn,hk0,hkn,hlim⟩:=hcond
  simp only[Ga,Gf] at hev
  obtain⟨rfl,rfl⟩:=hev
  rw[hx] at r1
  rw[hi] at r2
  rw[hy] at r3
  have hk:k=((k.toNat:Nat):Int):=by omega
  rw[JcD r2,hk]
  have:=Jjf hI h hA hn (k:=k.toNat) (by omega) hlim r1 r3
  exact this
 |del f s z x i j=>
  obtain⟨c,hop,hc,hargs⟩:=Jg9 hok
  simp only[okOwn,Gg,Gz,GA] at hown
  have hI:=hκ.del f z hown.1 hown.2
  obtain⟨u1,u2,u3,hu,r1,r2,r3⟩:=Jb5 hg hl hargs
  have hrun:=Jck (a:=a) (w:=w) hop hc hI.ent
  rw[hu] at hrun
  refine .inr (.inr ⟨_,_,_,hrun,?_⟩)
  simp only[ev] at hev
  split at hev<;>try (simp at hev;done)
  rename_i s' z' n k m hx hi hy
  split at hev<;>try (simp at hev;done)
  rename_i hsz
  obtain⟨rfl,rfl⟩:=hsz
  split at hev<;>try (simp at hev;done)
  rename_i z3 rows hA hd
  split at hev<;>try (simp at hev;done)
  rename_i hcond
  obtain⟨rfl,hn,hk0,hkm,hmn,hlim⟩:=hcond
  simp only[Ga,Gf] at hev
  obtain⟨rfl,rfl⟩:=hev
  rw[hx] at r1
  rw[hi] at r2
  rw[hy] at r3
  have hk:k=((k.toNat:Nat):Int):=by omega
  have hm:m=((m.toNat:Nat):Int):=by omega
  rw[JcD r2,JcD r3,hk,hm]
  have:=JiJ hI h hA hd hn (k:=k.toNat) (m:=m.toNat) (by omega) (by omega) hlim r1
  exact this
 |rcall f avs k s b0=>
  obtain⟨c,hop,hcx,hargs⟩:=Jem hok
  simp only[okOwn,Gg,Gz,GA] at hown
  exact JfC h hg hl (hκ.rf f k hown.1 hown.2) hop hcx hargs (by simpa only [ev] using hev)
 |allo z b=>
  obtain⟨t,hop,hz⟩:=Jfp hok
  simp only[ev] at hev
  split at hev
  ·simp at hev
  ·rename_i hd
   simp only[Gb,Ga,Gf] at hev
   obtain⟨⟨cells,A'⟩,ht,rfl,rfl⟩:=hev
   obtain⟨v,hv,hvz⟩:=Jbf (P:=P) (w:=w) hz
   have:=newVarO_post (t:=t) h hd (JbE hvz) ht
   rw[Array.toArray_toList] at this
   exact .value (s:=Instr.alloc t true (.tuple #[])) (by simp[execOp,hop]) (by simp[Instr.alloc,hv,newVar,newRow,Result.andThen]) this
 |boxo y b=>
  obtain⟨t,x,hop,hx⟩:=Jfr hok
  simp only[ev] at hev
  split at hev
  ·simp at hev
  ·rename_i hd
   split at hev<;>try (simp at hev;done)
   rename_i cs hcs
   split at hev<;>try (simp at hev;done)
   rename_i hdat
   simp only[Gb,Ga,Gf] at hev
   obtain⟨⟨cells,A'⟩,ht,rfl,rfl⟩:=hev
   have r1:=arg hx
   rw[hcs] at r1
   have:=newVarO_post (t:=t) h hd (cells_rel (x:=.agg cs) r1 rfl) ht
   rw[Array.toArray_toList] at this
   exact .value (s:=Instr.box t (a.eval x)) (by simp[execOp,hop]) (by simp[Instr.box,newVar,newRow,Result.andThen]) this
 |appd z y y'=>
  obtain⟨x,x',t,t',el,ie,zv,hop,h1,h2,h3,h4,h5,h6,h7,h8,h9,h10,hz0⟩:=JcA (Jfq (s:=0) hok)
  simp only[ev,appW] at hev
  have r1:=arg h1
  have r2:=arg h2
  split at hev<;>try (simp at hev;done)
  rename_i s z' n hx
  have hzz:z'=z:=by
   unfold J7 at hev;rw[hx] at hev;simp only at hev;split at hev
   ·rename_i hc;exact hc.2
   ·simp at hev
  subst hzz
  rw[hx] at r1 hev
  obtain⟨q,w',hrun,hpost⟩:=JbI (ty:=o.type) h r1 r2 h3 h4 h5 h7 h8 h9 hz0 h10 hev
  exact .inl ⟨q,w',by simp[execOp,hop,resolve,invoke,builtin,hrun,Result.andThen],hpost⟩
 |slf z y lo hi=>
  obtain⟨t,x,lo',hi',hop,h1,h2,h3,h4⟩:=Jhr hok
  simp only[ev,Gb,Ga,Gf] at hev
  obtain⟨y',hy',v,hv,rfl,rfl⟩:=hev
  obtain⟨M',f1,f2,f3,f4⟩:=frzA_ok (Jc (argv e S.ρ y)) h
  have hT:∀u x,RelT cx w (orP X M) S β α u x→RelT cx w (orP X M') {S with A:=Jt S.A (Jc (argv e S.ρ y))} β α u x:=
   fun u x hu=>RelT.tr (S':={S with A:=Jt S.A (Jc (argv e S.ρ y))}) (fun _ _ hr=>Jaw f2 hr) f3 (fun s hs=>⟨hs,rfl⟩) hu
  have opt:∀{o:Option Operand} {y0:Option Arg},JY cx ds o y0=true→(o.map a.eval=none∧y0.map (argv e S.ρ)=none)∨∃p q,o.map a.eval=some p∧y0.map (argv e S.ρ)=some q∧RelT cx w (orP X M') {S with A:=Jt S.A (Jc (argv e S.ρ y))} β α p q:=by
   intro o y0 hoy;unfold JY at hoy;split at hoy
   ·exact .inl ⟨rfl,rfl⟩
   ·exact .inr ⟨_,_,rfl,rfl,hT _ _ (arg hoy)⟩
   ·simp at hoy
  have hrC:RelC cx w (orP X M) S α (a.eval x) (argv e S.ρ y):=by
   have:=arg h1
   revert this hy'
   generalize argv e S.ρ y=q;intro hy' h;cases q<;>first|exact h|(simp[toDC,V.datC] at hy')
  have hdat:RelD cx w (orP X M') (a.eval x) y':=toDC_ok h hrC hy' (fun b hb=>hb.imp id (f2 b)) (fun s hs b hb hex hn=>by
   rcases hn with hx|hm
   ·obtain⟨z,rows,f,e1,e2⟩:=hex;exact ((h.arr s z rows f e1 e2).2 b hb).1 (h.xb b hx)
   ·exact f4 s hs b hb hex hm)
  obtain⟨q,hrun,hq⟩:=JfN (P:=P) h4 (.of_data hdat) (opt h2) (opt h3) hv
  exact .value (by simp only[execOp,hop,Option.map_none]) hrun ⟨β,α,M',f1,hT,.of_data hq,Kept.refl _ _⟩
 |mkoz z s=>
  have hop:=Jfv hok
  simp only[ev] at hev
  split at hev
  ·simp at hev
  ·rename_i hd
   simp only[Ga,Gf] at hev
   obtain⟨rfl,rfl⟩:=hev
   obtain⟨M',f1,f2,f3,f4⟩:=frzA_ok [s] h
   refine .inl ⟨.slice none 0 0,w,by simp[execOp,hop,Act.eval],?_⟩
   have hadd:=f1.addArr (d:=d) (z0:=z) (rows0:=[]) (v0:=.slice none 0 0) hd ⟨fun i hi=>by simp at hi,.inl ⟨rfl,rfl⟩⟩ (fun b hb=>by simp[hdr] at hb) (fun s b _ hb=>by simp[hdr] at hb) (fun s z' r f _ _ b hb=>by simp[hdr] at hb)
   have hT:ATr {S with A:=Jt S.A [s]} {S with A:=upd (Jt S.A [s]) d (some (z,[],.live))} α (upd α d (.slice none 0 0)):=fun s' z' r f hs=>by
    have:s'≠d:=fun e=>by rw[e] at hs;simp only at hs;rw[hd] at hs;simp at hs
    exact⟨r,f,by simp only[upd,Gj this];exact hs,fun hf=>⟨hf,Gm _,fun _=>by simp[upd,this]⟩⟩
   exact⟨β,_,M',hadd,fun u x hu=>RelT.tr (S:=S) (fun _ _ hr=>Jaw f2 hr) (f3.trans hT) (fun s hs=>⟨hs,rfl⟩) hu,⟨[],.live,none,0,by simp[upd],rfl,by simp,fun _=>⟨by simp,fun _=>by simp[upd]⟩⟩,Kept.refl _ _⟩
 |slr s z y lo hi=>
  obtain⟨t,x,lo',hi',hop,h1,h2,h3,h4⟩:=Jhs hok
  simp only[ev,Gb,Ga,Gf] at hev
  obtain⟨y',hy',v,hv,rfl,rfl⟩:=hev
  have opt:∀{o:Option Operand} {y:Option Arg},JY cx ds o y=true→(o.map a.eval=none∧y.map (argv e S.ρ)=none)∨∃p q,o.map a.eval=some p∧y.map (argv e S.ρ)=some q∧RelT cx w (orP X M) S β α p q:=by
   intro o y hoy;unfold JY at hoy;split at hoy
   ·exact .inl ⟨rfl,rfl⟩
   ·exact .inr ⟨_,_,rfl,rfl,arg hoy⟩
   ·simp at hoy
  have r1:=arg h1
  unfold frzD at hy'
  split at hy'<;>try (simp at hy';done)
  rename_i s' z' n hx
  split at hy'<;>try (simp at hy';done)
  rename_i e0;subst e0
  split at hy'<;>try (simp at hy';done)
  rename_i z'' rows hA
  split at hy'<;>simp only[Ga,reduceCtorEq] at hy'
  rename_i hc
  obtain⟨rfl,hn⟩:=hc
  subst hy'
  rw[hx] at r1
  have hdat:RelD cx w (orP X M) (a.eval x) (.slice z'' rows):=toDC_ok h (x:=.own s' z'' n) r1 (by simp[toDC,hA,hn]) (fun b hb=>hb) (fun s hs b hb hex hn=>by
   have:s=s':=by simpa [Jc] using hs
   subst this;have p2:=(h.arr s z'' rows .frz hA (by simp)).2 b hb;rcases hn with hx|hm
   ·exact p2.1 (h.xb b hx)
   ·exact p2.2.2 rfl hm)
  obtain⟨q,hrun,hq⟩:=JfN (P:=P) h4 (.of_data hdat) (opt h2) (opt h3) hv
  exact .value (by simp only[execOp,hop,Option.map_none]) hrun (.pure h (.of_data hq))
 |fld y off n=>
  obtain⟨s,x,i,fs,f,hop,h1,h2,h3,h4,h5,h6⟩:=Jhe hok
  simp only[ev] at hev
  have r1:=arg h1
  split at hev<;>try (simp at hev;done)
  rename_i cs hcs
  simp only[Gb,Ga,Gf] at hev
  obtain⟨v,hv,rfl,rfl⟩:=hev
  rw[hcs] at r1
  obtain⟨q,hrun,hq⟩:=JiX r1 h2 h3 h4 h5 h6 hv
  exact .value (by simp only[execOp,hop]) hrun (.pure h hq)
 |b2s y=>
  obtain⟨s,d,x,e',hop,h1,h2,h3,h4⟩:=Jg6 hok
  simp only[ev,Gb,Ga,Gf] at hev
  obtain⟨v,hv,rfl,rfl⟩:=hev
  unfold Jga at hv
  split at hv<;>try (simp at hv;done)
  rename_i rows hrows
  simp only[Gb,Ga] at hv
  obtain⟨l,hl',rfl⟩:=hv
  have hrC:RelC cx w (orP X M) S α (a.eval x) (argv e S.ρ y):=by
   have:=arg h1
   revert this hrows
   generalize argv e S.ρ y=q;intro hy' h;cases q<;>first|exact h|(simp[toDC,V.datC] at hy')
  have hdat:RelD cx w (fun _=>False) (a.eval x) (.slice 1 rows):=toDC_ok h hrC hrows (fun b hb=>hb.elim) (fun s hs b hb hex hn=>hn)
  obtain⟨q,hrun,hq⟩:=b2s_ok (dst:=d) hdat hl' h2 h4 h3
  have hq':RelD cx w (orP X M) q (.str l):=by cases hq;exact .str _
  exact .value (by simp only[execOp,hop]) hrun (.pure h hq')
 |mif t y=>
  obtain⟨x,hop,h1,h2⟩:=Jhn hok
  simp only[ev] at hev
  split at hev<;>simp only[Ga,Gf,reduceCtorEq] at hev
  rename_i hd
  obtain⟨rfl,rfl⟩:=hev
  have r1:RelD cx w (orP X M) (a.eval x) (argv e S.ρ y):=(arg h1).data hd
  exact .value (by simp only[execOp,hop]) (Jg1 h2) (.pure h (.of_data (.iface t _ _ r1)))
 |asr t z y=>
  obtain⟨x,xt,ok,hop,h1,h2,h3⟩:=Jg5 hok
  have r1:=arg h1
  simp only[ev] at hev
  have tup:∀{u:Value} {v:V} {b:Bool},RelD cx w (orP X M) u v→RelD cx w (orP X M) (.tuple #[u,.bool b]) (.tuple [v,.bool b]):=fun {u v b} hr=>
   .tuple _ _ (fun i=>if i=0 then u else .bool b) rfl (fun i hi=>by match i,hi with|0,_=>rfl|1,_=>rfl|n+2,hi=>simp at hi;omega)
    (fun i hi=>by match i,hi with|0,_=>exact hr|1,_=>exact .bool _|n+2,hi=>simp at hi;omega)
  split at hev<;>try (simp at hev;done)
  ·rename_i t' v hy
   rw[hy] at r1
   have r1:RelD cx w (orP X M) (a.eval x) (.iface t' v):=r1
   obtain⟨u,hu,hru⟩:∃u,a.eval x=.iface (cx.tm t') u∧RelD cx w (orP X M) u v:=by
    generalize a.eval x=p at r1;cases r1 with
    |iface t u v hr=>exact⟨u,rfl,hr⟩
   split at hev
   ·rename_i htt
    subst htt
    simp only[Ga,Gf] at hev
    obtain⟨rfl,rfl⟩:=hev
    have hrun:=Jf8 (P:=P) (w:=w) (xt:=xt) (v:=u) (ok:=ok) h2
    rw[←hu] at hrun
    rcases h3 with ⟨rfl,rfl⟩|⟨z',rfl,rfl,_⟩
    ·exact .value (by simp only[execOp,hop]) hrun (.pure h (.of_data hru))
    ·exact .value (by simp only[execOp,hop]) hrun (.pure h (.of_data (tup hru)))
   ·rename_i htt
    simp only[Gb,Ga,Gf] at hev
    obtain⟨z',rfl,rfl,rfl⟩:=hev
    rcases h3 with ⟨_,h3⟩|⟨z2,rfl,h3,hz⟩
    ·simp at h3
    ·simp only[Ga] at h3
     subst h3
     obtain⟨zv,hz1,hz2⟩:=Jco (w:=w) (cx:=cx) (Y:=orP X M) hz
     have hrun:=JeE (P:=P) (w:=w) (xt:=xt) (v:=u) h2 (fun e=>htt (cx.tinj _ _ e)) hz1
     rw[←hu] at hrun
     exact .value (by simp only[execOp,hop]) hrun (.pure h (.of_data (tup hz2)))
  ·rename_i hy
   rw[hy] at r1
   have r1:RelD cx w (orP X M) (a.eval x) .niface:=r1
   have hu:a.eval x=.nilIface:=by
    generalize a.eval x=p at r1;cases r1;rfl
   simp only[Gb,Ga,Gf] at hev
   obtain⟨z',rfl,rfl,rfl⟩:=hev
   rcases h3 with ⟨_,h3⟩|⟨z2,rfl,h3,hz⟩
   ·simp at h3
   ·simp only[Ga] at h3
    subst h3
    obtain⟨zv,hz1,hz2⟩:=Jco (w:=w) (cx:=cx) (Y:=orP X M) hz
    have hrun:=Jf9 (P:=P) (w:=w) (xt:=xt) h2 hz1
    rw[←hu] at hrun
    exact .value (by simp only[execOp,hop]) hrun (.pure h (.of_data (tup hz2)))
 |inv l y avs=>
  obtain⟨x,name,c,hop,hcx,h1,h2,h3⟩:=Jhk hok
  exact Jji h hg hl hκ.call hop hcx h1 h2 h3 hev
 |bad=>simp[ev] at hev
 |call f cv own asx=>
  obtain⟨x,c,hop,hcx,hcal,hargs⟩:=Jfs hok
  refine Jgl h hg hl hκ.call ?_ hop hcx hcal hargs (by simpa only [ev] using hev)
  cases f with
  |k f=>simp only[okOwn,Bool.or_eq_true,GA,G2] at hown;exact hown.imp id (fun h=>⟨f,rfl,h⟩)
  |v y=>simp only[okOwn,G2] at hown;exact .inl hown
 |nilc y=>
  obtain⟨x,hop,h1⟩:=Jfw hok
  have r1:=arg h1
  simp only[ev] at hev
  split at hev<;>simp only[Ga,Gf,reduceCtorEq] at hev
  ·rename_i s' o' hy
   obtain⟨rfl,rfl⟩:=hev
   rw[hy] at r1
   obtain⟨q1,q2⟩:=r1
   exact .inl ⟨_,w,by simp[execOp,hop,q2],.pure h ⟨q1,rfl⟩⟩
  ·rename_i s' i' o' n' hy
   obtain⟨rfl,rfl⟩:=hev
   rw[hy] at r1
   have r2:=r1
   obtain⟨_,_,_,_,_,_,_,q2,_⟩:=r1
   exact .inl ⟨a.eval x,w,by simp[execOp,hop,q2],.pure h r2⟩
  ·rename_i cs o' hy
   obtain⟨rfl,rfl⟩:=hev
   rw[hy] at r1
   have r2:=r1
   simp only[RelT] at r1
   obtain⟨b,o'',c,el,fr,q2,_⟩:=Ja6 r1
   exact .inl ⟨a.eval x,w,by simp[execOp,hop,q2],.pure h r2⟩
end
end Sg
namespace Sg
def Arg.lr:Arg→List Nat
 |.l i=>[i]
 |_=>[]
def Arg.gr:Arg→List Nat
 |.g t=>[t]
 |_=>[]
def Cal.args:Cal→List Arg
 |.v x=>[x]
 |.k _=>[]
def K.args:K→List Arg
 |.mov x|.frz _ x|.box x|.nilq x|.ifn x|.un _ x|.conv _ x|.fad x _|.ext x _|.len _ x|.nilc x=>[x]
 |.pick c a b=>[c,a,b]
 |.alloc _|.mko _|.bad=>[]
 |.build _ ps=>ps.map (·.2.2)
 |.mks _ _ _ ps|.mkb _ _ _ ps=>ps.map (·.2)
 |.load _ _ p|.ldf _ _ _ p=>[p]
 |.store _ _ p x=>[p,x]
 |.bin _ x y|.eqa _ _ x y|.eqb _ x y|.sh _ x y|.mm _ x y|.iad _ x y|.iada _ _ x y|.idx x y|.app _ _ x y|.apf _ _ x y=>[x,y]
 |.fn _ cap _=>cap
 |.sl _ _ x lo hi=>x::(lo.toList++hi.toList)
 |.ins _ _ _ x i y|.del _ _ _ x i y=>[x,i,y]
 |.rcall _ xs _ _ _=>xs
 |.allo _ _|.mkoz _ _=>[]
 |.boxo x _|.b2s x|.fld x _ _|.mif _ x|.asr _ _ x=>[x]
 |.inv _ x xs=>x::xs
 |.appd _ x y=>[x,y]
 |.slf _ x lo hi|.slr _ _ x lo hi=>x::(lo.toList++hi.toList)
 |.call f _ _ xs=>f.args++xs
def K.vs (d:Nat):K→List Nat
 |.box _|.alloc _|.allo _ _|.boxo _ _=>[d]
 |.rcall _ _ _ s _=>[s]
 |.load (.v s) _ _|.store (.v s) _ _ _|.ldf _ s _ _=>[s]
 |.fn _ _ sites=>sites
 |_=>[]
def K.vw (d:Nat):K→List Nat
 |.load ..|.ldf ..=>[]
 |k=>k.vs d
def K.avs (d:Nat):K→Option (List Nat)
 |.mko _|.mkb ..=>some [d]
 |.mkoz _ s=>some [s,d]
 |.slr s _ _ _ _=>some [s]
 |.load (.e s) _ _|.store (.e s) _ _ _|.app s _ _ _|.apf s _ _ _|.ins _ s _ _ _ _|.frz s _|.ldf s _ _ _=>some [s]
 |.del _ s _ _ _ _=>some [s,d]
 |.call _ .no none _=>some []
 |.call _ .no (some _) _=>some [d]
 |.call ..=>none
 |.rcall ..|.allo ..|.boxo ..|.appd ..|.slf ..|.b2s _|.load .x _ _|.store .x _ _ _=>none
 |_=>some []
def K.aw (d:Nat):K→Option (List Nat)
 |.load ..|.call _ .borrow _ _|.b2s _|.slr ..=>some []
 |k=>k.avs d
def inO (s:Nat):Option (List Nat)→Prop
 |none=>True
 |some l=>s∈l
section
variable (κ:Nat→List V→Option V)
def Same (d:Nat) (k:K) (S S':St):Option (V×St)→Option (V×St)→Prop
 |none,none=>True
 |some (v,T),some (v',T')=>v=v'∧T.ρ=S.ρ∧T'.ρ=S'.ρ∧(∀s,s∈k.vw d→T.μ s=T'.μ s)∧(∀s,s∉k.vw d→T.μ s=S.μ s∧T'.μ s=S'.μ s)∧
   (∀s,inO s (k.aw d)→T.A s=T'.A s)∧(∀s,¬inO s (k.aw d)→T.A s=S.A s∧T'.A s=S'.A s)
 |_,_=>False
theorem Same.pure {d:Nat} {k:K} {S S':St} {v:V} (h1:∀s,s∈k.vw d→S.μ s=S'.μ s) (h2:∀s,inO s (k.aw d)→S.A s=S'.A s):Same d k S S' (some (v,S)) (some (v,S')):=
 ⟨rfl,rfl,rfl,h1,fun _ _=>⟨rfl,rfl⟩,h2,fun _ _=>⟨rfl,rfl⟩⟩
theorem Same.bindV {d:Nat} {k:K} {S S':St} {o:Option V} (h1:∀s,s∈k.vw d→S.μ s=S'.μ s) (h2:∀s,inO s (k.aw d)→S.A s=S'.A s) :
  Same d k S S' (o.bind fun v=>some (v,S)) (o.bind fun v=>some (v,S')):=by
 cases o with
 |none=>exact Gn
 |some v=>exact .pure h1 h2
theorem JbV {α β:Type} {f g:α→Option β} {l:List α} (h:∀x∈l,f x=g x):Jn f l=Jn g l:=by
 induction l with
 |nil=>rfl
 |cons a l ih=>
  simp only[Jn,h a (by simp)];rw[ih fun x hx=>h x (by simp[hx])]
theorem JgI (l:List Nat):∀(μ μ':Nat→Option (List V×Bool)) (s:Nat),μ s=μ' s→Jah μ l s=Jah μ' l s:=by
 induction l with
 |nil=>intro μ μ' s h;exact h
 |cons a l ih=>
  intro μ μ' s h
  show Jah (upd μ a _) l s=Jah (upd μ' a _) l s
  refine ih _ _ s ?_;simp only[upd];split
  ·rename_i e;subst e;rw[h]
  ·exact h
theorem JcR (l:List Nat):∀(μ:Nat→Option (List V×Bool)) (s:Nat),s∉l→Jah μ l s=μ s:=by
 induction l with
 |nil=>intro μ s _;rfl
 |cons a l ih=>
  intro μ s h
  show Jah (upd μ a _) l s=μ s
  rw[ih _ s (fun hs=>h (by simp[hs]))];simp only[upd];rw[Gj (fun e=>h (by simp[e]))]
theorem JeA {A A':Nat→Option (Nat×List (List V)×Fz)} {x:V} (h:∀s∈Jc x,A s=A' s):toDC A x=toDC A' x:=by
 cases x<;>try rfl
 rename_i s z n;have:=h s (by simp[Jc]);simp only[toDC,this]
theorem JfV {A A':Nat→Option (Nat×List (List V)×Fz)} {x:V} (h:∀s∈Je x,A s=A' s):toD A x=toD A' x:=by
 cases x with
 |agg cs=>
  simp only[toD];rw[JbV fun y hy=>JeA fun s hs=>h s (G5.2 ⟨y,hy,hs⟩)]
 |own s z n=>
  have:=h s (by simp[Je,Jc]);simp only[toD,toDC,this]
 |_=>rfl
theorem JdM (d:Nat) (k:K) (e e':Nat→V) (S S':St) (ha:∀x∈k.args,argv e S.ρ x=argv e' S'.ρ x) (hv:∀s,s∈k.vs d→S.μ s=S'.μ s) (hA:∀s,inO s (k.avs d)→S.A s=S'.A s) :
  Same d k S S' (ev κ d e S k) (ev κ d e' S' k):=by
 cases k with
 |mov x=>simp only[ev,ha x (by simp[K.args])];exact .pure (by simp[K.vw,K.vs]) (by simp[K.aw,K.avs,inO])
 |pick c a b=>
  simp only[ev,ha c (by simp[K.args]),ha a (by simp[K.args]),ha b (by simp[K.args])]
  split
  ·exact .pure (by simp[K.vw,K.vs]) (by simp[K.aw,K.avs,inO])
  ·exact Gn
 |box x=>
  simp only[ev,ha x (by simp[K.args]),hv d (by simp[K.vs])]
  split
  ·exact Gn
  ·cases (argv e' S'.ρ x).cells with
   |none=>exact Gn
   |some cs=>
    refine⟨rfl,rfl,rfl,fun s hs=>?_,fun s hs=>?_,fun s hs=>by simp[K.aw,K.avs,inO] at hs,fun s hs=>⟨rfl,rfl⟩⟩
    ·simp[K.vw,K.vs] at hs;simp[upd,hs]
    ·simp[K.vw,K.vs] at hs;simp[upd,hs]
 |alloc z=>
  simp only[ev,hv d (by simp[K.vs])]
  split
  ·exact Gn
  ·refine⟨rfl,rfl,rfl,fun s hs=>?_,fun s hs=>?_,fun s hs=>by simp[K.aw,K.avs,inO] at hs,fun s hs=>⟨rfl,rfl⟩⟩
   ·simp[K.vw,K.vs] at hs;simp[upd,hs]
   ·simp[K.vw,K.vs] at hs;simp[upd,hs]
 |build z ps=>
  have:ps.map (fun p=>(p.1,p.2.1,argv e S.ρ p.2.2))=ps.map (fun p=>(p.1,p.2.1,argv e' S'.ρ p.2.2)):=GP fun p hp=>by rw[ha p.2.2 (by simp only[K.args,List.mem_map];exact⟨p,hp,rfl⟩)]
  simp only[ev,this]
  cases Jag z (ps.map fun p=>(p.1,p.2.1,argv e' S'.ρ p.2.2)) with
  |none=>exact Gn
  |some cs=>exact .pure (by simp[K.vw,K.vs]) (by simp[K.aw,K.avs,inO])
 |mks z n zero ps=>
  have:ps.map (fun p=>(p.1,argv e S.ρ p.2))=ps.map (fun p=>(p.1,argv e' S'.ρ p.2)):=GP fun p hp=>by rw[ha p.2 (by simp only[K.args,List.mem_map];exact⟨p,hp,rfl⟩)]
  simp only[ev,this]
  cases Jr z (List.replicate n zero) (ps.map fun p=>(p.1,argv e' S'.ρ p.2)) with
  |none=>exact Gn
  |some cs=>exact .pure (by simp[K.vw,K.vs]) (by simp[K.aw,K.avs,inO])
 |mko z=>
  simp only[ev,hA d (by simp[K.avs,inO])]
  split
  ·exact Gn
  ·refine⟨rfl,rfl,rfl,fun s hs=>by simp[K.vw,K.vs] at hs,fun s hs=>⟨rfl,rfl⟩,fun s hs=>?_,fun s hs=>?_⟩
   ·simp[K.aw,K.avs,inO] at hs;simp[upd,hs]
   ·simp[K.aw,K.avs,inO] at hs;simp[upd,hs]
 |load l n p=>
  have:Jz S l n (argv e S.ρ p)=Jz S' l n (argv e' S'.ρ p):=by
   rw[ha p (by simp[K.args])];generalize argv e' S'.ρ p=p';unfold Jz;cases l with
   |v s=>
    have h1:=hv s (by simp[K.vs]);cases p'<;>simp only[h1]
   |e s=>
    have h1:=hA s (by simp[K.avs,inO]);cases p'<;>simp only[h1]
   |c=>cases p'<;>rfl
   |x=>
    have h1:S.A=S'.A:=funext fun s=>hA s (by simp[K.avs,inO]);cases p'<;>simp only[h1]
  simp only[ev,this]
  exact .bindV (by simp[K.vw]) (by simp[K.aw,inO])
 |store l n p x=>
  simp only[ev,ha p (by simp[K.args]),ha x (by simp[K.args])]
  generalize argv e' S'.ρ p=p'
  generalize argv e' S'.ρ x=x'
  unfold JC
  cases x'.cells with
  |none=>exact Gn
  |some xs=>
   simp only[Option.bind_some]
   split
   ·cases l with
    |v s=>
     cases p'<;>try exact Gn
     rename_i s' off
     simp only
     split
     ·rw[hv s (by simp[K.vs])]
      split
      ·rename_i cs _
       cases JG cs off xs with
       |none=>exact Gn
       |some cs'=>
        refine⟨rfl,rfl,rfl,fun s hs=>?_,fun s hs=>?_,fun s hs=>by simp[K.aw,K.avs,inO] at hs,fun s hs=>⟨rfl,rfl⟩⟩
        ·simp[K.vw,K.vs] at hs;simp[upd,hs]
        ·simp[K.vw,K.vs] at hs;simp[upd,hs]
      ·exact Gn
     ·exact Gn
    |e s=>
     cases p'<;>try exact Gn
     rename_i s' i off m
     simp only
     split
     ·rw[hA s (by simp[K.avs,inO])]
      split
      ·rename_i z rows _
       split
       ·cases rows[i]? with
        |none=>exact Gn
        |some r=>
         simp only[Option.bind_some]
         cases JG r off xs with
         |none=>exact Gn
         |some r'=>
          refine⟨rfl,rfl,rfl,fun s hs=>by simp[K.vw,K.vs] at hs,fun s hs=>⟨rfl,rfl⟩,fun s hs=>?_,fun s hs=>?_⟩
          ·simp[K.aw,K.avs,inO] at hs;simp[upd,hs]
          ·simp[K.aw,K.avs,inO] at hs;simp[upd,hs]
       ·exact Gn
      ·exact Gn
     ·exact Gn
    |c=>cases p'<;>exact Gn
    |x=>
     have h1:S.A=S'.A:=funext fun s=>hA s (by simp[K.avs,inO])
     cases p'<;>try exact Gn
     rename_i s i off m
     simp only
     split
     ·rw[h1]
      split
      ·rename_i z rows _
       split
       ·cases rows[i]? with
        |none=>exact Gn
        |some r=>
         simp only[Option.bind_some]
         cases JG r off xs with
         |none=>exact Gn
         |some r'=>exact⟨rfl,rfl,rfl,fun s hs=>by simp[K.vw,K.vs] at hs,fun s hs=>⟨rfl,rfl⟩,fun s hs=>rfl,fun s hs=>absurd (by simp[K.aw,K.avs,inO]) hs⟩
       ·exact Gn
      ·exact Gn
     ·exact Gn
   ·exact Gn
 |bin o x y=>simp only[ev,ha x (by simp[K.args]),ha y (by simp[K.args])];exact .bindV (by simp[K.vw,K.vs]) (by simp[K.aw,K.avs,inO])
 |eqa ne sh x y=>
  simp only[ev,ha x (by simp[K.args]),ha y (by simp[K.args])]
  split
  ·rename_i xs ys _ _
   cases JbN sh xs ys with
   |none=>exact Gn
   |some b=>exact .pure (by simp[K.vw,K.vs]) (by simp[K.aw,K.avs,inO])
  ·exact Gn
 |eqb ne x y=>
  simp only[ev,ha x (by simp[K.args]),ha y (by simp[K.args])]
  split
  ·exact .pure (by simp[K.vw,K.vs]) (by simp[K.aw,K.avs,inO])
  ·exact Gn
 |sh o x y=>simp only[ev,ha x (by simp[K.args]),ha y (by simp[K.args])];exact .bindV (by simp[K.vw,K.vs]) (by simp[K.aw,K.avs,inO])
 |mm mx x y=>
  simp only[ev,ha x (by simp[K.args]),ha y (by simp[K.args])]
  split
  ·split
   ·exact .pure (by simp[K.vw,K.vs]) (by simp[K.aw,K.avs,inO])
   ·exact Gn
  ·exact Gn
 |un o x=>simp only[ev,ha x (by simp[K.args])];exact .bindV (by simp[K.vw,K.vs]) (by simp[K.aw,K.avs,inO])
 |conv c x=>simp only[ev,ha x (by simp[K.args])];exact .bindV (by simp[K.vw,K.vs]) (by simp[K.aw,K.avs,inO])
 |fn f cap sites=>
  have hc:cap.map (argv e S.ρ)=cap.map (argv e' S'.ρ):=GP fun x hx=>ha x (by simp[K.args,hx])
  have hd:sites.all (JK S.μ)=sites.all (JK S'.μ):=by
   rw[Bool.eq_iff_iff,Gs,Gs];constructor<;>intro h s hs
   ·have:=h s hs;simp only[JK] at this ⊢;rwa [←hv s (by simpa [K.vs] using hs)]
   ·have:=h s hs;simp only[JK] at this ⊢;rwa [hv s (by simpa [K.vs] using hs)]
  have hcap:∀x:V,capV S.μ sites x=capV S'.μ sites x:=fun x=>by
   unfold capV;split
   ·rename_i s;by_cases hs:s∈sites
    ·rw[hv s (by simpa [K.vs] using hs)]
    ·have:sites.contains s=false:=by simpa using hs
     rw[this];cases S.μ s<;>cases S'.μ s<;>simp
   ·rfl
  simp only[ev,hc,hd,JbV (fun x _=>hcap x)]
  split
  ·cases Jn (capV S'.μ sites) (cap.map (argv e' S'.ρ)) with
   |none=>exact Gn
   |some cs=>
    refine⟨rfl,rfl,rfl,fun s hs=>?_,fun s hs=>?_,fun s hs=>by simp[K.aw,K.avs,inO] at hs,fun s hs=>⟨rfl,rfl⟩⟩
    ·exact JgI sites _ _ s (hv s hs)
    ·exact⟨JcR sites _ s hs,JcR sites _ s hs⟩
  ·exact Gn
 |sl st z x lo hi=>
  have hlo:lo.map (argv e S.ρ)=lo.map (argv e' S'.ρ):=by cases lo with|none=>rfl|some a=>simp[ha a (by simp[K.args])]
  have hhi:hi.map (argv e S.ρ)=hi.map (argv e' S'.ρ):=by cases hi with|none=>rfl|some a=>simp[ha a (by simp[K.args])]
  simp only[ev,ha x (by simp[K.args]),hlo,hhi];exact .bindV (by simp[K.vw,K.vs]) (by simp[K.aw,K.avs,inO])
 |fad x off=>simp only[ev,ha x (by simp[K.args])];exact .bindV (by simp[K.vw,K.vs]) (by simp[K.aw,K.avs,inO])
 |iad z x i=>simp only[ev,ha x (by simp[K.args]),ha i (by simp[K.args])];exact .bindV (by simp[K.vw,K.vs]) (by simp[K.aw,K.avs,inO])
 |iada z n x i=>simp only[ev,ha x (by simp[K.args]),ha i (by simp[K.args])];exact .bindV (by simp[K.vw,K.vs]) (by simp[K.aw,K.avs,inO])
 |idx x i=>simp only[ev,ha x (by simp[K.args]),ha i (by simp[K.args])];exact .bindV (by simp[K.vw,K.vs]) (by simp[K.aw,K.avs,inO])
 |ext x i=>simp only[ev,ha x (by simp[K.args])];exact .bindV (by simp[K.vw,K.vs]) (by simp[K.aw,K.avs,inO])
 |len st x=>simp only[ev,ha x (by simp[K.args])];exact .bindV (by simp[K.vw,K.vs]) (by simp[K.aw,K.avs,inO])
 |app s z x y=>
  simp only[ev,ha x (by simp[K.args]),ha y (by simp[K.args])]
  generalize argv e' S'.ρ x=x'
  generalize argv e' S'.ρ y=y'
  unfold appN J7
  cases x'<;>try exact Gn
  case nslice z'=>
   simp only
   split
   ·rw[hA s (by simp[K.avs,inO])]
    split
    ·cases V.rowsOf z y' with
     |none=>exact Gn
     |some ys=>
      simp only[Option.bind_some]
      split
      ·refine⟨rfl,rfl,rfl,fun s hs=>by simp[K.vw,K.vs] at hs,fun s hs=>⟨rfl,rfl⟩,fun s hs=>?_,fun s hs=>?_⟩
       ·simp[K.aw,K.avs,inO] at hs;simp[upd,hs]
       ·simp[K.aw,K.avs,inO] at hs;simp[upd,hs]
      ·exact Gn
    ·exact Gn
   ·exact Gn
  rename_i s' z' n
  simp only
  split
  ·rw[hA s (by simp[K.avs,inO])]
   split
   ·rename_i z'' rows _
    split
    ·cases V.rowsOf z y' with
     |none=>exact Gn
     |some ys=>
      simp only[Option.bind_some]
      split
      ·refine⟨rfl,rfl,rfl,fun s hs=>by simp[K.vw,K.vs] at hs,fun s hs=>⟨rfl,rfl⟩,fun s hs=>?_,fun s hs=>?_⟩
       ·simp[K.aw,K.avs,inO] at hs;simp[upd,hs]
       ·simp[K.aw,K.avs,inO] at hs;simp[upd,hs]
      ·exact Gn
    ·exact Gn
   ·exact Gn
  ·exact Gn
 |apf s z x y=>
  simp only[ev,ha x (by simp[K.args]),ha y (by simp[K.args])]
  generalize argv e' S'.ρ x=x'
  generalize argv e' S'.ρ y=y'
  unfold J7
  cases x'<;>try exact Gn
  rename_i s' z' n
  simp only
  split
  ·rw[hA s (by simp[K.avs,inO])]
   split
   ·rename_i z'' rows _
    split
    ·cases V.rowsOf z y' with
     |none=>exact Gn
     |some ys=>
      simp only[Option.bind_some]
      split
      ·rename_i hlen
       have e1:∀A:Nat→Option (Nat×List (List V)×Fz),toDC (upd A s (some (z,rows++ys,.live))) (.own s z (rows.length+ys.length))=some (.slice z (rows++ys)):=fun A=>by simp[toDC,upd]
       simp only[e1,Option.bind_some]
       refine⟨rfl,rfl,rfl,fun s hs=>by simp[K.vw,K.vs] at hs,fun s hs=>⟨rfl,rfl⟩,fun s hs=>?_,fun s hs=>?_⟩
       ·simp[K.aw,K.avs,inO] at hs;simp[Jt,upd,hs]
       ·simp[K.aw,K.avs,inO] at hs;simp[Jt,upd,hs]
      ·exact Gn
    ·exact Gn
   ·exact Gn
  ·exact Gn
 |ins f s z x i y=>
  simp only[ev,ha x (by simp[K.args]),ha i (by simp[K.args]),ha y (by simp[K.args])]
  split
  ·split
   ·rw[hA s (by simp[K.avs,inO])]
    split
    ·split
     ·refine⟨rfl,rfl,rfl,fun s hs=>by simp[K.vw,K.vs] at hs,fun s hs=>⟨rfl,rfl⟩,fun s hs=>?_,fun s hs=>?_⟩
      ·simp[K.aw,K.avs,inO] at hs;simp[upd,hs]
      ·simp[K.aw,K.avs,inO] at hs;simp[upd,hs]
     ·exact Gn
    ·exact Gn
   ·exact Gn
  ·exact Gn
 |del f s z x i j=>
  simp only[ev,ha x (by simp[K.args]),ha i (by simp[K.args]),ha j (by simp[K.args])]
  split
  ·split
   ·rw[hA s (by simp[K.avs,inO]),hA d (by simp[K.avs,inO])]
    split
    ·split
     ·refine⟨rfl,rfl,rfl,fun s hs=>by simp[K.vw,K.vs] at hs,fun s hs=>⟨rfl,rfl⟩,fun t ht=>?_,fun t ht=>?_⟩
      ·simp[K.aw,K.avs,inO] at ht
       by_cases e1:t=d
       ·simp[upd,e1]
       ·have:t=s:=by rcases ht with h|h<;>simp_all
        subst this;simp[upd,e1]
      ·simp[K.aw,K.avs,inO] at ht
       simp[upd,ht.1,ht.2]
     ·exact Gn
    ·exact Gn
   ·exact Gn
  ·exact Gn
 |call f cv own xs=>
  have hc:callee e S.ρ f=callee e' S'.ρ f:=by
   cases f with
   |k f=>rfl
   |v x=>simp only[callee,ha x (by simp[K.args,Cal.args])]
  have hx:xs.map (argv e S.ρ)=xs.map (argv e' S'.ρ):=GP fun x hx=>ha x (by simp[K.args,hx])
  simp only[ev,hc,hx]
  cases callee e' S'.ρ f with
  |none=>exact Gn
  |some fc=>
   simp only[Option.bind_some]
   generalize xs.map (argv e' S'.ρ)=avs
   unfold callV
   cases cv with
   |no=>
    simp only
    split
    ·cases κ fc.1 (avs++fc.2) with
     |none=>exact Gn
     |some r=>
      simp only[Option.bind_some]
      cases own with
      |none=>exact .pure (by simp[K.vw,K.vs]) (by simp[K.aw,K.avs,inO])
      |some j=>
       simp only[adopt,hA d (by simp[K.avs,inO])]
       split
       ·exact Gn
       ·split
        ·refine⟨rfl,rfl,rfl,fun s hs=>by simp[K.vw,K.vs] at hs,fun s hs=>⟨rfl,rfl⟩,fun s hs=>?_,fun s hs=>?_⟩
         ·simp[K.aw,K.avs,inO] at hs;simp[upd,hs]
         ·simp[K.aw,K.avs,inO] at hs;simp[upd,hs]
        ·split
         ·refine⟨rfl,rfl,rfl,fun s hs=>by simp[K.vw,K.vs] at hs,fun s hs=>⟨rfl,rfl⟩,fun s hs=>?_,fun s hs=>?_⟩
          ·simp[K.aw,K.avs,inO] at hs;simp[upd,hs]
          ·simp[K.aw,K.avs,inO] at hs;simp[upd,hs]
         ·exact Gn
        ·exact Gn
    ·exact Gn
   |borrow=>
    have:S.A=S'.A:=funext fun s=>hA s (by simp[K.avs,inO])
    simp only[this]
    cases Jn (toD S'.A) avs with
    |none=>exact Gn
    |some bs=>
     simp only[Option.bind_some]
     cases κ fc.1 (bs++fc.2) with
     |none=>exact Gn
     |some r=>
      simp only[Option.bind_some]
      split
      ·exact .pure (by simp[K.vw,K.vs]) (by simp[K.aw,inO])
      ·exact Gn
   |freeze=>
    have hAA:S.A=S'.A:=funext fun s=>hA s (by simp[K.avs,inO])
    simp only[hAA]
    cases Jn (toD S'.A) avs with
    |none=>exact Gn
    |some bs=>
     simp only[Option.bind_some]
     cases κ fc.1 (bs++fc.2) with
     |none=>exact Gn
     |some r=>
      simp only[Option.bind_some]
      unfold adopt
      cases own with
      |none=>exact⟨rfl,rfl,rfl,fun s hs=>by simp[K.vw,K.vs] at hs,fun s hs=>⟨rfl,rfl⟩,fun s hs=>rfl,fun s hs=>by simp[K.aw,K.avs,inO] at hs⟩
      |some j=>
       simp only
       split
       ·exact Gn
       ·split
        ·exact⟨rfl,rfl,rfl,fun s hs=>by simp[K.vw,K.vs] at hs,fun s hs=>⟨rfl,rfl⟩,fun s hs=>rfl,fun s hs=>by simp[K.aw,K.avs,inO] at hs⟩
        ·split
         ·exact⟨rfl,rfl,rfl,fun s hs=>by simp[K.vw,K.vs] at hs,fun s hs=>⟨rfl,rfl⟩,fun s hs=>rfl,fun s hs=>by simp[K.aw,K.avs,inO] at hs⟩
         ·exact Gn
        ·exact Gn
 |nilc x=>
  simp only[ev,ha x (by simp[K.args])]
  split<;>first|exact Gn|exact .pure (by simp[K.vw,K.vs]) (by simp[K.aw,K.avs,inO])
 |ifn x=>
  simp only[ev,ha x (by simp[K.args])]
  split<;>first|exact Gn|exact .pure (by simp[K.vw,K.vs]) (by simp[K.aw,K.avs,inO])
 |nilq x=>
  simp only[ev,ha x (by simp[K.args])]
  split<;>first|exact Gn|exact .pure (by simp[K.vw,K.vs]) (by simp[K.aw,K.avs,inO])
 |frz s x=>
  simp only[ev,ha x (by simp[K.args])]
  have hA0:S.A s=S'.A s:=hA s (by simp[K.avs,inO])
  split
  ·rename_i s' z n hx
   split
   ·have e1:toDC S.A (.own s z n)=toDC S'.A (.own s z n):=by simp only[toDC,hA0]
    rw[e1]
    cases toDC S'.A (.own s z n) with
    |none=>exact Gn
    |some v=>exact⟨rfl,rfl,rfl,fun s hs=>by simp[K.vw,K.vs] at hs,fun s hs=>⟨rfl,rfl⟩,fun t ht=>by
      simp[K.aw,K.avs,inO] at ht;subst ht;simp[Jt,upd,hA0],fun t ht=>by
      simp[K.aw,K.avs,inO] at ht;exact⟨by simp[Jt,upd,ht],by simp[Jt,upd,ht]⟩⟩
   ·exact Gn
  ·exact Gn
 |ldf s v n p=>
  have e0:Jz S (.v v) (some n) (argv e S.ρ p)=Jz S' (.v v) (some n) (argv e' S'.ρ p):=by
   rw[ha p (by simp[K.args])];generalize argv e' S'.ρ p=p';unfold Jz;have h1:=hv v (by simp[K.vs]);cases p'<;>simp only[h1]
  have hA0:S.A s=S'.A s:=hA s (by simp[K.avs,inO])
  simp only[ev,e0]
  cases Jz S' (.v v) (some n) (argv e' S'.ρ p) with
  |none=>exact Gn
  |some x=>
   simp only[Option.bind_some]
   split
   ·rename_i hall
    have e1:toD S.A x=toD S'.A x:=JfV fun t ht=>by
     have:=Gs.1 hall t ht;rw[GA.1 this];exact hA0
    rw[e1]
    cases toD S'.A x with
    |none=>exact Gn
    |some y=>exact⟨rfl,rfl,rfl,fun s hs=>by simp[K.vw] at hs,fun s hs=>⟨rfl,rfl⟩,fun t ht=>by
      simp[K.aw,K.avs,inO] at ht;subst ht;simp[Jt,upd,hA0],fun t ht=>by
      simp[K.aw,K.avs,inO] at ht;exact⟨by simp[Jt,upd,ht],by simp[Jt,upd,ht]⟩⟩
   ·exact Gn
 |mkb z n zero ps=>
  have:ps.map (fun p=>(p.1,argv e S.ρ p.2))=ps.map (fun p=>(p.1,argv e' S'.ρ p.2)):=GP fun p hp=>by rw[ha p.2 (by simp only[K.args,List.mem_map];exact⟨p,hp,rfl⟩)]
  have hA0:S.A d=S'.A d:=hA d (by simp[K.avs,inO])
  simp only[ev,this,adopt,←hA0]
  cases Jr z (List.replicate n zero) (ps.map fun p=>(p.1,argv e' S'.ρ p.2)) with
  |none=>exact Gn
  |some rows=>
   simp only[Option.bind_some]
   cases S.A d with
   |some x=>exact Gn
   |none=>exact⟨rfl,rfl,rfl,fun s hs=>by simp[K.vw,K.vs] at hs,fun s hs=>⟨rfl,rfl⟩,fun s hs=>by
     simp[K.aw,K.avs,inO] at hs;subst hs;simp[upd],fun s hs=>by
     simp[K.aw,K.avs,inO] at hs;exact⟨by simp[upd,hs],by simp[upd,hs]⟩⟩
 |rcall f xs k s b=>
  have hx:xs.map (argv e S.ρ)=xs.map (argv e' S'.ρ):=GP fun x hx=>ha x (by simp[K.args,hx])
  have hAA:S.A=S'.A:=funext fun s=>hA s (by simp[K.avs,inO])
  have h1:S.μ s=S'.μ s:=hv s (by simp[K.vs])
  simp only[ev,hx]
  generalize xs.map (argv e' S'.ρ)=avs
  have hA1:rcallA S k s avs=rcallA S' k s avs:=by unfold rcallA;simp only[hAA,h1]
  unfold JaZ
  rw[hA1]
  cases rcallA S' k s avs with
  |none=>exact Gn
  |some q=>
   simp only[Option.bind_some]
   cases κ f q.1 with
   |none=>exact Gn
   |some r=>
    simp only[Option.bind_some]
    unfold rcallE
    split
    ·rename_i us
     cases JS b us q.2 with
     |none=>exact Gn
     |some t=>
      refine⟨rfl,rfl,rfl,fun s hs=>?_,fun s hs=>?_,fun s hs=>rfl,fun s hs=>by simp[K.aw,K.avs,inO] at hs⟩
      ·simp[K.vw,K.vs] at hs;simp[upd,hs]
      ·simp[K.vw,K.vs] at hs;simp[upd,hs]
    ·exact Gn
 |allo z b=>
  have hAA:S.A=S'.A:=funext fun s=>hA s (by simp[K.avs,inO])
  simp only[ev,hv d (by simp[K.vs]),hAA]
  split
  ·exact Gn
  ·cases JS b (z.map nilT) S'.A with
   |none=>exact Gn
   |some t=>
    refine⟨rfl,rfl,rfl,fun s hs=>?_,fun s hs=>?_,fun s hs=>rfl,fun s hs=>by simp[K.aw,K.avs,inO] at hs⟩
    ·simp[K.vw,K.vs] at hs;simp[upd,hs]
    ·simp[K.vw,K.vs] at hs;simp[upd,hs]
 |boxo x b=>
  have hAA:S.A=S'.A:=funext fun s=>hA s (by simp[K.avs,inO])
  simp only[ev,hv d (by simp[K.vs]),hAA,ha x (by simp[K.args])]
  split
  ·exact Gn
  ·split
   ·rename_i cs _
    split
    ·cases JS b (cs.map nilT) S'.A with
     |none=>exact Gn
     |some t=>
      refine⟨rfl,rfl,rfl,fun s hs=>?_,fun s hs=>?_,fun s hs=>rfl,fun s hs=>by simp[K.aw,K.avs,inO] at hs⟩
      ·simp[K.vw,K.vs] at hs;simp[upd,hs]
      ·simp[K.vw,K.vs] at hs;simp[upd,hs]
    ·exact Gn
   ·exact Gn
 |appd z x y=>
  have hAA:S.A=S'.A:=funext fun s=>hA s (by simp[K.avs,inO])
  simp only[ev,ha x (by simp[K.args]),ha y (by simp[K.args])]
  generalize argv e' S'.ρ x=x'
  generalize argv e' S'.ρ y=y'
  unfold appW J7
  cases x'<;>try exact Gn
  simp only[hAA]
  split
  ·split
   ·split
    ·cases V.rowsOf z y' with
     |none=>exact Gn
     |some ys=>
      simp only[Option.bind_some]
      split
      ·exact⟨rfl,rfl,rfl,fun s hs=>by simp[K.vw,K.vs] at hs,fun s hs=>⟨rfl,rfl⟩,fun s hs=>rfl,fun s hs=>by simp[K.aw,K.avs,inO] at hs⟩
      ·exact Gn
    ·exact Gn
   ·exact Gn
  ·exact Gn
 |slf z x lo hi=>
  have hAA:S.A=S'.A:=funext fun s=>hA s (by simp[K.avs,inO])
  have hlo:lo.map (argv e S.ρ)=lo.map (argv e' S'.ρ):=by cases lo with|none=>rfl|some a=>simp[ha a (by simp[K.args])]
  have hhi:hi.map (argv e S.ρ)=hi.map (argv e' S'.ρ):=by cases hi with|none=>rfl|some a=>simp[ha a (by simp[K.args])]
  simp only[ev,ha x (by simp[K.args]),hlo,hhi,hAA]
  cases toDC S'.A (argv e' S'.ρ x) with
  |none=>exact Gn
  |some y=>
   simp only[Option.bind_some]
   cases slV false z y (lo.map (argv e' S'.ρ)) (hi.map (argv e' S'.ρ)) with
   |none=>exact Gn
   |some v=>exact⟨rfl,rfl,rfl,fun s hs=>by simp[K.vw,K.vs] at hs,fun s hs=>⟨rfl,rfl⟩,fun s hs=>rfl,fun s hs=>by simp[K.aw,K.avs,inO] at hs⟩
 |mkoz z s=>
  have h1:S.A s=S'.A s:=hA s (by simp[K.avs,inO])
  have h2:S.A d=S'.A d:=hA d (by simp[K.avs,inO])
  have h3:Jt S.A [s] d=Jt S'.A [s] d:=by simp only[Jt,List.foldl_cons,List.foldl_nil,upd,h1,h2]
  simp only[ev,h3]
  split
  ·exact Gn
  ·refine⟨rfl,rfl,rfl,fun s hs=>by simp[K.vw,K.vs] at hs,fun s hs=>⟨rfl,rfl⟩,fun t ht=>?_,fun t ht=>?_⟩
   ·simp[K.aw,K.avs,inO] at ht
    by_cases e1:t=d
    ·simp[upd,e1]
    ·have:t=s:=by rcases ht with h|h<;>simp_all
     subst this;simp[upd,e1,Jt,h1]
   ·simp[K.aw,K.avs,inO] at ht
    simp[upd,Jt,ht.1,ht.2]
 |slr s z x lo hi=>
  have hA0:S.A s=S'.A s:=hA s (by simp[K.avs,inO])
  have hlo:lo.map (argv e S.ρ)=lo.map (argv e' S'.ρ):=by cases lo with|none=>rfl|some a=>simp[ha a (by simp[K.args])]
  have hhi:hi.map (argv e S.ρ)=hi.map (argv e' S'.ρ):=by cases hi with|none=>rfl|some a=>simp[ha a (by simp[K.args])]
  have hf:∀x,frzD S.A s x=frzD S'.A s x:=fun x=>by cases x<;>simp only[frzD,hA0]
  simp only[ev,ha x (by simp[K.args]),hlo,hhi,hf]
  cases frzD S'.A s (argv e' S'.ρ x) with
  |none=>exact Gn
  |some y=>
   simp only[Option.bind_some]
   exact .bindV (by simp[K.vw,K.vs]) (by simp[K.aw,inO])
 |fld x off n=>
  simp only[ev,ha x (by simp[K.args])]
  split
  ·exact .bindV (by simp[K.vw,K.vs]) (by simp[K.aw,K.avs,inO])
  ·exact Gn
 |b2s x=>
  have hAA:S.A=S'.A:=funext fun s=>hA s (by simp[K.avs,inO])
  simp only[ev,ha x (by simp[K.args]),hAA]
  exact .bindV (by simp[K.vw,K.vs]) (by simp[K.aw,inO])
 |mif t x=>
  simp only[ev,ha x (by simp[K.args])]
  split
  ·exact .pure (by simp[K.vw,K.vs]) (by simp[K.aw,K.avs,inO])
  ·exact Gn
 |asr t z x=>
  simp only[ev,ha x (by simp[K.args])]
  split
  ·split
   ·exact .pure (by simp[K.vw,K.vs]) (by simp[K.aw,K.avs,inO])
   ·cases z with
    |none=>exact Gn
    |some z=>exact .pure (by simp[K.vw,K.vs]) (by simp[K.aw,K.avs,inO])
  ·cases z with
   |none=>exact Gn
   |some z=>exact .pure (by simp[K.vw,K.vs]) (by simp[K.aw,K.avs,inO])
  ·exact Gn
 |inv l x xs=>
  have hxs:xs.map (argv e S.ρ)=xs.map (argv e' S'.ρ):=GP fun y hy=>ha y (by simp[K.args,hy])
  simp only[ev,ha x (by simp[K.args]),hxs]
  split
  ·split
   ·rename_i t v _ _
    cases l.find? (·.1 == t) with
    |none=>exact Gn
    |some f=>
     simp only[Option.bind_some]
     cases κ f.2 (v::xs.map (argv e' S'.ρ)) with
     |none=>exact Gn
     |some r=>exact .pure (by simp[K.vw,K.vs]) (by simp[K.aw,K.avs,inO])
   ·exact Gn
  ·exact Gn
 |bad=>exact Gn
def Op.gw (o:Op):List Nat:=if o.gl then o.dst.toList else []
def Op.d (o:Op):Nat:=o.dst.getD 0
def Op.lr (o:Op):List Nat:=(o.gd.toList.map (·.1))++o.k.args.flatMap Arg.lr
def Op.gr (o:Op):List Nat:=o.k.args.flatMap Arg.gr
structure Agree (o:Op) (e e':Nat→V) (S S':St):Prop where
 l:∀i,i∈o.lr→e i=e' i
 g:∀t,t∈o.gr→S.ρ t=S'.ρ t
 v:∀s,s∈o.k.vs o.d→S.μ s=S'.μ s
 a:∀s,inO s (o.k.avs o.d)→S.A s=S'.A s
def SameS (o:Op) (S S':St):Option (V×St)→Option (V×St)→Prop
 |none,none=>True
 |some (v,T),some (v',T')=>v=v'∧(∀t,t∈o.gw→T.ρ t=T'.ρ t)∧(∀t,t∉o.gw→T.ρ t=S.ρ t∧T'.ρ t=S'.ρ t)∧
   (∀s,s∈o.k.vw o.d→T.μ s=T'.μ s)∧(∀s,s∉o.k.vw o.d→T.μ s=S.μ s∧T'.μ s=S'.μ s)∧
   (∀s,inO s (o.k.aw o.d)→T.A s=T'.A s)∧(∀s,¬inO s (o.k.aw o.d)→T.A s=S.A s∧T'.A s=S'.A s)
 |_,_=>False
theorem Jig {d:Nat} {k:K} {s:Nat} (h:s∈k.vw d):s∈k.vs d:=by
 cases k<;>simp_all [K.vw]
theorem Jh5 {d:Nat} {k:K} {s:Nat} (h:inO s (k.aw d)):inO s (k.avs d):=by
 cases k<;>try (exact h)
 ·simp[K.aw,inO] at h
 ·rename_i f cv own xs;cases cv
  ·exact h
  ·simp[K.aw,inO] at h
  ·exact h
 ·simp[K.aw,inO] at h
 ·simp[K.aw,inO] at h
theorem JdY (S:St) (o:Op) (v:V):(∀t,t∈o.gw→(S.put o v).ρ t=v)∧(∀t,t∉o.gw→(S.put o v).ρ t=S.ρ t)∧(S.put o v).μ=S.μ∧(S.put o v).A=S.A:=by
 unfold St.put Op.gw;cases o.gl<;>cases o.dst<;>simp[upd];intro t ht e;exact absurd e ht
theorem Jbp (o:Op) (e e':Nat→V) (S S':St) (h:Agree o e e' S S'):SameS o S S' (step κ o e S) (step κ o e' S'):=by
 have hw:Jq e o.gd=Jq e' o.gd:=by
  unfold Jq;cases hg:o.gd with
  |none=>rfl
  |some jb=>obtain⟨j,b⟩:=jb;simp only;rw[h.l j (by simp[Op.lr,hg])]
 unfold step;rw[hw];have ha:∀x∈o.k.args,argv e S.ρ x=argv e' S'.ρ x:=fun x hx=>by
  cases x with
  |g t=>exact h.g t (by simp only[Op.gr,G5];exact⟨_,hx,by simp[Arg.gr]⟩)
  |l i=>exact h.l i (by simp only[Op.lr,GQ,G5];exact .inr ⟨_,hx,by simp[Arg.lr]⟩)
  |c v=>rfl
  |f k=>rfl
 split
 ·exact Gn
 ·obtain⟨p1,p2,p3,p4⟩:=JdY S o .un;obtain⟨q1,q2,q3,q4⟩:=JdY S' o .un;refine⟨rfl,fun t ht=>by rw[p1 t ht,q1 t ht],fun t ht=>⟨p2 t ht,q2 t ht⟩,fun s hs=>by rw[p3,q3];exact h.v s (Jig hs),fun s hs=>by rw[p3,q3];exact⟨rfl,rfl⟩,
   fun s hs=>by rw[p4,q4];exact h.a s (Jh5 hs),fun s hs=>by rw[p4,q4];exact⟨rfl,rfl⟩⟩
 ·have hev:=JdM κ o.d o.k e e' S S' ha h.v h.a
  show SameS o S S' ((ev κ o.d e S o.k).bind _) ((ev κ o.d e' S' o.k).bind _)
  generalize ev κ o.d e S o.k=r at hev;generalize ev κ o.d e' S' o.k=r' at hev;cases r with
  |none=>cases r' with
   |none=>exact Gn
   |some _=>exact hev.elim
  |some r=>cases r' with
   |none=>exact hev.elim
   |some r'=>
    obtain⟨v,T⟩:=r
    obtain⟨v',T'⟩:=r'
    obtain⟨rfl,h1,h2,h3,h4,h5,h6⟩:=hev
    obtain⟨p1,p2,p3,p4⟩:=JdY T o v
    obtain⟨q1,q2,q3,q4⟩:=JdY T' o v
    exact⟨rfl,fun t ht=>by rw[p1 t ht,q1 t ht],fun t ht=>⟨by rw[p2 t ht,h1],by rw[q2 t ht,h2]⟩,fun s hs=>by rw[p3,q3];exact h3 s hs,fun s hs=>by rw[p3,q3];exact h4 s hs,
     fun s hs=>by rw[p4,q4];exact h5 s hs,fun s hs=>by rw[p4,q4];exact h6 s hs⟩
def Jgz:Option (List Nat)→Option (List Nat)→Bool
 |some [],_=>true
 |_,some []=>true
 |some l,some m=>l.all fun s=>!m.contains s
 |_,_=>false
theorem Jcb {a b:Option (List Nat)} (h:Jgz a b=true) (s:Nat) (ha:inO s a):¬inO s b:=by
 unfold Jgz at h;split at h
 ·simp[inO] at ha
 ·simp[inO]
 ·rw[Gs] at h;have:=h s ha;simpa [inO] using this
 ·simp at h
theorem JkO (l:List Nat) (x:Nat):l.contains x=false↔x∉l:=by simp
def indep (i j:Nat) (p q:Op):Bool:=
 !q.lr.contains i&&!p.lr.contains j &&
 (p.gw.all fun t=>!q.gr.contains t&&!q.gw.contains t)&&(q.gw.all fun t=>!p.gr.contains t) &&
 ((p.k.vw p.d).all fun s=>!(q.k.vs q.d).contains s)&&((q.k.vw q.d).all fun s=>!(p.k.vs p.d).contains s) &&
 Jgz (p.k.aw p.d) (q.k.avs q.d)&&Jgz (q.k.aw q.d) (p.k.avs p.d)
theorem SameS.refl {o:Op} {e:Nat→V} {S:St}:SameS o S S (step κ o e S) (step κ o e S):=Jbp κ o e e S S ⟨fun _ _=>rfl,fun _ _=>rfl,fun _ _=>rfl,fun _ _=>rfl⟩
theorem St.ext' {S T:St} (h1:∀t,S.ρ t=T.ρ t) (h2:∀s,S.μ s=T.μ s) (h3:∀s,S.A s=T.A s):S=T:=by
 cases S;cases T;congr<;>funext x<;>simp_all
theorem Jey {i j:Nat} (hij:i≠j) {p q:Op} (h:indep i j p q=true) (e:Nat→V) (S:St) :
  ((step κ p e S).bind fun r=>(step κ q (upd e i r.1) r.2).bind fun r'=>some (upd (upd e i r.1) j r'.1,r'.2))=
  ((step κ q e S).bind fun r=>(step κ p (upd e j r.1) r.2).bind fun r'=>some (upd (upd e j r.1) i r'.1,r'.2)):=by
 simp only[indep,Gg,Gs,GH,JkO] at h
 obtain⟨⟨⟨⟨⟨⟨⟨h1,h2⟩,h3⟩,h4⟩,h5⟩,h6⟩,h7⟩,h8⟩:=h
 have a7:=Jcb h7
 have a8:=Jcb h8
 -- q behind p
 have Q:∀v T,step κ p e S=some (v,T)→SameS q S T (step κ q e S) (step κ q (upd e i v) T):=fun v T hp=>by
  have:=SameS.refl κ (o:=p) (e:=e) (S:=S);rw[hp] at this;obtain⟨-,-,g,-,m,-,a⟩:=this;refine Jbp κ q e (upd e i v) S T ⟨fun k hk=>?_,fun t ht=>?_,fun s hs=>?_,fun s hs=>?_⟩
  ·have:k≠i:=fun he=>h1 (he▸hk);simp[upd,this]
  ·exact (g t (fun hg=>(h3 t hg).1 ht)).1.symm
  ·exact (m s (fun hm=>h5 s hm hs)).1.symm
  ·exact (a s (fun ha=>a7 s ha hs)).1.symm
 have P:∀v T,step κ q e S=some (v,T)→SameS p S T (step κ p e S) (step κ p (upd e j v) T):=fun v T hq=>by
  have:=SameS.refl κ (o:=q) (e:=e) (S:=S);rw[hq] at this;obtain⟨-,-,g,-,m,-,a⟩:=this;refine Jbp κ p e (upd e j v) S T ⟨fun k hk=>?_,fun t ht=>?_,fun s hs=>?_,fun s hs=>?_⟩
  ·have:k≠j:=fun he=>h2 (he▸hk);simp[upd,this]
  ·exact (g t (fun hg=>h4 t hg ht)).1.symm
  ·exact (m s (fun hm=>h6 s hm hs)).1.symm
  ·exact (a s (fun ha=>a8 s ha hs)).1.symm
 cases hp:step κ p e S with
 |none=>
  cases hq:step κ q e S with
  |none=>rfl
  |some r=>
   have:=P r.1 r.2 (by rw[hq])
   rw[hp] at this
   cases hh:step κ p (upd e j r.1) r.2 with
   |none=>simp[hh]
   |some _=>rw[hh] at this;exact this.elim
 |some r=>
  obtain⟨v,T⟩:=r
  have hQ:=Q v T hp
  cases hq:step κ q e S with
  |none=>
   rw[hq] at hQ
   cases hh:step κ q (upd e i v) T with
   |none=>simp[hh]
   |some _=>rw[hh] at hQ;exact hQ.elim
  |some r'=>
   obtain⟨u,U⟩:=r'
   have hP:=P u U hq
   rw[hq] at hQ
   rw[hp] at hP
   cases hh:step κ q (upd e i v) T with
   |none=>rw[hh] at hQ;exact hQ.elim
   |some x=>
    cases hh':step κ p (upd e j u) U with
    |none=>rw[hh'] at hP;exact hP.elim
    |some y=>
     obtain⟨u',T2⟩:=x
     obtain⟨v',U2⟩:=y
     rw[hh] at hQ
     rw[hh'] at hP
     obtain⟨rfl,q1,q2,q3,q4,q5,q6⟩:=hQ
     obtain⟨rfl,p1,p2,p3,p4,p5,p6⟩:=hP
     simp only[Option.bind_some,hh,hh',Ga,Gf]
     refine⟨?_,St.ext' (fun t=>?_) (fun s=>?_) (fun s=>?_)⟩
     ·funext k;simp only[upd];split<;>split<;>simp_all
     ·by_cases t1:t∈p.gw
      ·rw[←p1 t t1];exact (q2 t (h3 t t1).2).2
      ·rw[(p2 t t1).2]
       by_cases t2:t∈q.gw
       ·exact (q1 t t2).symm
       ·rw[(q2 t t2).2,(q2 t t2).1,(p2 t t1).1]
     ·by_cases t1:s∈p.k.vw p.d
      ·rw[←p3 s t1];exact (q4 s (fun hh=>h5 s t1 (Jig hh))).2
      ·rw[(p4 s t1).2]
       by_cases t2:s∈q.k.vw q.d
       ·exact (q3 s t2).symm
       ·rw[(q4 s t2).2,(q4 s t2).1,(p4 s t1).1]
     ·by_cases t1:inO s (p.k.aw p.d)
      ·rw[←p5 s t1];exact (q6 s (fun hh=>a7 s t1 (Jh5 hh))).2
      ·rw[(p6 s t1).2]
       by_cases t2:inO s (q.k.aw q.d)
       ·exact (q5 s t2).symm
       ·rw[(q6 s t2).2,(q6 s t2).1,(p6 s t1).1]
def runIx (ops:List Op):List Nat→(Nat→V)→St→Option St
 |[],_,S=>some S
 |i::l,e,S=>match ops[i]? with
  |none=>runIx ops l e S
  |some o=>(step κ o e S).bind fun r=>runIx ops l (upd e i r.1) r.2
theorem Jdv {ops:List Op} {i j:Nat} (hij:i≠j) (h:∀p q,ops[i]?=some p→ops[j]?=some q→indep i j p q=true) (l:List Nat) (e:Nat→V) (S:St) :
  runIx κ ops (i::j::l) e S=runIx κ ops (j::i::l) e S:=by
 simp only[runIx]
 cases hi:ops[i]? with
 |none=>cases hj:ops[j]?<;>rfl
 |some p=>cases hj:ops[j]? with
  |none=>rfl
  |some q=>
   have:=Jey κ hij (h p q hi hj) e S
   have c:=congrArg (fun x=>x.bind fun r:(Nat→V)×St=>runIx κ ops l r.1 r.2) this
   simpa [Option.bind_assoc] using c
def Jby (a:Nat):List Nat→List Nat
 |[]=>[a]
 |b::l=>if a≤b then a::b::l else b::Jby a l
def JaG:List Nat→List Nat
 |[]=>[]
 |a::l=>Jby a (JaG l)
theorem JcW {a x:Nat} {l:List Nat}:x∈Jby a l↔x=a∨x∈l:=by
 induction l with
 |nil=>simp[Jby]
 |cons b l ih=>
  simp only[Jby];split
  ·simp
  ·simp[ih];constructor
   ·rintro (h|h|h)<;>simp_all
   ·rintro (h|h|h)<;>simp_all
theorem Jeh {x:Nat} {l:List Nat}:x∈JaG l↔x∈l:=by
 induction l with
 |nil=>simp[JaG]
 |cons a l ih=>simp[JaG,JcW,ih]
theorem Jbn {ops:List Op} {a:Nat}:∀(s:List Nat) (e:Nat→V) (S:St),(∀b∈s,b<a→∀p q,ops[a]?=some p→ops[b]?=some q→indep a b p q=true)→
  runIx κ ops (a::s) e S=runIx κ ops (Jby a s) e S
 |[],e,S,_=>rfl
 |b::s,e,S,h=>by
  simp only[Jby];split
  ·rfl
  ·rename_i hab;rw[Jdv κ (by omega) (h b (by simp) (by omega))];simp only[runIx];cases ops[b]? with
   |none=>exact Jbn s e S fun c hc=>h c (by simp[hc])
   |some q=>
    simp only;cases step κ q e S with
    |none=>rfl
    |some r=>exact Jbn s _ _ fun c hc=>h c (by simp[hc])
theorem runIx_sort {ops:List Op}:∀(l:List Nat) (e:Nat→V) (S:St),(l.Pairwise fun a b=>b<a→∀p q,ops[a]?=some p→ops[b]?=some q→indep a b p q=true)→
  runIx κ ops l e S=runIx κ ops (JaG l) e S
 |[],e,S,_=>rfl
 |a::l,e,S,h=>by
  rw[G9] at h;have h1:runIx κ ops (a::l) e S=runIx κ ops (a::JaG l) e S:=by
   simp only[runIx];cases ops[a]? with
   |none=>exact runIx_sort l e S h.2
   |some p=>
    simp only;cases step κ p e S with
    |none=>rfl
    |some r=>exact runIx_sort l _ _ h.2
  rw[h1];exact Jbn κ (JaG l) e S fun b hb=>h.1 b (Jeh.1 hb)
theorem Jc8 {a:Nat} {l:List Nat} (h:l.Pairwise (·≤·)):(Jby a l).Pairwise (·≤·):=by
 induction l with
 |nil=>simp[Jby]
 |cons b l ih=>
  rw[G9] at h;simp only[Jby];split
  ·rename_i hab;rw[G9];exact⟨fun c hc=>by rcases GM.1 hc with rfl|hc;exact hab;exact GK hab (h.1 c hc),G9.2 h⟩
  ·rename_i hab;rw[G9];refine⟨fun c hc=>?_,ih h.2⟩;rcases JcW.1 hc with rfl|hc
   ·omega
   ·exact h.1 c hc
theorem JcH (l:List Nat):(JaG l).Pairwise (·≤·):=by
 induction l with
 |nil=>simp[JaG]
 |cons a l ih=>exact Jc8 ih
theorem Jeo (a:Nat) (l:List Nat):(Jby a l).Perm (a::l):=by
 induction l with
 |nil=>exact .refl _
 |cons b l ih=>
  simp only[Jby];split
  ·exact .refl _
  ·exact (ih.cons b).trans (.swap a b l)
theorem Jds (l:List Nat):(JaG l).Perm l:=by
 induction l with
 |nil=>exact .refl _
 |cons a l ih=>exact (Jeo a _).trans (ih.cons a)
theorem Jc7 {l:List Nat} {n:Nat} (h:l.Perm (List.range n)):JaG l=List.range n:=by
 refine List.Perm.eq_of_pairwise (le:=(·≤·)) (fun a b _ _ h1 h2=>Nat.le_antisymm h1 h2) (JcH l) ?_ ((Jds l).trans h);exact List.pairwise_le_range
theorem Jbo {ops:List Op}:∀(l:List Op) (i:Nat) (e:Nat→V) (S:St),(∀j,l[j]?=ops[i+j]?)→Ju κ l i e S=runIx κ ops (List.range' i l.length) e S
 |[],i,e,S,_=>rfl
 |o::l,i,e,S,h=>by
  have h0:ops[i]?=some o:=by simpa using (h 0).symm
  simp only[Ju,List.length_cons,List.range'_succ,runIx,h0];cases step κ o e S with
  |none=>rfl
  |some r=>exact Jbo l (i+1) _ _ fun j=>by have:=h (j+1);simpa [GU,Nat.add_comm 1 j] using this
end
end Sg
namespace Sg
open Go
def bindsAny (e:Edge):Bool:=Region.binds .any e
def okEdges (ops:Array Oper):Bool:=
 (List.range ops.size).all fun i=>match ops[i]? with
  |some o=>o.after.toList.all fun e=>!bindsAny e||decide (e.on<i)
  |none=>true
def Jk (o:Oper):List Nat:=(o.after.toList.filter bindsAny).map (·.on)
theorem Jaa {ops:Array Oper} (h:okEdges ops=true) {i:Nat} {o:Oper} (ho:ops[i]?=some o) {j:Nat} (hj:j∈Jk o):j<i:=by
 have hi:i<ops.size:=by
  rcases Gt i ops.size with h'|h'
  ·exact h'
  ·simp[Array.getElem?_eq_none h'] at ho
 have:=Gs.1 h i (GO.2 hi);rw[ho] at this;simp only[Jk,List.mem_map,G4] at hj;obtain⟨e,⟨he,hb⟩,rfl⟩:=hj;have:=Gs.1 this e he;rw[hb] at this;simpa using this
def left (n:Nat) (listed:Array Bool):List Nat:=(List.range n).filter fun i=>!listed.getD i true
theorem Jfk {n i:Nat} {listed:Array Bool} (hs:listed.size=n) (hi:i∈left n listed) :
  (left n (listed.setIfInBounds i true)).length+1=(left n listed).length∧∀j,j∈left n (listed.setIfInBounds i true)↔j∈left n listed∧j≠i:=by
 have hmem:∀j,j∈left n (listed.setIfInBounds i true)↔j∈left n listed∧j≠i:=by
  intro j;simp only[left,G4,GO,GH];by_cases e:j=i
  ·subst e;simp only[left,G4,GO] at hi;have:j<listed.size:=by omega
   simp[this]
  ·have e':i≠j:=fun h=>e h.symm;rw[getD_set_ne true e'];simp[e]
 refine⟨?_,hmem⟩
 have nd1:(left n listed).Nodup:=List.Nodup.sublist Gae List.nodup_range
 have nd2:(left n (listed.setIfInBounds i true)).Nodup:=List.Nodup.sublist Gae List.nodup_range
 have hp:(left n listed).Perm (i::left n (listed.setIfInBounds i true)):=by
  refine (List.perm_ext_iff_of_nodup nd1 (List.nodup_cons.2 ⟨fun hh=>((hmem i).1 hh).2 rfl,nd2⟩)).2 fun j=>?_;rw[GM,hmem];constructor
  ·intro hj;by_cases e:j=i
   ·exact .inl e
   ·exact .inr ⟨hj,e⟩
  ·rintro (rfl|⟨hj,_⟩)
   ·exact hi
   ·exact hj
 have:=hp.length_eq
 simpa using this.symm
theorem Jjn {ops:Array Oper} (hok:okEdges ops=true):∀(fuel t:Nat) (listed:Array Bool),listed.size=ops.size→(left ops.size listed).length≤fuel→
  (Region.linearise.go .any ops fuel t listed []).Perm (left ops.size listed)∧
  ∀pre i post,Region.linearise.go .any ops fuel t listed []=pre++i::post→∀o,ops[i]?=some o→∀j∈Jk o,j∈pre∨j∉left ops.size listed:=by
 intro fuel
 induction fuel with
 |zero=>
  intro t listed hs hl
  have h0:left ops.size listed=[]:=List.length_eq_zero_iff.1 (by omega)
  simp only[Region.linearise.go,List.reverse_nil,h0]
  exact⟨.refl _,fun pre i post h=>by simp at h⟩
 |succ fuel ih=>
  intro t listed hs hl
  simp only[Region.linearise.go]
  change (match (Region.ready .any ops listed)[t % (Region.ready .any ops listed).length]? with
   |some i=>Region.linearise.go .any ops fuel (t / (Region.ready .any ops listed).length) (listed.setIfInBounds i true) [i]
   |none=>[].reverse).Perm _∧∀pre i post,(match (Region.ready .any ops listed)[t % (Region.ready .any ops listed).length]? with
   |some i=>Region.linearise.go .any ops fuel (t / (Region.ready .any ops listed).length) (listed.setIfInBounds i true) [i]
   |none=>[].reverse)=pre++i::post→_
  cases hi:(Region.ready .any ops listed)[t % (Region.ready .any ops listed).length]? with
  |none=>
   have hnil:Region.ready .any ops listed=[]:=by
    cases hr:Region.ready .any ops listed with
    |nil=>rfl
    |cons x xs=>
     rw[hr] at hi;have hlt:t % (x::xs).length<(x::xs).length:=Nat.mod_lt _ (by simp);rw[List.getElem?_eq_getElem hlt] at hi;simp at hi
   have h0:left ops.size listed=[]:=by
    rcases hl0:left ops.size listed with _|⟨a,avs⟩
    ·rfl
    ·exfalso
     -- the least that is left is ready
     have hmin:∃m,m∈left ops.size listed∧∀k,k∈left ops.size listed→m≤k:=by
      refine⟨a,by rw[hl0];simp,fun k hk=>?_⟩;have hp:(left ops.size listed).Pairwise (·≤·):=List.Pairwise.sublist Gae List.pairwise_le_range;rw[hl0,G9] at hp;rw[hl0] at hk;rcases GM.1 hk with rfl|hk
      ·exact Gm _
      ·exact hp.1 k hk
     obtain⟨m,hm,hle⟩:=hmin;have hm':=hm;simp only[left,G4,GO,GH] at hm';have:m∈Region.ready .any ops listed:=mem_ready.2 ⟨hm'.2,ops[m]'hm'.1,by simp[hm'.1],fun e he hb=>by
      have hlt:e.on<m:=Jaa hok (i:=m) (o:=ops[m]'hm'.1) (by simp[hm'.1]) (by simp only[Jk,List.mem_map,G4];exact⟨e,⟨by simpa using he,hb⟩,rfl⟩);have hn:e.on∉left ops.size listed:=fun hh=>by have:=hle _ hh;omega
      simp only[left,G4,GO,GH,not_and,Bool.not_eq_false] at hn;have:=hn (by omega);have hsz:e.on<listed.size:=by omega
      simpa [hsz] using this⟩
     rw[hnil] at this;simp at this
   simp only[List.reverse_nil,h0]
   exact⟨.refl _,fun pre i post h=>by simp at h⟩
  |some i=>
   have hmem:=List.mem_of_getElem? hi
   obtain⟨hl1,o,ho,hdeps⟩:=mem_ready.1 hmem
   have hisz:i<ops.size:=by
    rcases Gt i ops.size with h'|h'
    ·exact h'
    ·simp[Array.getElem?_eq_none h'] at ho
   have hil:i∈left ops.size listed:=by simp only[left,G4,GO];exact⟨hisz,by simpa using hl1⟩
   obtain⟨s1,s2⟩:=Jfk hs hil
   simp only[]
   rw[linearise_go_acc,List.reverse_singleton,List.singleton_append]
   obtain⟨ih1,ih2⟩:=ih (t / (Region.ready .any ops listed).length) (listed.setIfInBounds i true) (by simpa using hs) (by omega)
   refine⟨?_,fun pre k post hsplit o' ho' j hj=>?_⟩
   ·refine (ih1.cons i).trans ?_
    have nd1:(left ops.size listed).Nodup:=List.Nodup.sublist Gae List.nodup_range
    have nd2:(left ops.size (listed.setIfInBounds i true)).Nodup:=List.Nodup.sublist Gae List.nodup_range
    refine (List.perm_ext_iff_of_nodup (List.nodup_cons.2 ⟨fun hh=>((s2 i).1 hh).2 rfl,nd2⟩) nd1).2 fun j=>?_
    rw[GM,s2]
    constructor
    ·rintro (rfl|⟨hj,_⟩)
     ·exact hil
     ·exact hj
    ·intro hj
     by_cases e:j=i
     ·exact .inl e
     ·exact .inr ⟨hj,e⟩
   ·cases pre with
    |nil=>
     simp only[List.nil_append,Gab] at hsplit
     obtain⟨rfl,-⟩:=hsplit
     rw[ho] at ho'
     simp only[Ga] at ho'
     subst ho'
     simp only[Jk,List.mem_map,G4] at hj
     obtain⟨e,⟨he,hb⟩,rfl⟩:=hj
     have:=hdeps e (by simpa using he) hb
     refine .inr fun hh=>?_
     simp only[left,G4,GO,GH] at hh
     have hsz:e.on<listed.size:=by omega
     simp[hsz] at this hh
     rw[this] at hh;simp at hh
    |cons p pre=>
     simp only[List.cons_append,Gab] at hsplit
     obtain⟨rfl,hsplit⟩:=hsplit
     rcases ih2 pre k post hsplit o' ho' j hj with h'|h'
     ·exact .inl (GF _ h')
     ·rw[s2] at h'
      by_cases e:j=i
      ·exact .inl (by simp[e])
      ·exact .inr fun hh=>h' ⟨hh,e⟩
theorem lin_ok {ops:Array Oper} (hok:okEdges ops=true) (t:Nat) :
  (Region.linearise .any ops t).Perm (List.range ops.size)∧∀pre i post,Region.linearise .any ops t=pre++i::post→∀o,ops[i]?=some o→∀j∈Jk o,j∈pre:=by
 have hall:left ops.size (Array.replicate ops.size false)=List.range ops.size:=by
  unfold left;rw[List.filter_eq_self];intro i hi;have:=GO.1 hi;simp[this]
 obtain⟨h1,h2⟩:=Jjn hok ops.size t (Array.replicate ops.size false) (by simp) (by rw[hall];simp)
 rw[hall] at h1 h2
 refine⟨h1,fun pre i post hs o ho j hj=>(h2 pre i post hs o ho j hj).resolve_right fun hn=>hn (GO.2 ?_)⟩
 have:=Jaa hok ho hj
 have hi:i<ops.size:=by
  rcases Gt i ops.size with h'|h'
  ·exact h'
  ·simp[Array.getElem?_eq_none h'] at ho
 omega
def closure:List Oper→List (List Nat)→List (List Nat)
 |[],acc=>acc
 |o::os,acc=>closure os (acc++[Jk o++(Jk o).flatMap fun j=>acc.getD j []])
theorem Jay:∀(os:List Oper) (acc:List (List Nat)) (i:Nat),i<acc.length→(closure os acc).getD i []=acc.getD i []
 |[],acc,i,_=>rfl
 |o::os,acc,i,h=>by
  simp only[closure];rw[Jay os _ i (by simp;omega)];simp only[List.getD_eq_getElem?_getD];rw[List.getElem?_append_left h]
theorem JaU:∀(os:List Oper) (acc:List (List Nat)) (k:Nat) (o:Oper),os[k]?=some o→(∀j∈Jk o,j<acc.length+k)→
  ∀x,x∈(closure os acc).getD (acc.length+k) []→x∈Jk o∨∃j∈Jk o,x∈(closure os acc).getD j []
 |[],acc,k,o,h,_=>by simp at h
 |o'::os,acc,0,o,h,hb=>by
  simp only[List.getElem?_cons_zero,Ga] at h;subst h;intro x hx;simp only[closure,Nat.add_zero] at hx ⊢;rw[Jay os _ acc.length (by simp)] at hx;have:(acc++[Jk o'++(Jk o').flatMap fun j=>acc.getD j []]).getD acc.length []=Jk o'++(Jk o').flatMap fun j=>acc.getD j []:=by
   simp[List.getD_eq_getElem?_getD]
  rw[this,GQ,G5] at hx;rcases hx with hx|⟨j,hj,hx⟩
  ·exact .inl hx
  ·refine .inr ⟨j,hj,?_⟩;have hlt:=hb j hj;rw[Jay os _ j (by simp;omega)];simp only[List.getD_eq_getElem?_getD];rw[List.getElem?_append_left (by omega)];simpa [List.getD_eq_getElem?_getD] using hx
 |o'::os,acc,k+1,o,h,hb=>by
  simp only[List.getElem?_cons_succ] at h;have:=JaU os (acc++[Jk o'++(Jk o').flatMap fun j=>acc.getD j []]) k o h (fun j hj=>by have:=hb j hj;simp;omega);simp only[Gk,List.length_cons,List.length_nil] at this;intro x hx;simp only[closure] at hx ⊢;rw[show acc.length+(k+1)=acc.length+(0+1)+k by omega] at hx;exact this x hx
def closureB:List Oper→List Nat→List Nat
 |[],acc=>acc
 |o::os,acc=>closureB os (acc++[(Jk o).foldl (fun m j=>(m ||| acc.getD j 0) ||| (1 <<< j)) 0])
theorem JbR {accB:List Nat} {b:Nat}:∀(l:List Nat) (m:Nat),(l.foldl (fun m j=>(m ||| accB.getD j 0) ||| (1 <<< j)) m).testBit b=true→m.testBit b=true∨∃j∈l,b=j∨(accB.getD j 0).testBit b=true
 |[],m,h=>.inl h
 |j::l,m,h=>by
  rcases JbR l _ h with h|⟨k,hk,h⟩
  ·simp only[Nat.testBit_or,Bool.or_eq_true] at h;rcases h with (h|h)|h
   ·exact .inl h
   ·exact .inr ⟨j,by simp,.inr h⟩
   ·refine .inr ⟨j,by simp,.inl ?_⟩;rw[Nat.one_shiftLeft,Nat.testBit_two_pow] at h;exact (Ge h).symm
  ·exact .inr ⟨k,by simp[hk],h⟩
theorem JaQ:∀(os:List Oper) (acc:List (List Nat)) (accB:List Nat),acc.length=accB.length→(∀i b,(accB.getD i 0).testBit b=true→b∈acc.getD i [])→
  ∀i b,((closureB os accB).getD i 0).testBit b=true→b∈(closure os acc).getD i []
 |[],acc,accB,_,h,i,b,hb=>h i b hb
 |o::os,acc,accB,hl,h,i,b,hb=>by
  simp only[closureB] at hb;simp only[closure];refine JaQ os _ _ (by simp[hl]) (fun i b hb=>?_) i b hb;rcases Nat.lt_trichotomy i accB.length with hi|hi|hi
  ·have h0:=h i b;simp only[List.getD_eq_getElem?_getD] at hb h0 ⊢;rw[List.getElem?_append_left hi] at hb;rw[List.getElem?_append_left (by omega)];exact h0 hb
  ·subst hi;rw[List.getD_eq_getElem?_getD,List.getElem?_append_right (Gm _)] at hb;rw[List.getD_eq_getElem?_getD,List.getElem?_append_right (by omega)];simp only[hl,Nat.sub_self] at hb ⊢;have hb:((Jk o).foldl (fun m j=>(m ||| accB.getD j 0) ||| (1 <<< j)) 0).testBit b=true:=hb
   show b∈Jk o++(Jk o).flatMap fun j=>acc.getD j []
   rw[GQ,G5];rcases JbR _ _ hb with h0|⟨j,hj,h0⟩
   ·simp at h0
   ·rcases h0 with rfl|h0
    ·exact .inl hj
    ·exact .inr ⟨j,hj,h j b h0⟩
  ·rw[List.getD_eq_getElem?_getD,List.getElem?_eq_none (by simp;omega)] at hb;simp at hb
def okDraw (os:List Oper) (ps:List Op):Bool:=
 let cl:=closureB os []
 (List.range ps.length).all fun a=>(List.range a).all fun b=>(cl.getD a 0).testBit b||(match ps[a]?,ps[b]? with|some p,some q=>indep a b p q|_,_=>true)
theorem JeT {os:Array Oper} {ps:List Op} (hok:okEdges os=true) (hlen:ps.length=os.size) (hd:okDraw os.toList ps=true) (t:Nat) :
  (Region.linearise .any os t).Pairwise fun a b=>b<a→∀p q,ps[a]?=some p→ps[b]?=some q→indep a b p q=true:=by
 obtain⟨hperm,hdeps⟩:=lin_ok hok t
 -- what a hangs on,near and far,stands ahead of it
 have far:∀n,∀a,a≤n→∀pre post,Region.linearise .any os t=pre++a::post→∀x,x∈(closure os.toList []).getD a []→x∈pre:=by
  intro n
  induction n with
  |zero=>
   intro a ha pre post hs x hx;obtain rfl:a=0:=by omega
   have:(0:Nat)∈List.range os.size:=hperm.mem_iff.1 (by rw[hs];simp);have h0:=GO.1 this;have ho:os.toList[0]?=some os[0]:=by simp[h0]
   have hnone:Jk os[0]=[]:=by
    rcases hdd:Jk os[0] with _|⟨j,js⟩
    ·rfl
    ·have:=Jaa hok (i:=0) (o:=os[0]) (by simp[h0]) (j:=j) (by rw[hdd];simp);omega
   have:=JaU os.toList [] 0 os[0] ho (fun j hj=>by rw[hnone] at hj;simp at hj) x (by simpa using hx);rw[hnone] at this;simp at this
  |succ n ih=>
   intro a ha pre post hs x hx;have:a∈List.range os.size:=hperm.mem_iff.1 (by rw[hs];simp);have h0:=GO.1 this;have ho:os[a]?=some os[a]:=by simp[h0]
   have hlt:∀j∈Jk os[a],j<a:=fun j hj=>Jaa hok ho hj;have:=JaU os.toList [] a os[a] (by simp[h0]) (fun j hj=>by have:=hlt j hj;simp;omega) x (by simpa using hx);rcases this with hdir|⟨j,hj,hx'⟩
   ·exact hdeps pre a post hs _ ho x hdir
   ·have hjp:=hdeps pre a post hs _ ho j hj;obtain⟨p1,p2,rfl⟩:=List.append_of_mem hjp;have:=ih j (by have:=hlt j hj;omega) p1 (p2++a::post) (by rw[hs];simp) x hx';simp[this]
 have nd:(Region.linearise .any os t).Nodup:=hperm.nodup_iff.2 List.nodup_range
 -- split by places
 rw[List.pairwise_iff_forall_sublist]
 intro a b hab hlt p q hp hq
 have hin:∃pre post,Region.linearise .any os t=pre++a::post∧b∈post:=by
  have:∀(l:List Nat),[a,b].Sublist l→∃pre post,l=pre++a::post∧b∈post:=by
   intro l
   induction l with
   |nil=>intro h;simp at h
   |cons c l ih=>
    intro h;rcases List.sublist_cons_iff.1 h with h|⟨r,hr,h⟩
    ·obtain⟨pre,post,rfl,hb⟩:=ih h;exact⟨c::pre,post,rfl,hb⟩
    ·simp only[Gab] at hr;obtain⟨rfl,rfl⟩:=hr;exact⟨[],l,rfl,List.singleton_sublist.1 h⟩
  exact this _ hab
 obtain⟨pre,post,hs,hb⟩:=hin
 have hnot:b∉(closure os.toList []).getD a []:=fun hh=>by
  have h1:=far a a (Gm _) pre post hs b hh;rw[hs,List.nodup_append] at nd;exact nd.2.2 b h1 b (by simp[hb]) rfl
 have ha:a<ps.length:=by
  rcases Gt a ps.length with h'|h'
  ·exact h'
  ·simp[List.getElem?_eq_none h'] at hp
 have:=Gs.1 (Gs.1 hd a (GO.2 ha)) b (GO.2 hlt)
 rw[hp,hq] at this
 simp only[Bool.or_eq_true] at this
 exact this.resolve_left fun hh=>hnot (JaQ os.toList [] [] rfl (fun i b hb=>by simp at hb) a b hh)
end Sg
namespace Sg
open Go Go.RowKit
def Pin (pin:Option (Nat×Nat)) (S:St) (β:Nat→Nat):Prop:=∀k b,pin=some (k,b)→(S.μ k).isSome∧β k=b
theorem Pin.tr {cx:Cx} {w w':World} {Y Y':Nat→Prop} {S S':St} {β β':Nat→Nat} {α α':Nat→Value} {pin:Option (Nat×Nat)} (h:Pin pin S β)
  (hT:∀u x,RelT cx w Y S β α u x→RelT cx w' Y' S' β' α' u x):Pin pin S' β':=fun k b hp=>by
 obtain⟨h1,h2⟩:=h k b hp
 obtain⟨h3,h4⟩:=hT (.pointer (some ⟨b,0,none⟩)) (.lref k 0) ⟨h1,by rw[h2]⟩
 simp only[Value.pointer.injEq,Ga,Addr.mk.injEq] at h4
 exact⟨h3,h4.1.symm⟩
def FR (cx:Cx) (B:Nat→Prop) (X:Nat→Prop) (pin:Option (Nat×Nat)) (G:List Nat) (ds:List (Option Nat)) (e:Nat→V) (S:St) (tm:Array Value) (w:World):Prop:=
 (∀t,t∉G→S.ρ t=.undef)∧∃β α M,RelW cx B X S w β α M∧(∀t,RelT cx w (orP X M) S β α (tm.getD t undef) (S.ρ t))∧
  (∀i d,ds[i]?=some (some d)→RelT cx w (orP X M) S β α (tm.getD d undef) (e i))∧Pin pin S β
section
variable (P:Program) (cx:Cx) (ownOf:Nat→Option Nat) (G:List Nat) (N:Nat)
def okOper (ds:List (Option Nat)) (o:Oper) (p:Op):Bool:=
 o.dst == p.dst&&o.guard == p.gd&&(match p.dst with|some d=>p.gl == G.contains d&&decide (d<N)|none=>true) &&
 (match p.gd with|some (j,_)=>(match ds[j]? with|some (some _)=>true|_=>false)|none=>true) &&
 okK P cx ds o.op p.k&&okOwn ownOf p.k
def Jaf (ds:List (Option Nat)):List Oper→List Op→Bool
 |[],[]=>true
 |o::os,p::ps=>okOper P cx ownOf G N ds o p&&Jaf ds os ps
 |_,_=>false
def distinctDst:List (Option Nat)→Bool
 |[]=>true
 |none::ds=>distinctDst ds
 |some d::ds=>!ds.contains (some d)&&distinctDst ds
def JaC (draw:Bool) (os:Array Oper) (dr:Bool) (ps:List Op):Bool:=
 let ds:=ps.map (·.dst)
 Jaf P cx ownOf G N ds os.toList ps&&distinctDst ds&&draw == dr&&(!draw||(okEdges os&&okDraw os.toList ps))
end
theorem J3 {P:Program} {cx:Cx} {ownOf:Nat→Option Nat} {G:List Nat} {N:Nat} {ds:List (Option Nat)}:∀{os:List Oper} {ps:List Op},Jaf P cx ownOf G N ds os ps=true→
  os.length=ps.length∧∀(i:Nat) (o:Oper) (p:Op),os[i]?=some o→ps[i]?=some p→okOper P cx ownOf G N ds o p=true
 |[],[],_=>⟨rfl,fun i o p h=>by simp at h⟩
 |o::os,p::ps,h=>by
  simp only[Jaf,Gg] at h;obtain⟨h1,h2⟩:=J3 h.2;refine⟨by simp[h1],fun i o' p' ho hp=>?_⟩;cases i with
  |zero=>simp at ho hp;subst ho;subst hp;exact h.1
  |succ i=>exact h2 i o' p' (by simpa using ho) (by simpa using hp)
 |[],_::_,h=>by simp[Jaf] at h
 |_::_,[],h=>by simp[Jaf] at h
theorem JaS:∀{ds:List (Option Nat)},distinctDst ds=true→∀(i j:Nat) (d:Nat),ds[i]?=some (some d)→ds[j]?=some (some d)→i=j
 |[],_,i,j,d,h,_=>by simp at h
 |x::ds,hd,i,j,d,hi,hj=>by
  have hd':distinctDst ds=true:=by cases x<;>simp_all [distinctDst]
  have hx:∀d',x=some d'→some d'∉ds:=fun d' e=>by subst e;simp[distinctDst] at hd;exact hd.1
  cases i with
  |zero=>cases j with
   |zero=>rfl
   |succ j=>
    simp at hi hj
    exact absurd (List.mem_of_getElem? hj) (hx d hi)
  |succ i=>cases j with
   |zero=>
    simp at hi hj
    exact absurd (List.mem_of_getElem? hi) (hx d hj)
   |succ j=>rw[JaS hd' i j d (by simpa using hi) (by simpa using hj)]
section
variable {P:Program} {cx:Cx} {ownOf:Nat→Option Nat} {G:List Nat} {N:Nat} {B:Nat→Prop} {X:Nat→Prop} {pin:Option (Nat×Nat)} {κ:Nat→List V→Option V}
theorem JaB {tm:Array Value} {d t:Nat} {u:Value} (hd:d<tm.size):(tm.setIfInBounds d u).getD t undef=if t=d then u else tm.getD t undef:=by
 by_cases e:t=d
 ·subst e;simp[hd]
 ·have:d≠t:=fun h=>e h.symm;simp[e,Array.getElem?_setIfInBounds_ne this]
theorem FR.put {ds:List (Option Nat)} {e:Nat→V} {S S1:St} {a:Act} {w w':World} {i:Nat} {o:Oper} {p:Op} {v:V} {u:Value} {β α M}
  (hG:∀t,t∉G→S.ρ t=.undef) (hρ:S1.ρ=S.ρ) (hsz:a.tmps.size=N)
  (hg:∀t,RelT cx w (orP X M) S β α (a.tmps.getD t undef) (S.ρ t)) (hl:∀i d,ds[i]?=some (some d)→RelT cx w (orP X M) S β α (a.tmps.getD d undef) (e i))
  (hpin:Pin pin S β) (hp:OpPost cx B X S w β α M S1 v u w') (hdi:ds[i]?=some p.dst) (hdist:distinctDst ds=true) (hdst:o.dst=p.dst)
  (hgl:∀d,p.dst=some d→p.gl=G.contains d∧d<N):FR cx B X pin G ds (upd e i v) (S1.put p v) (a.put o.dst u).tmps w':=by
 obtain⟨β',α',M',q1,q2,q3,-⟩:=hp
 have hw':RelW cx B X (S1.put p v) w' β' α' M':=by
  have:(S1.put p v).μ=S1.μ∧(S1.put p v).A=S1.A:=by unfold St.put;split<;>exact⟨rfl,rfl⟩
  obtain⟨e1,e2⟩:=this;have:S1.put p v={ρ:=(S1.put p v).ρ,μ:=S1.μ,A:=S1.A}:=by rw[←e1,←e2]
  rw[this];exact⟨q1.xb,q1.glob,q1.size,q1.m,q1.var,q1.varInj,q1.arr,q1.arrInj,q1.arrVar⟩
 have hT:∀{u x},RelT cx w' (orP X M') S1 β' α' u x→RelT cx w' (orP X M') (S1.put p v) β' α' u x:=by
  intro u x h;have:(S1.put p v).μ=S1.μ∧(S1.put p v).A=S1.A:=by unfold St.put;split<;>exact⟨rfl,rfl⟩
  obtain⟨e1,e2⟩:=this;exact RelT.tr (S:=S1) (S':=S1.put p v) (fun _ _ h=>h) (fun s z rows f hs=>⟨rows,f,by rw[e2];exact hs,fun hf=>⟨hf,Gm _,fun _=>rfl⟩⟩) (fun s hs=>⟨by rw[e1];exact hs,rfl⟩) h
 have hP:Pin pin (S1.put p v) β':=(hpin.tr q2).tr (S':=S1.put p v) (β':=β') (fun _ _ h=>hT h)
 cases hd:p.dst with
 |none=>
  rw[hdst,hd]
  have hS:(S1.put p v).ρ=S.ρ:=by unfold St.put;rw[hd];cases p.gl<;>exact hρ
  refine⟨fun t ht=>by rw[hS];exact hG t ht,β',α',M',hw',fun t=>?_,fun j d hj=>?_,hP⟩
  ·rw[hS];exact hT (q2 _ _ (hg t))
  ·have hne:j≠i:=fun e'=>by subst e';rw[hdi,hd] at hj;simp at hj
   simp only[upd,Gj hne]
   exact hT (q2 _ _ (hl j d hj))
 |some d=>
  obtain⟨g1,g2⟩:=hgl d hd
  rw[hdst,hd]
  have hlt:d<a.tmps.size:=by omega
  have hput:(a.put (some d) u).tmps=a.tmps.setIfInBounds d u:=rfl
  rw[hput]
  have hSρ:∀t,(S1.put p v).ρ t=if t=d∧d∈G then v else S.ρ t:=by
   intro t;unfold St.put;rw[hd,g1];by_cases hin:d∈G
   ·have:G.contains d=true:=by simpa using hin
    rw[this];simp only[upd,hρ,hin,and_true]
   ·have:G.contains d=false:=by simpa using hin
    rw[this];simp only[hρ,hin,and_false,GD]
  refine⟨fun t ht=>?_,β',α',M',hw',fun t=>?_,fun j d' hj=>?_,hP⟩
  ·rw[hSρ,Gj (show ¬(t=d∧d∈G) from fun h=>ht (by rw[h.1];exact h.2))];exact hG t ht
  ·rw[hSρ,JaB hlt]
   by_cases e1:t=d
   ·subst e1
    by_cases hin:t∈G
    ·simp only[hin,and_self,Gx];exact hT q3
    ·simp only[hin,and_false,GD,Gx];rw[hG t hin];exact RelD.undef _
   ·simp only[e1,false_and,GD];exact hT (q2 _ _ (hg t))
  ·rw[JaB hlt]
   by_cases e1:j=i
   ·subst e1
    rw[hdi,hd] at hj
    simp only[Ga] at hj
    subst hj
    simp only[upd,Gx];exact hT q3
   ·have e2:d'≠d:=fun e'=>e1 (JaS hdist j i d (e'▸hj) (by rw[hdi,hd]))
    simp only[upd,Gj e1,Gj e2]
    exact hT (q2 _ _ (hl j d' hj))
theorem ops_sim {ops:Array Oper} {ps:List Op} (hκ:KOK P cx ownOf κ)
  (hok:Jaf P cx ownOf G N (ps.map (·.dst)) ops.toList ps=true) (hdist:distinctDst (ps.map (·.dst))=true) {Q:Exit→Act→World→Prop} {S':St} {w0:World}
  (hQ:∀(a:Act) (w:World) (e:Nat→V),FR cx B X pin G (ps.map (·.dst)) e S' a.tmps w→a.defers=[]→a.tmps.size=N→Kept B w0 w→Q .normal a w) :
  ∀(l:List Nat) (e:Nat→V) (S:St) (a:Act) (w:World),FR cx B X pin G (ps.map (·.dst)) e S a.tmps w→a.defers=[]→a.tmps.size=N→Kept B w0 w→
   runIx κ ps l e S=some S'→wpOps P ops Q l a w:=by
 obtain⟨hlen,hget⟩:=J3 hok
 intro l
 induction l with
 |nil=>
  intro e S a w hF hd hs hb hr
  simp only[runIx,Ga] at hr
  subst hr
  exact hQ a w e hF hd hs hb
 |cons i l ih=>
  intro e S a w hF hd hs hb hr
  simp only[runIx] at hr
  simp only[wpOps]
  cases hp:ps[i]? with
  |none=>
   rw[hp] at hr
   have:ops[i]?=none:=by
    have:ps.length≤i:=by
     rcases Gt i ps.length with h'|h'
     ·simp[h'] at hp
     ·exact h'
    have h2:ops.size≤i:=by simpa using (by omega:ops.toList.length≤i)
    simp[h2]
   rw[this]
   exact ih e S a w hF hd hs hb hr
  |some p=>
   rw[hp] at hr
   have hi:i<ops.size:=by
    have:i<ps.length:=by
     rcases Gt i ps.length with h'|h'
     ·exact h'
     ·simp[List.getElem?_eq_none h'] at hp
    simpa using (by omega:i<ops.toList.length)
   have ho:ops[i]?=some ops[i]:=by simp[hi]
   simp only[ho]
   have hoo:=hget i ops[i] p (by simp[hi]) hp
   simp only[okOper,Gg,GA] at hoo
   obtain⟨⟨⟨⟨⟨o1,o2⟩,o3⟩,o4⟩,o5⟩,o6⟩:=hoo
   have hgl:∀d,p.dst=some d→p.gl=G.contains d∧d<N:=fun d hd=>by
    rw[hd] at o3;simpa using o3
   have hdi:(ps.map (·.dst))[i]?=some p.dst:=by simp[hp]
   simp only[Gb] at hr
   obtain⟨r,hst,hr⟩:=hr
   obtain⟨hG,β,α,M,hW,hg,hl,hpin⟩:=hF
   unfold step at hst
   have hwant:∀b,Jq e p.gd=some b→Region.wanted ops[i] (yielded ops a.tmps)=b:=by
    intro b hb';unfold Region.wanted;rw[o2];unfold Jq at hb';cases hgd:p.gd with
    |none=>rw[hgd] at hb';simpa using hb'
    |some jb=>
     obtain⟨j,want⟩:=jb;rw[hgd] at hb' o4;simp only at hb' o4 ⊢;split at hb'<;>simp only[Ga,reduceCtorEq] at hb'
     rotate_left
     ·rename_i hej;subst hb';split at o4
      ·rename_i d hdj;have hr:=hl j d hdj;rw[hej] at hr;obtain⟨cs,hv,hsz,-⟩:=hr;have hcs:cs=#[]:=Array.eq_empty_of_size_eq_zero hsz;have hyd:yielded ops a.tmps j=none:=by
        unfold yielded;split
        ·rename_i t hb
         exfalso
         simp only[Gb] at hb;obtain⟨d',⟨o',ho',hd'⟩,ht⟩:=hb;have hj:j<ops.size:=by
          rcases Gt j ops.size with h'|h'
          ·exact h'
          ·simp[Array.getElem?_eq_none h'] at ho'
         have hpj:∃q,ps[j]?=some q∧q.dst=some d:=by
          simp only[List.getElem?_map,GJ] at hdj;exact hdj
         obtain⟨q,hq1,hq2⟩:=hpj;have hoj:=hget j o' q (by simpa using ho') hq1;simp only[okOper,Gg,GA] at hoj;have:o'.dst=some d:=by rw[hoj.1.1.1.1.1];exact hq2
         rw[this] at hd';simp only[Ga] at hd';subst hd';rw[Array.getD_eq_getD_getElem?,ht] at hv;simp at hv
        ·rfl
       rw[hyd];rfl
      ·simp at o4
     rename_i t hej;subst hb';split at o4
     ·rename_i d hdj;have hr:=hl j d hdj;rw[hej] at hr;have hv:=Jab hr;have hj:j<ops.size:=by
       have:j<(ps.map (·.dst)).length:=by
        rcases Gt j (ps.map (·.dst)).length with h'|h'
        ·exact h'
        ·simp[List.getElem?_eq_none h'] at hdj
       simp only[Gi] at this;simpa using (by omega:j<ops.toList.length)
      have hpj:∃q,ps[j]?=some q∧q.dst=some d:=by
       simp only[List.getElem?_map,GJ] at hdj;exact hdj
      obtain⟨q,hq1,hq2⟩:=hpj;have hoj:=hget j ops[j] q (by simp[hj]) hq1;simp only[okOper,Gg,GA] at hoj;have hdj':ops[j].dst=some d:=by rw[hoj.1.1.1.1.1];exact hq2
      have hyd:yielded ops a.tmps j=some t:=by
       unfold yielded;have hoj':ops[j]?=some ops[j]:=by simp[hj]
       rw[hoj'];simp only[Option.bind_some,hdj'];have hin:d<a.tmps.size:=by
        rcases Gt d a.tmps.size with h'|h'
        ·exact h'
        ·simp[h',undef] at hv
       simp only[hin,Array.getD_eq_getD_getElem?,Array.getElem?_eq_getElem,Option.getD_some] at hv;simp[hin,hv]
      rw[hyd];cases t<;>cases want<;>rfl
     ·simp at o4
   split at hst
   ·simp at hst
   ·rename_i hw
    rw[hwant false hw]
    simp only[Ga] at hst
    subst hst
    simp only[Gr,GD]
    have hpost:OpPost cx B X S w β α M S .un undef w:=.pure hW ⟨#[],rfl,rfl,fun i hi=>by simp at hi⟩
    have hF':=FR.put (G:=G) (N:=N) (o:=ops[i]) hG rfl hs hg hl hpin hpost hdi hdist o1 hgl
    refine ih _ _ _ _ hF' ?_ ?_ hb hr
    ·unfold Act.put;cases ops[i].dst<;>exact hd
    ·unfold Act.put;cases ops[i].dst
     ·exact hs
     ·simpa using hs
   ·rename_i hw
    rw[hwant true hw]
    simp only[Gx]
    simp only[Gb,Ga] at hst
    obtain⟨⟨v,S1⟩,hev,rfl⟩:=hst
    have hdoes:=JeX hW hg hl hκ o5 o6 hev
    refine .inl (hdoes.wp fun u w' hpost=>?_)
    have hρ:S1.ρ=S.ρ:=by
     have:=JdM κ (p.dst.getD 0) p.k e e S S (fun _ _=>rfl) (fun _ _=>rfl) (fun _ _=>rfl);rw[hev] at this;exact this.2.1
    have hF':=FR.put (G:=G) (N:=N) (o:=ops[i]) hG hρ hs hg hl hpin hpost hdi hdist o1 hgl
    obtain⟨_,_,_,_,_,_,hbel⟩:=hpost
    refine ih _ _ _ _ hF' ?_ ?_ (hb.trans hbel) hr
    ·unfold Act.put;cases ops[i].dst<;>exact hd
    ·unfold Act.put;cases ops[i].dst
     ·exact hs
     ·simpa using hs
theorem FR.start {ds ds':List (Option Nat)} {e:Nat→V} {S:St} {tm:Array Value} {w:World} (h:FR cx B X pin G ds e S tm w):FR cx B X pin G ds' (fun _=>.undef) S tm w:=by
 obtain⟨hG,β,α,M,hW,hg,hl,hpin⟩:=h;exact⟨hG,β,α,M,hW,hg,fun _ _ _=>CR.undef _,hpin⟩
theorem FR.drew {ds:List (Option Nat)} {e:Nat→V} {S:St} {tm:Array Value} {w w':World} (h:FR cx B X pin G ds e S tm w) (hh:w'.heap=w.heap):FR cx B X pin G ds e S tm w':=by
 obtain⟨hG,β,α,M,hW,hg,hl,hpin⟩:=h;have hgr:Grow w w':=⟨by rw[hh];exact Gm _,fun b _=>by rw[hh]⟩;have hD:∀u x,RelD cx w (orP X M) u x→RelD cx w' (orP X M) u x:=fun _ _ hr=>Jao hgr (fun _ h=>.inl h) hr;exact⟨hG,β,α,M,hW.grow hgr (fun _ h=>h) (fun _ h=>.inl h),fun t=>(hg t).tr hD (ATr.refl S α) (fun _ h=>⟨h,rfl⟩),fun i d hd=>(hl i d hd).tr hD (ATr.refl S α) (fun _ h=>⟨h,rfl⟩),hpin⟩
theorem Jdu {id:Nat} {ops:Array Oper} {draw dr:Bool} {ps:List Op} (hm:P.follows .mixedOrders=true) (hκ:KOK P cx ownOf κ)
  (hok:JaC P cx ownOf G N draw ops dr ps=true) {S S':St} {a:Act} {w:World} {Q:Exit→Act→World→Prop}
  (hF:FR cx B X pin G [] (fun _=>.undef) S a.tmps w) (hd:a.defers=[]) (hs:a.tmps.size=N) (hr:Ju κ ps 0 (fun _=>.undef) S=some S')
  (hQ:∀(a':Act) (w':World),FR cx B X pin G [] (fun _=>.undef) S' a'.tmps w'→a'.defers=[]→a'.tmps.size=N→Kept B w w'→Q .normal a' w') :
  (Code.region id ops draw).wp P Q a w:=by
 simp only[JaC,Gg,GA] at hok
 obtain⟨⟨⟨h1,h2⟩,rfl⟩,h4⟩:=hok
 obtain⟨hlen,-⟩:=J3 h1
 have hlen':ps.length=ops.size:=by simpa using hlen.symm
 have hix:runIx κ ps (List.range ps.length) (fun _=>.undef) S=some S':=by
  rw[List.range_eq_range',←Jbo κ ps 0 _ _ (fun j=>by simp)];exact hr
 have hQ':∀(a':Act) (w':World) (e:Nat→V),FR cx B X pin G (ps.map (·.dst)) e S' a'.tmps w'→a'.defers=[]→a'.tmps.size=N→Kept B w w'→Q .normal a' w':=
  fun a' w' e hF' hd' hs' hb'=>hQ a' w' hF'.start hd' hs' hb'
 cases draw with
 |false=>
  refine wp_region (ops_sim hκ h1 h2 hQ' _ _ _ _ _ hF.start hd hs (Kept.refl _ _) ?_)
  rw[←hlen'];exact hix
 |true=>
  simp only[Bool.not_true,Bool.false_or,Gg] at h4
  refine wp_region_draw fun t=>?_
  simp only[Region.schedule,hm,Bool.true_or,Gx]
  refine ops_sim hκ h1 h2 hQ' _ (fun _=>.undef) S _ _ (hF.start.drew rfl) hd hs ⟨rfl,rfl,rfl,Gm _,fun _ _=>rfl⟩ ?_
  rw[runIx_sort κ _ _ _ (JeT h4.1 hlen' h4.2 t),Jc7 (lin_ok h4.1 t).1,←hlen']
  exact hix
end
section
variable (P:Program) (cx:Cx) (ownOf:Nat→Option Nat) (G:List Nat) (N:Nat)
def okC:Code→C→Bool
 |.skip,.skip=>true
 |.region _ ops draw,.region dr ps=>JaC P cx ownOf G N draw ops dr ps
 |.seq a b,.seq a' b'=>okC a a'&&okC b b'
 |.cond x a b,.cond y a' b'=>Ja cx [] x y&&okC a a'&&okC b b'
 |.block id c,.block id' c'=>id == id'&&okC c c'
 |.loop c,.loop _ _ _ _ c'=>okC c c'
 |.exit id,.exit id'=>id == id'
 |.ret,.ret=>true
 |_,_=>false
end
section
variable {P:Program} {cx:Cx} {ownOf:Nat→Option Nat} {G:List Nat} {N:Nat} {B:Nat→Prop} {X:Nat→Prop} {pin:Option (Nat×Nat)} {κ:Nat→List V→Option V}
theorem Jfb {S:St} {W Wv Wa:List Nat} {s:Nat} (h:s∉Wa):(S.scrub W Wv Wa).A s=S.A s:=by
 simp[St.scrub,h]
theorem Jae {S:St} {W Wv Wa:List Nat} {s:Nat} {x} (h:(S.scrub W Wv Wa).A s=some x):s∉Wa∧S.A s=some x:=by
 simp only[St.scrub] at h;split at h
 ·simp at h
 ·rename_i hn;exact⟨by simpa using hn,h⟩
theorem Jfc {S:St} {W Wv Wa:List Nat} {α:Nat→Value} {v:Value} {s z n:Nat} (h:RelO S α v s z n) (hs:s∉Wa):RelO (S.scrub W Wv Wa) α v s z n:=by
 obtain⟨rows,f,a,cap,hA,h⟩:=h;exact⟨rows,f,a,cap,by rw[Jfb hs];exact hA,h⟩
theorem Jdn {S:St} {W Wv Wa:List Nat} {α:Nat→Value} {w:World} {Y:Nat→Prop} {v:Value} {x:V} (h:RelC cx w Y S α v x):RelC cx w Y (S.scrub W Wv Wa) α v (JA Wa x):=by
 cases x with
 |own s z n=>
  simp only[JA];split
  ·exact RelD.undef _
  ·rename_i hn;exact Jfc h (by simpa using hn)
 |_=>exact h
theorem Ji2 {S:St} {W Wv Wa:List Nat} {α:Nat→Value} {β:Nat→Nat} {w:World} {Y:Nat→Prop} {v:Value} {x:V} (h:RelT cx w Y S β α v x):RelT cx w Y (S.scrub W Wv Wa) β α v (Jo Wv Wa x):=by
 cases x with
 |own s z n=>
  simp only[Jo];split
  ·exact RelD.undef _
  ·rename_i hn;exact Jfc h (by simpa using hn)
 |lref s o=>
  simp only[Jo];split
  ·exact RelD.undef _
  ·rename_i hn;obtain⟨h1,h2⟩:=h;refine⟨?_,h2⟩;have:Wv.contains s=false:=by simpa using hn
   simp only[St.scrub,this];cases hm:S.μ s with
   |none=>simp[hm] at h1
   |some m=>simp
 |eref s i o m=>
  simp only[Jo];split
  ·exact RelD.undef _
  ·rename_i hn;obtain⟨z,rows,f,b,o',cap,hA,h⟩:=h;exact⟨z,rows,f,b,o',cap,by rw[Jfb (by simpa using hn)];exact hA,h⟩
 |agg vs=>
  simp only[Jo];split
  ·rename_i he;have he':Wa=[]:=by simpa using he
   subst he';obtain⟨cs,rfl,hl,hc⟩:=h;refine⟨cs,rfl,hl,fun i hi=>?_⟩;obtain⟨u,p,q,r⟩:=hc i hi;refine⟨u,p,q,?_⟩;have:=Jdn (W:=W) (Wv:=Wv) (Wa:=[]) r;have e:JA [] (gv vs i)=gv vs i:=by cases gv vs i<;>simp[JA]
   rwa [e] at this
  ·exact RelD.undef _
 |tuple vs=>
  simp only[Jo];split
  ·rename_i he;have he':Wa=[]:=by simpa using he
   subst he';obtain⟨cs,rfl,hl,hc⟩:=h;refine⟨cs,rfl,hl,fun i hi=>?_⟩;obtain⟨u,p,r⟩:=hc i hi;refine⟨u,p,?_⟩;have:=Jdn (W:=W) (Wv:=Wv) (Wa:=[]) r;have e:JA [] (gv vs i)=gv vs i:=by cases gv vs i<;>simp[JA]
   rwa [e] at this
  ·exact RelD.undef _
 |_=>exact h
theorem Ji3 {S:St} {W Wv Wa:List Nat} {α:Nat→Value} {β:Nat→Nat} {w:World} {M:Nat→Prop} (h:RelW cx B X S w β α M):RelW cx B X (S.scrub W Wv Wa) w β α M:=by
 have hm:∀s cs f,(S.scrub W Wv Wa).μ s=some (cs,f)→∃cs0,S.μ s=some (cs0,f)∧cs=(bif Wa.isEmpty then cs0 else cs0.map (JA Wa)):=by
  intro s cs f hs;simp only[St.scrub] at hs;split at hs
  ·simp at hs
  ·cases hm:S.μ s with
   |none=>simp[hm] at hs
   |some m=>
    simp only[hm,Option.map_some,Ga,Gf] at hs;obtain⟨rfl,rfl⟩:=hs;exact⟨m.1,rfl,rfl⟩
 have hi:∀s,((S.scrub W Wv Wa).μ s).isSome→(S.μ s).isSome:=fun s hs=>by
  obtain⟨x,hx⟩:=Gw.1 hs;obtain⟨cs0,h0,-⟩:=hm s x.1 x.2 hx;simp[h0]
 refine⟨h.xb,h.glob,h.size,h.m,fun s cs f hs=>?_,fun s s' hs hs' he=>h.varInj s s' (hi s hs) (hi s' hs') he,fun s z rows f hs hf=>h.arr s z rows f (Jae hs).2 hf,
  fun s s' z rows f z' rows' f' hs hf hs' hf'=>h.arrInj s s' z rows f z' rows' f' (Jae hs).2 hf (Jae hs').2 hf',fun s z rows f s' hs hf hs'=>h.arrVar s z rows f s' (Jae hs).2 hf (hi s' hs')⟩
 obtain⟨cs0,h0,rfl⟩:=hm s cs f hs;obtain⟨a1,a2,a3,c,e,a4,a5,a6⟩:=h.var s cs0 f h0;have hlen:(bif Wa.isEmpty then cs0 else cs0.map (JA Wa)).length=cs0.length:=by cases Wa.isEmpty<;>simp
 have hgv:∀i,i<cs0.length→gv (bif Wa.isEmpty then cs0 else cs0.map (JA Wa)) i=JA Wa (gv cs0 i):=by
  intro i hi';cases hW:Wa.isEmpty with
  |true=>
   have:Wa=[]:=by simpa using hW
   subst this;simp only[cond_true];cases gv cs0 i<;>simp[JA]
  |false=>simp[gv,hi']
 refine⟨a1,a2,fun hf=>⟨(a3 hf).1,?_⟩,c,e,a4,by rw[hlen];exact a5,fun i hi'=>?_⟩
 ·have hd:=(a3 hf).2;cases Wa.isEmpty with
  |true=>exact hd
  |false=>
   simp only[cond_false,List.all_map,Gs,Function.comp] at hd ⊢;intro x hx;have:=hd x hx;cases x<;>simp_all [JA,V.datC]
 ·rw[hlen] at hi';obtain⟨u,p,q,r⟩:=a6 i hi';exact⟨u,p,q,by rw[hgv i hi'];exact Jdn r⟩
theorem JaN (x h t:Nat):swp x h (swp x h t)=t:=by
 unfold swp;by_cases e1:t=x
 ·subst e1;simp only[Gx];split
  ·rename_i e;exact e
  ·rfl
 ·rw[Gj e1];by_cases e2:t=h
  ·subst e2;simp
  ·rw[Gj e2,Gj e1,Gj e2]
theorem JhI {x h s t:Nat} (e:swp x h s=swp x h t):s=t:=by rw[←JaN x h s,e,JaN]
section
variable {S:St} {α:Nat→Value} {β:Nat→Nat} {w:World} {Y:Nat→Prop} {x0 h0:Nat}
theorem Jie {v:Value} {s z n:Nat} (h:RelO S α v s z n):RelO (S.ren x0 h0) (fun t=>α (swp x0 h0 t)) v (swp x0 h0 s) z n:=by
 obtain⟨rows,f,a,cap,hA,h⟩:=h;exact⟨rows,f,a,cap,by simp only[St.ren,JaN];exact hA,by simpa only [JaN] using h⟩
theorem JfD {v:Value} {x:V} (h:RelC cx w Y S α v x):RelC cx w Y (S.ren x0 h0) (fun t=>α (swp x0 h0 t)) v (JO x0 h0 x):=by
 cases x with
 |own s z n=>exact Jie h
 |_=>exact h
theorem JlJ {v:Value} {x:V} (h:RelT cx w Y S β α v x):RelT cx w Y (S.ren x0 h0) β (fun t=>α (swp x0 h0 t)) v (Jaj x0 h0 x):=by
 cases x with
 |own s z n=>exact Jie h
 |lref s o=>
  obtain⟨h1,h2⟩:=h;exact⟨by simp only[St.ren,Option.isSome_map];exact h1,h2⟩
 |eref s i o m=>
  obtain⟨z,rows,f,b,o',cap,hA,h⟩:=h;exact⟨z,rows,f,b,o',cap,by simp only[St.ren,JaN];exact hA,by simpa only [JaN] using h⟩
 |agg vs=>
  obtain⟨cs,rfl,hl,hc⟩:=h;refine⟨cs,rfl,by simpa using hl,fun i hi=>?_⟩;have hi':i<vs.length:=by simpa using hi
  obtain⟨u,p,q,r⟩:=hc i hi';refine⟨u,p,q,?_⟩;have:=JfD (x0:=x0) (h0:=h0) r;have e:gv (vs.map (JO x0 h0)) i=JO x0 h0 (gv vs i):=by simp[gv,hi']
  rwa [←e] at this
 |tuple vs=>
  obtain⟨cs,rfl,hl,hc⟩:=h;refine⟨cs,rfl,by simpa using hl,fun i hi=>?_⟩;have hi':i<vs.length:=by simpa using hi
  obtain⟨u,p,r⟩:=hc i hi';refine⟨u,p,?_⟩;have:=JfD (x0:=x0) (h0:=h0) r;have e:gv (vs.map (JO x0 h0)) i=JO x0 h0 (gv vs i):=by simp[gv,hi']
  rwa [←e] at this
 |_=>exact h
theorem JfE {x:V} (h:x.datC=true):JO x0 h0 x=x:=by cases x<;>simp_all [JO,V.datC]
theorem JlK {M:Nat→Prop} (h:RelW cx B X S w β α M):RelW cx B X (S.ren x0 h0) w β (fun t=>α (swp x0 h0 t)) M:=by
 have hm:∀s cs f,(S.ren x0 h0).μ s=some (cs,f)→∃cs0,S.μ s=some (cs0,f)∧cs=cs0.map (JO x0 h0):=by
  intro s cs f hs;simp only[St.ren,GJ,Gf] at hs;obtain⟨m,hm,rfl,rfl⟩:=hs;exact⟨m.1,hm,rfl⟩
 have hi:∀s,((S.ren x0 h0).μ s).isSome→(S.μ s).isSome:=fun s hs=>by simpa [St.ren] using hs
 refine⟨h.xb,h.glob,h.size,h.m,fun s cs f hs=>?_,fun s s' hs hs' he=>h.varInj s s' (hi s hs) (hi s' hs') he,fun s z rows f hs hf=>h.arr (swp x0 h0 s) z rows f hs hf,
  fun s s' z rows f z' rows' f' hs hf hs' hf' b hb hb'=>JhI (h.arrInj (swp x0 h0 s) (swp x0 h0 s') z rows f z' rows' f' hs hf hs' hf' b hb hb'),fun s z rows f s' hs hf hs'=>h.arrVar (swp x0 h0 s) z rows f s' hs hf (hi s' hs')⟩
 obtain⟨cs0,h0',rfl⟩:=hm s cs f hs;obtain⟨a1,a2,a3,c,e,a4,a5,a6⟩:=h.var s cs0 f h0';refine⟨a1,a2,fun hf=>⟨(a3 hf).1,?_⟩,c,e,a4,by simpa using a5,fun i hi'=>?_⟩
 ·have hd:=(a3 hf).2;simp only[List.all_map,Gs,Function.comp] at hd ⊢;intro x hx;rw[JfE (hd x hx)];exact hd x hx
 ·simp only[Gi] at hi';obtain⟨u,p,q,r⟩:=a6 i hi';have e:gv (cs0.map (JO x0 h0)) i=JO x0 h0 (gv cs0 i):=by simp[gv,hi']
  exact⟨u,p,q,by rw[e];exact JfD r⟩
end
structure Nam (cx:Cx) (B X:Nat→Prop) (w:World) (β:Nat→Nat) (M:Nat→Prop) (S S':St) (α α':Nat→Value):Prop where
 hw:RelW cx B X S w β α M→RelW cx B X S' w β α' M
 ht:∀t u,RelT cx w (orP X M) S β α u (S.ρ t)→RelT cx w (orP X M) S' β α' u (S'.ρ t)
 hm:∀k,(S.μ k).isSome→(S'.μ k).isSome
 hu:∀t,S.ρ t=.undef→S'.ρ t=.undef
theorem JhH {w:World} {β:Nat→Nat} {M:Nat→Prop} (S:St) (α:Nat→Value) (s j h:Nat):∃α',Nam cx B X w β M S (S.swp1 s j h) α α':=by
 unfold St.swp1;split
 ·split
  ·exact⟨_,⟨JlK,fun t u h=>JlJ h,fun k hk=>by simpa [St.ren] using hk,fun t ht=>by simp[St.ren,ht,Jaj]⟩⟩
  ·exact⟨α,⟨fun h=>h,fun _ _ h=>h,fun _ h=>h,fun _ h=>h⟩⟩
 ·exact⟨α,⟨fun h=>h,fun _ _ h=>h,fun _ h=>h,fun _ h=>h⟩⟩
theorem JhJ {w:World} {β:Nat→Nat} {M:Nat→Prop}:∀(n:Nat) (L:List Nat) (S:St) (α:Nat→Value),L.length≤n→∃α',Nam cx B X w β M S (S.swps L) α α':=by
 intro n
 induction n with
 |zero=>
  intro L S α hL;have:L=[]:=GB (by omega);subst this;exact⟨α,⟨fun h=>h,fun _ _ h=>h,fun _ h=>h,fun _ h=>h⟩⟩
 |succ n ih=>
  intro L S α hL
  match L,hL with
  |[],_=>exact⟨α,⟨fun h=>h,fun _ _ h=>h,fun _ h=>h,fun _ h=>h⟩⟩
  |[a],_=>exact⟨α,⟨fun h=>h,fun _ _ h=>h,fun _ h=>h,fun _ h=>h⟩⟩
  |[a,b],_=>exact⟨α,⟨fun h=>h,fun _ _ h=>h,fun _ h=>h,fun _ h=>h⟩⟩
  |s::j::h::l,hL=>
   obtain⟨α1,h1⟩:=JhH (cx:=cx) (B:=B) (X:=X) (w:=w) (β:=β) (M:=M) S α s j h;obtain⟨α2,h2⟩:=ih l (S.swp1 s j h) α1 (by simp at hL;omega);exact⟨α2,⟨fun h=>h2.hw (h1.hw h),fun t u h=>h2.ht t u (h1.ht t u h),fun k hk=>h2.hm k (h1.hm k hk),fun t ht=>h2.hu t (h1.hu t ht)⟩⟩
def nsC (k:Nat):C→Bool
 |.seq a b=>nsC k a&&nsC k b
 |.cond _ a b=>nsC k a&&nsC k b
 |.block _ c=>nsC k c
 |.loop _ _ Wv _ c=>!Wv.contains k&&nsC k c
 |_=>true
def JdF (pin:Option (Nat×Nat)) (c:C):Prop:=∀k b,pin=some (k,b)→nsC k c=true
theorem FR.head {W L Wv Wa:List Nat} {ds:List (Option Nat)} {e:Nat→V} {S:St} {tm:Array Value} {w:World} (hpin:∀k b,pin=some (k,b)→Wv.contains k=false) (h:FR cx B X pin G ds e S tm w):FR cx B X pin G [] (fun _=>.undef) (S.head W L Wv Wa) tm w:=by
 obtain⟨hG,β,α,M,hW,hg,hl,hp⟩:=h;obtain⟨α',hN⟩:=JhJ (cx:=cx) (B:=B) (X:=X) (w:=w) (β:=β) (M:=M) L.length L S α (Gm _);refine⟨fun t ht=>?_,β,α',M,Ji3 (hN.hw hW),fun t=>?_,fun i d hd=>by simp at hd,fun k b hk=>⟨?_,(hp k b hk).2⟩⟩
 ·simp only[St.head,St.scrub,hN.hu t (hG t ht),Jo];split<;>rfl
 ·simp only[St.head,St.scrub];split
  ·exact RelD.undef _
  ·exact Ji2 (hN.ht t _ (hg t))
 ·have h1:=hN.hm k (hp k b hk).1;simp only[St.head,St.scrub,hpin k b hk,Gr,GD,Option.isSome_map];exact h1
def CPost (cx:Cx) (B:Nat→Prop) (X:Nat→Prop) (pin:Option (Nat×Nat)) (G:List Nat) (N:Nat) (w:World) (S':St) (ex:Ex):Exit→Act→World→Prop:=fun e a' w'=>
 (match ex with|.norm=>e=.normal|.ret=>e=.ret|.exit id=>e=.exit id)∧FR cx B X pin G [] (fun _=>.undef) S' a'.tmps w'∧a'.defers=[]∧a'.tmps.size=N∧Kept B w w'
def Head (P:Program) (c:Code) (Q:Exit→Act→World→Prop) (a:Act) (w:World):Prop:=
 ∀(b:Frame) (k:List Item) (cs:List Frame),∃e a' w',Q e a' w'∧Arrives P (lone (b.at a (.code c::.inLoop c::k)) cs w) b k cs e a' w'
theorem Head.loop {c:Code} {Q:Exit→Act→World→Prop} {a:Act} {w:World} (h:Head P c Q a w):(Code.loop c).wp P Q a w:=fun b k cs=>by
 obtain⟨e,a',w',hq,harr⟩:=h b k cs;exact⟨e,a',w',hq,.of_steps (.one step_loop) harr⟩
theorem Head.round {c:Code} {Q:Exit→Act→World→Prop} {a:Act} {w:World} (h:c.wp P (Exit.then (Head P c Q) Q) a w):Head P c Q a w:=fun b k cs=>by
 obtain⟨e,a₁,w₁,hq,harr⟩:=h b (.inLoop c::k) cs;cases e with
 |normal=>
  obtain⟨e₂,a₂,w₂,hq₂,harr₂⟩:=hq b k cs;exact⟨e₂,a₂,w₂,hq₂,.of_steps (Steps.trans harr (.one step_inLoop)) harr₂⟩
 |exit id=>exact⟨_,a₁,w₁,hq,.pass (x:=.inLoop c) rfl (fun _ _=>.inl (by simp)) harr⟩
 |goto l=>exact⟨_,a₁,w₁,hq,.pass (x:=.inLoop c) rfl (fun _ _=>.inl (by simp)) harr⟩
 |ret=>exact⟨_,a₁,w₁,hq,.pass (x:=.inLoop c) rfl (fun _ _=>.inl (by simp)) harr⟩
 |panic ch=>exact⟨_,a₁,w₁,hq,.pass (x:=.inLoop c) rfl (fun _ _=>.inl (by simp)) harr⟩
 |outgrown=>exact⟨_,a₁,w₁,hq,.pass (x:=.inLoop c) rfl (fun _ _=>.inl (by simp)) harr⟩
theorem JbL (hm:P.follows .mixedOrders=true) (hκ:KOK P cx ownOf κ):∀(m:Nat),
  (∀(c:Code) (c':C) (S S':St) (ex:Ex) (a:Act) (w:World),okC P cx ownOf G N c c'=true→JdF pin c'→Jd κ m c' S=some (ex,S')→FR cx B X pin G [] (fun _=>.undef) S a.tmps w→a.defers=[]→a.tmps.size=N→
   c.wp P (CPost cx B X pin G N w S' ex) a w)∧
  (∀(c:Code) (W L Wv Wa:List Nat) (c':C) (S S':St) (ex:Ex) (a:Act) (w:World),okC P cx ownOf G N c c'=true→JdF pin (.loop W L Wv Wa c')→Jd κ m (.loop W L Wv Wa c') S=some (ex,S')→FR cx B X pin G [] (fun _=>.undef) S a.tmps w→a.defers=[]→a.tmps.size=N→
   Head P c (CPost cx B X pin G N w S' ex) a w):=by
 intro m
 induction m with
 |zero=>exact⟨fun c c' S S' ex a w _ _ h=>by simp[Jd] at h,fun c W L Wv Wa c' S S' ex a w _ _ h=>by simp[Jd] at h⟩
 |succ m ih=>
  obtain⟨ih1,ih2⟩:=ih
  have loop:∀(c:Code) (W L Wv Wa:List Nat) (c':C) (S S':St) (ex:Ex) (a:Act) (w:World),okC P cx ownOf G N c c'=true→JdF pin (.loop W L Wv Wa c')→Jd κ (m+1) (.loop W L Wv Wa c') S=some (ex,S')→FR cx B X pin G [] (fun _=>.undef) S a.tmps w→a.defers=[]→a.tmps.size=N→
    Head P c (CPost cx B X pin G N w S' ex) a w:=by
   intro c W L Wv Wa c' S S' ex a w hok hpn hex hF hd hs
   have hp1:JdF pin c':=fun k b hk=>by have:=hpn k b hk;simp only[nsC,Gg] at this;exact this.2
   have hp2:∀k b,pin=some (k,b)→Wv.contains k=false:=fun k b hk=>by have:=hpn k b hk;simp only[nsC,Gg,GH] at this;exact this.1
   simp only[Jd,Gb] at hex
   obtain⟨⟨x,S2⟩,h1,h2⟩:=hex
   refine Head.round (wp_mono (ih1 c c' _ S2 x a w hok hp1 h1 (hF.head hp2) hd hs) fun e a' w' hp=>?_)
   obtain⟨p1,p2,p3,p4,p5⟩:=hp
   cases x with
   |norm=>
    simp only at p1 h2
    subst p1
    intro b k cs
    obtain⟨e2,a2,w2,q,r⟩:=ih2 c W L Wv Wa c' S2 S' ex a' w' hok hpn h2 p2 p3 p4 b k cs
    obtain⟨q1,q2,q3,q4,q5⟩:=q
    exact⟨e2,a2,w2,⟨q1,q2,q3,q4,p5.trans q5⟩,r⟩
   |ret=>
    simp only[Ga,Gf] at p1 h2
    obtain⟨rfl,rfl⟩:=h2
    subst p1
    exact⟨rfl,p2,p3,p4,p5⟩
   |exit id=>
    simp only[Ga,Gf] at p1 h2
    obtain⟨rfl,rfl⟩:=h2
    subst p1
    exact⟨rfl,p2,p3,p4,p5⟩
  refine⟨fun c c' S S' ex a w hok hpn hex hF hd hs=>?_,loop⟩
  cases c' with
  |skip=>
   cases c<;>try (simp[okC] at hok;done)
   simp only[Jd,Ga,Gf] at hex
   obtain⟨rfl,rfl⟩:=hex
   exact wp_skip ⟨rfl,hF,hd,hs,Kept.refl _ _⟩
  |ret=>
   cases c<;>try (simp[okC] at hok;done)
   simp only[Jd,Ga,Gf] at hex
   obtain⟨rfl,rfl⟩:=hex
   exact wp_ret ⟨rfl,hF,hd,hs,Kept.refl _ _⟩
  |exit id=>
   cases c<;>try (simp[okC] at hok;done)
   simp only[okC,GA] at hok
   subst hok
   simp only[Jd,Ga,Gf] at hex
   obtain⟨rfl,rfl⟩:=hex
   exact wp_exit ⟨rfl,hF,hd,hs,Kept.refl _ _⟩
  |region dr ps=>
   cases c<;>try (simp[okC] at hok;done)
   simp only[okC] at hok
   simp only[Jd,Gb,Ga,Gf] at hex
   obtain⟨S2,hr,rfl,rfl⟩:=hex
   exact Jdu hm hκ hok hF hd hs hr fun a' w' q1 q2 q3 q4=>⟨rfl,q1,q2,q3,q4⟩
  |seq x y=>
   cases c<;>try (simp[okC] at hok;done)
   rename_i cx' cy'
   simp only[okC,Gg] at hok
   simp only[Jd,Gb] at hex
   obtain⟨⟨e1,S2⟩,h1,h2⟩:=hex
   refine wp_seq (wp_mono (ih1 _ x S S2 e1 a w hok.1 (fun k b hk=>by have:=hpn k b hk;simp only[nsC,Gg] at this;exact this.1) h1 hF hd hs) fun e a' w' hp=>?_)
   obtain⟨p1,p2,p3,p4,p5⟩:=hp
   cases e1 with
   |norm=>
    simp only at p1 h2
    subst p1
    exact wp_mono (ih1 _ y S2 S' ex a' w' hok.2 (fun k b hk=>by have:=hpn k b hk;simp only[nsC,Gg] at this;exact this.2) h2 p2 p3 p4) fun e a'' w'' ⟨q1,q2,q3,q4,q5⟩=>⟨q1,q2,q3,q4,p5.trans q5⟩
   |ret=>
    simp only[Ga,Gf] at p1 h2
    obtain⟨rfl,rfl⟩:=h2
    subst p1
    exact⟨rfl,p2,p3,p4,p5⟩
   |exit id=>
    simp only[Ga,Gf] at p1 h2
    obtain⟨rfl,rfl⟩:=h2
    subst p1
    exact⟨rfl,p2,p3,p4,p5⟩
  |cond x y z=>
   cases c<;>try (simp[okC] at hok;done)
   simp only[okC,Gg] at hok
   simp only[Jd] at hex
   split at hex<;>try (simp at hex;done)
   rename_i t ht
   have hF0:=hF
   obtain⟨hG,β,α,M,hW,hg,hl,hpp⟩:=hF
   have hr:=J8 (a:=a) (ds:=[]) (e:=fun _=>.undef) hg (fun i d hd=>by simp at hd) hok.1.1
   rw[ht] at hr
   refine wp_cond (Jab hr) ?_
   cases t
   ·exact ih1 _ z S S' ex a w hok.2 (fun k b hk=>by have:=hpn k b hk;simp only[nsC,Gg] at this;exact this.2) (by simpa using hex) hF0 hd hs
   ·exact ih1 _ y S S' ex a w hok.1.2 (fun k b hk=>by have:=hpn k b hk;simp only[nsC,Gg] at this;exact this.1) (by simpa using hex) hF0 hd hs
  |block id x=>
   cases c<;>try (simp[okC] at hok;done)
   simp only[okC,Gg,GA] at hok
   obtain⟨rfl,hok⟩:=hok
   simp only[Jd,Gb] at hex
   obtain⟨⟨e1,S2⟩,h1,h2⟩:=hex
   refine wp_block (wp_mono (ih1 _ x S S2 e1 a w hok (fun k b hk=>by have:=hpn k b hk;simpa only [nsC] using this) h1 hF hd hs) fun e a' w' hp=>?_)
   obtain⟨p1,p2,p3,p4,p5⟩:=hp
   cases e1 with
   |norm=>
    simp only[Ga,Gf] at p1 h2
    obtain⟨rfl,rfl⟩:=h2
    subst p1
    exact⟨rfl,p2,p3,p4,p5⟩
   |ret=>
    simp only[Ga,Gf] at p1 h2
    obtain⟨rfl,rfl⟩:=h2
    subst p1
    exact⟨rfl,p2,p3,p4,p5⟩
   |exit id'=>
    simp only at p1 h2
    subst p1
    simp only[Exit.inBlock]
    split at h2
    ·rename_i he
     simp only[Ga,Gf] at h2
     obtain⟨rfl,rfl⟩:=h2
     rw[Gl he]
     exact⟨rfl,p2,p3,p4,p5⟩
    ·rename_i he
     simp only[Ga,Gf] at h2
     obtain⟨rfl,rfl⟩:=h2
     rw[Gj he]
     exact⟨rfl,p2,p3,p4,p5⟩
  |loop W L Wv Wa x=>
   cases c<;>try (simp[okC] at hok;done)
   simp only[okC] at hok
   exact (loop _ W L Wv Wa x S S' ex a w hok hpn hex hF hd hs).loop
end
def ownOf (Pg:Nat→Option Fn) (f:Nat):Option Nat:=
 match Pg f with
 |some (.code F)=>F.own
 |some (.prim own _)=>own
 |some (.codeR _ k)=>some (3000+k)
 |none=>none
section
variable (P:Program) (cx:Cx) (Pg:Nat→Option Fn)
def Jav (rs:List ResultVar) (qs:List Res):Bool:=
 match rs,qs with
 |[],[]=>true
 |.tmp t::rs,.t t'::qs=>t == t'&&Jav rs qs
 |.cell a t::rs,.cell a' n::qs=>a == a'&&(P.underlying t).isSome&&(if JH P t then szT P t == n&&n.isSome else n.isNone)&&Jav rs qs
 |_,_=>false
def okF (f:FuncId) (F:F):Bool:=
 match P.funcs[f]? with
 |some fn=>(fn.name == "runtime.NumGoroutine") == false&&(match fn.body with|some c=>okC P cx (ownOf Pg) F.gl fn.ntmps c F.body|none=>false) &&
   decide (F.np≤fn.ntmps)&&(List.range F.np).all (F.gl.contains ·)&&Jav P fn.results.toList F.res&&(match F.own with|some j=>decide (j<F.res.length)&&decide (j<1000)|none=>true)
 |none=>false
end
section
variable {P:Program} {cx:Cx} {Pg:Nat→Option Fn} {X:Nat→Prop}
theorem Jbd {α β:Type} {f:Nat→α→Option β}:∀{l:List α} {r:List β} {k:Nat},Jap f k l=some r→r.length=l.length∧∀(i:Nat) (x:α),l[i]?=some x→∃y,r[i]?=some y∧f (k+i) x=some y
 |[],r,k,h=>by simp only[Jap,Ga] at h;subst h;exact⟨rfl,fun i x hx=>by simp at hx⟩
 |a::l,r,k,h=>by
  simp only[Jap,Gb,Ga] at h;obtain⟨y,hy,ys,hys,rfl⟩:=h;obtain⟨h1,h2⟩:=Jbd hys;refine⟨by simp[h1],fun i x hx=>?_⟩;cases i with
  |zero=>simp at hx;subst hx;exact⟨y,rfl,hy⟩
  |succ i=>have:=h2 i x (by simpa using hx);simpa [GU,Nat.add_comm 1 i] using this
theorem results_ok {B:Nat→Prop} {S:St} {w:World} {β:Nat→Nat} {α:Nat→Value} {M:Nat→Prop} {tm:Array Value} (hW:RelW cx B X S w β α M) (hg:∀t,RelT cx w (orP X M) S β α (tm.getD t undef) (S.ρ t)) :
  ∀(rs:List ResultVar) (qs:List Res) (vs:List V),Jav P rs qs=true→Jn (resV S) qs=some vs→
   ∃us:List Value,(rs.mapM fun|.tmp t=>pure (tm.getD t undef)|.cell a t=>do loadVar t (←asAddr (tm.getD a undef)):Sem (List Value)).run P w=.ok us w∧
    us.length=vs.length∧∀i,i<vs.length→∃u,us[i]?=some u∧RelT cx w (orP X M) S β α u (gv vs i)
 |[],[],vs,_,h=>by
  simp only[Jn,Ga] at h;subst h;exact⟨[],by simp,rfl,fun i hi=>by simp at hi⟩
 |r::rs,q::qs,vs,hok,h=>by
  simp only[Jn,Gb,Ga] at h;obtain⟨v,hv,ws,hws,rfl⟩:=h;have hok':Jav P rs qs=true:=by
   unfold Jav at hok;split at hok<;>simp_all
  obtain⟨us,h1,h2,h3⟩:=results_ok hW hg rs qs ws hok' hws;have key:∃u,((match r with|.tmp t=>pure (tm.getD t undef)|.cell a t=>do loadVar t (←asAddr (tm.getD a undef))):Sem Value).run P w=.ok u w∧RelT cx w (orP X M) S β α u v:=by
   cases r with
   |tmp t=>
    cases q with
    |cell a n=>simp[Jav] at hok
    |t t'=>
     simp only[Jav,Gg,GA] at hok;obtain⟨rfl,-⟩:=hok;simp only[resV,Ga] at hv;subst hv;exact⟨tm.getD t undef,by simp,hg t⟩
   |cell a t=>
    cases q with
    |t t'=>simp[Jav] at hok
    |cell a' n=>
     simp only[Jav,Gg,GA] at hok;obtain⟨⟨⟨rfl,hu⟩,hn⟩,-⟩:=hok;have ha:=hg a;simp only[resV] at hv;split at hv<;>try (simp at hv;done)
     rename_i s hs;split at hv<;>try (simp at hv;done)
     rename_i cs f hm;rw[hs] at ha;have hld:=Jcz (P:=P) (t:=t) (n:=n) (l:=.v s) (p:=.lref s 0) (r:=v) hW ha hu hn (by simp[Jz,hm,hv]);obtain⟨u,hrun,hr⟩:=hld;refine⟨u,?_,hr⟩
     show (do let x ←asAddr (tm.getD a undef);loadVar t x:Sem Value).run P w=_
     rw[Jc0 ha] at hrun ⊢;simpa [Instr.loadAt,Instr.sureAddr,asAddr] using hrun
  obtain⟨u,hrun,hr⟩:=key;refine⟨u::us,?_,by simp[h2],fun i hi=>?_⟩
  ·rw[List.mapM_cons,Sem.run_bind,hrun];simp only[Result.andThen,Sem.run_bind,h1,Sem.run_pure]
  ·cases i with
   |zero=>exact⟨u,rfl,by simpa [gv] using hr⟩
   |succ i=>obtain⟨x,p,q⟩:=h3 i (by simpa using hi);exact⟨x,by simpa using p,by simpa [gv] using q⟩
 |[],_::_,vs,hok,h=>by simp[Jav] at hok
 |_::_,[],vs,hok,h=>by
  unfold Jav at hok;split at hok<;>simp_all
theorem JgK (l:List V) (j:Nat) (h:j<l.length):l[j]?=some (gv l j):=by simp[gv,h]
theorem out_ok {S:St} {w w':World} {β:Nat→Nat} {α:Nat→Value} {M:Nat→Prop} {own:Option Nat} {vs rs:List V} {us:List Value} (hW:RelW cx (·<w.heap.size) X S w' β α M)
  (hlen:us.length=vs.length) (hr:∀i,i<vs.length→∃u,us[i]?=some u∧RelT cx w' (orP X M) S β α u (gv vs i)) (ho:Jap (JcB S.A own) 0 vs=some rs) (hown:∀j,own=some j→j<vs.length) :
  ROut cx w w' X own (if us.length=1 then us.getD 0 undef else .tuple us.toArray) (Jb9 rs):=by
 obtain⟨h1,h2⟩:=Jbd ho
 have at_:∀i,i<rs.length→∃u,us[i]?=some u∧RelT cx w' (orP X M) S β α u (gv vs i)∧JcB S.A own i (gv vs i)=some (gv rs i):=fun i hi=>by
  have hi':i<vs.length:=by omega
  obtain⟨u,p,q⟩:=hr i hi';obtain⟨y,y1,y2⟩:=h2 i vs[i] (by simp[hi']);refine⟨u,p,q,?_⟩;have e1:gv vs i=vs[i]:=by simp[gv,hi']
  have e2:gv rs i=y:=by simp[gv,y1]
  rw[e1,e2];simpa using y2
 have hxb:∀s b,hdr (α s)=some b→(∃z rows f,S.A s=some (z,rows,f)∧f≠.dead)→¬X b:=fun s b hb hex hx=>by
  obtain⟨z,rows,f,e1,e2⟩:=hex;exact ((hW.arr s z rows f e1 e2).2 b hb).1 (hW.xb b hx)
 cases own with
 |none=>
  have hd:∀i,i<rs.length→∃u,us[i]?=some u∧RelD cx w' X u (gv rs i):=fun i hi=>by
   obtain⟨u,p,q,r⟩:=at_ i hi;simp only[JcB,reduceCtorEq,GD,Gx] at r;exact⟨u,p,Jbr hW q r (fun b hb=>.inl hb) (fun s _ b hb hex=>hxb s b hb hex)⟩
  match rs,hd,h1 with
  |[r],hd,h1=>
   obtain⟨u,p,q⟩:=hd 0 (by simp)
   have:us.length=1:=by simp at h1;omega
   rw[Gl this]
   simp only[Jb9]
   have:us.getD 0 undef=u:=by simp[List.getD_eq_getElem?_getD,p]
   rw[this];exact q
  |[],hd,h1=>
   have:us=[]:=GB (by simp at h1;omega)
   subst this
   exact RelD.tuple #[] [] (fun _=>undef) rfl (fun i hi=>by simp at hi) (fun i hi=>by simp at hi)
  |r::r'::rs,hd,h1=>
   rw[Gj (by simp at h1;omega)]
   obtain⟨u,hu⟩:=JaD hd
   exact RelD.tuple us.toArray _ u (by simp at h1 ⊢;omega) (fun i hi=>by simpa using (hu i hi).1) (fun i hi=>(hu i hi).2)
 |some j=>
  have hj:j<rs.length:=by have:=hown j rfl;omega
  ·obtain⟨u,p,q,r⟩:=at_ j hj
   simp only[JcB,Gx] at r
   split at r<;>try (simp at r;done)
   rename_i s z n hs
   split at r<;>try (simp at r;done)
   rename_i z' rows hA
   split at r<;>simp only[Ga,reduceCtorEq] at r
   rename_i hc
   obtain⟨rfl,hn⟩:=hc
   rw[hs] at q
   obtain⟨rows',f,a,cap,hA',rfl,ha,hoo⟩:=q
   rw[hA] at hA'
   simp only[Ga,Gf] at hA'
   obtain⟨-,rfl,rfl⟩:=hA'
   have hα:=(hoo (by simp)).2 hn
   obtain⟨a1,a2⟩:=hW.arr s z' rows .live hA (by simp)
   have hsub:∀b,hdr (α s)=some b→M b:=fun b hb=>(a2 b hb).2.1 rfl
   have hE:∀u x,RelD cx w' (orP X M) u x→RelD cx w' (orP X (fun b=>hdr (α s)=some b)) u x:=fun _ _ hr=>Jaw hsub hr
   refine⟨α s,z',rows,fun b=>hdr (α s)=some b,fun b hb=>⟨Nat.le_of_not_lt (a2 b hb).1,a1.lt hb⟩,fun b hb=>hb,a1.tr hE (fun _ _=>rfl),?_⟩
   have oth:∀i,i<rs.length→i≠j→∃u,us[i]?=some u∧RelD cx w' (orP X (fun b=>hdr (α s)=some b)) u (gv rs i):=fun i hi hne=>by
    obtain⟨u,p,q,r⟩:=at_ i hi;simp only[JcB,Ga,Ne.symm hne,GD,reduceCtorEq] at r;split at r<;>try (simp at r;done)
    rename_i hd;refine⟨u,p,Jbr hW q r (fun b hb=>hb.imp id (hsub b)) (fun t ht b hb hex hn=>?_)⟩;rcases hn with hx|hx
    ·exact hxb t b hb hex hx
    ·have h1:=Gs.1 hd t ht;obtain⟨z1,rows1,f1,e1,e2⟩:=hex;rw[e1] at h1;have hf:f1=.frz:=by cases f1<;>simp[Jlq] at h1<;>rfl
     subst hf;exact ((hW.arr t z1 rows1 .frz e1 e2).2 b hb).2.2 rfl (hsub b hx)
   match rs,at_,h1,hj,r,oth with
   |[r0],at_,h1,hj,r,oth=>
    have:us.length=1:=by simp at h1;omega
    rw[Gl this]
    have hj0:j=0:=by simp at hj;exact hj
    subst hj0
    refine .inl ⟨by simpa [Jb9,gv] using r.symm,?_⟩
    rw[←hα];simp[List.getD_eq_getElem?_getD,p]
   |r0::r1::rs,at_,h1,hj,r,oth=>
    rw[Gj (by simp at h1;omega)]
    refine .inr ⟨r0::r1::rs,us.toArray,rfl,rfl,by simp at h1 ⊢;omega,hj,?_,by rw[←hα];simpa using p,fun i hi hne=>?_⟩
    ·exact (JgK _ j hj).trans (by rw[←r])
    ·obtain⟨u',p',q'⟩:=oth i hi hne
     exact⟨u',by simpa using p',q'⟩
   |[],at_,h1,hj,r,oth=>simp at hj
theorem JaE {fn:Func} {tm:Array Value} {w:World} {us:List Value}
  (hrun:(fn.results.toList.mapM fun|.tmp t=>pure (tm.getD t undef)|.cell a t=>do loadVar t (←asAddr (tm.getD a undef)):Sem (List Value)).run P w=.ok us w) :
  (results fn tm).run P w=.ok (if us.length=1 then us.getD 0 undef else .tuple us.toArray) w:=by
 unfold results
 rw[Array.mapM_eq_mapM_toList]
 simp only[map_eq_pure_bind,bind_assoc,pure_bind,Sem.run_bind]
 erw [hrun]
 simp only[Result.andThen,Sem.run_pure,GX]
 congr 1
 split
 ·rename_i h1
  rw[List.getD_eq_getElem?_getD]
  simp[h1]
 ·rfl
theorem Je2 {f : Nat} {F : F} {κ : Nat → List V → Option V} {n : Nat} {args : List V} {r : V} (hm : P.follows .mixedOrders = true) (hκ : KOK P cx (ownOf Pg) κ)
    (hok : okF P cx Pg (cx.fm f) F = true) (hF : Pg f = some (.code F)) (hlen : args.length = F.np)
    (hr : ((Jd κ n F.body (start args)).bind fun r => match r.1 with
          | .norm | .ret => Jad F r.2
          | .exit _ => none) = some r) : Ctr P cx (ownOf Pg f) f args r := by
  unfold okF at hok
  split at hok <;> try (simp at hok; done)
  rename_i fn hfn
  simp only [Gg, GA, Gz] at hok
  obtain ⟨⟨⟨⟨⟨k1, k2⟩, k3⟩, k4⟩, k5⟩, k6⟩ := hok
  split at k2 <;> try (simp at k2; done)
  rename_i c hc
  have hown : ownOf Pg f = F.own := by simp [ownOf, hF]
  refine ⟨⟨fn, hfn, k1, by simp [hc]⟩, fun w X vs hX hgn hG hsz hrel => ?_⟩
  simp only [Gb] at hr
  obtain ⟨⟨ex, S'⟩, hex, hfin⟩ := hr
  have hRW : RelW cx (· < w.heap.size) X (start args) w (fun _ => 0) (fun _ => undef) (fun _ => False) :=
    ⟨hX, ⟨fun b hb => GC hb hgn, hG⟩, fun _ h => h, fun b hb => hb.elim, fun s cs f hs => by simp [start] at hs, fun s s' hs => by simp [start] at hs, fun s z rows f hs => by simp [start] at hs, fun s s' z rows f z' rows' f' hs => by simp [start] at hs, fun s z rows f s' hs => by simp [start] at hs⟩
  have hFR : FR cx (· < w.heap.size) X none F.gl [] (fun _ => .undef) (start args) (vs ++ Array.replicate (fn.ntmps - vs.size) undef) w := by
    refine ⟨fun t ht => ?_, _, _, _, hRW, fun t => ?_, fun i d hd => by simp at hd, fun k b hk => by simp at hk⟩
    · have : ¬ t < F.np := fun hlt => ht (by
        have := Gs.1 k4 t (GO.2 hlt);simpa using this)
      simp only [start]
      rw [List.getElem?_eq_none (by omega)]; rfl
    · by_cases ht : t < args.length
      · obtain ⟨u, p, q⟩ := hrel t ht
        have : (vs ++ Array.replicate (fn.ntmps - vs.size) undef).getD t undef = u := by
          rw [Array.getD_eq_getD_getElem?, Array.getElem?_append_left (by omega), p]; rfl
        rw [this]
        have : (start args).ρ t = gv args t := by simp [start, gv, List.getD_eq_getElem?_getD]
        rw [this]
        exact .of_data (q.mono (Gm _) (fun _ _ _ => rfl) (fun b _ hn hx => hn (hx.resolve_right id)))
      · have : (start args).ρ t = .undef := by simp only [start]; rw [List.getElem?_eq_none (by omega)]; rfl
        rw [this]; exact RelD.undef _
  refine calls_of_wp hfn hc (wp_mono ((JbL (N := fn.ntmps) hm hκ n).1 c F.body (start args) S' ex _ w k2 (fun k b hk => by simp at hk) hex hFR rfl (by simp; omega)) fun e a' w' hp => ?_)
  obtain ⟨p1, p2, p3, p4, p5⟩ := hp
  have hfin' : Jad F S' = some r ∧ (e = .normal ∨ e = .ret) := by
    cases ex with
    | norm => exact ⟨hfin, .inl p1⟩
    | ret => exact ⟨hfin, .inr p1⟩
    | exit id => simp at hfin
  obtain ⟨hfin, he⟩ := hfin'
  obtain ⟨hG, β, α, M, hW, hg, hl, -⟩ := p2
  rw [hown]
  have main : ∃ v, (results fn a'.tmps).run P w' = .ok v w' ∧ ROut cx w w' X F.own v r := by
    unfold Jad at hfin;split at hfin
    · rename_i r' hfin'
      simp only [Ga] at hfin
      subst hfin
      unfold JbQ at hfin'
      simp only [Gb, Ga] at hfin'
      obtain ⟨vs1, hv1, rs, hrs, rfl⟩ := hfin'
      obtain ⟨us, hrun, hlu, hru⟩ := results_ok (P := P) hW hg fn.results.toList F.res vs1 k5 hv1
      refine ⟨_, JaE hrun, ?_⟩
      have hvl := (JF hv1).1
      exact out_ok hW hlu hru hrs (fun j hj => by rw [hj] at k6; simp only [Gg, Gz] at k6; omega)
    · unfold finishP at hfin
      split at hfin <;> try (simp at hfin; done)
      rename_i t hres howno
      split at hfin <;> try (simp at hfin; done)
      rename_i s hs
      split at hfin <;> try (simp at hfin; done)
      rename_i cs fz hm
      simp only [GJ] at hfin
      obtain ⟨cs', hcs', rfl⟩ := hfin
      have hv1 : Jn (resV S') F.res = some [.lref s 0] := by rw [hres]; simp only [Jn, resV, hs, Option.bind_some]
      obtain ⟨us, hrun, hlu, hru⟩ := results_ok (P := P) hW hg fn.results.toList F.res _ k5 hv1
      refine ⟨_, JaE hrun, ?_⟩
      have hl1 : us.length = 1 := by simpa using hlu
      rw [Gl hl1, howno]
      obtain ⟨u, hu1, hu2⟩ := hru 0 (by simp)
      have hu : us.getD 0 undef = u := by simp [List.getD_eq_getElem?_getD, hu1]
      rw [hu]
      obtain ⟨_, rfl⟩ := hu2
      obtain ⟨a1, -, -, c, e', a4, a5, a6⟩ := hW.var s cs fz hm
      obtain ⟨h1, h2⟩ := JF hcs'
      show RelD cx w' X _ _
      refine Ja7 (JN a4) (fun hx => a1 (hW.xb _ hx)) a4 (Gm _) (fun j hj => ?_)
      have hj' : j < cs.length := by omega
      obtain ⟨u, b1, b2, b3⟩ := a6 j hj'
      obtain ⟨y, hy1, hy2⟩ := h2 j cs[j] (by simp [hj'])
      have hgc : gv cs j = cs[j] := by simp [gv, hj']
      rw [hgc] at b3
      have hgy : gv cs' j = y := by simp [gv, hy1]
      rw [hgy]
      refine ⟨u, by simpa using b1, b2, toDC_ok hW b3 hy2 (fun b hb => .inl hb) (fun s' _ b hb hex hx => ?_)⟩
      obtain ⟨z, rows, f, e1, e2⟩ := hex
      exact ((hW.arr s' z rows f e1 e2).2 b hb).1 (hW.xb b hx)
  obtain ⟨v, hres, hR⟩ := main
  rcases he with rfl | rfl
  · exact ⟨p3, _, hres, _, rfl, p5.below fun _ h => h, hR⟩
  · exact ⟨p3, _, hres, _, rfl, p5.below fun _ h => h, hR⟩
theorem JfU {A A':AA} (hd:Dies A A') {x y:V} (h:toD A' x=some y):toD A x=some y∧∀s∈Je x,∃z rows f,A' s=some (z,rows,f)∧f≠.dead:=by
 have one:∀{x y:V},toDC A' x=some y→toDC A x=some y∧∀s∈Jc x,∃z rows f,A' s=some (z,rows,f)∧f≠.dead:=by
  intro x y h;cases x with
  |own s z n=>
   simp only[toDC] at h;split at h
   ·rename_i z' rows f hA;split at h<;>simp only[Ga,reduceCtorEq] at h;rename_i hc;have:=hd.keep hA hc.2.2;refine⟨by simp only[toDC,this,Gl hc,h],fun t ht=>?_⟩;simp only[Jc,GM,List.not_mem_nil,or_false] at ht;subst ht;exact⟨z',rows,f,hA,hc.2.2⟩
   ·simp at h
  |_=>exact⟨h,fun s hs=>by simp[Jc] at hs⟩
 cases x with
 |agg cs=>
  simp only[toD,GJ] at h ⊢;obtain⟨ys,hy,rfl⟩:=h;have:∀(l:List V) (ys:List V),Jn (toDC A') l=some ys→Jn (toDC A) l=some ys∧∀s∈l.flatMap Jc,∃z rows f,A' s=some (z,rows,f)∧f≠.dead:=by
   intro l
   induction l with
   |nil=>intro ys h;exact⟨h,fun s hs=>by simp at hs⟩
   |cons a l ih=>
    intro ys h;simp only[Jn,Gb,Ga] at h;obtain⟨y,h1,ys',h2,rfl⟩:=h;obtain⟨a1,a2⟩:=one h1;obtain⟨b1,b2⟩:=ih ys' h2;refine⟨by simp only[Jn,a1,b1,Option.bind_some],fun s hs=>?_⟩;simp only[List.flatMap_cons,GQ] at hs;rcases hs with hs|hs
    ·exact a2 s hs
    ·exact b2 s hs
  obtain⟨c1,c2⟩:=this cs ys hy;exact⟨⟨ys,c1,rfl⟩,fun s hs=>c2 s (by simpa [Je] using hs)⟩
 |own s z n=>exact one (x:=.own s z n) h
 |undef=>exact⟨h,fun s hs=>by simp[Je,Jc] at hs⟩
 |bool b=>exact⟨h,fun s hs=>by simp[Je,Jc] at hs⟩
 |int k n=>exact⟨h,fun s hs=>by simp[Je,Jc] at hs⟩
 |str s=>exact⟨h,fun s hs=>by simp[Je,Jc] at hs⟩
 |slice z r=>exact⟨h,fun s hs=>by simp[Je,Jc] at hs⟩
 |tuple c=>simp[toD,toDC,V.datC] at h
 |func f c=>exact⟨h,fun s hs=>by simp[Je,Jc] at hs⟩
 |cptr c o=>exact⟨h,fun s hs=>by simp[Je,Jc] at hs⟩
 |lref s o=>simp[toD,toDC,V.datC] at h
 |eref s i o n=>simp[toD,toDC,V.datC] at h
 |iface t v=>exact⟨h,fun s hs=>by simp[Je,Jc] at hs⟩
 |niface=>exact⟨h,fun s hs=>by simp[Je,Jc] at hs⟩
 |nslice z=>exact⟨h,fun s hs=>by simp[Je,Jc] at hs⟩
 |xslice z r=>exact⟨h,fun s hs=>by simp[Je,Jc] at hs⟩
theorem fnR_sound {f k : Nat} {F : F} {κ : Nat → List V → Option V} {n : Nat} {args cs : List V} {S0 : St} {r : V} (hm : P.follows .mixedOrders = true) (hκ : KOK P cx (ownOf Pg) κ)
    (hok : okF P cx Pg (cx.fm f) F = true) (hown : F.own = none) (hns : nsC k F.body = true) (hlen : args.length = F.np) (hk : args[k]? = some (.tuple (.lref 0 0 :: cs))) (h0 : startR args k cs = some S0)
    (hr : ((Jd κ n F.body S0).bind fun r => match r.1 with
          | .norm | .ret => JaM F k r.2
          | .exit _ => none) = some r) : CtrR P cx k f args r := by
  unfold okF at hok
  split at hok <;> try (simp at hok; done)
  rename_i fn hfn
  simp only [Gg, GA, Gz] at hok
  obtain ⟨⟨⟨⟨⟨k1, k2⟩, k3⟩, k4⟩, k5⟩, k6⟩ := hok
  split at k2 <;> try (simp at k2; done)
  rename_i c hc
  refine ⟨⟨fn, hfn, k1, by simp [hc]⟩, fun w X N b vs cs' hX hN hgn hG hsz hk' hvk hRef hrel => ?_⟩
  rw [hk] at hk'
  simp only [Ga, V.tuple.injEq, Gab, true_and] at hk'
  subst hk'
  obtain ⟨hNb, l, el, hwb, hTr, hnd⟩ := hRef
  obtain ⟨hnd1, hnd2⟩ := List.nodup_cons.1 hnd
  simp only [Gb] at hr
  obtain ⟨⟨ex, S'⟩, hex, hfin⟩ := hr
  simp only [startR, Gb, Ga] at h0
  obtain ⟨⟨cells, A0⟩, ht0, rfl⟩ := h0
  have hBN : ∀ b, N b → ¬ (b < w.heap.size ∧ ¬ N b) := fun b h1 h2 => h2.2 h1
  have hRE : RelW cx (fun b => b < w.heap.size ∧ ¬ N b) X ⟨fun i => if i = k then .lref k 0 else (args[i]?).getD .undef, fun _ => none, fun _ => none⟩ w (fun _ => 0) (fun _ => undef) N :=
    ⟨fun b hb => ⟨hX b hb, fun hh => (hN b hh).2.1 hb⟩, ⟨fun b hb => ⟨GC hb hgn, fun hh => by have := (hN b hh).2.2; omega⟩, hG⟩, fun b hb => hb.1, fun b hb => ⟨hBN b hb, (hN b hb).1⟩,
      fun s cs f hs => by simp at hs, fun s s' hs => by simp at hs, fun s z rows f hs => by simp at hs, fun s s' z rows f z' rows' f' hs => by simp at hs, fun s z rows f s' hs => by simp at hs⟩
  obtain ⟨α0, t1, t2, t3, t4⟩ := take_ok cs 9000 _ (fun _ => undef) A0 cells l hRE ht0 hTr hnd2 (fun h hh => ⟨fun s hs => by simp at hs, fun s z rows f hs => by simp at hs⟩)
  have hRW := t1.addVar (d := k) (b0 := b) (cs := cells) rfl hNb hwb (by simpa using t2.1) (fun i hi => by obtain ⟨u, p, q, r⟩ := t2.2 i hi; exact ⟨u, by simpa using p, q, r⟩)
    (fun s hs => by simp at hs) (fun s z rows f hs hf hx => by
      rcases t4 s z rows f hs hf _ hx with h' | ⟨z1, r1, f1, b1, b2, b3⟩
      · exact hnd1 h'
      · simp at b1)
  have hkl : k < args.length := by
    rcases Gt k args.length with h' | h'
    · exact h'
    · rw [List.getElem?_eq_none h'] at hk; simp at hk
  have hFR : FR cx (fun b => b < w.heap.size ∧ ¬ N b) X (some (k, b)) F.gl [] (fun _ => .undef) ⟨fun i => if i = k then .lref k 0 else (args[i]?).getD .undef, upd (fun _ => none) k (some (cells, false)), A0⟩ (vs ++ Array.replicate (fn.ntmps - vs.size) undef) w := by
    have hin : ∀ t, t < F.np → t ∈ F.gl := fun t hlt => by
      have := Gs.1 k4 t (GO.2 hlt);simpa using this
    refine ⟨fun t ht => ?_, _, _, _, hRW, fun t => ?_, fun i d hd => by simp at hd, fun k' b' hkb => ?_⟩
    · have : ¬ t < F.np := fun hlt => ht (hin t hlt)
      have hne : t ≠ k := by omega
      simp only [Gj hne]
      rw [List.getElem?_eq_none (by omega)]; rfl
    · by_cases hne : t = k
      · subst hne
        simp only [Gx]
        refine ⟨by simp [upd], ?_⟩
        have : t < vs.size := by omega
        rw [Array.getD_eq_getD_getElem?, Array.getElem?_append_left this, hvk]
        simp [upd]
      · simp only [Gj hne]
        by_cases ht : t < args.length
        · obtain ⟨u, p, q⟩ := hrel t ht hne
          have : (vs ++ Array.replicate (fn.ntmps - vs.size) undef).getD t undef = u := by
            rw [Array.getD_eq_getD_getElem?, Array.getElem?_append_left (by omega), p]; rfl
          rw [this]
          have : (args[t]?).getD .undef = gv args t := by simp [gv, List.getD_eq_getElem?_getD]
          rw [this]
          exact .of_data q
        · rw [List.getElem?_eq_none (by omega)]; exact RelD.undef _
    · simp only [Ga, Gf] at hkb
      obtain ⟨rfl, rfl⟩ := hkb
      exact ⟨by simp [upd], by simp [upd]⟩
  refine calls_of_wp hfn hc (wp_mono ((JbL (N := fn.ntmps) hm hκ n).1 c F.body _ S' ex _ w k2 (fun k' b' hkb => by
    simp only [Ga, Gf] at hkb; obtain ⟨rfl, rfl⟩ := hkb; exact hns) hex hFR rfl (by simp; omega)) fun e a' w' hp => ?_)
  obtain ⟨p1, p2, p3, p4, p5⟩ := hp
  have hfin' : JaM F k S' = some r ∧ (e = .normal ∨ e = .ret) := by
    cases ex with
    | norm => exact ⟨hfin, .inl p1⟩
    | ret => exact ⟨hfin, .inr p1⟩
    | exit id => simp at hfin
  obtain ⟨hfin, he⟩ := hfin'
  unfold JaM at hfin
  simp only [Gb] at hfin
  obtain ⟨vs1, hv1, hfin⟩ := hfin
  split at hfin <;> try (simp at hfin; done)
  rename_i cs1 hmk
  simp only [Gb, Ga] at hfin
  obtain ⟨⟨ts, A1⟩, hh, ws, hws, rfl⟩ := hfin
  obtain ⟨hG, β, α, M, hW, hg, hl, hpin⟩ := p2
  obtain ⟨hk1, hk2⟩ := hpin k b rfl
  obtain ⟨us, hrun, hlu, hru⟩ := results_ok (P := P) hW hg fn.results.toList F.res vs1 k5 hv1
  have hres : (results fn a'.tmps).run P w' = .ok (if us.length = 1 then us.getD 0 undef else .tuple us.toArray) w' := by
    unfold results;rw [Array.mapM_eq_mapM_toList];simp only [map_eq_pure_bind, bind_assoc, pure_bind, Sem.run_bind]
    erw [hrun]
    simp only [Result.andThen, Sem.run_pure, GX]
    congr 1
    split
    · rename_i h1
      rw [List.getD_eq_getElem?_getD]
      simp [h1]
    · rfl
  obtain ⟨a1, a2, a3, cb, el1, a4, a5, a6⟩ := hW.var k cs1 false hmk
  rw [hk2] at a4
  have hcr : CR cx w' (orP X M) S' α cb.toList cs1 := ⟨by simpa using a5, fun i hi => by obtain ⟨u, p, q, r⟩ := a6 i hi; exact ⟨u, by simpa using p, q, r⟩⟩
  obtain ⟨q1, q2, q3, q4⟩ := hand_ok cs1 S' cb.toList ts A1 (fun s z rows f hs hf => ⟨(hW.arr s z rows f hs hf).1, fun b hb hl => ((hW.arr s z rows f hs hf).2 b hb).2.1 hl⟩)
    (fun s s' z rows f z' rows' f' hs hf hs' hf' b hb hb' => hW.arrInj s s' z rows f z' rows' f' hs hf hs' hf' b hb hb') hcr hh
  generalize hH : JB cb.toList ts = H at q3 q4
  have hMb : M b := hk2 ▸ a2 rfl
  have hNM : ∀ x, (x = b ∨ x ∈ H) → M x := fun x hx => by
    rcases hx with rfl | hx
    · exact hMb
    · exact (q1.hdr x (hH ▸ hx)).1
  have hHs : b ∉ H := fun hb => by
    obtain ⟨t, z, rows, e1, e2, e3⟩ := q4 _ hb;exact hW.arrVar t z rows .live k e1 (by simp) hk1 (by rw [hk2]; exact e3)
  have hsub : ∀ u x, RelD cx w' (orP X M) u x → RelD cx w' (orP X fun x => x = b ∨ x ∈ H) u x := fun u x hr => Jaw hNM hr
  have hd : ∀ i, i < ws.length → ∃ u, us[i]? = some u ∧ RelD cx w' (orP X fun x => x = b ∨ x ∈ H) u (gv ws i) := fun i hi => by
    obtain ⟨m1, m2⟩ := JF hws;have hi' : i < vs1.length := by omega
    obtain ⟨u, p, q⟩ := hru i hi';obtain ⟨y, y1, y2⟩ := m2 i vs1[i] (by simp [hi']);have e1 : gv vs1 i = vs1[i] := by simp [gv, hi']
    have e2 : gv ws i = y := by simp [gv, y1]
    rw [e1] at q;rw [e2];obtain ⟨d1, d2⟩ := JfU q2 y2;refine ⟨u, p, Jbr hW q d1 (fun b hb => hb.imp id (hNM b)) (fun s hs b1 hb1 hex hn => ?_)⟩;obtain ⟨z, rows, f, g1, g2⟩ := d2 s hs;have g3 := q2.keep g1 g2;rcases hn with hx | hx | hx
    · exact ((hW.arr s z rows f g3 g2).2 b1 hb1).1 (hW.xb b1 hx)
    · exact hW.arrVar s z rows f k g3 g2 hk1 (by rw [hk2, ← hx]; exact hb1)
    · obtain ⟨t, z', rows', e1, e2, e3⟩ := q4 _ hx
      have := hW.arrInj s t z rows f z' rows' .live g3 g2 e1 (by simp) b1 hb1 e3
      subst this
      rw [g1] at e2
      simp only [Ga, Gf] at e2
      exact g2 e2.2.2
  have hwl : us.length = ws.length := by rw [hlu, (JF hws).1]
  have hR : RelD cx w' (orP X fun x => x = b ∨ x ∈ H) (if us.length = 1 then us.getD 0 undef else .tuple us.toArray) (Jb9 ws) := by
    match ws, hd, hwl with
    | [r], hd, h1 =>
      obtain ⟨u, p, q⟩ := hd 0 (by simp);have : us.length = 1 := by simpa using h1
      rw [Gl this];simp only [Jb9];have : us.getD 0 undef = u := by simp [List.getD_eq_getElem?_getD, p]
      rw [this]; exact q
    | [], hd, h1 =>
      have : us = [] := GB (by simpa using h1);subst this;exact RelD.tuple #[] [] (fun _ => undef) rfl (fun i hi => by simp at hi) (fun i hi => by simp at hi)
    | r :: r' :: rs, hd, h1 =>
      rw [Gj (by simp at h1; omega)];obtain ⟨u, hu⟩ := JaD hd;exact RelD.tuple us.toArray _ u (by simp at h1 ⊢; omega) (fun i hi => by simpa using (hu i hi).1) (fun i hi => (hu i hi).2)
  have hpost : ∃ v r0 cs' N', Ending.returned (if us.length = 1 then us.getD 0 undef else .tuple us.toArray) = .returned v ∧ V.tuple [Jb9 ws, .tuple ts] = .tuple [r0, .tuple cs'] ∧ Kept (fun b => b < w.heap.size ∧ ¬ N b) w w' ∧
      (∀ b, N' b → N b ∨ (w.heap.size ≤ b ∧ b < w'.heap.size)) ∧ RefOK cx w' (orP X N') N' b cs' ∧ RelD cx w' (orP X N') v r0 := by
    refine ⟨_, _, _, fun x => x = b ∨ x ∈ H, rfl, rfl, p5, fun x hx => ?_, ⟨.inl rfl, cb.toList, el1, by simpa using a4, q1.mono hsub (fun x hx => .inr (hH ▸ hx)), ?_⟩, hR⟩
    · obtain ⟨h1, h2⟩ := hW.m x (hNM x hx)
      by_cases hNx : N x
      · exact .inl hNx
      · refine .inr ⟨?_, h2⟩
        rcases Gt x w.heap.size with h' | h'
        · exact absurd ⟨h', hNx⟩ h1
        · exact h'
    · rw [hH]; exact List.nodup_cons.2 ⟨hHs, q3⟩
  rcases he with rfl | rfl
  · exact ⟨p3, _, hres, hpost⟩
  · exact ⟨p3, _, hres, hpost⟩
theorem Jan (hm:P.follows .mixedOrders=true) (hcode:∀f F,Pg f=some (.code F)→okF P cx Pg (cx.fm f) F=true)
  (hprim:∀f own p,Pg f=some (.prim own p)→∀args r,p args=some r→Ctr P cx own f args r)
  (hins:∀f z p,z<1000→Pg f=some (.prim (some (1000+z)) p)→∃tS el,InsC P (cx.fm f) z tS el) (hdel:∀f z p,Pg f=some (.prim (some (2000+z)) p)→DelC P (cx.fm f) z)
  (hcodeR:∀f F k,Pg f=some (.codeR F k)→okF P cx Pg (cx.fm f) F=true∧F.own=none∧nsC k F.body=true)
  (hpl:∀f own p,Pg f=some (.prim own p)→∀k,k<1000→own≠some (3000+k)) :
  ∀(n f:Nat) (args:List V) (r:V),Jw Pg n f args=some r→Ctr P cx (ownOf Pg f) f args r∧∀k,k<1000→ownOf Pg f=some (3000+k)→CtrR P cx k f args r
 |0,f,args,r,h=>by simp[Jw] at h
 |n+1,f,args,r,h=>by
  have own_lt:∀g G j,Pg g=some (.code G)→G.own=some j→j<1000:=fun g G j hg hj=>by
   have:=hcode g G hg;unfold okF at this;split at this
   ·simp only[Gg,hj,Gz] at this;exact this.2.2
   ·simp at this
  have hK:KOK P cx (ownOf Pg) (Jw Pg n):=⟨fun f args r h=>(Jan hm hcode hprim hins hdel hcodeR hpl n f args r h).1,fun g z hz ho=>by
    simp only[ownOf] at ho;split at ho
    ·rename_i G hG;have:=own_lt g G _ hG ho;omega
    ·rename_i own p hG;subst ho;exact hins g z p hz hG
    ·simp only[Ga] at ho;omega
    ·simp at ho,fun g z hz ho=>by
    simp only[ownOf] at ho;split at ho
    ·rename_i G hG;have:=own_lt g G _ hG ho;omega
    ·rename_i own p hG;subst ho;exact hdel g z p hG
    ·simp only[Ga] at ho;omega
    ·simp at ho,fun f k hk ho args r h=>(Jan hm hcode hprim hins hdel hcodeR hpl n f args r h).2 k hk ho⟩
  simp only[Jw] at h;split at h
  ·simp at h
  ·rename_i own p hf;have:ownOf Pg f=own:=by simp[ownOf,hf]
   rw[this];exact⟨hprim f own p hf args r h,fun k hk ho=>absurd ho (hpl f own p hf k hk)⟩
  ·rename_i F k hf;have how:ownOf Pg f=some (3000+k):=by simp[ownOf,hf]
   split at h<;>try (simp at h;done)
   rename_i hlen;split at h<;>try (simp at h;done)
   rename_i cs hk;simp only[Gb] at h;obtain⟨S0,h0,r1,h1,h2⟩:=h;obtain⟨c1,c2,c3⟩:=hcodeR f F k hf;have hR:CtrR P cx k f args r:=fnR_sound hm hK c1 c2 c3 hlen hk h0 (by simp only[Gb];exact⟨r1,h1,h2⟩);refine⟨⟨hR.1,fun w X vs hX hgn hG hsz hrel=>?_⟩,fun k' hk' ho=>?_⟩
   ·exfalso
    have hkl:k<args.length:=by
     rcases Gt k args.length with h'|h'
     ·exact h'
     ·rw[List.getElem?_eq_none h'] at hk;simp at hk
    obtain⟨u,p,q⟩:=hrel k hkl;have hg:gv args k=.tuple (.lref 0 0::cs):=by simp[gv,hk]
    rw[hg] at q;cases q with
    |tuple cs' vs' u' hl hc hr=>
     have:=hr 0 (by simp);simp only[gv,Gad] at this;generalize u' 0=q at this;cases this
   ·rw[how] at ho;simp only[Ga] at ho;have:k=k':=by omega
    subst this;exact hR
  ·rename_i F hf;split at h<;>try (simp at h;done)
   rename_i hlen;refine⟨Je2 hm hK (hcode f F hf) hf hlen h,fun k hk ho=>?_⟩;simp only[ownOf,hf] at ho;have:=own_lt f F _ hf ho;omega
end
end Sg
namespace Sg
def Le (κ κ':Nat→List V→Option V):Prop:=∀f a r,κ f a=some r→κ' f a=some r
theorem JgC {κ κ':Nat→List V→Option V} (h:Le κ κ') {d:Nat} {e:Nat→V} {S:St} {k:K} {r} (hr:ev κ d e S k=some r):ev κ' d e S k=some r:=by
 cases k<;>try exact hr
 rotate_left
 ·simp only[ev,JaZ,Gb] at hr ⊢;obtain⟨q,h1,x,h2,h3⟩:=hr;exact⟨q,h1,x,h _ _ _ h2,h3⟩
 ·simp only[ev] at hr ⊢;split at hr<;>try (simp at hr;done)
  split at hr<;>try (simp at hr;done)
  rename_i hc;rw[Gl hc];simp only[Gb] at hr ⊢;obtain⟨f,h1,x,h2,h3⟩:=hr;exact⟨f,h1,x,h _ _ _ h2,h3⟩
 rename_i f cv own xs;simp only[ev,Gb] at hr ⊢;obtain⟨fc,h1,h2⟩:=hr;refine⟨fc,h1,?_⟩;unfold callV at h2 ⊢;cases cv<;>simp only at h2 ⊢
 ·split at h2<;>try (simp at h2;done)
  rename_i hc;rw[Gl hc];simp only[Gb] at h2 ⊢;obtain⟨x,h2,h3⟩:=h2;exact⟨x,h _ _ _ h2,h3⟩
 ·simp only[Gb] at h2 ⊢;obtain⟨bs,h2,x,h3,h4⟩:=h2;exact⟨bs,h2,x,h _ _ _ h3,h4⟩
 ·simp only[Gb] at h2 ⊢;obtain⟨bs,h2,x,h3,h4⟩:=h2;exact⟨bs,h2,x,h _ _ _ h3,h4⟩
theorem Jcm {κ κ':Nat→List V→Option V} (h:Le κ κ') {o:Op} {e:Nat→V} {S:St} {r} (hr:step κ o e S=some r):step κ' o e S=some r:=by
 unfold step at hr ⊢;split at hr
 ·simp at hr
 ·exact hr
 ·simp only[Gb] at hr ⊢;obtain⟨x,h1,h2⟩:=hr;exact⟨x,JgC h h1,h2⟩
theorem JaF {κ κ':Nat→List V→Option V} (h:Le κ κ'):∀{ops:List Op} {i:Nat} {e:Nat→V} {S:St} {r},Ju κ ops i e S=some r→Ju κ' ops i e S=some r
 |[],_,_,_,_,hr=>hr
 |o::os,i,e,S,r,hr=>by
  simp only[Ju,Gb] at hr ⊢;obtain⟨x,h1,h2⟩:=hr;exact⟨x,Jcm h h1,JaF h h2⟩
theorem Jm {κ κ':Nat→List V→Option V} (h:Le κ κ'):∀{m m':Nat} {c:C} {S:St} {r},m≤m'→Jd κ m c S=some r→Jd κ' m' c S=some r
 |0,_,_,_,_,_,hr=>by simp[Jd] at hr
 |m+1,0,_,_,_,hm,_=>by omega
 |m+1,m'+1,c,S,r,hm,hr=>by
  have hm':m≤m':=by omega
  have ih:=fun {c S r}=>Jm h (m:=m) (m':=m') (c:=c) (S:=S) (r:=r) hm';cases c with
  |skip=>simpa [Jd] using hr
  |region d ops=>
   simp only[Jd,Gb] at hr ⊢;obtain⟨x,h1,h2⟩:=hr;exact⟨x,JaF h h1,h2⟩
  |seq a b=>
   simp only[Jd,Gb] at hr ⊢;obtain⟨⟨ex,x⟩,h1,h2⟩:=hr;refine⟨_,ih h1,?_⟩;cases ex<;>simp only at h2 ⊢
   ·exact ih h2
   ·exact h2
   ·exact h2
  |cond x a b=>
   simp only[Jd] at hr ⊢;split at hr
   ·rename_i t ht;cases t<;>exact ih hr
   ·simp at hr
  |block id c=>
   simp only[Jd,Gb] at hr ⊢;obtain⟨x,h1,h2⟩:=hr;exact⟨_,ih h1,h2⟩
  |loop W L Wv Wa c=>
   simp only[Jd,Gb] at hr ⊢;obtain⟨⟨ex,x⟩,h1,h2⟩:=hr;refine⟨_,ih h1,?_⟩;cases ex<;>simp only at h2 ⊢
   ·exact ih h2
   ·exact h2
   ·exact h2
  |exit id=>simpa [Jd] using hr
  |ret=>simpa [Jd] using hr
theorem Le.refl (κ:Nat→List V→Option V):Le κ κ:=fun _ _ _ h=>h
theorem JbK (Pg:Nat→Option Fn):∀n,Le (Jw Pg n) (Jw Pg (n+1))
 |0=>fun f a r h=>by simp[Jw] at h
 |n+1=>fun f a r h=>by
  rw[Jw] at h ⊢;split at h
  ·simp at h
  ·exact h
  ·split at h<;>try (simp at h;done)
   rename_i hl;rw[Gl hl];split at h<;>try (simp at h;done)
   simp only[Gb] at h ⊢;obtain⟨x,h0,y,h1,h2⟩:=h;exact⟨x,h0,y,Jm (JbK Pg n) (Nat.le_succ n) h1,h2⟩
  ·split at h<;>try (simp at h;done)
   rename_i hl;rw[Gl hl];simp only[Gb] at h ⊢;obtain⟨x,h1,h2⟩:=h;exact⟨x,Jm (JbK Pg n) (Nat.le_succ n) h1,h2⟩
theorem JL (Pg:Nat→Option Fn) {n m:Nat} (h:n≤m):Le (Jw Pg n) (Jw Pg m):=by
 induction h with
 |refl=>exact .refl _
 |step _ ih=>exact fun f a r hr=>JbK Pg _ f a r (ih f a r hr)
open Classical in
noncomputable def K' (Pg:Nat→Option Fn) (f:Nat) (args:List V):Option V:=
 if h:∃n r,Jw Pg n f args=some r then some h.choose_spec.choose else none
theorem JdE {Pg:Nat→Option Fn} {n f:Nat} {args:List V} {r:V} (h:Jw Pg n f args=some r):K' Pg f args=some r:=by
 have hex:∃n r,Jw Pg n f args=some r:=⟨n,r,h⟩;unfold K';rw[dif_pos hex];have h1:=hex.choose_spec.choose_spec;have h2:=JL Pg (GY hex.choose n) _ _ _ h1;have h3:=JL Pg (GV hex.choose n) _ _ _ h;rw[h2] at h3;exact h3
theorem K'_iff {Pg:Nat→Option Fn} {f:Nat} {args:List V} {r:V}:K' Pg f args=some r↔∃n,Jw Pg n f args=some r:=by
 constructor
 ·intro h;unfold K' at h;split at h
  ·rename_i hex;simp only[Ga] at h;exact⟨hex.choose,by rw[hex.choose_spec.choose_spec,h]⟩
  ·simp at h
 ·exact fun⟨n,h⟩=>JdE h
theorem ev_cpt {Pg:Nat→Option Fn} {d:Nat} {e:Nat→V} {S:St} {k:K} {r} (hr:ev (K' Pg) d e S k=some r):∃n,ev (Jw Pg n) d e S k=some r:=by
 cases k<;>try exact⟨0,hr⟩
 rotate_left
 ·simp only[ev,JaZ,Gb] at hr ⊢;obtain⟨q,h1,x,h2,h3⟩:=hr;obtain⟨n,hn⟩:=K'_iff.1 h2;exact⟨n,q,h1,x,hn,h3⟩
 ·simp only[ev] at hr ⊢;split at hr<;>try (simp at hr;done)
  split at hr<;>try (simp at hr;done)
  rename_i hc;simp only[Gl hc,Gb] at hr ⊢;obtain⟨f,h1,x,h2,h3⟩:=hr;obtain⟨n,hn⟩:=K'_iff.1 h2;exact⟨n,f,h1,x,hn,h3⟩
 rename_i f cv own xs;simp only[ev,Gb] at hr;obtain⟨fc,h1,h2⟩:=hr;have key:∃n,callV (Jw Pg n) d S cv own fc (xs.map (argv e S.ρ))=some r:=by
  unfold callV at h2 ⊢;cases cv<;>simp only at h2 ⊢
  ·split at h2<;>try (simp at h2;done)
   rename_i hc;simp only[Gl hc,Gb] at h2 ⊢;obtain⟨x,h2,h3⟩:=h2;obtain⟨n,hn⟩:=K'_iff.1 h2;exact⟨n,x,hn,h3⟩
  ·simp only[Gb] at h2 ⊢;obtain⟨bs,h2,x,h3,h4⟩:=h2;obtain⟨n,hn⟩:=K'_iff.1 h3;exact⟨n,bs,h2,x,hn,h4⟩
  ·simp only[Gb] at h2 ⊢;obtain⟨bs,h2,x,h3,h4⟩:=h2;obtain⟨n,hn⟩:=K'_iff.1 h3;exact⟨n,bs,h2,x,hn,h4⟩
 obtain⟨n,hn⟩:=key;exact⟨n,by simp only[ev,Gb];exact⟨fc,h1,hn⟩⟩
theorem JfR {Pg:Nat→Option Fn} {o:Op} {e:Nat→V} {S:St} {r} (hr:step (K' Pg) o e S=some r):∃n,step (Jw Pg n) o e S=some r:=by
 unfold step at hr ⊢;split at hr
 ·simp at hr
 ·exact⟨0,hr⟩
 ·simp only[Gb] at hr ⊢;obtain⟨x,h1,h2⟩:=hr;obtain⟨n,hn⟩:=ev_cpt h1;exact⟨n,x,hn,h2⟩
theorem Jb0 {Pg:Nat→Option Fn}:∀{ops:List Op} {i:Nat} {e:Nat→V} {S:St} {r},Ju (K' Pg) ops i e S=some r→∃n,Ju (Jw Pg n) ops i e S=some r
 |[],_,_,_,_,hr=>⟨0,hr⟩
 |o::os,i,e,S,r,hr=>by
  simp only[Ju,Gb] at hr ⊢;obtain⟨x,h1,h2⟩:=hr;obtain⟨n,hn⟩:=JfR h1;obtain⟨m,hm⟩:=Jb0 h2;exact⟨max n m,x,Jcm (JL Pg (GY n m)) hn,JaF (JL Pg (GV n m)) hm⟩
theorem J2 {Pg:Nat→Option Fn}:∀{m:Nat} {c:C} {S:St} {r},Jd (K' Pg) m c S=some r→∃n,Jd (Jw Pg n) m c S=some r
 |0,_,_,_,hr=>by simp[Jd] at hr
 |m+1,c,S,r,hr=>by
  have up:=fun {n n' m c S r} (h:n≤n')=>Jm (JL Pg h) (m:=m) (m':=m) (c:=c) (S:=S) (r:=r) (Gm m);cases c with
  |skip=>exact⟨0,by simpa [Jd] using hr⟩
  |region d ops=>
   simp only[Jd,Gb] at hr ⊢;obtain⟨x,h1,h2⟩:=hr;obtain⟨n,hn⟩:=Jb0 h1;exact⟨n,x,hn,h2⟩
  |seq a b=>
   simp only[Jd,Gb] at hr ⊢;obtain⟨⟨ex,x⟩,h1,h2⟩:=hr;obtain⟨n,hn⟩:=J2 h1;cases ex<;>simp only at h2
   ·obtain⟨n',hn'⟩:=J2 h2;exact⟨max n n',_,up (GY n n') hn,up (GV n n') hn'⟩
   ·exact⟨n,_,hn,h2⟩
   ·exact⟨n,_,hn,h2⟩
  |cond x a b=>
   simp only[Jd] at hr ⊢;split at hr
   ·rename_i t ht;cases t<;>exact J2 hr
   ·simp at hr
  |block id c=>
   simp only[Jd,Gb] at hr ⊢;obtain⟨x,h1,h2⟩:=hr;obtain⟨n,hn⟩:=J2 h1;exact⟨n,_,hn,h2⟩
  |loop W L Wv Wa c=>
   simp only[Jd,Gb] at hr ⊢;obtain⟨⟨ex,x⟩,h1,h2⟩:=hr;obtain⟨n,hn⟩:=J2 h1;cases ex<;>simp only at h2
   ·obtain⟨n',hn'⟩:=J2 h2;exact⟨max n n',_,up (GY n n') hn,up (GV n n') hn'⟩
   ·exact⟨n,_,hn,h2⟩
   ·exact⟨n,_,hn,h2⟩
  |exit id=>exact⟨0,by simpa [Jd] using hr⟩
  |ret=>exact⟨0,by simpa [Jd] using hr⟩
def Wp (κ:Nat→List V→Option V) (c:C) (S:St) (Q:Ex→St→Prop):Prop:=∃m ex S',Jd κ m c S=some (ex,S')∧Q ex S'
def Cont (κ:Nat→List V→Option V) (b:C) (Q:Ex→St→Prop):Ex→St→Prop
 |.norm,S=>Wp κ b S Q
 |x,S=>Q x S
def Blk (id:Nat) (Q:Ex→St→Prop):Ex→St→Prop
 |.exit id',S=>if id'=id then Q .norm S else Q (.exit id') S
 |x,S=>Q x S
section
variable {κ:Nat→List V→Option V} {S:St} {Q:Ex→St→Prop}
theorem Wp.mono {c:C} {Q':Ex→St→Prop} (h:Wp κ c S Q) (hq:∀ex S',Q ex S'→Q' ex S'):Wp κ c S Q':=by
 obtain⟨m,ex,S',h1,h2⟩:=h;exact⟨m,ex,S',h1,hq _ _ h2⟩
theorem wp_skip (h:Q .norm S):Wp κ .skip S Q:=⟨1,.norm,S,rfl,h⟩
theorem wp_exit {id:Nat} (h:Q (.exit id) S):Wp κ (.exit id) S Q:=⟨1,.exit id,S,rfl,h⟩
theorem wp_ret (h:Q .ret S):Wp κ .ret S Q:=⟨1,.ret,S,rfl,h⟩
theorem wp_region {d:Bool} {ops:List Op} (h:∃S',Ju κ ops 0 (fun _=>.undef) S=some S'∧Q .norm S'):Wp κ (.region d ops) S Q:=by
 obtain⟨S',h1,h2⟩:=h;exact⟨1,.norm,S',by simp[Jd,h1],h2⟩
theorem wp_seq {a b:C} (h:Wp κ a S (Cont κ b Q)):Wp κ (.seq a b) S Q:=by
 obtain⟨m,ex,S',h1,h2⟩:=h;cases ex with
 |norm=>
  obtain⟨m',ex,S'',h3,h4⟩:=h2;refine⟨max m m'+1,ex,S'',?_,h4⟩;simp only[Jd,Jm (.refl κ) (GY m m') h1,Option.bind_some];exact Jm (.refl κ) (GV m m') h3
 |ret=>exact⟨m+1,_,_,by simp[Jd,h1],h2⟩
 |exit id=>exact⟨m+1,_,_,by simp[Jd,h1],h2⟩
theorem wp_cond {x:Arg} {a b:C} (t:Bool) (ht:argv (fun _=>.undef) S.ρ x=.bool t) (h1:t=true→Wp κ a S Q) (h2:t=false→Wp κ b S Q):Wp κ (.cond x a b) S Q:=by
 cases t with
 |true=>
  obtain⟨m,ex,S',h1,h2⟩:=h1 rfl;exact⟨m+1,ex,S',by simp[Jd,ht,h1],h2⟩
 |false=>
  obtain⟨m,ex,S',h1,h2⟩:=h2 rfl;exact⟨m+1,ex,S',by simp[Jd,ht,h1],h2⟩
theorem wp_block {id:Nat} {c:C} (h:Wp κ c S (Blk id Q)):Wp κ (.block id c) S Q:=by
 obtain⟨m,ex,S',h1,h2⟩:=h;cases ex with
 |norm=>exact⟨m+1,_,_,by simp[Jd,h1],h2⟩
 |ret=>exact⟨m+1,_,_,by simp[Jd,h1],h2⟩
 |exit id'=>
  simp only[Blk] at h2;split at h2
  ·rename_i e;exact⟨m+1,.norm,S',by simp[Jd,h1,e],h2⟩
  ·rename_i e;exact⟨m+1,.exit id',S',by simp[Jd,h1,e],h2⟩
theorem JhZ {W L Wv Wa:List Nat} {c:C} (h:Wp κ c (S.head W L Wv Wa) (Cont κ (.loop W L Wv Wa c) Q)):Wp κ (.loop W L Wv Wa c) S Q:=by
 obtain⟨m,ex,S',h1,h2⟩:=h;cases ex with
 |norm=>
  obtain⟨m',ex,S'',h3,h4⟩:=h2;refine⟨max m m'+1,ex,S'',?_,h4⟩;simp only[Jd,Jm (.refl κ) (GY m m') h1,Option.bind_some];exact Jm (.refl κ) (GV m m') h3
 |ret=>exact⟨m+1,_,_,by simp[Jd,h1],h2⟩
 |exit id=>exact⟨m+1,_,_,by simp[Jd,h1],h2⟩
theorem wp_inv {W L Wv Wa:List Nat} {c:C} {σ:Type} (I:σ→St→Prop) (μ:σ→Nat) (s:σ) (h0:I s (S.head W L Wv Wa))
  (hstep:∀s S,I s S→Wp κ c S fun ex S'=>match ex with
   |.norm=>∃s',μ s'<μ s∧I s' (S'.head W L Wv Wa)
   |x=>Q x S'):Wp κ (.loop W L Wv Wa c) S Q:=by
 suffices ∀n s S,μ s=n→I s (S.head W L Wv Wa)→Wp κ (.loop W L Wv Wa c) S Q from this _ s S rfl h0
 intro n
 induction n using Nat.strongRecOn with
 |_ n ih=>
  intro s S hn hI
  refine JhZ ((hstep s _ hI).mono fun ex S' hq=>?_)
  cases ex with
  |norm=>
   obtain⟨s',h1,h2⟩:=hq
   exact ih _ (hn▸h1) s' S' rfl h2
  |ret=>exact hq
  |exit id=>exact hq
end
theorem K'_codeP {Pg:Nat→Option Fn} {f:Nat} {F:F} {args:List V} {r:V} (hF:Pg f=some (.code F)) (hl:args.length=F.np)
  (h:Wp (K' Pg) F.body (start args) fun ex S=>(ex=.norm∨ex=.ret)∧Jad F S=some r):K' Pg f args=some r:=by
 obtain⟨m,ex,S',h1,h2,h3⟩:=h
 obtain⟨n,hn⟩:=J2 h1
 have h4:Jd (Jw Pg (max n m)) (max n m) F.body (start args)=some (ex,S'):=Jm (JL Pg (GY n m)) (GV n m) hn
 refine JdE (n:=max n m+1) ?_
 simp only[Jw,hF,Gl hl,h4,Option.bind_some]
 rcases h2 with rfl|rfl<;>exact h3
theorem Jdk {F:F} {S:St} {r:V} (h:JbQ F S=some r):Jad F S=some r:=by
 unfold Jad;rw[h]
theorem JdD {Pg:Nat→Option Fn} {f:Nat} {F:F} {args:List V} {r:V} (hF:Pg f=some (.code F)) (hl:args.length=F.np)
  (h:Wp (K' Pg) F.body (start args) fun ex S=>(ex=.norm∨ex=.ret)∧JbQ F S=some r):K' Pg f args=some r:=
 K'_codeP hF hl (Wp.mono h fun _ _ h=>⟨h.1,Jdk h.2⟩)
theorem Qa {Pg:Nat→Option Fn} {f k:Nat} {F:F} {args cs:List V} {r:V} {S0:St} (hF:Pg f=some (.codeR F k)) (hl:args.length=F.np)
  (hk:args[k]?=some (.tuple (.lref 0 0::cs))) (h0:startR args k cs=some S0)
  (h:Wp (K' Pg) F.body S0 fun ex S=>(ex=.norm∨ex=.ret)∧JaM F k S=some r):K' Pg f args=some r:=by
 obtain⟨m,ex,S',h1,h2,h3⟩:=h
 obtain⟨n,hn⟩:=J2 h1
 have h4:Jd (Jw Pg (max n m)) (max n m) F.body S0=some (ex,S'):=Jm (JL Pg (GY n m)) (GV n m) hn
 refine JdE (n:=max n m+1) ?_
 simp only[Jw,hF,Gl hl,hk,h0,h4,Option.bind_some]
 rcases h2 with rfl|rfl<;>exact h3
theorem Jf3 {Pg:Nat→Option Fn} {f:Nat} {own:Option Nat} {p:List V→Option V} {args:List V} (hF:Pg f=some (.prim own p)):K' Pg f args=p args:=by
 cases h:p args with
 |some r=>exact JdE (n:=1) (by simp[Jw,hF,h])
 |none=>
  cases h':K' Pg f args with
  |none=>rfl
  |some r=>
   obtain⟨n,hn⟩:=K'_iff.1 h';cases n<;>simp[Jw,hF,h] at hn
def cloneQ (z0:Nat) (args:List V):Option V:=match args with
 |[.slice z rows]=>if rows.length≤lim∧z=z0 then some (.slice z rows) else none
 |_=>none
def Wr (κ:Nat→List V→Option V) (ops:List Op) (i:Nat) (e:Nat→V) (S:St) (Q:St→Prop):Prop:=∃S',Ju κ ops i e S=some S'∧Q S'
def JaP (gl:Bool) (dst:Option Nat) (S:St) (v:V):St:=
 match gl,dst with
 |true,some d=>⟨upd S.ρ d v,S.μ,S.A⟩
 |_,_=>S
def WrO (κ:Nat→List V→Option V) (dst:Option Nat) (gl:Bool) (ops:List Op) (i:Nat) (e:Nat→V) (Q:St→Prop):Option (V×St)→Prop
 |none=>False
 |some (v,S)=>Wr κ ops (i+1) (upd e i v) (JaP gl dst S v) Q
def WrG (κ:Nat→List V→Option V) (o:Op) (ops:List Op) (i:Nat) (e:Nat→V) (S:St) (Q:St→Prop) (b:Bool):V→Prop
 |.tuple []=>Wr κ ops (i+1) (upd e i .un) (JaP o.gl o.dst S .un) Q
 |.bool t=>(t=b→Wr κ ({o with gd:=none}::ops) i e S Q)∧(t=!b→Wr κ ops (i+1) (upd e i .un) (JaP o.gl o.dst S .un) Q)
 |_=>False
def WpC (κ:Nat→List V→Option V) (a b:C) (S:St) (Q:Ex→St→Prop):V→Prop
 |.bool t=>(t=true→Wp κ a S Q)∧(t=false→Wp κ b S Q)
 |_=>False
section
variable {κ:Nat→List V→Option V} {S:St} {Q:St→Prop} {R:Ex→St→Prop} {e:Nat→V} {i:Nat} {ops:List Op}
theorem Jdt {dst:Option Nat} {gl:Bool} {k:K} {gd} {v:V}:S.put ⟨dst,gl,k,gd⟩ v=JaP gl dst S v:=by
 cases gl<;>cases dst<;>rfl
theorem JjH {d:Nat} {v:V} {ρ μ A}:JaP true (some d) ⟨ρ,μ,A⟩ v=⟨upd ρ d v,μ,A⟩:=rfl
theorem Jhu {d:Nat} {v:V}:JaP true (some d) S v=⟨upd S.ρ d v,S.μ,S.A⟩:=rfl
theorem JjF {d:Option Nat} {v:V}:JaP false d S v=S:=rfl
theorem JjG {gl:Bool} {v:V}:JaP gl none S v=S:=by cases gl<;>rfl
theorem Jks {d:Bool}:Wp κ (.region d ops) S R=Wr κ ops 0 (fun _=>.undef) S (R .norm):=by
 refine propext ⟨fun h=>?_,fun h=>wp_region h⟩;obtain⟨m,ex,S',h1,h2⟩:=h;cases m with
 |zero=>simp[Jd] at h1
 |succ m=>
  simp only[Jd,Gb,Ga,Gf] at h1;obtain⟨x,h1,rfl,rfl⟩:=h1;exact⟨x,h1,h2⟩
theorem Jh1 {a b:C}:Wp κ (.seq a b) S R=Wp κ a S (Cont κ b R):=by
 refine propext ⟨fun h=>?_,wp_seq⟩;obtain⟨m,ex,S',h1,h2⟩:=h;cases m with
 |zero=>simp[Jd] at h1
 |succ m=>
  simp only[Jd,Gb] at h1;obtain⟨⟨x,S1⟩,h1,h3⟩:=h1;refine⟨m,x,S1,h1,?_⟩;cases x with
  |norm=>exact⟨m,ex,S',h3,h2⟩
  |ret=>simp only[Ga,Gf] at h3;obtain⟨rfl,rfl⟩:=h3;exact h2
  |exit id=>simp only[Ga,Gf] at h3;obtain⟨rfl,rfl⟩:=h3;exact h2
theorem JeB {id:Nat} {c:C}:Wp κ (.block id c) S R=Wp κ c S (Blk id R):=by
 refine propext ⟨fun h=>?_,wp_block⟩;obtain⟨m,ex,S',h1,h2⟩:=h;cases m with
 |zero=>simp[Jd] at h1
 |succ m=>
  simp only[Jd,Gb] at h1;obtain⟨⟨x,S1⟩,h1,h3⟩:=h1;refine⟨m,x,S1,h1,?_⟩;cases x with
  |norm=>simp only[Ga,Gf] at h3;obtain⟨rfl,rfl⟩:=h3;exact h2
  |ret=>simp only[Ga,Gf] at h3;obtain⟨rfl,rfl⟩:=h3;exact h2
  |exit id=>
   simp only at h3;simp only[Blk];split at h3<;>simp only[Ga,Gf] at h3<;>obtain⟨rfl,rfl⟩:=h3
   ·rename_i e;rw[Gl e];exact h2
   ·rename_i e;rw[Gj e];exact h2
theorem Jh0:Wp κ .ret S R=R .ret S:=propext ⟨fun⟨m,ex,S',h1,h2⟩=>by
 cases m<;>simp[Jd] at h1;obtain⟨rfl,rfl⟩:=h1;exact h2,wp_ret⟩
theorem JfY {id:Nat}:Wp κ (.exit id) S R=R (.exit id) S:=propext ⟨fun⟨m,ex,S',h1,h2⟩=>by
 cases m<;>simp[Jd] at h1;obtain⟨rfl,rfl⟩:=h1;exact h2,wp_exit⟩
theorem JfZ:Wp κ .skip S R=R .norm S:=propext ⟨fun⟨m,ex,S',h1,h2⟩=>by
 cases m<;>simp[Jd] at h1;obtain⟨rfl,rfl⟩:=h1;exact h2,wp_skip⟩
theorem Jd7 {b:C}:Cont κ b R .norm S=Wp κ b S R:=rfl
theorem JeL {b:C}:Cont κ b R .ret S=R .ret S:=rfl
theorem Jd6 {b:C} {id:Nat}:Cont κ b R (.exit id) S=R (.exit id) S:=rfl
theorem JeI {id:Nat}:Blk id R .norm S=R .norm S:=rfl
theorem Jgc {id:Nat}:Blk id R .ret S=R .ret S:=rfl
theorem JeH {id id':Nat}:Blk id R (.exit id') S=if id'=id then R .norm S else R (.exit id') S:=rfl
theorem JfX {x:Arg} {a b:C}:Wp κ (.cond x a b) S R=WpC κ a b S R (argv (fun _=>.undef) S.ρ x):=by
 refine propext ⟨fun h=>?_,fun h=>?_⟩
 ·obtain⟨m,ex,S',h1,h2⟩:=h;cases m with
  |zero=>simp[Jd] at h1
  |succ m=>
   simp only[Jd] at h1;split at h1
   ·rename_i t ht;rw[ht];refine⟨fun e=>?_,fun e=>?_⟩<;>subst e
    ·exact⟨m,ex,S',h1,h2⟩
    ·exact⟨m,ex,S',h1,h2⟩
   ·simp at h1
 ·unfold WpC at h;split at h
  ·rename_i t ht;exact wp_cond t ht h.1 h.2
  ·exact h.elim
theorem Jmk {a b:C}:WpC κ a b S R (.bool true)=Wp κ a S R:=by simp[WpC]
theorem Jmj {a b:C}:WpC κ a b S R (.bool false)=Wp κ b S R:=by simp[WpC]
theorem Jkv:Wr κ [] i e S Q=Q S:=by simp[Wr,Ju]
theorem Jf0 {dst:Option Nat} {gl:Bool} {k:K}:Wr κ (⟨dst,gl,k,none⟩::ops) i e S Q=WrO κ dst gl ops i e Q (ev κ (dst.getD 0) e S k):=by
 unfold Wr WrO;simp only[Ju,step,Jq,Option.bind_assoc];cases ev κ (dst.getD 0) e S k with
 |none=>simp
 |some r=>
  obtain⟨v,S1⟩:=r;simp only[Option.bind_some,Jdt,Wr]
theorem Jf1 {dst:Option Nat} {gl:Bool} {v:V}:WrO κ dst gl ops i e Q (some (v,S))=Wr κ ops (i+1) (upd e i v) (JaP gl dst S v) Q:=rfl
theorem JcK {o:Op} (h:Jq e o.gd=some false):Wr κ (o::ops) i e S Q=Wr κ ops (i+1) (upd e i .un) (JaP o.gl o.dst S .un) Q:=by
 obtain⟨dst,gl,k,gd⟩:=o;unfold Wr;simp only[Ju,step,h,Jdt,Option.bind_some]
theorem Jih {o:Op} (h:Jq e o.gd=some true):Wr κ (o::ops) i e S Q=Wr κ ({o with gd:=none}::ops) i e S Q:=by
 obtain⟨dst,gl,k,gd⟩:=o;have h0:Jq e (Op.mk dst gl k none).gd=some true:=rfl;unfold Wr;simp only[Ju,step,h,h0,Jdt]
theorem Jml {dst:Option Nat} {gl:Bool} {k:K} {j:Nat} {b:Bool}:Wr κ (⟨dst,gl,k,some (j,b)⟩::ops) i e S Q=WrG κ ⟨dst,gl,k,some (j,b)⟩ ops i e S Q b (e j):=by
 have hb:∀t b':Bool,t≠b'→t=!b':=by decide
 unfold WrG;split
 ·rename_i he;exact JcK (by simp[Jq,he])
 ·rename_i t ht;refine propext ⟨fun h=>⟨fun e'=>?_,fun e'=>?_⟩,fun⟨h1,h2⟩=>?_⟩
  ·rwa [Jih (by simp[Jq,ht,e'])] at h
  ·rwa [JcK (by simp[Jq,ht,e'])] at h
  ·by_cases hb':t=b
   ·rw[Jih (by simp[Jq,ht,hb'])];exact h1 hb'
   ·rw[JcK (by simp[Jq,ht,hb'])];exact h2 (hb _ _ hb')
 ·rename_i h1 h2;refine propext ⟨fun h=>?_,fun h=>h.elim⟩;obtain⟨S',h,-⟩:=h;simp only[Ju,step] at h;have:Jq e (some (j,b))=none:=by
   unfold Jq;simp only
  rw[this] at h;simp at h
theorem JkA {dst:Option Nat} {gl:Bool} {k:K} {gd} {b}:WrG κ ⟨dst,gl,k,gd⟩ ops i e S Q b (.tuple [])=Wr κ ops (i+1) (upd e i .un) (JaP gl dst S .un) Q:=rfl
theorem Jkz {dst:Option Nat} {gl:Bool} {k:K} {gd}:WrG κ ⟨dst,gl,k,gd⟩ ops i e S Q true (.bool true)=Wr κ (⟨dst,gl,k,none⟩::ops) i e S Q:=by simp[WrG]
theorem Jkw {dst:Option Nat} {gl:Bool} {k:K} {gd}:WrG κ ⟨dst,gl,k,gd⟩ ops i e S Q false (.bool false)=Wr κ (⟨dst,gl,k,none⟩::ops) i e S Q:=by simp[WrG]
theorem Jky {dst:Option Nat} {gl:Bool} {k:K} {gd}:WrG κ ⟨dst,gl,k,gd⟩ ops i e S Q true (.bool false)=Wr κ ops (i+1) (upd e i .un) (JaP gl dst S .un) Q:=by simp[WrG]
theorem Jkx {dst:Option Nat} {gl:Bool} {k:K} {gd}:WrG κ ⟨dst,gl,k,gd⟩ ops i e S Q false (.bool true)=Wr κ ops (i+1) (upd e i .un) (JaP gl dst S .un) Q:=by simp[WrG]
theorem JhS {α:Type} {f:Nat→α} {k:Nat} {v:α}:upd f k v k=v:=by simp[upd]
theorem JhT {α:Type} {f:Nat→α} {k i:Nat} {v:α} (h:(i == k)=false):upd f k v i=f i:=by
 have:i≠k:=by simpa using h
 simp[upd,this]
theorem JmC {o:Op} {t:Bool} (h1:t=true→Wr κ ({o with gd:=none}::ops) i e S Q) (h2:t=false→Wr κ ops (i+1) (upd e i .un) (JaP o.gl o.dst S .un) Q):WrG κ o ops i e S Q true (.bool t):=⟨h1,h2⟩
theorem JmE {a b:C} {t:Bool} (h1:t=true→Wp κ a S R) (h2:t=false→Wp κ b S R):WpC κ a b S R (.bool t):=⟨h1,h2⟩
theorem JhE {l:List V} {t:Nat}:(start l).ρ t=(l[t]?).getD .undef:=rfl
theorem JhD {l:List V}:(start l).μ=fun _=>none:=rfl
theorem JhC {l:List V}:(start l).A=fun _=>none:=rfl
def LQ {σ:Type} (I:σ→St→Prop) (m:σ→Nat) (s:σ) (W L Wv Wa:List Nat) (Q:Ex→St→Prop):Ex→St→Prop
 |.norm,S'=>∃s',m s'<m s∧I s' (S'.head W L Wv Wa)
 |x,S'=>Q x S'
theorem Jg0 {σ:Type} {I:σ→St→Prop} {m:σ→Nat} {s:σ} {W L Wv Wa:List Nat}:LQ I m s W L Wv Wa R .norm S=∃s',m s'<m s∧I s' (S.head W L Wv Wa):=rfl
theorem Jjo {σ:Type} {I:σ→St→Prop} {m:σ→Nat} {s:σ} {W L Wv Wa:List Nat}:LQ I m s W L Wv Wa R .ret S=R .ret S:=rfl
theorem JgZ {σ:Type} {I:σ→St→Prop} {m:σ→Nat} {s:σ} {W L Wv Wa:List Nat} {id:Nat}:LQ I m s W L Wv Wa R (.exit id) S=R (.exit id) S:=rfl
theorem JmD {W L Wv Wa:List Nat} {c:C} {σ:Type} (I:σ→St→Prop) (m:σ→Nat) (s:σ) (h0:I s (S.head W L Wv Wa))
  (hstep:∀s S,I s S→Wp κ c S (LQ I m s W L Wv Wa R)):Wp κ (.loop W L Wv Wa c) S R:=
 wp_inv I m s h0 fun s S hI=>(hstep s S hI).mono fun ex S' h=>by cases ex<;>exact h
theorem Ji5 {Wv Wa:List Nat} {t:Nat}:(S.head [] [] Wv Wa).ρ t=Jo Wv Wa (S.ρ t):=rfl
theorem Ji4 {Wv Wa:List Nat} {t:Nat}:(S.head [] [] Wv Wa).μ t=if Wv.contains t then none else (S.μ t).map fun m=>(bif Wa.isEmpty then m.1 else m.1.map (JA Wa),m.2):=rfl
theorem JgQ {Wv Wa:List Nat} {t:Nat}:(S.head [] [] Wv Wa).A t=if Wa.contains t then none else S.A t:=rfl
theorem Jer {Wv Wa:List Nat} {k n}:Jo Wv Wa (.int k n)=.int k n:=rfl
theorem Jdx {Wv Wa:List Nat} {n}:Jo Wv Wa (.bool n)=.bool n:=rfl
theorem Jet {Wv Wa:List Nat} {n}:Jo Wv Wa (.str n)=.str n:=rfl
theorem Jc3 {Wv Wa:List Nat} {z n}:Jo Wv Wa (.slice z n)=.slice z n:=rfl
theorem Jdz {Wv Wa:List Nat} {z n}:Jo Wv Wa (.func z n)=.func z n:=rfl
theorem Jc5 {Wv Wa:List Nat}:Jo Wv Wa .undef=.undef:=rfl
theorem JdA {Wv Wa:List Nat} {s o}:Jo Wv Wa (.lref s o)=if Wv.contains s then .undef else .lref s o:=rfl
theorem Jes {Wv Wa:List Nat} {s z n}:Jo Wv Wa (.own s z n)=if Wa.contains s then .undef else .own s z n:=rfl
theorem Jeq {Wv:List Nat} {cs}:Jo Wv [] (.agg cs)=.agg cs:=rfl
theorem Jc4 {Wv:List Nat} {cs}:Jo Wv [] (.tuple cs)=.tuple cs:=rfl
theorem Jb8 {a b:Nat} {l:List Nat}:(a::l).contains b=((b == a)||l.contains b):=rfl
theorem Jcs {b:Nat}:([]:List Nat).contains b=false:=rfl
theorem JlR {v:V}:Jb9 [v]=v:=rfl
theorem JlS {v v':V} {l:List V}:Jb9 (v::v'::l)=.tuple (v::v'::l):=rfl
theorem Jmv {A j v}:JcB A none j v=toD A v:=rfl
theorem Jlt {α:Type} {a:α} {l:List α}:(a::l)[0]?=some a:=rfl
theorem Jls {α:Type} {a:α} {l:List α} {n:Nat}:(a::l)[n+1]?=l[n]?:=rfl
end
section
open _root_.Go (IntKind BinOp UnOp)
variable {S:St} {A:Nat→Option (Nat×List (List V)×Fz)}
theorem JkJ {o:BinOp} {k:IntKind} {a b:Int}:Jdf o (.int k a) (.int k b)=Jh o k a b:=by simp[Jdf]
theorem JkK {o:BinOp} {a b:List UInt8}:Jdf o (.str a) (.str b)=Ja1 o a b:=rfl
theorem JlO {k k':IntKind} {a:Int}:shV .shr (.int k a) (.int k' 1)=some (.int k (a.fdiv 2)):=by cases k<;>simp[shV,IntKind.bits]
theorem Jk1 {k:IntKind} {a b:Int}:eqV .i (.int k a) (.int k b)=some (decide (a=b)):=by simp[eqV]
theorem Jk0 {a b:Bool}:eqV .b (.bool a) (.bool b)=some (a == b):=rfl
theorem Jk2 {a b:List UInt8}:eqV .s (.str a) (.str b)=some (decide (a=b)):=rfl
theorem Jmz {b:Bool}:unV .not (.bool b)=some (.bool !b):=rfl
theorem JmA {k n}:unV .neg (.int k n)=some (.int k (k.wrap (0-n))):=rfl
theorem Jmx {z lo hi s} : slV true z (.str s) lo hi = (bound hi s.length).bind fun h => (bound lo 0).bind fun l =>
      if l ≤ h ∧ h ≤ s.length then some (.str ((s.take h).drop l)) else none := rfl
theorem Jmw {z lo hi rows} : slV false z (.slice z rows) lo hi = (bound hi rows.length).bind fun h => (bound lo 0).bind fun l =>
      if l ≤ h ∧ h ≤ rows.length then some (.slice z ((rows.take h).drop l)) else none := by simp [slV]
theorem Jgh {d}:bound none d=some d:=rfl
theorem Jgg {k d} {n:Nat}:bound (some (.int k n)) d=some n:=by simp[bound]
theorem JlD {z rows}:Jdp false (.slice z rows)=some (.int .i64 rows.length):=rfl
theorem JlE {s}:Jdp true (.str s)=some (.int .i64 s.length):=rfl
theorem JlC {s z n}:Jdp false (.own s z n)=some (.int .i64 n):=rfl
theorem Jlw {z rows k} {n:Nat}:Jbc z (.slice z rows) (.int k n)=(rows[n]?).map fun r=>.cptr r 0:=by simp[Jbc]
theorem Jlv {s z m k} {n:Nat}:Jbc z (.own s z m) (.int k n)=if n<m then some (.eref s n 0 m) else none:=by simp[Jbc]
theorem Jjc {z n s off k} {i:Nat}:Jbu z n (.lref s off) (.int k i)=if i<n then some (.lref s (off+i*z)) else none:=by simp[Jbu]
theorem Jjb {z n cs off k} {i:Nat}:Jbu z n (.cptr cs off) (.int k i)=if i<n then some (.cptr cs (off+i*z)) else none:=by simp[Jbu]
theorem Jln {off s o}:Jdj off (.lref s o)=some (.lref s (o+off)):=rfl
theorem Jlm {off s i o n}:Jdj off (.eref s i o n)=some (.eref s i (o+off) n):=rfl
theorem Jll {off cs o}:Jdj off (.cptr cs o)=some (.cptr cs (o+off)):=rfl
theorem Jlx {s k} {n:Nat}:Jeg (.str s) (.int k n)=(s[n]?).map fun b=>.int .u8 b.toNat:=by simp[Jeg]
theorem Jk3 {i vs}:JeY i (.tuple vs)=vs[i]?:=rfl
theorem Jiz {k k' n}:Ja5 (.int k) (.int k' n)=some (.int k (k.wrap n)):=rfl
theorem JiA {s}:Ja5 .same (.str s)=some (.str s):=rfl
theorem Jmt {s n off}:Jz S (.v s) n (.lref s off)=(S.μ s).bind fun m=>J5 m.1 off n:=by simp[Jz]
theorem Jmr {n cs off}:Jz S .c n (.cptr cs off)=J5 cs off n:=rfl
def ldE (n:Option Nat) (i off m:Nat):Option (Nat×List (List V)×Fz)→Option V
 |some (_,rows,f)=>if rows.length=m∧f≠.dead then (rows[i]?).bind fun r=>J5 r off n else none
 |none=>none
theorem JlB {n i off m z rows f}:ldE n i off m (some (z,rows,f))=if rows.length=m∧f≠.dead then (rows[i]?).bind fun r=>J5 r off n else none:=rfl
theorem Jms {s n i off m}:Jz S (.e s) n (.eref s i off m)=ldE n i off m (S.A s):=by
 unfold Jz ldE;simp only[Gx]
 rfl
def stV (S:St) (s off:Nat) (xs:List V):Option (List V×Bool)→Option St
 |some (cs,false)=>(JG cs off xs).bind fun cs'=>some {S with μ:=upd S.μ s (some (cs',false))}
 |_=>none
theorem Jl0 {s off xs cs}:stV S s off xs (some (cs,false))=(JG cs off xs).bind fun cs'=>some ⟨S.ρ,upd S.μ s (some (cs',false)),S.A⟩:=rfl
theorem Jc9 {s n off x}:JC S (.v s) n (.lref s off) x=x.cells.bind fun xs=>if xs.length=n then stV S s off xs (S.μ s) else none:=by
 unfold JC
 congr 1;funext xs
 split
 ·simp only[Gx];split
  ·rename_i h;rw[h];rfl
  ·rename_i h;unfold stV;split
   ·rename_i cs h';exact absurd h' (h cs)
   ·rfl
 ·rfl
theorem Jgp {k n}:(V.int k n).cells=some [.int k n]:=rfl
theorem Jgn {n}:(V.bool n).cells=some [.bool n]:=rfl
theorem Jgt {n}:(V.str n).cells=some [.str n]:=rfl
theorem Jgs {z n}:(V.slice z n).cells=some [.slice z n]:=rfl
theorem Jgm {n}:(V.agg n).cells=some n:=rfl
theorem Jgu:V.undef.cells=none:=rfl
theorem Jgo {f n}:(V.func f n).cells=some [.func f n]:=rfl
theorem Jgq:V.niface.cells=some [.niface]:=rfl
theorem Jgr {s z n}:(V.own s z n).cells=some [.own s z n]:=rfl
theorem Jj6 {z rows}:V.rowsOf z (.slice z rows)=some rows:=by simp[V.rowsOf]
theorem Jj7 {s}:V.rowsOf 1 (.str s)=some (s.map fun b=>[.int .u8 b.toNat]):=rfl
theorem Jmb {k n}:toD A (.int k n)=some (.int k n):=rfl
theorem Jl9 {n}:toD A (.bool n)=some (.bool n):=rfl
theorem Jme {n}:toD A (.str n)=some (.str n):=rfl
theorem Jmd {z n}:toD A (.slice z n)=some (.slice z n):=rfl
theorem Jma {z n}:toD A (.func z n)=some (.func z n):=rfl
theorem Jl8 {n}:toD A (.agg n)=(Jn (toDC A) n).map .agg:=rfl
theorem Jmc {s z n}:toD A (.own s z n)=toDC A (.own s z n):=rfl
theorem Jmf {vs}:toD A (.tuple vs)=none:=rfl
theorem Jkj {k n}:toDC A (.int k n)=some (.int k n):=rfl
theorem Jki {n}:toDC A (.bool n)=some (.bool n):=rfl
theorem Jkn {n}:toDC A (.str n)=some (.str n):=rfl
theorem Jkm {z n}:toDC A (.slice z n)=some (.slice z n):=rfl
theorem JhR {z}:toDC A (.nslice z)=some (.slice z []):=rfl
theorem Jgw {z}:(V.nslice z).datC=true:=rfl
theorem Jew {z}:Jc (.nslice z)=[]:=rfl
theorem JeK {z}:(V.nslice z).cells=some [.nslice z]:=rfl
theorem Jko:toDC A .undef=some .undef:=rfl
theorem Jkk:toDC A .niface=some .niface:=rfl
def Jht (z n:Nat):Option (Nat×List (List V)×Fz)→Option V
 |some (z',rows,f)=>if z'=z∧rows.length=n∧f≠.dead then some (.slice z rows) else none
 |none=>none
theorem JjC {z n:Nat} {rows f}:Jht z n (some (z,rows,f))=if rows.length=n∧f≠.dead then some (.slice z rows) else none:=by simp[Jht]
theorem Jkl {s z n}:toDC A (.own s z n)=Jht z n (A s):=by unfold toDC Jht;rfl
def Jj0 (n:Option Nat):Option (List V×Bool)→Option V
 |some (cs,_)=>J5 cs 0 n
 |none=>none
theorem Jj4 {n cs f}:Jj0 n (some (cs,f))=J5 cs 0 n:=rfl
def Jj1 (S:St) (n:Option Nat):V→Option V
 |.lref s 0=>Jj0 n (S.μ s)
 |_=>none
theorem Jj5 {n s}:Jj1 S n (.lref s 0)=Jj0 n (S.μ s):=rfl
theorem Jj3 {t}:resV S (.t t)=some (S.ρ t):=rfl
theorem Jj2 {a n}:resV S (.cell a n)=Jj1 S n (S.ρ a):=by
 simp only[resV,Jj1];generalize S.ρ a=x;cases x with
 |lref s o=>cases o with
  |zero=>rfl
  |succ o=>rfl
 |_=>rfl
theorem Jjj {cs:List V} {off}:J5 cs off none=cs[off]?:=rfl
theorem Jjk {cs:List V} {off n}:J5 cs off (some n)=if off+n≤cs.length then some (.agg ((cs.drop off).take n)) else none:=rfl
theorem Jgk {κ d own fc avs}:callV κ d S .no own fc avs=if avs.all V.dat then (κ fc.1 (avs++fc.2)).bind fun r=>adopt d S own r else none:=rfl
theorem Jgi {κ d own fc avs}:callV κ d S .borrow own fc avs=(Jn (toD S.A) avs).bind fun bs=>(κ fc.1 (bs++fc.2)).bind fun r=>if r.scalar then some (r,S) else none:=rfl
theorem Jgj {κ d own fc avs}:callV κ d S .freeze own fc avs=(Jn (toD S.A) avs).bind fun bs=>(κ fc.1 (bs++fc.2)).bind fun r=>adopt d {S with A:=Jt S.A (avs.flatMap Je)} own r:=rfl
theorem Jf5 {d r}:adopt d S none r=some (r,S):=rfl
def adA (d:Nat) (S:St) (z:Nat) (rows:List (List V)):Option (Nat×List (List V)×Fz)→Option (V×St)
 |none=>some (.own d z rows.length,⟨S.ρ,S.μ,upd S.A d (some (z,rows,.live))⟩)
 |some _=>none
theorem JkB {d z rows}:adA d S z rows none=some (.own d z rows.length,⟨S.ρ,S.μ,upd S.A d (some (z,rows,.live))⟩):=rfl
theorem Jf6 {d j z rows}:adopt d S (some j) (.slice z rows)=adA d S z rows (S.A d):=by
 simp only[adopt,adA];cases S.A d<;>rfl
def apA (S : St) (s z n : Nat) (y : V) : Option (Nat × List (List V) × Fz) → Option (V × St)
  | some (z'', rows, .live) => if z'' = z ∧ rows.length = n then (V.rowsOf z y).bind fun ys =>
          if rows.length + ys.length ≤ lim then some (.own s z (rows.length + ys.length), { S with A := upd S.A s (some (z, rows ++ ys, .live)) }) else none
        else none
  | _ => none
theorem JkE {s z n y}:J7 S s z (.own s z n) y=apA S s z n y (S.A s):=by
 simp only[J7,apA,and_self,Gx]
 rfl
theorem Jil {s z n y s'}:appN S s z (.own s' z n) y=J7 S s z (.own s' z n) y:=rfl
def Jii (S:St) (s z:Nat) (y:V):Option (Nat×List (List V)×Fz)→Option (V×St)
 |none=>(V.rowsOf z y).bind fun ys=>if ys.length≤lim then some (.own s z ys.length,{S with A:=upd S.A s (some (z,ys,.live))}) else none
 |some _=>none
theorem Jik {s z y}:appN S s z (.nslice z) y=Jii S s z y (S.A s):=by
 simp only[appN,Jii,Gx];cases S.A s<;>rfl
theorem Jij {s z y}:Jii S s z y none=(V.rowsOf z y).bind fun ys=>if ys.length≤lim then some (.own s z ys.length,⟨S.ρ,S.μ,upd S.A s (some (z,ys,.live))⟩) else none:=rfl
theorem JkD {s z n y rows} : apA S s z n y (some (z, rows, .live)) = if rows.length = n then (V.rowsOf z y).bind fun ys =>
          if rows.length + ys.length ≤ lim then some (.own s z (rows.length + ys.length), ⟨S.ρ, S.μ, upd S.A s (some (z, rows ++ ys, .live))⟩) else none
        else none := by simp [apA]
theorem JgJ:Jt A []=A:=rfl
theorem Jhx {k n}:Je (.int k n)=[]:=rfl
theorem Jhw {n}:Je (.bool n)=[]:=rfl
theorem JhA {n}:Je (.str n)=[]:=rfl
theorem Jhz {z n}:Je (.slice z n)=[]:=rfl
theorem Jhv {n}:Je (.agg n)=n.flatMap Jc:=rfl
theorem Jhy {s z n}:Je (.own s z n)=[s]:=rfl
theorem JfJ {k n}:Jc (.int k n)=[]:=rfl
theorem JfI {n}:Jc (.bool n)=[]:=rfl
theorem JfM {n}:Jc (.str n)=[]:=rfl
theorem JfL {z n}:Jc (.slice z n)=[]:=rfl
theorem JfK {s z n}:Jc (.own s z n)=[s]:=rfl
theorem Je0 {f:V→List Nat}:[].flatMap f=[]:=rfl
theorem Jec {f:V→List Nat} {a l}:(a::l).flatMap f=f a++l.flatMap f:=rfl
theorem Je4 {s l}:Jt A (s::l)=Jt (upd A s ((A s).map fun (z,rows,f)=>(z,rows,if f=.live then .frz else f))) l:=rfl
theorem Jka {k n}:(V.int k n).scalar=true:=rfl
theorem Jj9 {n}:(V.bool n).scalar=true:=rfl
theorem Jkb {n}:(V.str n).scalar=true:=rfl
theorem JkU {k n}:(V.int k n).dat=true:=rfl
theorem JkR {n}:(V.bool n).dat=true:=rfl
theorem JkW {n}:(V.str n).dat=true:=rfl
theorem JkV {z n}:(V.slice z n).dat=true:=rfl
theorem JkT {z n}:(V.func z n).dat=true:=rfl
theorem JkS {z n}:(V.cptr z n).dat=true:=rfl
theorem JkQ {n}:(V.agg n).dat=n.all V.datC:=rfl
theorem JiD {k n}:(V.int k n).datC=true:=rfl
theorem JiB {n}:(V.bool n).datC=true:=rfl
theorem JiG {n}:(V.str n).datC=true:=rfl
theorem JiF {z n}:(V.slice z n).datC=true:=rfl
theorem JiC {z n}:(V.func z n).datC=true:=rfl
theorem JiH:V.undef.datC=true:=rfl
theorem JiE:V.niface.datC=true:=rfl
end
attribute [go_sem] Jks Jh1 JeB Jh0 JfY JfZ Jd7 JeL Jd6 JeI Jgc JeH JfX Jmk Jmj Jkv Jf0 Jf1 Jml JkA Jkz Jkw Jky Jkx JhS JhT JjH Jhu JjF JjG JhE JhD JhC Jlt Jls
attribute [go_sem] Jg0 Jjo JgZ Ji5 Ji4 JgQ Jer Jdx Jet Jc3 Jdz Jc5 JdA Jes Jeq Jc4 Jb8 Jcs List.isEmpty_nil List.isEmpty_cons Bool.or_false Bool.false_or Bool.or_true Bool.true_or Bool.false_eq_true
attribute [go_sem] ev argv Jh Ja1 callee Jn Jap Jag JbN JbQ Jmv JlR JlS
attribute [go_sem] Jil Jik Jij JhR Jgw Jew JeK JkJ JkK JlO Jk1 Jk0 Jk2 Jmz JmA Jmx Jmw Jgh Jgg JlD JlE JlC Jlw Jlv Jjc Jjb Jln Jlm Jll Jlx Jk3 Jiz JiA Jmt Jmr Jms Jc9 Jgp Jgn Jgt Jgs Jgm Jgu Jgo Jgq Jgr Jj6 Jj7 Jmb Jl9 Jme Jmd Jl8 Jma Jmc Jmf Jkj Jki Jkn Jkm Jkk Jkl Jko Jj3 Jj2 Jjj Jjk Jgk Jgi Jgj Jf5 Jka Jj9 Jkb JkU JkR JkW JkV JkQ JkT JkS JiD JiB JiG JiF JiC JiH JiE Jr List.reduceReplicate List.set_cons_zero List.set_cons_succ Nat.reduceLT Nat.reduceEqDiff and_self JgJ Je4 Jhx Jhw JhA Jhz Jhv Jhy JfJ JfI JfM JfL JfK Je0 Jec Jf6 JkB JkE JkD ne_eq not_false_eq_true Jl0 JlB JjC Jj4 Jj5 JG List.length_map List.getElem?_map List.drop_zero List.drop_succ_cons List.take_succ_cons List.take_zero List.drop_nil List.take_nil Nat.reduceLeDiff Nat.zero_add Nat.add_zero
attribute [go_sem] Option.bind_some Option.bind_none Option.getD_some Option.getD_none Nat.reduceBEq Nat.reduceAdd reduceIte List.length_cons List.length_nil List.map_cons List.map_nil List.all_cons List.all_nil Option.map_some Option.map_none cond_true cond_false Bool.and_true Bool.true_and Bool.and_false Bool.false_and Bool.false_xor Bool.true_xor Nat.zero_le Nat.le_add_right Nat.le_refl beq_self_eq_true Int.ofNat_zero Int.cast_ofNat_Int decide_true decide_false Int.reduceEq Int.reduceLT Int.reduceLE Bool.not_true Bool.not_false List.length_append List.append_nil List.nil_append List.cons_append reduceCtorEq or_true true_or true_and and_true false_or or_false ite_true ite_false eq_self List.getElem?_nil
abbrev iz (n:Int):V:=.int .i64 n
theorem JmB {n:Int} (h1:-9223372036854775808≤n) (h2:n≤9223372036854775807):_root_.Go.IntKind.i64.wrap n=n:=_root_.Go.IntWalk.i64_in n ⟨h1,h2⟩
theorem Jmm {α:Type} {l:List α} {i:Nat} (h:i<l.length):∃x,l[i]?=some x∧l.drop i=x::l.drop (i+1):=
 ⟨l[i],by simp[h],GR h⟩
end Sg
namespace Sg
open _root_.Go
def cloneF (z:Nat) (zero:List V):F where
 np:=1
 gl:=[0,2,4]
 res:=[.t 2]
 own:=some 0
 body:=.seq (.region false [⟨some 2,true,.mov (.c (.slice z [])),none⟩])
  (.seq (.seq (.region false [⟨some 3,false,.mov (.g 0),none⟩,⟨some 4,true,.nilq (.l 0),none⟩])
   (.cond (.g 4) (.seq (.region false [⟨some 2,true,.mko z,none⟩]) .ret) .skip))
  (.seq (.region false [⟨some 5,false,.mkb z 0 zero [],none⟩,⟨some 6,false,.mov (.g 0),none⟩,⟨some 7,false,.app 5 z (.l 0) (.l 1),none⟩,⟨some 2,true,.mov (.l 2),none⟩]) .ret))
def onePg (id:Nat) (F:F):Nat→Option Fn:=fun k=>if k=id then some (.code F) else none
theorem one_sound {P:Program} {cx:Cx} {id:Nat} {F:F} (hm:P.follows .mixedOrders=true) (hok:okF P cx (onePg id F) (cx.fm id) F=true) (n f:Nat) (args:List V) (r:V) (h:Jw (onePg id F) n f args=some r) :
  Ctr P cx (ownOf (onePg id F) f) f args r:=
 (Jan (P:=P) (cx:=cx) (Pg:=onePg id F) hm (fun f F hF=>by
   unfold onePg at hF;split at hF<;>simp only[Ga,Fn.code.injEq,reduceCtorEq] at hF;rename_i e;subst e;subst hF;exact hok) (fun f own p hp=>by
   unfold onePg at hp;split at hp<;>simp at hp) (fun f z p _ hp=>by
   unfold onePg at hp;split at hp<;>simp at hp) (fun f z p hp=>by
   unfold onePg at hp;split at hp<;>simp at hp) (fun f F k hp=>by
   unfold onePg at hp;split at hp<;>simp at hp) (fun f own p hp=>by
   unfold onePg at hp;split at hp<;>simp at hp) n f args r h).1
theorem JlH {A v}:JcB A (some 0) 0 v=match v with
  |.own s z n=>match A s with
   |some (z',rows,.live)=>if z'=z∧rows.length=n then some (.slice z rows) else none
   |_=>none
  |_=>none:=by simp only[JcB,Gx];rfl
theorem Jd4 (id z:Nat) (zero:List V):K' (onePg id (cloneF z zero)) id [.nslice z]=some (.slice z []):=by
 refine JdD (F:=cloneF z zero) (by simp[onePg]) rfl ?_;simp[go_sem,cloneF,JlH]
theorem Jd5 (id z:Nat) (zero:List V) (rows:List (List V)) (h:rows.length≤lim):K' (onePg id (cloneF z zero)) id [.xslice z rows]=some (.slice z rows):=by
 refine JdD (F:=cloneF z zero) (by simp[onePg]) rfl ?_;simp[go_sem,cloneF,JlH,V.rowsOf,h]
theorem clone_ctr {P:Program} {cx:Cx} {id z:Nat} {zero:List V} (hm:P.follows .mixedOrders=true) (hok:okF P cx (onePg id (cloneF z zero)) (cx.fm id) (cloneF z zero)=true) :
  ∀args r,cloneQ z args=some r→Ctr P cx (some 0) id args r:=by
 intro args r h
 unfold cloneQ at h
 split at h<;>try (simp at h;done)
 rename_i z1 rows
 split at h<;>simp only[Ga,reduceCtorEq] at h
 rename_i hl
 obtain⟨hl,rfl⟩:=hl
 subst h
 have own:ownOf (onePg id (cloneF z1 zero)) id=some 0:=by simp[ownOf,onePg,cloneF]
 have all:∀args r,K' (onePg id (cloneF z1 zero)) id args=some r→Ctr P cx (some 0) id args r:=fun args r hk=>by
  obtain⟨n,hn⟩:=K'_iff.1 hk;have:=one_sound hm hok n id args r hn;rwa [own] at this
 have c1:=all _ _ (Jd4 id z1 zero)
 have c2:=all _ _ (Jd5 id z1 zero rows hl)
 refine⟨c1.1,fun w X vs hX hgn hG hsz hrel=>?_⟩
 obtain⟨u,hu,hr⟩:=hrel 0 (by simp)
 have one:∀x,RelD cx w X u x→∀i,i<[x].length→∃u,vs[i]?=some u∧RelD cx w X u (gv [x] i):=fun x hx i hi=>by
  have:i=0:=by simp at hi;exact hi
  subst this;exact⟨u,hu,hx⟩
 have hr0:RelD cx w X u (.slice z1 rows):=hr
 have conc:(u=.slice none 0 0∧rows=[])∨∃a n c,u=.slice (some a) n c:=by
  rcases JR hr0 with ⟨⟨a,rfl⟩,rfl⟩|⟨b,o,cap,c,e,fr,rfl,-⟩
  ·cases a with
   |none=>exact .inl ⟨rfl,rfl⟩
   |some a=>exact .inr ⟨_,_,_,rfl⟩
  ·exact .inr ⟨_,_,_,rfl⟩
 rcases conc with ⟨rfl,rfl⟩|⟨a,n,c,rfl⟩
 ·exact c1.2 w X vs hX hgn hG (by simpa using hsz) (one _ (.nslice z1))
 ·exact c2.2 w X vs hX hgn hG (by simpa using hsz) (one _ (.xslice a n c z1 rows hr0))
end Sg
namespace Sg
open _root_.Go _root_.Go.RowKit _root_.Go.Proofs
def dN (l:List UInt8):Nat×Nat:=Lib.decodeN l.length (l.getD 0 0).toNat (l.getD 1 0).toNat (l.getD 2 0).toNat (l.getD 3 0).toNat
def JeR (l:List UInt8):Nat×Nat:=if l=[] then (65533,0) else dN l
theorem get!_list (s:ByteArray) (i:Nat):s.get! i=s.data.toList.getD i 0:=by
 show s.data[i]! = _
 by_cases h:i<s.data.size
 ·rw[getElem!_pos s.data i h,List.getD_eq_getElem?_getD,Array.getElem?_toList,Array.getElem?_eq_getElem h]
  rfl
 ·rw[getElem!_neg s.data i h,List.getD_eq_getElem?_getD,List.getElem?_eq_none (by simpa using h)]
  rfl
theorem decode_drop (s:ByteArray) (i:Nat):Utf8.decode s i=dN (s.data.toList.drop i):=by
 rw[Lib.decode_at];have hs:s.size-i=(s.data.toList.drop i).length:=by
  rw[Gu,Array.length_toList];rfl
 have e:∀k,s.get! (i+k)=(s.data.toList.drop i).getD k 0:=fun k=>by
  rw[get!_list,List.getD_eq_getElem?_getD,List.getD_eq_getElem?_getD,List.getElem?_drop]
 simp only[dN,hs,←e,Nat.add_zero]
theorem JaR (s:ByteArray):Lib.decodeGo s=JeR s.data.toList:=by
 have hs:s.size=s.data.toList.length:=by rw[Array.length_toList];rfl
 unfold Lib.decodeGo JeR;by_cases h:s.data.toList=[]
 ·rw[Gl h,Gl (by rw[hs,h];rfl)]
 ·rw[Gj h,Gj (by rw[hs];intro e;exact h (GB e)),decode_drop];simp
theorem width_pos (s:ByteArray) (pos:Nat):1≤(Utf8.decode s pos).2:=by
 rw[Lib.decode_at];unfold Lib.decodeN
 repeat' split
 all_goals simp
theorem Jcw (s:ByteArray) (pos n:Nat) (hn:n=s.size):(s.extract pos n).data.toList=s.data.toList.drop pos:=by
 have hs:s.size=s.data.toList.length:=by rw[Array.length_toList];rfl
 rw[ByteArray.data_extract,Array.toList_extract,List.extract_eq_take_drop,G0];rw[Gu];omega
theorem decode_extract (s:ByteArray) (pos n:Nat) (hn:n=s.size) (hp:pos<s.size):Lib.decodeGo (s.extract pos n)=Utf8.decode s pos:=by
 have hs:s.size=s.data.toList.length:=by rw[Array.length_toList];rfl
 rw[JaR,Jcw s pos n hn,decode_drop,JeR,Gj];intro e;have:=congrArg List.length e;rw[Gu] at this;simp only[List.length_nil] at this;omega
theorem drop_ne (s:ByteArray) (pos:Nat) (hp:pos<s.size):s.data.toList.drop pos≠[]:=fun e=>by
 have hs:s.size=s.data.toList.length:=by rw[Array.length_toList];rfl
 have:=congrArg List.length e;rw[Gu] at this;simp only[List.length_nil] at this;omega
theorem size_list (s:ByteArray):s.data.toList.length=s.size:=by rw[Array.length_toList];rfl
def decQ:List V→Option V
 |[.str s]=>some (.tuple [.int .i32 (JeR s).1,.int .i64 (JeR s).2])
 |_=>none
section
variable {P:Program} {cx:Cx}
theorem Jbi {w:World} {X:Nat→Prop} {u:Value} {l:List UInt8} (h:RelD cx w X u (.str l)):∃s:ByteArray,u=.string s∧s.data.toList=l:=by
 cases h;exact⟨_,rfl,rfl⟩
theorem Jh4 {vs:Array Value} (h:vs.size=1) {u:Value} (h0:vs[0]?=some u):vs=#[u]:=by
 apply Array.ext_getElem?;intro i;rcases Gt i 1 with hi|hi
 ·have:i=0:=by omega
  subst this;simpa using h0
 ·rw[Array.getElem?_eq_none (by omega),Array.getElem?_eq_none (by simpa using hi)]
theorem Jkp {w:World} {X:Nat→Prop} {a b:Value} {x y:V} (h1:RelD cx w X a x) (h2:RelD cx w X b y):RelD cx w X (.tuple #[a,b]) (.tuple [x,y]):=
 .tuple _ _ (fun i=>if i=0 then a else b) rfl (fun i hi=>by
  match i,hi with
  |0,_=>rfl
  |1,_=>rfl
  |n+2,hi=>exact absurd hi (by simp)) (fun i hi=>by
  match i,hi with
  |0,_=>simpa [gv] using h1
  |1,_=>simpa [gv] using h2
  |n+2,hi=>exact absurd hi (by simp))
theorem dec_ctr {id:Nat} (hE:Ent P (cx.fm id)) (hC:∀(s:ByteArray) (w:World),cx.G w→Calls P (cx.fm id) #[.string s] w fun e w'=>e=.returned (.tuple #[.int .i32 (Lib.decodeGo s).1,.int .i64 (Lib.decodeGo s).2])∧Below w.heap.size w w') :
  ∀args r,decQ args=some r→Ctr P cx none id args r:=by
 intro args r h
 unfold decQ at h
 split at h<;>simp only[Ga,reduceCtorEq] at h
 rename_i l
 subst h
 refine⟨hE,fun w X vs hX hgn hG hsz hrel=>?_⟩
 obtain⟨u,hu,hr⟩:=hrel 0 (by simp)
 obtain⟨s,rfl,rfl⟩:=Jbi (l:=l) hr
 rw[Jh4 (by simpa using hsz) hu]
 refine (hC s w hG).mono fun e w' ⟨he,hb⟩=>?_
 subst he
 rw[JaR]
 exact⟨_,rfl,hb,Jkp (.int _ _) (.int _ _)⟩
def plainR (r n:Int):Bool:=decide (33≤r)&&(decide (r<127)||decide (159<r))&&(!decide (r=65533)||decide (n=3))
def keyAll:Nat→List UInt8→Bool
 |0,_=>true
 |f+1,l=>if l=[] then true else plainR (dN l).1 (dN l).2&&keyAll f (l.drop (dN l).2)
def keyR (l:List UInt8):Bool:=keyAll l.length l&&(decide (1≤l.length)&&decide (l.length≤16))
def keyQ:List V→Option V
 |[.str s]=>some (.bool (keyR s))
 |_=>none
theorem key_ctr {id:Nat} (hE:Ent P (cx.fm id)) (hC:∀(s:ByteArray) (w:World),cx.gn≤w.heap.size→cx.G w→Calls P (cx.fm id) #[.string s] w fun e w'=>e=.returned (.bool (keyR s.data.toList))∧Below w.heap.size w w') :
  ∀args r,keyQ args=some r→Ctr P cx none id args r:=by
 intro args r h
 unfold keyQ at h
 split at h<;>simp only[Ga,reduceCtorEq] at h
 rename_i l
 subst h
 refine⟨hE,fun w X vs hX hgn hG hsz hrel=>?_⟩
 obtain⟨u,hu,hr⟩:=hrel 0 (by simp)
 obtain⟨s,rfl,rfl⟩:=Jbi (l:=l) hr
 rw[Jh4 (by simpa using hsz) hu]
 refine (hC s w hgn hG).mono fun e w' ⟨he,hb⟩=>?_
 subst he
 exact⟨_,rfl,hb,.bool _⟩
end
end Sg
namespace Sg
open _root_.Go _root_.Go.RowKit _root_.Go.Proofs _root_.Go.Shelf
def JfS:List V→Option (List UInt8)
 |[.str s]=>some s
 |_=>none
def joinQ:List V→Option V
 |[.slice 1 rows,.str sep]=>(Jn JfS rows).bind fun xs=>
   if rows.length≤140737488355328∧(Lib.join xs sep).length≤140737488355328 then some (.str (Lib.join xs sep)) else none
 |_=>none
def ofL (l:List UInt8):ByteArray:=⟨l.toArray⟩
theorem JcZ (s:ByteArray):ofL s.data.toList=s:=by cases s;rfl
theorem JbW:∀{rows:List (List V)} {xs:List (List UInt8)},Jn JfS rows=some xs→xs.length=rows.length∧∀i,i<rows.length→gr rows i=[.str (xs.getD i [])]
 |[],xs,h=>by simp only[Jn,Ga] at h;subst h;exact⟨rfl,fun i hi=>by simp at hi⟩
 |r::rows,xs,h=>by
  simp only[Jn,Gb,Ga] at h;obtain⟨y,hy,ys,hys,rfl⟩:=h;obtain⟨h1,h2⟩:=JbW hys;refine⟨by simp[h1],fun i hi=>?_⟩;cases i with
  |zero=>
   unfold JfS at hy;split at hy<;>simp only[Ga,reduceCtorEq] at hy;subst hy;simp[gr]
  |succ i=>simpa [gr] using h2 i (by simpa using hi)
section
variable {P:Program} {cx:Cx}
theorem JkF {vs:Array Value} (h:vs.size=2) {u v:Value} (h0:vs[0]?=some u) (h1:vs[1]?=some v):vs=#[u,v]:=by
 apply Array.ext_getElem?;intro i
 match i with
 |0=>simpa using h0
 |1=>simpa using h1
 |i+2=>rw[Array.getElem?_eq_none (by omega),Array.getElem?_eq_none (by simp)]
theorem join_ctr {id:Nat} {ρ:Ren} (hE:Ent P (cx.fm id)) (L:Lays.n156 P ρ) (Y:Builder.Extra P ρ) (hid:cx.fm id=ρ.f 156) :
  ∀args r,joinQ args=some r→Ctr P cx none id args r:=by
 intro args r h
 unfold joinQ at h
 split at h<;>try (simp only[reduceCtorEq] at h;done)
 rename_i rows sep
 simp only[Gb] at h
 obtain⟨xs,hxs,h⟩:=h
 split at h<;>simp only[Ga,reduceCtorEq] at h
 rename_i hlen
 subst h
 obtain⟨hx1,hx2⟩:=JbW hxs
 refine⟨hE,fun w X vs hX hgn hG hsz hrel=>?_⟩
 obtain⟨u,hu,hr⟩:=hrel 0 (by simp)
 obtain⟨v,hv,hr'⟩:=hrel 1 (by simp)
 obtain⟨s,rfl,rfl⟩:=Jbi (l:=sep) hr'
 rw[JkF (by simpa using hsz) hu hv,hid]
 have hr:RelD cx w X u (.slice 1 rows):=hr
 cases hr with
 |nilslice a z=>
  simp only[Jn,Ga] at hxs
  subst hxs
  refine (Any.strings_Join_none L Y a 0 s w).mono fun e w' ⟨he,hb⟩=>?_
  subst he;subst hb
  refine⟨_,rfl,Below.refl _ _,?_⟩
  rw[Lib.join_nil]
  exact RelD.str (cx:=cx) ⟨#[]⟩
 |slice b o len cap z rows c e fr u hb hX' hw hl hcap hz hc hr=>
  have hn:len=(xs.map ofL).length:=by simp[hx1,hl]
  have em:(xs.map ofL).map (·.data.toList)=xs:=by
   rw[List.map_map]
   conv=>rhs;rw[←List.map_id xs]
   exact GP fun _ _=>rfl
  have hcell:∀(j:Nat) x,(xs.map ofL)[j]?=some x→w.cell? ⟨b,o+j,none⟩=some (.string x):=fun j x hj=>by
   have hjl:j<len:=by
    rw[hn];exact (List.getElem?_eq_some_iff.1 hj).1
   obtain⟨h1,h2⟩:=hc j 0 hjl (by omega);have h3:=hr j 0 hjl (by omega);rw[hx2 j (by omega)] at h3;obtain⟨s',hs',hs2⟩:=Jbi (l:=xs.getD j []) h3;rw[hs'] at h1;have e1:xs.getD j []=x.data.toList:=by
    rw[List.getElem?_map,GJ] at hj;obtain⟨y,hy,rfl⟩:=hj;rw[List.getD_eq_getElem?_getD,hy];rfl
   have e2:s'=x:=by rw[←JcZ s',hs2,e1,JcZ]
   rw[e2] at h1;simp only[World.cell?,hw];simpa using h1
  subst hn
  refine (Any.strings_Join L Y b o cap (xs.map ofL) s w hcell hb (by simp[hx1];omega) hcap (by rw[em];exact hlen.2)).mono fun e w' ⟨he,hb'⟩=>?_
  subst he
  refine⟨_,rfl,hb',?_⟩
  rw[em]
  exact RelD.str (cx:=cx) (ofL (Lib.join xs s.data.toList))
end
end Sg
namespace Sg
@[go_sem] abbrev f_ (d:Nat) (k:K):Op:=⟨some d,false,k,none⟩
@[go_sem] abbrev t_ (d:Nat) (k:K):Op:=⟨some d,true,k,none⟩
@[go_sem] abbrev y_ (d j:Nat) (k:K):Op:=⟨some d,false,k,some (j,true)⟩
@[go_sem] abbrev n_ (d j:Nat) (k:K):Op:=⟨some d,false,k,some (j,false)⟩
@[go_sem] abbrev u_ (k:K):Op:=⟨none,false,k,none⟩
@[go_sem] abbrev ci (n:Int):Arg:=.c (.int .i64 n)
@[go_sem] abbrev cb (b:Bool):Arg:=.c (.bool b)
def JkP:Option (List V×Bool)→Bool
 |some m=>m.1.all V.datC
 |none=>true
theorem Jd9 {μ s}:JK μ s=JkP (μ s):=rfl
theorem JiI {cs b}:JkP (some (cs,b))=cs.all V.datC:=rfl
def Jis (s:Nat) (sites:List Nat):Option (List V×Bool)→Option V
 |some (cs,_)=>if sites.contains s∧cs.all V.datC then some (.cptr cs 0) else none
 |none=>none
theorem Jiw {μ sites s}:capV μ sites (.lref s 0)=Jis s sites (μ s):=by
 unfold capV Jis;rfl
theorem Jit {s sites cs b}:Jis s sites (some (cs,b))=if sites.contains s∧cs.all V.datC then some (.cptr cs 0) else none:=rfl
theorem Jiv {μ sites k n}:capV μ sites (.int k n)=some (.int k n):=rfl
theorem Jiu {μ sites n}:capV μ sites (.bool n)=some (.bool n):=rfl
theorem Jiy {μ sites n}:capV μ sites (.str n)=some (.str n):=rfl
theorem Jix {μ sites z n}:capV μ sites (.slice z n)=some (.slice z n):=rfl
theorem Je5 {μ}:Jah μ []=μ:=rfl
theorem Jee {μ s l}:Jah μ (s::l)=Jah (upd μ s ((μ s).map fun m=>(m.1,true))) l:=rfl
def stE (S:St) (s i off m:Nat) (xs:List V):Option (Nat×List (List V)×Fz)→Option St
 |some (z,rows,.live)=>if rows.length=m then (rows[i]?).bind fun r=>(JG r off xs).bind fun r'=>some {S with A:=upd S.A s (some (z,rows.set i r',.live))} else none
 |_=>none
theorem JlT {S:St} {s i off m:Nat} {xs:List V} {z rows}:stE S s i off m xs (some (z,rows,.live))=if rows.length=m then (rows[i]?).bind fun r=>(JG r off xs).bind fun r'=>some ⟨S.ρ,S.μ,upd S.A s (some (z,rows.set i r',.live))⟩ else none:=rfl
theorem Jmy {S:St} {s n i off m x}:JC S (.e s) n (.eref s i off m) x=x.cells.bind fun xs=>if xs.length=n then (if xs.all V.datC then stE S s i off m xs (S.A s) else none) else none:=by
 unfold JC
 congr 1;funext xs
 split
 ·simp only[true_and];split
  ·unfold stE;rfl
  ·rfl
 ·rfl
def Jff (S:St) (s z n k:Nat) (ys:List (List V)):Option (Nat×List (List V)×Fz)→Option (V×St)
 |some (z3,rows,.live)=>if z3=z∧rows.length=n∧k≤n∧rows.length+ys.length≤lim then
   some (.own s z (rows.length+ys.length),{S with A:=upd S.A s (some (z,rows.take k++(ys++rows.drop k),.live))}) else none
 |_=>none
theorem Jjg {S : St} {s z n k : Nat} {ys rows} : Jff S s z n k ys (some (z, rows, .live)) = if rows.length = n ∧ k ≤ n ∧ rows.length + ys.length ≤ lim then
      some (.own s z (rows.length + ys.length), ⟨S.ρ, S.μ, upd S.A s (some (z, rows.take k ++ (ys ++ rows.drop k), .live))⟩) else none := by simp [Jff]
def JgU (S:St) (s z:Nat):V→V→V→Option (V×St)
 |.own s' z' n,.int .i64 k,.slice z'' ys=>if s'=s∧z'=z∧z''=z then (if 0≤k then Jff S s z n k.toNat ys (S.A s) else none) else none
 |_,_,_=>none
theorem Jjh {S:St} {s z n k:Nat} {ys}:JgU S s z (.own s z n) (.int .i64 (k:Int)) (.slice z ys)=Jff S s z n k ys (S.A s):=by simp[JgU]
def JeS (S:St) (d s z n k m:Nat):Option (Nat×List (List V)×Fz)→Option (Nat×List (List V)×Fz)→Option (V×St)
 |some (z3,rows,.live),none=>if z3=z∧rows.length=n∧k≤m∧m≤n∧n≤lim then
   some (.own d z (rows.take k++rows.drop m).length,{S with A:=upd (upd S.A s (some (z,[],.dead))) d (some (z,rows.take k++rows.drop m,.live))}) else none
 |_,_=>none
theorem JiK {S : St} {d s z n k m : Nat} {rows} : JeS S d s z n k m (some (z, rows, .live)) none = if rows.length = n ∧ k ≤ m ∧ m ≤ n ∧ n ≤ lim then
      some (.own d z (rows.take k ++ rows.drop m).length, ⟨S.ρ, S.μ, upd (upd S.A s (some (z, [], .dead))) d (some (z, rows.take k ++ rows.drop m, .live))⟩) else none := by simp [JeS]
def Jgx (S:St) (d s z:Nat):V→V→V→Option (V×St)
 |.own s' z' n,.int .i64 k,.int .i64 m=>if s'=s∧z'=z then (if 0≤k∧0≤m then JeS S d s z n k.toNat m.toNat (S.A s) (S.A d) else none) else none
 |_,_,_=>none
theorem JiL {S:St} {d s z n k m:Nat}:Jgx S d s z (.own s z n) (.int .i64 (k:Int)) (.int .i64 (m:Int))=JeS S d s z n k m (S.A s) (S.A d):=by simp[Jgx]
section
variable {κ:Nat→List V→Option V} {S:St} {Q:St→Prop} {e:Nat→V} {i:Nat} {ops:List Op}
theorem Jku {dst:Option Nat} {gl:Bool} {f s z:Nat} {x y j:Arg}:Wr κ (⟨dst,gl,.ins f s z x j y,none⟩::ops) i e S Q=WrO κ dst gl ops i e Q (JgU S s z (argv e S.ρ x) (argv e S.ρ j) (argv e S.ρ y)):=by
 rw[Jf0]
 congr 1
 simp only[ev,JgU];split
 ·rename_i s' z' n k z'' ys h1 h2 h3;rw[h1,h2,h3];simp only;split
  ·unfold Jff;by_cases hk:0≤k
   ·have e1:∀n:Nat,(k≤(n:Int))=(k.toNat≤n):=fun n=>propext (by omega);simp only[hk,true_and,Gx,e1];rcases S.A s with _|⟨z3,rows,fz⟩
    ·rfl
    ·cases fz<;>rfl
   ·simp only[hk,false_and,and_false,GD];rcases S.A s with _|⟨z3,rows,fz⟩
    ·rfl
    ·cases fz<;>simp
  ·rfl
 ·rename_i h;split
  ·rename_i s' z' n k z'' ys h1 h2 h3;exact absurd h3 (h s' z' n k z'' ys h1 h2)
  ·rfl
theorem Jkt {dst:Option Nat} {gl:Bool} {f s z:Nat} {x y j:Arg}:Wr κ (⟨dst,gl,.del f s z x j y,none⟩::ops) i e S Q=WrO κ dst gl ops i e Q (Jgx S (dst.getD 0) s z (argv e S.ρ x) (argv e S.ρ j) (argv e S.ρ y)):=by
 rw[Jf0]
 congr 1
 simp only[ev,Jgx];split
 ·rename_i s' z' n k m h1 h2 h3;rw[h1,h2,h3];simp only;split
  ·unfold JeS;by_cases hk:0≤k
   ·by_cases hm:0≤m
    ·have e1:(k≤m)=(k.toNat≤m.toNat):=propext (by omega);have e2:∀n:Nat,(m≤(n:Int))=(m.toNat≤n):=fun n=>propext (by omega);simp only[hk,hm,and_self,true_and,Gx,e1,e2];rcases S.A s with _|⟨z3,rows,fz⟩
     ·rfl
     ·cases fz<;>cases S.A (dst.getD 0)<;>rfl
    ·have e3:∀(p q:Prop),(p∧q∧k≤m)↔False:=fun p q=>⟨fun h=>by omega,fun h=>h.elim⟩;have e4:¬(k≤m):=by omega
     simp only[hk,hm,e4,and_false,false_and,GD];rcases S.A s with _|⟨z3,rows,fz⟩
     ·rfl
     ·cases fz<;>cases S.A (dst.getD 0)<;>simp
   ·simp only[hk,false_and,and_false,GD];rcases S.A s with _|⟨z3,rows,fz⟩
    ·rfl
    ·cases fz<;>cases S.A (dst.getD 0)<;>simp
  ·rfl
 ·rename_i h;split
  ·rename_i s' z' n k m h1 h2 h3;exact absurd h3 (h s' z' n k m h1 h2)
  ·rfl
end
theorem Ji8 {z rows k}:Jbc z (.slice z rows) (.int k 0)=(rows[0]?).map fun r=>.cptr r 0:=by simp[Jbc]
theorem Ji9 {z rows k}:Jbc z (.slice z rows) (.int k 1)=(rows[1]?).map fun r=>.cptr r 0:=by simp[Jbc]
theorem Jja {z rows k}:Jbc z (.slice z rows) (.int k 2)=(rows[2]?).map fun r=>.cptr r 0:=by simp[Jbc]
theorem Jgd {k d}:bound (some (.int k 0)) d=some 0:=rfl
theorem Jge {k d}:bound (some (.int k 1)) d=some 1:=rfl
theorem Jgf {k d}:bound (some (.int k 2)) d=some 2:=rfl
attribute [go_sem] Ji8 Ji9 Jja Jgd Jge Jgf
attribute [go_sem] JlT Jmy Jjg Jjh JiK JiL
attribute [go_sem high] Jku Jkt
attribute [go_sem] Jd9 JiI Jiw Jit Jiv Jiu Jiy Jix Je5 Jee
end Sg
namespace Sg
open _root_.Go (IntKind BinOp UnOp)
abbrev Kn:=Nat→Nat→Option (Nat×Bool)→List Op
abbrev Gd:=Option (Nat×Bool)
def qe (d i:Nat) (g:Gd):List Op:=[]
def qD (n:Nat) (k:Kn) (d i:Nat) (g:Gd):List Op:=k n i g
def y1 (j:Nat) (k:Kn) (d i:Nat) (g:Gd):List Op:=k d i (some (j,true))
def y0 (j:Nat) (k:Kn) (d i:Nat) (g:Gd):List Op:=k d i (some (j,false))
def yn (k:Kn) (d i:Nat) (g:Gd):List Op:=k d i none
def qr (v o:Nat) (k:Kn) (d i:Nat) (g:Gd):List Op:=⟨some d,false,.fad (.g v) o,g⟩::⟨some (d+1),false,.load (.v v) none (.l i),g⟩::k (d+2) (i+2) g
def qR (v o n:Nat) (k:Kn) (d i:Nat) (g:Gd):List Op:=⟨some d,false,.fad (.g v) o,g⟩::⟨some (d+1),false,.load (.v v) (some n) (.l i),g⟩::k (d+2) (i+2) g
def ya (k:Kn) (d i:Nat) (g:Gd):List Op:=⟨some d,false,.mov (.l (i-1)),g⟩::k (d+1) (i+1) (some (i,true))
def yo (k:Kn) (d i:Nat) (g:Gd):List Op:=⟨some d,false,.mov (.l (i-1)),g⟩::k (d+1) (i+1) (some (i,false))
def za (j:Nat) (k:Kn) (d i:Nat) (g:Gd):List Op:=⟨some d,false,.pick (.l j) (.l (i-1)) (.c (.bool false)),none⟩::k (d+1) (i+1) none
def zA (j:Nat) (k:Kn) (d i:Nat) (g:Gd):List Op:=⟨some d,true,.pick (.l j) (.l (i-1)) (.c (.bool false)),none⟩::k (d+1) (i+1) none
def zo (j:Nat) (k:Kn) (d i:Nat) (g:Gd):List Op:=⟨some d,false,.pick (.l j) (.c (.bool true)) (.l (i-1)),none⟩::k (d+1) (i+1) none
def zO (j:Nat) (k:Kn) (d i:Nat) (g:Gd):List Op:=⟨some d,true,.pick (.l j) (.c (.bool true)) (.l (i-1)),none⟩::k (d+1) (i+1) none
def qm (v:Nat) (k:Kn) (d i:Nat) (g:Gd):List Op:=⟨some d,false,.mov (.g v),g⟩::k (d+1) (i+1) g
def qf (v o:Nat) (k:Kn) (d i:Nat) (g:Gd):List Op:=⟨some d,false,.fad (.g v) o,g⟩::k (d+1) (i+1) g
def ql (v:Nat) (k:Kn) (d i:Nat) (g:Gd):List Op:=⟨some d,false,.load (.v v) none (.l (i-1)),g⟩::k (d+1) (i+1) g
def qb (v n:Nat) (k:Kn) (d i:Nat) (g:Gd):List Op:=⟨some d,false,.load (.v v) (some n) (.g v),g⟩::k (d+1) (i+1) g
def qp (k:Kn) (d i:Nat) (g:Gd):List Op:=⟨some d,false,.mov (.l (i-1)),g⟩::k (d+1) (i+1) g
def qv (v:Nat) (k:Kn) (d i:Nat) (g:Gd):List Op:=⟨some v,true,.mov (.l (i-1)),g⟩::k d (i+1) g
def qw (v:Nat) (k:Kn) (d i:Nat) (g:Gd):List Op:=⟨some v,true,.mov (.l (i-2)),g⟩::k d (i+1) g
def qV (v j:Nat) (k:Kn) (d i:Nat) (g:Gd):List Op:=⟨some v,true,.mov (.l j),g⟩::k d (i+1) g
def qc (f:Nat) (k:Kn) (d i:Nat) (g:Gd):List Op:=⟨some d,false,.call (.k f) .no none [.l (i-1)],g⟩::k (d+1) (i+1) g
def qd (f:Nat) (k:Kn) (d i:Nat) (g:Gd):List Op:=⟨some d,false,.call (.k f) .no none [.l (i-2),.l (i-1)],g⟩::k (d+1) (i+1) g
def q0 (f:Nat) (k:Kn) (d i:Nat) (g:Gd):List Op:=⟨some d,false,.call (.k f) .no none [],g⟩::k (d+1) (i+1) g
def qC (f:Nat) (xs:List Arg) (k:Kn) (d i:Nat) (g:Gd):List Op:=⟨some d,false,.call (.k f) .no none xs,g⟩::k (d+1) (i+1) g
def qz (v:Nat) (n:Int) (k:Kn) (d i:Nat) (g:Gd):List Op:=⟨some v,true,.mov (.c (.int .i64 n)),g⟩::k d (i+1) g
def qF (v:Nat) (k:Kn) (d i:Nat) (g:Gd):List Op:=⟨some v,true,.mov (.c (.bool false)),g⟩::k d (i+1) g
def qT (v:Nat) (k:Kn) (d i:Nat) (g:Gd):List Op:=⟨some v,true,.mov (.c (.bool true)),g⟩::k d (i+1) g
def qS (v z:Nat) (k:Kn) (d i:Nat) (g:Gd):List Op:=⟨some v,true,.mov (.c (.slice z [])),g⟩::k d (i+1) g
def qE (v:Nat) (k:Kn) (d i:Nat) (g:Gd):List Op:=⟨some v,true,.mov (.c (.str [])),g⟩::k d (i+1) g
def qn (k:Kn) (d i:Nat) (g:Gd):List Op:=⟨some d,false,.un .not (.l (i-1)),g⟩::k (d+1) (i+1) g
def qN (k:Kn) (d i:Nat) (g:Gd):List Op:=⟨some d,true,.un .not (.l (i-1)),g⟩::k (d+1) (i+1) g
def qg (o:Nat) (k:Kn) (d i:Nat) (g:Gd):List Op:=⟨some d,false,.fad (.l (i-1)) o,g⟩::k (d+1) (i+1) g
def qa (j:Nat) (k:Kn) (d i:Nat) (g:Gd):List Op:=⟨some d,false,.pick (.l j) (.l (i-1)) (.c (.bool false)),g⟩::k (d+1) (i+1) g
def qA (j:Nat) (k:Kn) (d i:Nat) (g:Gd):List Op:=⟨some d,true,.pick (.l j) (.l (i-1)) (.c (.bool false)),g⟩::k (d+1) (i+1) g
def qo (j:Nat) (k:Kn) (d i:Nat) (g:Gd):List Op:=⟨some d,false,.pick (.l j) (.c (.bool true)) (.l (i-1)),g⟩::k (d+1) (i+1) g
def qO (j:Nat) (k:Kn) (d i:Nat) (g:Gd):List Op:=⟨some d,true,.pick (.l j) (.c (.bool true)) (.l (i-1)),g⟩::k (d+1) (i+1) g
def qB (v u:Nat) (k:Kn) (d i:Nat) (g:Gd):List Op:=⟨some v,true,.box (.g u),g⟩::k d (i+1) g
def qh (s:Bool) (k:Kn) (d i:Nat) (g:Gd):List Op:=⟨some d,false,.len s (.l (i-1)),g⟩::k (d+1) (i+1) g
def qH (s:Bool) (k:Kn) (d i:Nat) (g:Gd):List Op:=⟨some d,true,.len s (.l (i-1)),g⟩::k (d+1) (i+1) g
def qx (o:Nat) (k:Kn) (d i:Nat) (g:Gd):List Op:=⟨some d,false,.ext (.l (i-1)) o,g⟩::k (d+1) (i+1) g
def qy (o:Nat) (k:Kn) (d i:Nat) (g:Gd):List Op:=⟨some d,false,.ext (.l (i-2)) o,g⟩::k (d+1) (i+1) g
def qY (j o:Nat) (k:Kn) (d i:Nat) (g:Gd):List Op:=⟨some d,false,.ext (.l j) o,g⟩::k (d+1) (i+1) g
def qs (v n a b:Nat) (k:Kn) (d i:Nat) (g:Gd):List Op:=⟨none,false,.store (.v v) n (.l a) (.l b),g⟩::k d (i+1) g
def qt (v n b:Nat) (k:Kn) (d i:Nat) (g:Gd):List Op:=⟨none,false,.store (.v v) n (.g v) (.l b),g⟩::k d (i+1) g
def qu (v a:Nat) (n:Int) (k:Kn) (d i:Nat) (g:Gd):List Op:=⟨none,false,.store (.v v) 1 (.l a) (.c (.int .i64 n)),g⟩::k d (i+1) g
def qi (z:Nat) (k:Kn) (d i:Nat) (g:Gd):List Op:=⟨some d,false,.iad z (.l (i-2)) (.l (i-1)),g⟩::k (d+1) (i+1) g
def qj (k:Kn) (d i:Nat) (g:Gd):List Op:=⟨some d,false,.load (.c) none (.l (i-1)),g⟩::k (d+1) (i+1) g
def qJ (n:Nat) (k:Kn) (d i:Nat) (g:Gd):List Op:=⟨some d,false,.load (.c) (some n) (.l (i-1)),g⟩::k (d+1) (i+1) g
def qk (o:BinOp) (n:Int) (k:Kn) (d i:Nat) (g:Gd):List Op:=⟨some d,false,.bin o (.l (i-1)) (.c (.int .i64 n)),g⟩::k (d+1) (i+1) g
def qK (o:BinOp) (n:Int) (k:Kn) (d i:Nat) (g:Gd):List Op:=⟨some d,true,.bin o (.l (i-1)) (.c (.int .i64 n)),g⟩::k (d+1) (i+1) g
def qq (o:BinOp) (j:Nat) (k:Kn) (d i:Nat) (g:Gd):List Op:=⟨some d,false,.bin o (.l j) (.l (i-1)),g⟩::k (d+1) (i+1) g
def qQ (o:BinOp) (j:Nat) (k:Kn) (d i:Nat) (g:Gd):List Op:=⟨some d,true,.bin o (.l j) (.l (i-1)),g⟩::k (d+1) (i+1) g
def qG (v:Nat) (z:List V) (k:Kn) (d i:Nat) (g:Gd):List Op:=⟨some v,true,.alloc z,g⟩::k d (i+1) g
def q1 (x:K) (k:Kn) (d i:Nat) (g:Gd):List Op:=⟨some d,false,x,g⟩::k (d+1) (i+1) g
def q2 (v:Nat) (x:K) (k:Kn) (d i:Nat) (g:Gd):List Op:=⟨some v,false,x,g⟩::k d (i+1) g
def q3 (x:K) (k:Kn) (d i:Nat) (g:Gd):List Op:=⟨some d,true,x,g⟩::k (d+1) (i+1) g
def q4 (v:Nat) (x:K) (k:Kn) (d i:Nat) (g:Gd):List Op:=⟨some v,true,x,g⟩::k d (i+1) g
def q5 (x:K) (k:Kn) (d i:Nat) (g:Gd):List Op:=⟨none,false,x,g⟩::k d (i+1) g
def rs (d:Nat) (k:Kn) (c:C):C:=.seq (.region false (k d 0 none)) c
def rt (d:Nat) (k:Kn) (c:C):C:=.seq (.region true (k d 0 none)) c
def r1 (d:Nat) (k:Kn):C:=.region false (k d 0 none)
def r2 (d:Nat) (k:Kn):C:=.region true (k d 0 none)
def sq (a b:C):C:=.seq a b
def i1 (d:Nat) (k:Kn) (n:Nat) (a b:C):C:=.seq (.seq (.region false (k d 0 none)) (.cond (.g n) a .skip)) b
def i2 (d:Nat) (k:Kn) (n:Nat) (a b:C):C:=.seq (.seq (.region true (k d 0 none)) (.cond (.g n) a .skip)) b
def cd (n:Nat) (a b:C):C:=.cond (.g n) a b
def bk (n:Nat) (a:C):C:=.block n a
def lq (d:Nat) (k:Kn) (n e:Nat) (c:C):C:=.seq (.seq (.region false (k d 0 none)) (.cond (.g n) .skip (.exit e))) c
def ls (l:List Nat):List Arg:=l.map .l
def opsG:List Op→List Nat
 |[]=>[]
 |o::l=>match o.gl,o.dst with
  |true,some d=>d::opsG l
  |_,_=>opsG l
def glC:C→List Nat
 |.region _ ops=>opsG ops
 |.seq a b=>glC a++glC b
 |.cond _ a b=>glC a++glC b
 |.block _ c=>glC c
 |.loop _ _ _ _ c=>glC c
 |_=>[]
def mF (n:Nat) (r:List Res) (o:Option Nat) (c:C):F:=⟨n,List.range n++glC c,r,o,c⟩
instance pwI:HPow (Kn→Kn) Kn Kn:=⟨fun a k=>a k⟩
theorem pw_e (a:Kn→Kn) (k:Kn):a ^ k=a k:=rfl
theorem ls_c {n:Nat} {l:List Nat}:ls (n::l)=.l n::ls l:=rfl
theorem ls_n:ls []=[]:=rfl
theorem mF_b {n r o c}:(mF n r o c).body=c:=rfl
theorem mF_p {n r o c}:(mF n r o c).np=n:=rfl
theorem mF_r {n r o c}:(mF n r o c).res=r:=rfl
theorem mF_o {n r o c}:(mF n r o c).own=o:=rfl
attribute [go_sem] pw_e Nat.reduceSub ls_c ls_n mF_b mF_p mF_r mF_o qe qD y1 y0 yn qr qR rs rt r1 r2 sq i1 i2 cd bk lq ya yo za zA zo zO qm qf ql qb qp qv qw qV qc qd q0 qC qz qF qT qS qE qn qN qg qa qA qo qO qB qh qH qx qy qY qs qt qu qi qj qJ qk qK qq qQ qG q1 q2 q3 q4 q5
section
variable {A:AA} {S:St} {κ:Nat→List V→Option V}
theorem Jfa:Jal [] A=some ([],A):=rfl
theorem Jef {x xs}:Jal (x::xs) A=(handC A x).bind fun r=>(Jal xs r.2).bind fun q=>some (r.1::q.1,q.2):=rfl
theorem JgM {k n}:handC A (.int k n)=some (.int k n,A):=rfl
theorem JgL {n}:handC A (.bool n)=some (.bool n,A):=rfl
theorem JgP {n}:handC A (.str n)=some (.str n,A):=rfl
theorem JgO {z n}:handC A (.slice z n)=some (.slice z n,A):=rfl
theorem Je9 {z}:handC A (.nslice z)=some (.tuple [.slice z []],A):=rfl
def hdO (A:AA) (s z n:Nat):Option (Nat×List (List V)×Fz)→Option (V×AA)
 |some (z',rows,.live)=>if z'=z∧rows.length=n then some (.tuple [.slice z rows],upd A s (some (z,[],.dead))) else none
 |_=>none
theorem JgN {s z n}:handC A (.own s z n)=hdO A s z n (A s):=rfl
theorem Jlu {s z n rows}:hdO A s z n (some (z,rows,.live))=if rows.length=n then some (.tuple [.slice z rows],upd A s (some (z,[],.dead))) else none:=by simp[hdO]
theorem JfT {d}:JS d [] A=some ([],A):=rfl
theorem Jez {d x xs}:JS d (x::xs) A=(takeC d A x).bind fun r=>(JS (d+1) xs r.2).bind fun q=>some (r.1::q.1,q.2):=rfl
theorem JhN {d k n}:takeC d A (.int k n)=some (.int k n,A):=rfl
theorem JhM {d n}:takeC d A (.bool n)=some (.bool n,A):=rfl
theorem JhP {d n}:takeC d A (.str n)=some (.str n,A):=rfl
theorem JhO {d z n}:takeC d A (.slice z n)=some (.slice z n,A):=rfl
def tkO (d:Nat) (A:AA) (z:Nat) (rows:List (List V)):Option (Nat×List (List V)×Fz)→Option (V×AA)
 |none=>some (.own d z rows.length,upd A d (some (z,rows,.live)))
 |some _=>none
theorem JhQ {d z rows}:takeC d A (.tuple [.slice z rows])=tkO d A z rows (A d):=by
 simp only[takeC,tkO];cases A d<;>rfl
theorem Jl7 {d z rows}:tkO d A z rows none=some (.own d z rows.length,upd A d (some (z,rows,.live))):=rfl
theorem Jjr {z}:nilT (.nslice z)=.tuple [.slice z []]:=rfl
theorem Jjq {k n}:nilT (.int k n)=.int k n:=rfl
theorem Jjp {n}:nilT (.bool n)=.bool n:=rfl
theorem Jjt {n}:nilT (.str n)=.str n:=rfl
theorem Jjs {z n}:nilT (.slice z n)=.slice z n:=rfl
theorem Jmo {b f k s avs}:JaZ κ b S f k s avs=(rcallA S k s avs).bind fun q=>(κ f q.1).bind fun r=>rcallE b S s q.2 r:=rfl
def JjK (S:St) (k:Nat) (avs bs:List V):Option (List V×Bool)→Option (List V×AA)
 |some (cs,false)=>(Jal cs (Jt S.A ((avs.set k .undef).flatMap Je))).bind fun h=>some (bs.set k (.tuple (.lref 0 0::h.1)),h.2)
 |_=>none
def JjI (S:St) (k s:Nat) (avs:List V):Option V→Option (List V×AA)
 |some (.lref s' 0)=>if s'=s then (Jn (toD S.A) (avs.set k .undef)).bind fun bs=>JjK S k avs bs (S.μ s) else none
 |_=>none
theorem JfA {k s avs}:rcallA S k s avs=JjI S k s avs (avs[k]?):=rfl
theorem JjJ {k s avs}:JjI S k s avs (some (.lref s 0))=(Jn (toD S.A) (avs.set k .undef)).bind fun bs=>JjK S k avs bs (S.μ s):=by simp[JjI]
theorem JjL {k avs bs cs}:JjK S k avs bs (some (cs,false))=(Jal cs (Jt S.A ((avs.set k .undef).flatMap Je))).bind fun h=>some (bs.set k (.tuple (.lref 0 0::h.1)),h.2):=rfl
theorem JfB {b s r0 us}:rcallE b S s A (.tuple [r0,.tuple us])=(JS b us A).bind fun t=>some (r0,⟨S.ρ,upd S.μ s (some (t.1,false)),t.2⟩):=rfl
theorem Jmg:toD A .undef=some .undef:=rfl
theorem JhB:Je .undef=[]:=rfl
theorem Jim {s z z' n y}:appW S z (.own s z' n) y=J7 S s z (.own s z' n) y:=rfl
theorem Jmu {n s i off m}:Jz S .x n (.eref s i off m)=ldE n i off m (S.A s):=rfl
def bsO:Option V→Option V
 |some (.slice 1 rows)=>(bytesR rows).bind fun l=>some (.str l)
 |_=>none
theorem JkI {x}:Jga A x=bsO (toDC A x):=rfl
theorem JkL {rows}:bsO (some (.slice 1 rows))=(bytesR rows).bind fun l=>some (.str l):=rfl
theorem Jd2:∀(l:List UInt8),bytesR (l.map fun b=>[.int .u8 b.toNat])=some l
 |[]=>rfl
 |b::l=>by simp[bytesR,Jd2 l]
theorem Jd3 {n:Int}:bytesR [[.int .u8 n]]=some [UInt8.ofNat n.toNat]:=rfl
def fzO (z n:Nat):Option (Nat×List (List V)×Fz)→Option V
 |some (z',rows,.frz)=>if z'=z∧rows.length=n then some (.slice z rows) else none
 |_=>none
theorem JiY {s z n}:frzD A s (.own s z n)=fzO z n (A s):=by simp[frzD,fzO];rfl
theorem Jlr {z n rows}:fzO z n (some (z,rows,.frz))=if rows.length=n then some (.slice z rows) else none:=by simp[fzO]
theorem Jmn {s j h:Nat} {L Wv Wa:List Nat}:S.head [] (s::j::h::L) Wv Wa=(S.swp1 s j h).head [] L Wv Wa:=rfl
def sw2 (S:St) (h:Nat):Option V→St
 |some (.own x _ _)=>S.ren x h
 |_=>S
def sw1 (S:St) (j h:Nat):Option (List V×Bool)→St
 |some (cs,_)=>sw2 S h cs[j]?
 |none=>S
theorem Jkg {s j h:Nat}:S.swp1 s j h=sw1 S j h (S.μ s):=by
 unfold St.swp1 sw1 sw2
 rfl
theorem Jl2 {j h cs f}:sw1 S j h (some (cs,f))=sw2 S h cs[j]?:=rfl
theorem Jl3 {h x z n}:sw2 S h (some (.own x z n))=S.ren x h:=rfl
theorem JlM {x h t}:(S.ren x h).ρ t=Jaj x h (S.ρ t):=rfl
theorem JlL {x h t}:(S.ren x h).μ t=(S.μ t).map fun m=>(m.1.map (JO x h),m.2):=rfl
theorem JlI {x h t}:(S.ren x h).A t=S.A (swp x h t):=rfl
theorem JjU {x h k n}:Jaj x h (.int k n)=.int k n:=rfl
theorem JjS {x h n}:Jaj x h (.bool n)=.bool n:=rfl
theorem JjY {x h n}:Jaj x h (.str n)=.str n:=rfl
theorem JjX {x h z n}:Jaj x h (.slice z n)=.slice z n:=rfl
theorem JjT {x h z n}:Jaj x h (.func z n)=.func z n:=rfl
theorem JjZ {x h}:Jaj x h .undef=.undef:=rfl
theorem JjV {x h s o}:Jaj x h (.lref s o)=.lref s o:=rfl
theorem JjW {x h s z n}:Jaj x h (.own s z n)=.own (swp x h s) z n:=rfl
theorem JjR {x h cs}:Jaj x h (.agg cs)=.agg (cs.map (JO x h)):=rfl
theorem JjN {x h k n}:JO x h (.int k n)=.int k n:=rfl
theorem JjM {x h n}:JO x h (.bool n)=.bool n:=rfl
theorem JjQ {x h n}:JO x h (.str n)=.str n:=rfl
theorem JjP {x h z n}:JO x h (.slice z n)=.slice z n:=rfl
theorem JjO {x h s z n}:JO x h (.own s z n)=.own (swp x h s) z n:=rfl
theorem Jl4 {x h:Nat}:swp x h x=h:=by simp[swp]
theorem Jl6 {x h:Nat}:swp x h h=x:=by unfold swp;split<;>simp_all
theorem Jl5 {x h t:Nat} (h1:(t == x)=false) (h2:(t == h)=false):swp x h t=t:=by
 have h1:t≠x:=by simpa using h1
 have h2:t≠h:=by simpa using h2
 simp[swp,h1,h2]
end
attribute [go_sem] JiY Jlr Jfa Jef JgM JgL JgP JgO Je9 JgN Jlu JfT Jez JhN JhM JhP JhO JhQ Jl7 Jjr Jjq Jjp Jjt Jjs JfA JjJ JjL JfB Jmg JhB Jim Jmu JkI JkL Jd3
attribute [go_sem] Jkg Jl2 Jl3 JlM JlL JlI JjU JjS JjY JjX JjT JjZ JjV JjW JjR JjN JjM JjQ JjP JjO Jl4 Jl6 Jl5
section
variable {S:St} {s off n:Nat}
theorem JlX {a z m}:JC S (.v s) 1 (.lref s off) (.own a z m)=stV S s off [.own a z m] (S.μ s):=by rw[Jc9];rfl
theorem JlW {k m}:JC S (.v s) 1 (.lref s off) (.int k m)=stV S s off [.int k m] (S.μ s):=by rw[Jc9];rfl
theorem JlV {m}:JC S (.v s) 1 (.lref s off) (.bool m)=stV S s off [.bool m] (S.μ s):=by rw[Jc9];rfl
theorem JlZ {m}:JC S (.v s) 1 (.lref s off) (.str m)=stV S s off [.str m] (S.μ s):=by rw[Jc9];rfl
theorem JlY {z m}:JC S (.v s) 1 (.lref s off) (.slice z m)=stV S s off [.slice z m] (S.μ s):=by rw[Jc9];rfl
theorem Jke {z}:JC S (.v s) 1 (.lref s off) (.nslice z)=stV S s off [.nslice z] (S.μ s):=by rw[Jc9];rfl
theorem JlU {cs}:JC S (.v s) n (.lref s off) (.agg cs)=if cs.length=n then stV S s off cs (S.μ s) else none:=by rw[Jc9];rfl
end
attribute [go_sem high] JlX JlW JlV JlZ JlY Jke JlU
attribute [go_sem] List.set_cons_zero List.set_cons_succ
end Sg
namespace Sg
open _root_.Go _root_.Go.RowKit _root_.Go.Proofs _root_.Go.Shelf
variable {P : Program} {ρ : Ren}
def BX (b:Nat) (w:World) (k:Nat):Prop:=k=b∨∃v,w.cell? ⟨b,1,none⟩=some v∧v.ownBlock=some k
def BKp (b:Nat) (w w':World):Prop:=∀k,k<w.heap.size→¬BX b w k→w'.heap[k]?=w.heap[k]?∧¬BX b w' k
theorem JjB {w:World} {B:Nat} {e:TypeId} {v:Value} {n:Nat} {xs:List Value} {g:Nat} (h:w.ownsRowF B e 1 v n xs) (hg:v.ownBlock=some g):g<w.heap.size:=by
 rcases h.2 with ⟨rfl,_⟩|⟨g',cap,cur,fz,rfl,_,hgg,_⟩
 ·simp[Value.ownBlock] at hg
 ·simp only[Value.ownBlock,Ga] at hg;subst hg;exact (Array.getElem?_eq_some_iff.1 hgg).1
theorem bkp_put {b:Nat} {w w1 w2:World} {p v v':Value} {T:TypeId} (h1:∀k,k<w.heap.size→k≠b→w1.heap[k]?=w.heap[k]?) (hs:w.heap.size≤w1.heap.size) (hc:w.cell? ⟨b,1,none⟩=some v)
  (hg:w1.grownBy w2 v.ownBlock) (hb:w2.heap[b]?=some (.cells #[p,v] T (0,0))) (hv:∀g,v'.ownBlock=some g→v.ownBlock=some g∨w.heap.size≤g) :
  BKp b w (w2.setCell ⟨b,1,none⟩ v'):=fun k hk hx=>by
 have hkb:k≠b:=fun e=>hx (.inl e)
 have hkv:v.ownBlock≠some k:=fun e=>hx (.inr ⟨v,hc,e⟩)
 refine⟨?_,?_⟩
 ·rw[Below.heap_setCell _ _ _ _ (fun e=>hkb e),hg.block k (by omega) (fun e=>hkv e.symm),h1 k hk hkb]
 ·rintro (e|⟨u,hu,hub⟩)
  ·exact hkb e
  ·have:(w2.setCell ⟨b,1,none⟩ v').cell? ⟨b,1,none⟩=some v':=by
    simp[World.setCell,World.cell?,Array.getElem?_modify,hb]
   rw[this,Ga] at hu
   subst hu
   rcases hv k hub with e|e
   ·exact hkv e
   ·omega
theorem app_row (w:World) (B:Nat) (t u ty e:TypeId) (i:TypeInfo) (ht:P.underlying t=some (.slice e)) (hu:P.underlying u=some .string) (hi:P.info? e=some i) (hz:i.zero=some (.int .u8 0))
  (hsize:i.size=1) (hby:i.bytes=1) (v:Value) (n:Nat) (xs:List Value) (hown:w.ownsRowF B e 1 v n xs) (s:ByteArray)
  (h63:n+s.size≤maxLen) (hbytes:n+s.size≤140737488355328) (v':Value) (w':World) (hr:(Builtin.append_ #[t,u] ty #[v,.string s]).run P w=.ok v' w')
  (hnil:v'=.slice none 0 0↔v=.slice none 0 0∧s.size=0):∀g,v'.ownBlock=some g→v.ownBlock=some g∨w.heap.size≤g:=by
 intro g hg
 have hsm:n+s.size≤9223372036854775807:=by simp only[maxLen] at h63;omega
 have hxl:xs.length=n:=by simpa using hown.1
 rcases hown.2 with ⟨rfl,rfl⟩|⟨k,cap,cur,fz,rfl,hbg,hk,hfz,hnc,hcm,hcs,htake⟩
 ·by_cases h0:s.size=0
  ·rw[hnil.2 ⟨rfl,h0⟩] at hg
   simp[Value.ownBlock] at hg
  ·have:=run_append_nil_string (P:=P) w t u ty e i (.int .u8 0) ht hu hi hz s (by omega) (by omega) (by rw[hby];omega)
   rw[this] at hr
   injection hr with h1 h2
   rw[←h1] at hg
   simp only[Value.ownBlock,Ga] at hg
   exact .inr (by omega)
 ·by_cases hroom:n+s.size≤cap
  ·have:=Lib.run_append_room_stringF (P:=P) w t u ty e i ht hu hi hsize k n cap cur fz hk (by simpa using hfz) s hroom (by simp at hcs;omega)
   rw[this] at hr
   injection hr with h1 h2
   rw[←h1] at hg
   exact .inl hg
  ·have holds:∀j x,xs[j]?=some x→w.cell? ((⟨k,0,none⟩:Addr).add j)=some x:=hown.cells (g:=k) rfl
   have:=Lib.run_append_grow_string (P:=P) w t u ty e i (.int .u8 0) ht hu hi hz ⟨k,0,none⟩ n cap xs (by rw[hsize];simpa using hxl) holds s (by omega) (by omega) (by rw[hby];exact growslice_fits (by omega) (by omega))
   rw[this] at hr
   injection hr with h1 h2
   rw[←h1] at hg
   simp only[Value.ownBlock,Ga] at hg
   exact .inr (by omega)
theorem Jh2 {ops:Array Oper} {rest:List Oper} {o:Oper} {a:Act} {Q:Exit→Act→World→Prop} {w:World} (hgd:o.guard=none) (sl x:Operand) (t u:TypeId)
  (ho:o.op=.call {callee:=.builtin .append,args:=#[sl,x],argTypes:=#[t,u]})
  (base:Nat) (e:TypeId) (i:TypeInfo) (ht:P.underlying t=some (.slice e)) (hu:P.underlying u=some .string) (hi:P.info? e=some i) (hz:i.zero=some (.int .u8 0))
  (hsize:i.size=1) (hby:i.bytes=1)
  (v:Value) (n:Nat) (xs:List Value) (hs:a.eval sl=v) (hown:w.ownsRowF base e 1 v n xs) (s:ByteArray) (hx:a.eval x=.string s)
  (h63:n+s.size≤maxLen) (hbytes:n+s.size≤140737488355328) (hbase:base≤w.heap.size)
  (h:∀v' w',w'.ownsRowF base e 1 v' (n+s.size) (xs++Lib.strCells s)→w.grownBy w' v.ownBlock→(∀g,v'.ownBlock=some g→v.ownBlock=some g∨w.heap.size≤g)→wpList P ops Q rest (a.put o.dst v') w'):wpList P ops Q (o::rest) a w:=by
 refine wpList_plain hgd fun K hK=>?_
 obtain⟨v',w',hr,h2,h3,h4⟩:=Lib.run_append_own_stringF (P:=P) w base t u o.type e i ht hu hi hz hsize hby v n xs hown s h63 hbytes hbase
 have h5:=app_row (P:=P) w base t u o.type e i ht hu hi hz hsize hby v n xs hown s h63 hbytes v' w' hr h4
 unfold Oper.wp execOp
 simp only[ho,resolve,invoke,builtin,Sem.run_bind,Sem.run_pure,Result.andThen_ok,List.map_toArray,Gv,Gp,hs,hx,hr]
 exact hK _ _ (h v' w' h2 h3 h5)
def K1 (b:Nat) (w w':World):Prop:=∀k,k≠b→w'.heap[k]?=w.heap[k]?
theorem Jiq (L:Lays.n240 P ρ) (X:Builder.X72 P ρ) (B b:Nat) (bs:List Value) (w:World) (h:Lib.IsBuilderF (ρ.t 72) (ρ.t 5) B b bs w) :
  Calls P (ρ.f 240) #[.pointer (some ⟨b,0,none⟩)] w fun e w'=>e=.returned (.tuple #[])∧Lib.BuilderAtF (ρ.t 72) (ρ.t 5) B b (.pointer (some ⟨b,0,none⟩)) bs w'∧Below B w w'∧w'.heap.size=w.heap.size∧K1 b w w'∧w'.cell? ⟨b,1,none⟩=w.cell? ⟨b,1,none⟩:=by
 rcases h with h|h
 ·refine (Any.Builder_copyCheck_fresh L X b w h.cell0 h.shape h.frozen0).mono ?_
  rintro e w' ⟨rfl,rfl⟩
  refine⟨rfl,h.used _,(Below.refl B w).setCell (p:=⟨b,0,none⟩) h.1 _,by simp[World.setCell],fun k hk=>Below.heap_setCell _ _ _ _ (fun e=>hk e),?_⟩
  obtain⟨_,v,hb,_⟩:=h
  simp[World.setCell,World.cell?,Array.getElem?_modify,hb]
 ·refine (Any.Builder_copyCheck_used L X b w h.cell0).mono ?_
  rintro e w' ⟨rfl,rfl⟩
  exact⟨rfl,h,Below.refl B _,rfl,fun _ _=>rfl,rfl⟩
set_option maxRecDepth 100000 in
theorem bld_ws (L:Lays.n166 P ρ) (X:Builder.Extra P ρ) (B b:Nat) (bs:List Value) (s:ByteArray) (w:World) (h:Lib.IsBuilderF (ρ.t 72) (ρ.t 5) B b bs w) (hlen:bs.length+s.size≤140737488355328) (hBw:B≤w.heap.size) :
  Calls P (ρ.f 166) #[.pointer (some ⟨b,0,none⟩),.string s] w fun e w'=>e=.returned (.tuple #[.int .i64 s.size,.nilIface])∧(Lib.IsBuilderF (ρ.t 72) (ρ.t 5) B b (bs++Lib.strCells s) w'∧Below B w w'∧BKp b w w'∧w.heap.size≤w'.heap.size):=by
 obtain⟨i0,hi,hz0,hz1,hz2⟩:=info_parts X.infoByte
 have mixed:=L.mixed
 have t72:=L.t72;have a72:=L.a72;have z72:=L.z72;have v72:=L.v72;have u72:=run_underlying L.t72
 have t70:=L.t70;have a70:=L.a70;have z70:=L.z70;have v70:=L.v70;have u70:=run_underlying L.t70
 have t37:=L.t37;have a37:=L.a37;have z37:=L.z37;have v37:=L.v37;have u37:=run_underlying L.t37
 have t3:=L.t3;have a3:=L.a3;have z3:=L.z3;have v3:=L.v3;have u3:=run_underlying L.t3
 have t9:=L.t9;have a9:=L.a9;have z9:=L.z9;have v9:=L.v9;have u9:=run_underlying L.t9
 have t4:=L.t4;have a4:=L.a4;have z4:=L.z4;have v4:=L.v4;have u4:=run_underlying L.t4
 have t164:=L.t164;have a164:=L.a164;have z164:=L.z164;have v164:=L.v164;have u164:=run_underlying L.t164
 have t5:=X.t5;have a5:=X.a5;have z5:=X.z5;have v5:=X.v5;have u5:=run_underlying X.t5
 have e240:∀args w,(callFunc (ρ.f 240) args).run P w=.ok (.enter (ρ.f 240) args) w:=enters_of L.f240 (by kernel_rfl) rfl
 go_enter L.f166,Body.n166_ntmps ρ
 go_wp2_with (go_at_fn (ρ.f 240);refine (Jiq {L with} X.toX72 B b bs _ h).mono ?_)
 rintro e w1 ⟨rfl,h1,hb1,hs1,hk1,hc1⟩
 obtain⟨hB,v,hbk,hown,hne⟩:=h1
 have c0:w1.cell? ⟨b,0,none⟩=some (.pointer (some ⟨b,0,none⟩)):=by rw[Lib.cell_of_heap hbk];rfl
 have c1:w1.cell? ⟨b,1,none⟩=some v:=by rw[Lib.cell_of_heap hbk];rfl
 have hc2:=hc1.symm.trans c1
 clear hc1
 go_wp2_with (at_builtin;refine Jh2 rfl _ _ (ρ.t 37) (ρ.t 9) rfl B (ρ.t 5) i0 L.t37 L.t9 hi hz0 hz1 hz2 _ _ _ rfl hown s rfl ?c3 ?c4 ?c5 ?_)
 case c3=>unfold maxLen;omega
 case c4=>omega
 case c5=>have:=hb1.size;omega
 intro v' w2 hown' hgrow hrow
 have hlt:b<w1.heap.size:=by
  rcases Gt b w1.heap.size with h'|h'
  ·exact h'
  ·simp[Array.getElem?_eq_none h'] at hbk
 have hb2:w2.heap[b]?=some (.cells #[.pointer (some ⟨b,0,none⟩),v] (ρ.t 72) (0,0)):=by
  rw[hgrow.block b hlt (fun e=>hne e.symm)];exact hbk
 have d0:w2.cell? ⟨b,0,none⟩=some (.pointer (some ⟨b,0,none⟩)):=by rw[Lib.cell_of_heap hb2];rfl
 have d1:w2.cell? ⟨b,1,none⟩=some v:=by rw[Lib.cell_of_heap hb2];rfl
 have f1:w2.frozen? ⟨b,1,none⟩=false:=Lib.frozen_of_heap hb2 1
 obtain⟨ao,n',cap,rfl⟩:∃ao n' cap,v'=.slice ao n' cap:=by
  rcases hown'.2 with ⟨hv,_⟩|⟨g,cap,cur,fz,hv,_⟩
  ·exact⟨_,_,_,hv⟩
  ·exact⟨_,_,_,hv⟩
 go_wp2
 go_ret2
 have hbs:b≠w.heap.size:=by omega
 refine⟨rfl,.inr (Lib.BuilderAtF.put (T:=(ρ.t 72)) (e:=(ρ.t 5)) hB hb2 (bs':=bs++Lib.strCells s) (by simpa [Lib.strCells_length] using hown') X.neB5),(hb1.grown hgrow (by have:=hb1.size;omega) (fun k hk=>(hown.lt k hk).1)).setCell (p:=⟨b,1,none⟩) hB _,?_,?_⟩
 ·exact bkp_put (fun k _ hk=>hk1 k hk) (by omega) hc2 hgrow hb2 (fun g hg=>hrow g hg)
 ·have:=hgrow.size
  simp[World.setCell];omega
end Sg
namespace Sg
open _root_.Go _root_.Go.RowKit _root_.Go.Proofs _root_.Go.Shelf
section
variable {P:Program} {ops:Array Oper} {Q Q1:Exit→Act→World→Prop}
theorem JbZ {a:Act} {o:Oper} {v:Value} {d:Nat} (h:o.dst≠some d):(a.put o.dst v).tmps.getD d undef=a.tmps.getD d undef:=by
 unfold Act.put;cases ho:o.dst with
 |none=>rfl
 |some k=>
  have:k≠d:=fun e=>h (by rw[ho,e]);simp only[Array.getD_eq_getD_getElem?,Array.getElem?_setIfInBounds_ne this]
theorem Jat {d:Nat} {l2:List Nat} (hall:∀(i:Nat) (o:Oper),ops[i]?=some o→o.dst≠some d):∀(l1:List Nat) (a:Act) (w:World),wpOps P ops Q1 l1 a w→
  (∀a' w',Q1 .normal a' w'→a'.tmps.getD d undef=a.tmps.getD d undef→wpOps P ops Q l2 a' w')→(∀ex a' w',ex≠.normal→Q1 ex a' w'→False)→wpOps P ops Q (l1++l2) a w
 |[],a,w,h,hn,hx=>hn a w h rfl
 |i::l,a,w,h,hn,hx=>by
  simp only[wpOps,List.cons_append] at h ⊢;cases ho:ops[i]? with
  |none=>
   rw[ho] at h;exact Jat hall l a w h hn hx
  |some o=>
   rw[ho] at h;simp only at h ⊢;have hd:=hall i o ho;have step:∀(v:Value) (a1:Act) (w':World),a1.tmps=a.tmps→wpOps P ops Q1 l (a1.put o.dst v) w'→wpOps P ops Q (l++l2) (a1.put o.dst v) w':=fun v a1 w' ha h'=>
    Jat hall l _ w' h' (fun a' w'' q e=>hn a' w'' q (by rw[e,JbZ hd,ha])) hx
   split
   ·rename_i hw;rw[Gl hw] at h;rcases h with h|⟨_,a',w',h⟩
    ·refine .inl ?_;unfold Oper.wp Oper.upon at h ⊢;split at h
     ·exact step _ a _ rfl h
     ·exact step _ a _ rfl h
     ·exact step _ {a with defers:=_::a.defers} _ rfl h
     ·refine h.mono fun e w' he=>?_;cases e with
      |returned v=>exact step _ a _ rfl he
      |panicked c=>exact (hx _ _ _ (by simp) he).elim
      |outgrown=>obtain⟨a',w',he⟩:=he;exact (hx _ _ _ (by simp) he).elim
     ·exact h.mono fun v w' he=>step _ a _ rfl he
     ·exact (hx _ _ _ (by simp) h).elim
     ·exact h.elim
    ·exact (hx _ _ _ (by simp) h).elim
   ·rename_i hw;rw[Gj hw] at h;exact step _ a _ rfl h
theorem Jb6 {i:Nat} {o:Oper} {a:Act} {w:World} (ho:ops[i]?=some o) (hg:o.guard=none) (h:o.wp P a w (fun a' w'=>Q .normal a' w') Q):wpOps P ops Q [i] a w:=by
 simp only[wpOps,ho,Region.wanted,hg,Gx];exact .inl h
end
theorem Jb1 {κ:Nat→List V→Option V} {ops:List Op}:∀(l:List Op) (i:Nat) (e:Nat→V) (S:St),(∀j,j<l.length→l[j]?=ops[i+j]?)→Ju κ l i e S=runIx κ ops (List.range' i l.length) e S
 |[],i,e,S,_=>rfl
 |o::l,i,e,S,h=>by
  have h0:ops[i]?=some o:=by simpa using (h 0 (by simp)).symm
  simp only[Ju,List.length_cons,List.range'_succ,runIx,h0]
  congr 1
  funext r
  exact Jb1 l (i+1) _ _ fun j hj=>by
   have:=h (j+1) (by simpa using hj);rw[List.getElem?_cons_succ] at this;rw[this];congr 1;omega
def isW (ps:List Op):Bool:=match ps.getLast? with
 |some ⟨_,_,.nilq _,_⟩=>true
 |_=>false
def noW (p:Op):Bool:=match p.k with
 |.nilq _=>false
 |_=>true
def psB (ps:List Op):List Op:=ps.map fun p=>match p.k with
 |.nilq _=>{p with k:=.bad}
 |_=>p
section
variable (P:Program) (cx:Cx) (G:List Nat) (N tb fw:Nat)
def Jfz (o:Oper) (p:Op):Bool:=match p.dst,p.k,o.op with
 |some d,.nilq x,.call c=>(match c.callee with|.value (.func f)=>f == fw|_=>false)&&(match c.args.toList with|[.tmp t,y]=>t == tb&&Ja cx [] y x|_=>false) &&
   o.dst == some d&&o.guard == none&&!G.contains d&&decide (d<N)
 |_,_,_=>false
def okW (draw:Bool) (ops:Array Oper) (ps:List Op):Bool:=
 !draw&&Jaf P cx (fun _=>none) G N ((psB ps).map (·.dst)) ops.toList (psB ps)&&distinctDst ((psB ps).map (·.dst))&&ops.toList.all (fun o=>o.dst != some tb) &&
  (match ops.toList.getLast?,ps.getLast? with|some o,some p=>Jfz cx G N tb fw o p|_,_=>false)
def okR (draw:Bool) (ops:Array Oper) (dr:Bool) (ps:List Op):Bool:=
 !draw&&JaC P cx (fun _=>none) G N draw ops dr ps&&ops.toList.all (fun o=>o.dst != some tb)
def okB:Code→C→Bool
 |.skip,.skip=>true
 |.region _ ops draw,.region dr ps=>bif isW ps then okW P cx G N tb fw draw ops ps else okR P cx G N tb draw ops dr ps
 |.seq a b,.seq a' b'=>okB a a'&&okB b b'
 |.cond x a b,.cond y a' b'=>Ja cx [] x y&&okB a a'&&okB b b'
 |.block id c,.block id' c'=>id == id'&&okB c c'
 |.loop c,.loop _ _ _ _ c'=>okB c c'
 |.exit id,.exit id'=>id == id'
 |.ret,.ret=>true
 |_,_=>false
end
structure BldC (P:Program) (fw:Nat) (T e:TypeId):Prop where
 ent:Ent P fw
 ws:∀(B b:Nat) (bs:List Value) (s:ByteArray) (w:World),Lib.IsBuilderF T e B b bs w→bs.length+s.size≤140737488355328→B≤w.heap.size→
  Calls P fw #[.pointer (some ⟨b,0,none⟩),.string s] w fun e' w'=>(∃v,e'=.returned v)∧Lib.IsBuilderF T e B b (bs++Lib.strCells s) w'∧Below B w w'∧BKp b w w'∧w.heap.size≤w'.heap.size
theorem Jcj {T e:TypeId} {B b:Nat} {bs:List Value} {w:World} (h:Lib.IsBuilderF T e B b bs w):B≤b∧b<w.heap.size∧∃p v,w.heap[b]?=some (.cells #[p,v] T (0,0))∧w.ownsRowF B e 1 v bs.length bs∧v.ownBlock≠some b∧
  (p=.pointer none∨p=.pointer (some ⟨b,0,none⟩)):=by
 rcases h with h|h
 ·have hlt:=h.lt
  obtain⟨h1,v,h2,h3,h4⟩:=h
  exact⟨h1,hlt,_,v,h2,h3,h4,.inl rfl⟩
 ·have hlt:=h.lt
  obtain⟨h1,v,h2,h3,h4⟩:=h
  exact⟨h1,hlt,_,v,h2,h3,h4,.inr rfl⟩
theorem Jfh {T e:TypeId} {B b:Nat} {bs:List Value} {w:World} (h:Lib.IsBuilderF T e B b bs w) {k:Nat} (hk:BX b w k):k<w.heap.size∧B≤k:=by
 obtain⟨h1,h2,p,v,h3,h4,h5,-⟩:=Jcj h;rcases hk with rfl|⟨u,hu,hub⟩
 ·exact⟨h2,h1⟩
 ·have:u=v:=by
   simp only[World.cell?,h3] at hu;simpa using hu.symm
  subst this;refine⟨JjB h4 hub,?_⟩;rcases h4.2 with ⟨rfl,_⟩|⟨g,cap,cur,fz,rfl,hg,_⟩
  ·simp[Value.ownBlock] at hub
  ·simp only[Value.ownBlock,Ga] at hub;omega
theorem Jfg {T e:TypeId} {B b:Nat} {bs:List Value} {w w':World} (h:Lib.IsBuilderF T e B b bs w) (hk:∀k,BX b w k→w'.heap[k]?=w.heap[k]?):Lib.IsBuilderF T e B b bs w'∧∀k,BX b w' k→BX b w k:=by
 obtain⟨h1,h2,p,v,h3,h4,h5,h6⟩:=Jcj h;have hb:w'.heap[b]?=some (.cells #[p,v] T (0,0)):=(hk b (.inl rfl)).trans h3;have hc:w.cell? ⟨b,1,none⟩=some v:=by simp[World.cell?,h3]
 have hc':w'.cell? ⟨b,1,none⟩=some v:=by simp[World.cell?,hb]
 have ho:w'.ownsRowF B e 1 v bs.length bs:=by
  refine⟨h4.1,?_⟩;rcases h4.2 with h|⟨g,cap,cur,fz,hv,hg,hgg,hr⟩
  ·exact .inl h
  ·exact .inr ⟨g,cap,cur,fz,hv,hg,(hk g (.inr ⟨v,hc,by rw[hv];rfl⟩)).trans hgg,hr⟩
 refine⟨?_,fun k hx=>?_⟩
 ·rcases h6 with rfl|rfl
  ·exact .inl ⟨h1,v,hb,ho,h5⟩
  ·exact .inr ⟨h1,v,hb,ho,h5⟩
 ·rcases hx with rfl|⟨u,hu,hub⟩
  ·exact .inl rfl
  ·rw[hc',Ga] at hu;subst hu;exact .inr ⟨_,hc,hub⟩
section
variable {P:Program} {cx:Cx} {B X:Nat→Prop} {S:St} {w w':World} {β:Nat→Nat} {α:Nat→Value} {M:Nat→Prop} {G:List Nat} {N:Nat}
theorem Jh6 {b:Nat} (hX:∀k,k<w.heap.size→BX b w k→X k) (hk:BKp b w w') (hs:w.heap.size≤w'.heap.size) {u:Value} {x:V} (h:RelD cx w (orP X M) u x):RelD cx w' (orP (fun k=>X k∨BX b w' k) M) u x:=
 h.mono hs (fun k h1 h2=>(hk k h1 (fun hb=>h2 (.inl (hX k h1 hb)))).1) (fun k h1 h2=>by
  rintro ((h|h)|h)
  ·exact h2 (.inl h)
  ·exact (hk k h1 (fun hb=>h2 (.inl (hX k h1 hb)))).2 h
  ·exact h2 (.inr h))
theorem RelW.bld {b:Nat} (h:RelW cx B X S w β α M) (hX:∀k,k<w.heap.size→BX b w k→X k) (hk:BKp b w w') (hs:w.heap.size≤w'.heap.size) (hg:cx.G w') (hb':∀k,BX b w' k→k<w'.heap.size) :
  RelW cx (fun k=>B k∨BX b w' k) (fun k=>X k∨BX b w' k) S w' β α M:=by
 have hD:∀u x,RelD cx w (orP X M) u x→RelD cx w' (orP (fun k=>X k∨BX b w' k) M) u x:=fun u x hr=>Jh6 hX hk hs hr
 have nb:∀k,k<w.heap.size→¬B k→w'.heap[k]?=w.heap[k]?∧¬(B k∨BX b w' k):=fun k h1 h2=>by
  obtain⟨h3,h4⟩:=hk k h1 (fun hb=>h2 (h.xb k (hX k h1 hb)));exact⟨h3,fun hh=>hh.elim h2 h4⟩
 refine⟨fun k hx=>hx.imp (h.xb k) id,⟨fun k hk=>.inl (h.glob.1 k hk),hg⟩,fun k hk=>?_,fun k hm=>?_,fun s cs f hs'=>?_,h.varInj,fun s z rows f hs' hf=>?_,h.arrInj,h.arrVar⟩
 ·rcases hk with hk|hk
  ·exact GC (h.size k hk) hs
  ·exact hb' k hk
 ·obtain⟨h1,h2⟩:=h.m k hm
  exact⟨(nb k h2 h1).2,GC h2 hs⟩
 ·have hlt:=h.varLt hs'
  obtain⟨a1,a2,a3,c,e,a4,a5,a6⟩:=h.var s cs f hs'
  obtain⟨n1,n2⟩:=nb _ hlt a1
  refine⟨n2,a2,a3,c,e,n1.trans a4,a5,fun i hi=>?_⟩
  obtain⟨u,b1,b2,b3⟩:=a6 i hi
  exact⟨u,b1,b2,b3.tr hD (ATr.refl _ _)⟩
 ·obtain⟨a1,a2⟩:=h.arr s z rows f hs' hf
  refine⟨a1.tr hD (fun k hk'=>?_),fun k hk'=>?_⟩
  ·exact (nb _ (a1.lt hk') (a2 k hk').1).1
  ·exact⟨(nb _ (a1.lt hk') (a2 k hk').1).2,(a2 k hk').2.1,(a2 k hk').2.2⟩
theorem FR.bld {b d:Nat} {a:Act} {v:Value} {dv:List (Option Nat)} {ev:Nat→V} (h:FR cx B X none G dv ev S a.tmps w) (hX:∀k,k<w.heap.size→BX b w k→X k) (hk:BKp b w w') (hs:w.heap.size≤w'.heap.size) (hg:cx.G w') (hb':∀k,BX b w' k→k<w'.heap.size)
  (hd:d∉G) (o:Oper) (ho:o.dst=some d):FR cx (fun k=>B k∨BX b w' k) (fun k=>X k∨BX b w' k) none G [] (fun _=>.undef) S (a.put o.dst v).tmps w':=by
 obtain⟨h1,β,α,M,hW,hg',-,-⟩:=h
 refine⟨h1,β,α,M,hW.bld hX hk hs hg hb',fun t=>?_,fun i d hd=>by simp at hd,fun k b hk=>by simp at hk⟩
 by_cases e:t=d
 ·rw[e,h1 d hd];exact RelD.undef _
 ·rw[JbZ (by rw[ho];simpa using fun h=>e h.symm)]
  exact (hg' t).tr (fun u x hr=>Jh6 hX hk hs hr) (ATr.refl S α) (fun s hs=>⟨hs,rfl⟩)
end
section
variable (P:Program) (cx:Cx) (G:List Nat) (N tb:Nat) (T e:TypeId) (w0:World)
def FRB (acc:List UInt8) (S:St) (a:Act) (w:World):Prop:=
 ∃B X b,FR cx B X none G [] (fun _=>.undef) S a.tmps w∧(∀k,BX b w k→X k)∧(∀k,k<w0.heap.size→B k)∧Lib.IsBuilderF T e w0.heap.size b (Lib.byteCells acc) w∧
  a.tmps.getD tb undef=.pointer (some ⟨b,0,none⟩)∧a.defers=[]∧a.tmps.size=N∧Below w0.heap.size w0 w
def exQ:Ex→Exit→Prop
 |.norm,e=>e=.normal
 |.ret,e=>e=.ret
 |.exit id,e=>e=.exit id
def BPost (Q:Ex→St→List UInt8→Prop):Exit→Act→World→Prop:=fun ex a' w'=>∃x S' acc',exQ x ex∧FRB cx G N tb T e w0 acc' S' a' w'∧Q x S' acc'
def BR (fw:Nat) (c:C) (S:St) (acc:List UInt8) (Q:Ex→St→List UInt8→Prop):Prop:=
 ∀(code:Code) (a:Act) (w:World),okB P cx G N tb fw code c=true→FRB cx G N tb T e w0 acc S a w→code.wp P (BPost cx G N tb T e w0 Q) a w
end
section
variable {P:Program} {cx:Cx} {G:List Nat} {N tb fw:Nat} {T e:TypeId} {w0:World} {κ:Nat→List V→Option V} {S:St} {acc:List UInt8} {Q:Ex→St→List UInt8→Prop}
theorem BR.skip (h:Q .norm S acc):BR P cx G N tb T e w0 fw .skip S acc Q:=fun code a w hok hF=>by
 cases code<;>try (simp[okB] at hok;done)
 exact _root_.Go.wp_skip ⟨.norm,S,acc,rfl,hF,h⟩
theorem BR.exit {id:Nat} (h:Q (.exit id) S acc):BR P cx G N tb T e w0 fw (.exit id) S acc Q:=fun code a w hok hF=>by
 cases code<;>try (simp[okB] at hok;done)
 simp only[okB,GA] at hok;subst hok;exact _root_.Go.wp_exit ⟨.exit _,S,acc,rfl,hF,h⟩
theorem BR.seq {x y:C} (h:BR P cx G N tb T e w0 fw x S acc (fun ex S' acc'=>match ex with
  |.norm=>BR P cx G N tb T e w0 fw y S' acc' Q
  |ex=>Q ex S' acc')):BR P cx G N tb T e w0 fw (.seq x y) S acc Q:=fun code a w hok hF=>by
 cases code<;>try (simp[okB] at hok;done)
 simp only[okB,Gg] at hok
 refine _root_.Go.wp_seq (wp_mono (h _ a w hok.1 hF) fun ex a' w' hp=>?_)
 obtain⟨x',S',acc',p1,p2,p3⟩:=hp
 cases x' with
 |norm=>
  simp only[exQ] at p1 p3
  subst p1
  exact p3 _ a' w' hok.2 p2
 |ret=>
  simp only[exQ] at p1 p3
  subst p1
  exact⟨.ret,S',acc',rfl,p2,p3⟩
 |exit id=>
  simp only[exQ] at p1 p3
  subst p1
  exact⟨.exit id,S',acc',rfl,p2,p3⟩
theorem BR.cond {y:Arg} {x z:C} {t:Bool} (ht:argv (fun _=>.undef) S.ρ y=.bool t) (h1:t=true→BR P cx G N tb T e w0 fw x S acc Q) (h2:t=false→BR P cx G N tb T e w0 fw z S acc Q):BR P cx G N tb T e w0 fw (.cond y x z) S acc Q:=fun code a w hok hF=>by
 cases code<;>try (simp[okB] at hok;done)
 simp only[okB,Gg] at hok;have hF0:=hF;obtain⟨B,X,b,⟨hG,β,α,M,hW,hg,hl,hpp⟩,-⟩:=hF;have hr:=J8 (a:=a) (ds:=[]) (e:=fun _=>.undef) hg (fun i d hd=>by simp at hd) hok.1.1;rw[ht] at hr;refine _root_.Go.wp_cond (Jab hr) ?_;cases t
 ·exact h2 rfl _ a w hok.2 hF0
 ·exact h1 rfl _ a w hok.1.2 hF0
theorem BR.block {id:Nat} {x:C} (h:BR P cx G N tb T e w0 fw x S acc (fun ex S' acc'=>match ex with
  |.exit id'=>if id'=id then Q .norm S' acc' else Q (.exit id') S' acc'
  |ex=>Q ex S' acc')):BR P cx G N tb T e w0 fw (.block id x) S acc Q:=fun code a w hok hF=>by
 cases code<;>try (simp[okB] at hok;done)
 simp only[okB,Gg,GA] at hok
 obtain⟨rfl,hok⟩:=hok
 refine _root_.Go.wp_block (wp_mono (h _ a w hok hF) fun ex a' w' hp=>?_)
 obtain⟨x',S',acc',p1,p2,p3⟩:=hp
 cases x' with
 |norm=>
  simp only[exQ] at p1 p3
  subst p1
  exact⟨.norm,S',acc',rfl,p2,p3⟩
 |ret=>
  simp only[exQ] at p1 p3
  subst p1
  exact⟨.ret,S',acc',rfl,p2,p3⟩
 |exit id'=>
  simp only[exQ] at p1 p3
  subst p1
  simp only[Exit.inBlock]
  split at p3
  ·rename_i he
   rw[Gl he]
   exact⟨.norm,S',acc',rfl,p2,p3⟩
  ·rename_i he
   rw[Gj he]
   exact⟨.exit id',S',acc',rfl,p2,p3⟩
theorem BR.loop {W L Wv Wa:List Nat} {x:C} {σ:Type} (I:σ→St→List UInt8→Prop) (m:σ→Nat) (s:σ) (h0:I s (S.head W L Wv Wa) acc)
  (hstep:∀s S acc,I s S acc→BR P cx G N tb T e w0 fw x S acc (fun ex S' acc'=>match ex with
   |.norm=>∃s',m s'<m s∧I s' (S'.head W L Wv Wa) acc'
   |ex=>Q ex S' acc')):BR P cx G N tb T e w0 fw (.loop W L Wv Wa x) S acc Q:=fun code a w hok hF=>by
 cases code<;>try (simp[okB] at hok;done)
 rename_i c
 simp only[okB] at hok
 have main:∀(n:Nat) (s:σ) (S:St) (acc:List UInt8) (a:Act) (w:World),m s≤n→I s (S.head W L Wv Wa) acc→FRB cx G N tb T e w0 acc S a w→Head P c (BPost cx G N tb T e w0 Q) a w:=by
  intro n
  induction n with
  |zero=>
   intro s S acc a w hn hI ⟨B,X,b,hF,hr⟩;refine Head.round (wp_mono (hstep s _ acc hI c a w hok ⟨B,X,b,hF.head (fun k b hk=>by simp at hk),hr⟩) fun ex a' w' hp=>?_);obtain⟨x',S',acc',p1,p2,p3⟩:=hp;cases x' with
   |norm=>obtain⟨s',h1,-⟩:=p3;omega
   |ret=>simp only[exQ] at p1 p3;subst p1;exact⟨.ret,S',acc',rfl,p2,p3⟩
   |exit id=>simp only[exQ] at p1 p3;subst p1;exact⟨.exit id,S',acc',rfl,p2,p3⟩
  |succ n ih=>
   intro s S acc a w hn hI ⟨B,X,b,hF,hr⟩;refine Head.round (wp_mono (hstep s _ acc hI c a w hok ⟨B,X,b,hF.head (fun k b hk=>by simp at hk),hr⟩) fun ex a' w' hp=>?_);obtain⟨x',S',acc',p1,p2,p3⟩:=hp;cases x' with
   |norm=>
    simp only[exQ] at p1 p3;subst p1;obtain⟨s',h1,h2⟩:=p3;exact ih s' S' acc' a' w' (by omega) h2 p2
   |ret=>simp only[exQ] at p1 p3;subst p1;exact⟨.ret,S',acc',rfl,p2,p3⟩
   |exit id=>simp only[exQ] at p1 p3;subst p1;exact⟨.exit id,S',acc',rfl,p2,p3⟩
 exact (main (m s) s S acc a w (Gm _) h0 hF).loop
theorem JcP {B X:Nat→Prop} {b:Nat} {S S':St} {a a':Act} {w w':World} {ds:List (Option Nat)} {ev:Nat→V} (hgn:cx.gn≤w0.heap.size) (hX:∀k,BX b w k→X k) (hB:∀k,k<w0.heap.size→B k) (hxb:∀k,X k→B k)
  (hI:Lib.IsBuilderF T e w0.heap.size b (Lib.byteCells acc) w) (hb:Below w0.heap.size w0 w) (hk:Kept B w w') :
  (∀k,BX b w' k→X k)∧Lib.IsBuilderF T e w0.heap.size b (Lib.byteCells acc) w'∧Below w0.heap.size w0 w':=by
 obtain⟨h1,h2⟩:=Jfg hI fun k hx=>hk.block k (hxb k (hX k hx))
 exact⟨fun k hx=>hX k (h2 k hx),h1,hb.trans (hk.below hB)⟩
theorem BR.reg {d:Bool} {ps:List Op} (hκ:KOK P cx (fun _=>none) κ) (hgn:cx.gn≤w0.heap.size) (hw:isW ps=false) (h:Wr κ ps 0 (fun _=>.undef) S (fun S'=>Q .norm S' acc)):BR P cx G N tb T e w0 fw (.region d ps) S acc Q:=fun code a w hok hF=>by
 cases code<;>try (simp[okB] at hok;done)
 rename_i id ops draw;simp only[okB,hw,cond_false,okR,Gg,GH,JaC,GA] at hok;obtain⟨⟨hd,⟨⟨⟨h1,h2⟩,h3⟩,-⟩⟩,h4⟩:=hok;subst hd;obtain⟨B,X,b,hF1,hX,hB,hI,ht,hdf,hsz,hb⟩:=hF;obtain⟨S',hr,hq⟩:=h;have hxb:∀k,X k→B k:=by obtain⟨-,β,α,M,hW,-⟩:=hF1;exact hW.xb
 obtain⟨hlen,-⟩:=J3 h1;have hlen':ps.length=ops.size:=by simpa using hlen.symm
 have hix:runIx κ ps (List.range ps.length) (fun _=>.undef) S=some S':=by
  rw[List.range_eq_range',←Jbo κ ps 0 _ _ (fun j=>by simp)];exact hr
 have hsim:=ops_sim (pin:=none) hκ h1 h2 (Q:=fun ex a' w'=>ex=.normal∧FR cx B X none G [] (fun _=>.undef) S' a'.tmps w'∧a'.defers=[]∧a'.tmps.size=N∧Kept B w w')
  (fun a' w' e' hF' hd' hs' hb'=>⟨rfl,hF'.start,hd',hs',hb'⟩) (List.range ops.size) (fun _=>.undef) S a w hF1.start hdf hsz (Kept.refl _ _) (by rw[←hlen'];exact hix)
 refine _root_.Go.wp_region ?_;have hall:∀(i:Nat) (o:Oper),ops[i]?=some o→o.dst≠some tb:=fun i o ho=>by
  have:=Gs.1 h4 o (by rw[Array.mem_toList_iff];exact Array.mem_of_getElem? ho);simpa using this
 rw[←GI (List.range ops.size)];refine Jat hall _ a w hsim (fun a' w' hq' hk=>?_) (fun ex a' w' hne hq'=>hne hq'.1);obtain⟨-,q1,q2,q3,q4⟩:=hq';obtain⟨r1,r2,r3⟩:=JcP (S:=S) (S':=S') (a:=a) (a':=a') (ds:=[]) (ev:=fun _=>.undef) hgn hX hB hxb hI hb q4;exact⟨.norm,S',acc,rfl,⟨B,X,b,q1,r1,hB,r2,by rw[hk];exact ht,q2,q3,r3⟩,hq⟩
theorem BR.wr {pre:List Op} {d:Nat} {x:Arg} (hκ:KOK P cx (fun _=>none) κ) (hgn:cx.gn≤w0.heap.size) (hC:BldC P fw T e) (hpre:pre.all noW=true)
  (h:Wr κ pre 0 (fun _=>.undef) S (fun S'=>∃s,argv (fun _=>.undef) S'.ρ x=.str s∧acc.length+s.length≤140737488355328∧Q .norm S' (acc++s))) :
  BR P cx G N tb T e w0 fw (.region false (pre++[⟨some d,false,.nilq x,none⟩])) S acc Q:=fun code a w hok hF=>by
 cases code<;>try (simp[okB] at hok;done)
 rename_i id ops draw
 have hw:isW (pre++[⟨some d,false,.nilq x,none⟩])=true:=by simp[isW]
 have hps:psB (pre++[⟨some d,false,.nilq x,none⟩])=pre++[⟨some d,false,.bad,none⟩]:=by
  unfold psB;rw[List.map_append]
  congr 1
  conv=>rhs;rw[←List.map_id pre]
  refine GP fun p hp=>?_;split
  ·rename_i y hy;have:=Gs.1 hpre p hp;simp[noW,hy] at this
  ·rfl
 simp only[okB,hw,cond_true,okW,hps,Gg,GH] at hok
 obtain⟨⟨⟨⟨hd,h1⟩,h2⟩,h4⟩,h5⟩:=hok
 subst hd
 obtain⟨B,X,b,hF1,hX,hB,hI,ht,hdf,hsz,hb⟩:=hF
 obtain⟨S',hr,s,hs,hlen,hq⟩:=h
 have hxb:∀k,X k→B k:=by obtain⟨-,β,α,M,hW,-⟩:=hF1;exact hW.xb
 obtain⟨hl,-⟩:=J3 h1
 have hl':ops.size=pre.length+1:=by simpa using hl
 have hix:runIx κ (pre++[⟨some d,false,.bad,none⟩]) (List.range pre.length) (fun _=>.undef) S=some S':=by
  rw[List.range_eq_range',←Jb1 pre 0 _ _ (fun j hj=>by simp[List.getElem?_append_left hj])];exact hr
 have hsim:=ops_sim (pin:=none) hκ h1 h2 (Q:=fun ex a' w'=>ex=.normal∧FR cx B X none G [] (fun _=>.undef) S' a'.tmps w'∧a'.defers=[]∧a'.tmps.size=N∧Kept B w w')
  (fun a' w' e' hF' hd' hs' hb'=>⟨rfl,hF'.start,hd',hs',hb'⟩) _ (fun _=>.undef) S a w hF1.start hdf hsz (Kept.refl _ _) hix
 refine _root_.Go.wp_region ?_
 have hall:∀(i:Nat) (o:Oper),ops[i]?=some o→o.dst≠some tb:=fun i o ho=>by
  have:=Gs.1 h4 o (by rw[Array.mem_toList_iff];exact Array.mem_of_getElem? ho);simpa using this
 rw[hl',List.range_succ]
 refine Jat hall _ a w hsim (fun a' w' hq' hk=>?_) (fun ex a' w' hne hq'=>hne hq'.1)
 obtain⟨-,q1,q2,q3,q4⟩:=hq'
 obtain⟨r1,r2,r3⟩:=JcP (S:=S) (S':=S') (a:=a) (a':=a') (ds:=[]) (ev:=fun _=>.undef) hgn hX hB hxb hI hb q4
 split at h5<;>try (simp at h5;done)
 rename_i o p ho hp
 simp only[List.getLast?_append,List.getLast?_singleton,Option.some_or,Ga] at hp
 subst hp
 have hoi:ops[pre.length]?=some o:=by
  rw[List.getLast?_eq_getElem?,Array.length_toList,hl',Nat.add_sub_cancel,Array.getElem?_toList] at ho;exact ho
 unfold Jfz at h5
 simp only at h5
 split at h5<;>try (simp at h5;done)
 rename_i d' x' c hdx hkx hop
 simp only[Ga] at hdx
 simp only[K.nilq.injEq] at hkx
 subst hdx;subst hkx
 simp only[Gg,GA,GH,Gz] at h5
 obtain⟨⟨⟨⟨⟨c1,c2⟩,c3⟩,c4⟩,c5⟩,c6⟩:=h5
 split at c1<;>try (simp at c1;done)
 rename_i f hcf
 split at c2<;>try (simp at c2;done)
 rename_i t y hargs
 simp only[Gg,GA] at c1 c2
 obtain⟨rfl,c2⟩:=c2
 have hfr:=q1
 obtain⟨hG,β,α,M,hW,hg,-,-⟩:=q1
 have hy:=J8 (a:=a') (ds:=[]) (e:=fun _=>.undef) hg (fun i d hd=>by simp at hd) c2
 rw[hs] at hy
 obtain⟨t',hy1,hy2⟩:=Jbi (l:=s) (show RelD cx w' (orP X M) (a'.eval y) (.str s) from hy)
 refine Jb6 hoi c4 ?_
 have hrun:(execOp a'.eval o).run P w'=.ok (.enter f (c.args.map a'.eval)) w':=by
  obtain⟨fn,e1,e2,e3⟩:=hC.ent;have hres:(resolve a'.eval c o.type).run P w'=.ok {target:=.fn (.func f) #[],args:=#[]++c.args.map a'.eval} w':=by
   unfold resolve;rw[hcf]
   rfl
  unfold execOp;simp only[hop,Sem.run_bind,hres,Result.andThen,invoke];rw[Jy (by rw[c1];exact hC.ent)];simp
 unfold Oper.wp
 rw[hrun,Oper.upon_enter]
 have hargs2:c.args.map a'.eval=#[.pointer (some ⟨b,0,none⟩),.string t']:=by
  apply Array.ext';rw[Array.toList_map,hargs];simp only[Gv,Gp,hy1];have:a'.eval (.tmp t)=a'.tmps.getD t undef:=rfl;rw[this,hk,ht]
 rw[hargs2,c1]
 have hsl:t'.size=s.length:=by rw[←hy2,size_list]
 refine (hC.ws w0.heap.size b _ t' w' r2 (by rw[Lib.byteCells_length,hsl];exact hlen) r3.size).mono fun en w2 ⟨⟨v,hv⟩,z1,z2,z3,z4⟩=>?_
 subst hv
 simp only
 have hg':cx.G w2:=cx.Gst w' w2 hW.glob.2 fun k hk=>z2.block k (by omega)
 have hbl:=FR.bld (v:=v) hfr (fun k _=>r1 k) z3 z4 hg' (fun k hx=>(Jfh z1 hx).1) (d:=d) (by simpa using c5) o c3
 have hcell:Lib.strCells t'=Lib.byteCells s:=by rw[←hy2];rfl
 refine⟨.norm,S',acc++s,rfl,⟨_,_,b,hbl,fun k hx=>.inr hx,fun k hk=>.inl (hB k hk),?_,?_,?_,?_,r3.trans z2⟩,hq⟩
 ·rw[Lib.byteCells_append,←hcell];exact z1
 ·rw[JbZ (hall _ _ hoi),hk];exact ht
 ·unfold Act.put;cases o.dst<;>exact q2
 ·unfold Act.put;cases o.dst
  ·exact q3
  ·simpa using q3
end
def PreW (κ:Nat→List V→Option V):List C→St→(St→Prop)→Prop
 |[],S,Q=>Q S
 |x::l,S,Q=>Wp κ x S (fun ex S'=>ex=.norm∧PreW κ l S' Q)
structure BldS (P:Program) (fs:Nat) (T e:TypeId):Prop where
 ent:Ent P fs
 st:∀(B b:Nat) (l:List UInt8) (w:World),Lib.IsBuilderF T e B b (Lib.byteCells l) w→B≤w.heap.size→
  Calls P fs #[.pointer (some ⟨b,0,none⟩)] w fun e' w'=>e'=.returned (.string ⟨l.toArray⟩)∧Below B w w'
section
variable (P:Program) (cx:Cx) (G:List Nat) (N tb fw fs r:Nat) (T:TypeId)
def JdT (ops:Array Oper):Bool:=match ops.toList with
 |[o]=>(match o.op with|.alloc t=>t == T|_=>false)&&o.dst == some tb&&o.guard == none
 |_=>false
def JdR (ops:Array Oper):Bool:=match ops.toList with
 |[o,q]=>(match o.op with|.call c=>(match c.callee with|.value (.func f)=>f == fs|_=>false)&&(match c.args.toList with|[.tmp t]=>t == tb|_=>false)|_=>false)&&o.guard == none &&
   (match o.dst,q.op with|some d,.assign (.tmp d')=>d == d'&&decide (d<N)|_,_=>false)&&q.dst == some r&&q.guard == none&&decide (r<N)
 |_=>false
def okFn (c1:C):List C→Code→Bool
 |x::l,.seq a b=>okC P cx (fun _=>none) G N a x&&okFn c1 l b
 |[],.seq (.region _ ops false) (.seq body (.seq (.region _ ops2 false) .ret))=>JdT tb T ops&&okB P cx G N tb fw body c1&&JdR N tb fs r ops2
 |_,_=>false
end
section
variable {P:Program} {cx:Cx} {G:List Nat} {N tb fw fs r:Nat} {T e:TypeId} {w0:World} {κ:Nat→List V→Option V} {S:St}
theorem JeJ {a:Act} {w:World} {o:Oper} {c:Call} {f:FuncId} (hop:o.op=.call c) (hcf:c.callee=.value (.func f)) (hE:Ent P f):(execOp a.eval o).run P w=.ok (.enter f (c.args.map a.eval)) w:=by
 have hres:(resolve a.eval c o.type).run P w=.ok {target:=.fn (.func f) #[],args:=#[]++c.args.map a.eval} w:=by
  unfold resolve;rw[hcf]
  rfl
 unfold execOp;simp only[hop,Sem.run_bind,hres,Result.andThen,invoke];rw[Jy hE];simp
theorem JeG {c1:C} {out:List UInt8} {fn:Func} (hκ:KOK P cx (fun _=>none) κ) (hm:P.follows .mixedOrders=true) (hC:BldC P fw T e) (hS:BldS P fs T e) (hN:fn.ntmps=N) (hres:fn.results=#[.tmp r])
  (hz:∀w:World,∃v,(zeroValue T).run P w=.ok v w∧v.cells=#[.pointer none,.slice none 0 0]) (htb:tb∉G) (htn:tb<N) (hTe:T≠e) (hgn:cx.gn≤w0.heap.size) :
  ∀(cs:List C) (code:Code) (S:St) (B:Nat→Prop) (a:Act) (w:World),okFn P cx G N tb fw fs r T c1 cs code=true→FR cx B (fun _=>False) none G [] (fun _=>.undef) S a.tmps w→(∀k,k<w0.heap.size→B k)→
   a.defers=[]→a.tmps.size=N→Below w0.heap.size w0 w→PreW κ cs S (fun S1=>BR P cx G N tb T e w0 fw c1 S1 [] (fun ex _ acc=>ex=.norm∧acc=out))→
   code.wp P (bodyPost P fn (fun e' w'=>e'=.returned (.string ⟨out.toArray⟩)∧Below w0.heap.size w0 w')) a w
 |x::l,code,S,B,a,w,hok,hF,hB,hd,hs,hb,hp=>by
  cases code<;>try (simp[okFn] at hok;done)
  rename_i c2 c3;simp only[okFn,Gg] at hok;obtain⟨m,ex,S',hex,hex',hp'⟩:=hp;subst hex';refine _root_.Go.wp_seq (wp_mono ((JbL (pin:=none) hm hκ m).1 c2 x S S' .norm a w hok.1 (fun k b hk=>by simp at hk) hex hF hd hs) fun e' a' w' hq=>?_);obtain⟨p1,p2,p3,p4,p5⟩:=hq;simp only at p1;subst p1;exact JeG hκ hm hC hS hN hres hz htb htn hTe hgn l c3 S' B a' w' hok.2 p2 hB p3 p4 (hb.trans (p5.below hB)) hp'
 |[],code,S,B,a,w,hok,hF,hB,hd,hs,hb,hp=>by
  unfold okFn at hok;split at hok<;>try (simp at hok;done)
  ·rename_i h;cases h
  rename_i id ops body id2 ops2 _;simp only[Gg] at hok;obtain⟨⟨k1,k2⟩,k3⟩:=hok;unfold JdT at k1;split at k1<;>try (simp at k1;done)
  rename_i o ho;simp only[Gg,GA] at k1;obtain⟨⟨k1,k4⟩,k5⟩:=k1;split at k1<;>try (simp at k1;done)
  rename_i t hop;obtain rfl:t=T:=by simpa using k1
  have ho0:ops[0]?=some o:=by rw[←Array.getElem?_toList,ho];rfl
  have hsz:ops.size=1:=by rw[←Array.length_toList,ho];rfl
  refine _root_.Go.wp_seq (_root_.Go.wp_region ?_);rw[hsz];refine Jb6 ho0 k5 ?_;obtain⟨v,hv,hvc⟩:=hz w;have hrun:(execOp a.eval o).run P w=.ok (.value (.pointer (some ⟨w.heap.size,0,none⟩))) (w.alloc (.cells #[.pointer none,.slice none 0 0] t)):=by
   simp[execOp,hop,Instr.alloc,hv,newVar,newRow,Result.andThen,hvc]
  unfold Oper.wp;rw[hrun,Oper.upon_value]
  -- the builder,new
  have hnew:Lib.IsBuilderF t e w0.heap.size w.heap.size (Lib.byteCells []) (w.alloc (.cells #[.pointer none,.slice none 0 0] t)):=by
   refine .inl ⟨hb.size,.slice none 0 0,heap_alloc_new w _,⟨rfl,.inl ⟨rfl,rfl⟩⟩,by simp[Value.ownBlock]⟩
  have hxb:∀k,BX w.heap.size (w.alloc (.cells #[.pointer none,.slice none 0 0] t)) k→k=w.heap.size:=fun k hk=>by
   rcases hk with rfl|⟨u,hu,hub⟩
   ·rfl
   ·have hh:(w.alloc (.cells #[.pointer none,.slice none 0 0] t)).heap[w.heap.size]?=some (.cells #[.pointer none,.slice none 0 0] t):=heap_alloc_new w _;simp only[World.cell?,hh] at hu;simp at hu;subst hu;simp[Value.ownBlock] at hub
  have hk:BKp w.heap.size w (w.alloc (.cells #[.pointer none,.slice none 0 0] t)):=fun k hk hx=>by
   refine⟨heap_alloc_old w _ hk,fun h=>?_⟩;have:=hxb k h;omega
  have hbel:=hb.alloc hb.size (.cells #[.pointer none,.slice none 0 0] t);have hfr:=hF;obtain⟨hG,β,α,M,hW,-⟩:=hF;have hg':cx.G (w.alloc (.cells #[.pointer none,.slice none 0 0] t)):=cx.Gst w _ hW.glob.2 fun k hk=>heap_alloc_old w _ (by have:=hb.size;omega);have hbl:=FR.bld (v:=.pointer (some ⟨w.heap.size,0,none⟩)) (d:=tb) hfr (fun k hk hx=>by
   rcases hx with e1|⟨u,hu,_⟩
   ·omega
   ·have:w.heap[w.heap.size]?=none:=Array.getElem?_eq_none (Gm _);simp[World.cell?,this] at hu) hk (by simp) hg' (fun k hx=>(Jfh hnew hx).1) htb o k4
  have hput:(a.put o.dst (.pointer (some ⟨w.heap.size,0,none⟩))).tmps=a.tmps.setIfInBounds tb (.pointer (some ⟨w.heap.size,0,none⟩)):=by rw[k4];rfl
  have hFB:FRB cx G N tb t e w0 [] S (a.put o.dst (.pointer (some ⟨w.heap.size,0,none⟩))) (w.alloc (.cells #[.pointer none,.slice none 0 0] t)):=
   ⟨_,_,w.heap.size,hbl,fun k hx=>.inr hx,fun k hk=>.inl (hB k hk),hnew,by rw[hput,JaB (by omega),Gl rfl],by unfold Act.put;cases o.dst<;>exact hd,by rw[hput];simpa using hs,hbel⟩
  have hbr:BR P cx G N tb t e w0 fw c1 S [] (fun ex _ acc=>ex=.norm∧acc=out):=hp;refine _root_.Go.wp_seq (wp_mono (hbr body _ _ k2 hFB) fun ex a' w' hq=>?_);obtain⟨x,S',acc',q1,⟨B',X',b,hF',hX',hB',hI',ht',hd',hs',hb'⟩,rfl,rfl⟩:=hq;simp only[exQ] at q1;subst q1
  -- its text
  unfold JdR at k3;split at k3<;>try (simp at k3;done)
  rename_i o1 o2 ho2;simp only[Gg,GA,Gz] at k3;obtain⟨⟨⟨⟨⟨j1,j2⟩,j3⟩,j4⟩,j5⟩,j6⟩:=k3;split at j1<;>try (simp at j1;done)
  rename_i c hop1;simp only[Gg] at j1;obtain⟨j1,j7⟩:=j1;split at j1<;>try (simp at j1;done)
  rename_i f hcf;split at j7<;>try (simp at j7;done)
  rename_i tt hargs;simp only[GA] at j1 j7;subst j1;subst j7;split at j3<;>try (simp at j3;done)
  rename_i d d' hdst hop2;simp only[Gg,GA,Gz] at j3;obtain⟨rfl,j3⟩:=j3;have h0:ops2[0]?=some o1:=by rw[←Array.getElem?_toList,ho2];rfl
  have h1:ops2[1]?=some o2:=by rw[←Array.getElem?_toList,ho2];rfl
  have hsz2:ops2.size=2:=by rw[←Array.length_toList,ho2];rfl
  refine _root_.Go.wp_seq (_root_.Go.wp_region ?_);rw[hsz2]
  show wpOps P ops2 _ [0,1] a' w'
  simp only[wpOps,h0,h1,Region.wanted,j2,j5,Gx];refine .inl ?_;have hrun2:=JeJ (a:=a') (w:=w') hop1 hcf hS.ent;unfold Oper.wp;rw[hrun2,Oper.upon_enter];have hargs2:c.args.map a'.eval=#[.pointer (some ⟨b,0,none⟩)]:=by
   apply Array.ext';rw[Array.toList_map,hargs];simp only[Gv,Gp];have:a'.eval (.tmp tt)=a'.tmps.getD tt undef:=rfl;rw[this,ht']
  rw[hargs2];refine (hS.st w0.heap.size b acc' w' hI' hb'.size).mono fun en w2 ⟨hen,hb2⟩=>?_;subst hen;simp only;refine .inl ?_;have hrun3:(execOp (a'.put o1.dst (.string ⟨acc'.toArray⟩)).eval o2).run P w2=.ok (.value (.string ⟨acc'.toArray⟩)) w2:=by
   have:(a'.put o1.dst (.string ⟨acc'.toArray⟩)).eval (.tmp d)=.string ⟨acc'.toArray⟩:=by
    show ((a'.put o1.dst (.string ⟨acc'.toArray⟩)).tmps.getD d undef)=_
    rw[hdst]
    show ((a'.tmps.setIfInBounds d (.string ⟨acc'.toArray⟩)).getD d undef)=_
    rw[JaB (show d<a'.tmps.size from hs'▸j3),Gl rfl]
   simp[execOp,hop2,this]
  rw[hrun3,Oper.upon_value];refine _root_.Go.wp_ret ⟨?_,_,JaE (us:=[.string ⟨acc'.toArray⟩]) ?_,?_⟩
  ·unfold Act.put;rw[hdst,j4];exact hd'
  ·rw[hres];simp only[List.mapM_cons,List.mapM_nil];have:((a'.put o1.dst (.string ⟨acc'.toArray⟩)).put o2.dst (.string ⟨acc'.toArray⟩)).tmps.getD r undef=.string ⟨acc'.toArray⟩:=by
    rw[j4]
    show (((a'.put o1.dst (.string ⟨acc'.toArray⟩)).tmps.setIfInBounds r (.string ⟨acc'.toArray⟩)).getD r undef)=_
    rw[JaB,Gl rfl];rw[hdst]
    show r<(a'.tmps.setIfInBounds d _).size
    simp;omega
   rw[this]
   rfl
  ·exact⟨rfl,hb'.trans hb2⟩
end
end Sg
namespace Sg
section
variable {S:St}
theorem Jdy {Wa:List Nat} {cs:List V} (hd:cs.all V.datC=true):cs.map (JA Wa)=cs:=by
 rw[Gs] at hd
 conv=>rhs;rw[←List.map_id cs]
 refine GP fun y hy=>?_;have:=hd y hy;cases y<;>simp_all [JA,V.datC]
end
end Sg
