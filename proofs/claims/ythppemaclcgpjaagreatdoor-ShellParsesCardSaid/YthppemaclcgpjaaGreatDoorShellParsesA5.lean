/- ShellParses, at every input: proved over a checked abstract run of the translated code; no condition. A part. -/
import Derived.Lib.SplitLaws
import Derived.Lib.CountLaws
import Derived.Lib.CutLaws
import Derived.Lib.IndexBytes
import Derived.Shelf.LaysC
import Derived.Shelf.Vars
import Derived.Shelf.Strconv.AtoiAll
import Derived.Shelf.Strconv.Itoa3
import Derived.Shelf.Strings.Split
import Derived.Shelf.Strings.Prefix
import Derived.Shelf.Small.Strs
import Derived.Lib.AppendIntMem
import Derived.Test.YthppemaclcgpjaaGreatDoorChecked
import Derived.BigGuard
import Derived.StillTailTactics
import Derived.Laws.DeepStrings4
import Derived.Lib.MapLaws
import Derived.Lib.ConvBytes
import Derived.Shelf.RegionOpenPlain
import Derived.KernelRfl
import Derived.Test.YthppemaclcgpjaaGreatDoorShellParsesA4
set_option linter.unusedSimpArgs false
set_option linter.unusedVariables false
set_option linter.constructorNameAsVariable false
set_option linter.defProp false
set_option maxRecDepth 1000000
set_option maxHeartbeats 8000000
namespace Sg
open _root_.Go (IntKind BinOp UnOp)
variable {Pg:PgT}
structure PS where
 n:List Int
 t:List (List UInt8)
 at_:Int×Int×Int
def ps0:PS:=⟨[0,0,0,0,0,0],[[],[],[],[],[],[]],(0,0,0)⟩
def pst (arm:Bool) (i:Nat) (c:UInt8) (x:List UInt8) (s:PS):Option PS:=
 if c=78 then (if (arm&&(decide (i=2)&&decide (x=[45,49])))||nnQ x then some {s with n:=s.n.set i (numB x)} else none)
 else if c=84 then (rdW x).map fun y=>{s with t:=s.t.set i y}
 else if c=83 then (stD x).map fun a=>{s with at_:=a}
 else some s
def YE (arm:Bool):Nat→List UInt8→List (List UInt8)→PS→Option PS
 |i,c::f,x::l,s=>(pst arm i c x s).bind (YE arm (i+1) f l)
 |_,_,_,s=>some s
def Y6 (i:Nat) (s:PS):Stp:=
 let n1:=s.n.getD 1 0
 let t2:=s.t.getD 2 []
 let t3:=s.t.getD 3 []
 match i with
 |0=>{Yc with kind:=1,who:=n1,rk:=1,key:=t2,val:=t3}
 |1=>{Yc with kind:=1,who:=n1,rk:=3,key:=t2,val:=t3}
 |2=>{Yc with kind:=1,who:=n1,rk:=2,key:=t2}
 |3=>{Yc with kind:=1,who:=n1,rk:=4,key:=t2}
 |4=>{Yc with kind:=1,who:=n1,rk:=3,key:=t2,had:=true,old:=t3,val:=s.t.getD 4 []}
 |5=>{Yc with kind:=1,who:=n1,rk:=5,key:=t2,at_:=s.at_}
 |6=>{Yc with kind:=1,who:=n1,rk:=6,key:=t2,hi:=t3,at_:=s.at_,limit:=s.n.getD 5 0}
 |7=>{Yc with kind:=2,who:=n1,key:=t2,hi:=t3}
 |8=>{Yc with kind:=3,who:=n1,nn:=s.n.getD 2 0,key:=t2}
 |i=>othN i n1 (s.n.getD 2 0) t2
def Yv (line:List UInt8):Option Stp:=match splt 32 line with
 |[]=>none
 |w::ls=>if wn w=20 then (if ls=[] then some {Yc with kind:=13} else none)
  else if wn w=21 then (if ls=[] then some {Yc with kind:=12,ck:=6} else none)
  else if wn w=22 then viewD (w::ls)
  else if formN (wn w)=[]∨ls.length≠(formN (wn w)).length then none
  else (YE (decide (wn w=10)) 1 (formN (wn w)) ls ps0).map (Y6 (wn w))
def eN (n:List Int):List V:=n.map fun x=>iz x
def eT (n:List (List UInt8)):List V:=n.map fun x=>.str x
theorem Ydo {n:List Int} {i:Nat} {v:Int}:JG (eN n) (i*1) [.int .i64 v]=if i<n.length then some (eN (n.set i v)) else none:=by
 unfold JG eN;rw[Nat.mul_one];by_cases h:i<n.length
 ·rw[Gl h,Gl (by simp;omega),List.map_set,List.set_eq_take_append_cons_drop,Gl (by simpa using h)];rfl
 ·rw[Gj h,Gj (by simp;omega)]
theorem Ydp {n:List (List UInt8)} {i:Nat} {v:List UInt8}:JG (eT n) (i*1) [.str v]=if i<n.length then some (eT (n.set i v)) else none:=by
 unfold JG eT;rw[Nat.mul_one];by_cases h:i<n.length
 ·rw[Gl h,Gl (by simp;omega),List.map_set,List.set_eq_take_append_cons_drop,Gl (by simpa using h)];rfl
 ·rw[Gj h,Gj (by simp;omega)]
theorem Yd0 {S:St} {s i:Nat} {n:List Int} {v:Int}:stV S s (i*1) [.int .i64 v] (some (eN n,false))=if i<n.length then some ⟨S.ρ,upd S.μ s (some (eN (n.set i v),false)),S.A⟩ else none:=by
 rw[Jl0,Ydo];split<;>rfl
theorem Yd1 {S:St} {s i:Nat} {n:List (List UInt8)} {v:List UInt8}:stV S s (i*1) [.str v] (some (eT n,false))=if i<n.length then some ⟨S.ρ,upd S.μ s (some (eT (n.set i v),false)),S.A⟩ else none:=by
 rw[Jl0,Ydp];split<;>rfl
attribute [go_sem high] Yd0 Yd1
theorem Ydn {n:List Int} {i:Nat} {v:Int} (h:i<n.length):(eN (n.set i v))[i*1]?=some (iz v):=by
 rw[Nat.mul_one];simp[eN,h]
def eA (a:Int×Int×Int):List V:=[iz a.1,iz a.2.1,iz a.2.2]
structure LnI (w:List UInt8) (ws:List (List UInt8)) (f:List UInt8) (s:PS) (S:St):Prop where
 r2:S.ρ 2=.lref 2 0
 m2:S.μ 2=some (Yh Yc,false)
 r4:S.ρ 4=.lref 4 0
 m4:S.μ 4=some (Yh Yc,false)
 r5:S.ρ 5=.slice 1 (Yi ws)
 r6:S.ρ 6=.str w
 r8:S.ρ 8=.str f
 r9:S.ρ 9=.lref 9 0
 r10:S.ρ 10=.lref 10 0
 r11:S.ρ 11=.lref 11 0
 m9:S.μ 9=some (eN s.n,false)
 m10:S.μ 10=some (eT s.t,false)
 m11:S.μ 11=some (eA s.at_,false)
 m14:S.μ 14=none
 m15:S.μ 15=none
def H6460 (Pg:PgT):Prop:=H657 Pg∧H658 Pg∧H659 Pg
theorem loop646 (h:H6460 Pg) {w:List UInt8} {ws:List (List UInt8)} {f:List UInt8} {arm:Bool} (harm:decide (wn w=10)=arm) {S:St} {Q:Ex→St→Prop} (hl:ws.length=f.length+1) (hf:f.length≤5) (hw:∀x∈ws,x.length≤2 ^ 20)
  (hI:LnI w ws f ps0 S) (r12:S.ρ 12=iz 1)
  (hQ1:∀s,YE arm 1 f (ws.drop 1) ps0=some s→s.n.length=6→s.t.length=6→∀S',LnI w ws f s S'→Q (.exit 0) S')
  (hQ2:YE arm 1 f (ws.drop 1) ps0=none→∀S',S'.ρ 2=.lref 2 0→S'.μ 2=some (Yh Yc,false)→S'.ρ 3=.bool false→Q .ret S'):Wp (K' Pg) l646_0 S Q:=by
 obtain⟨h657,h658,h659⟩:=h
 unfold l646_0
 refine JmD (fun (i:Nat) S=>1≤i∧i≤ws.length∧∃s,s.n.length=6∧s.t.length=6∧YE arm i (f.drop (i-1)) (ws.drop i) s=YE arm 1 f (ws.drop 1) ps0∧LnI w ws f s S∧S.ρ 12=iz i) (fun i=>ws.length-i) 1 ?_ ?_
 ·obtain⟨r2,m2,r4,m4,r5,r6,r8,r9,r10,r11,m9,m10,m11,m14,m15⟩:=hI
  refine⟨Gm _,by omega,ps0,rfl,rfl,rfl,⟨?_,?_,?_,?_,?_,?_,?_,?_,?_,?_,?_,?_,?_,?_,?_⟩,?_⟩<;>simp[go_sem,r2,m2,r4,m4,r5,r6,r8,r9,r10,r11,m9,m10,m11,m14,m15,r12,Yh]
 ·intro i S ⟨hi1,hi,s,hn,ht,hp,⟨r2,m2,r4,m4,r5,r6,r8,r9,r10,r11,m9,m10,m11,m14,m15⟩,r12⟩
  simp only[Yi] at r5
  cases c1:decide ((i:Int)<(ws.length:Int)) with
  |false=>
   have e:i=ws.length:=by have:=Gc c1;omega
   rw[List.drop_eq_nil_of_le (show f.length≤i-1 by omega)] at hp
   have hp:some s=YE arm 1 f (ws.drop 1) ps0:=by rw[←hp];unfold YE;rfl
   simp only[b646_0,go_sem,r12,r5,c1,Gi]
   exact hQ1 s hp.symm hn ht _ ⟨by simp[go_sem,r2],by simp[go_sem,m2],by simp[go_sem,r4],by simp[go_sem,m4],by simp[go_sem,r5,Yi],by simp[go_sem,r6],by simp[go_sem,r8],by simp[go_sem,r9],by simp[go_sem,r10],by simp[go_sem,r11],by simp[go_sem,m9],by simp[go_sem,m10],by simp[go_sem,m11],by simp[go_sem,m14],by simp[go_sem,m15]⟩
  |true=>
   have hlt:i<ws.length:=by have:=Ge c1;omega
   obtain⟨x,hx⟩:∃x,ws[i]?=some x:=⟨ws[i]'hlt,List.getElem?_eq_getElem _⟩
   have hxl:=hw x (List.mem_of_getElem? hx)
   obtain⟨c,hc⟩:∃c,f[i-1]?=some c:=⟨f[i-1]'(by omega),List.getElem?_eq_getElem _⟩
   have hd1:f.drop (i-1)=c::f.drop i:=by
    rw[GR (by omega),show i-1+1=i by omega]
    congr 1
    rw[List.getElem?_eq_getElem (by omega)] at hc;exact Option.some.inj hc
   have hd2:ws.drop i=x::ws.drop (i+1):=by
    rw[GR hlt]
    congr 1
    rw[List.getElem?_eq_getElem hlt] at hx;exact Option.some.inj hx
   rw[hd1,hd2,YE] at hp
   have w1:IntKind.i64.wrap ((i:Int)-1)=((i-1:Nat):Int):=by rw[JmB (by omega) (by omega)];omega
   have hinc:=inc64q (i:=i) (by omega)
   have i6:(i<6)=True:=eq_true (by omega)
   have kn:=K657 h657 x
   have kt:=K658 h658 x (by omega)
   have ks:=K659 h659 x hxl
   have i6n:(i<s.n.length)=True:=eq_true (by omega)
   have i6t:(i<s.t.length)=True:=eq_true (by omega)
   have hg:=Ydn (n:=s.n) (i:=i) (v:=numB x) (by omega)
   have fin:∀s',pst arm i c x s=some s'→s'.n.length=6→s'.t.length=6→∀S',LnI w ws f s' S'→S'.ρ 12=iz ((i+1:Nat):Int)→
     ∃i',ws.length-i'<ws.length-i∧(1≤i'∧i'≤ws.length∧∃s,s.n.length=6∧s.t.length=6∧YE arm i' (f.drop (i'-1)) (ws.drop i') s=YE arm 1 f (ws.drop 1) ps0∧LnI w ws f s S'∧S'.ρ 12=iz (i':Int)):=
    fun s' e1 e2 e3 S' e4 e5=>by
     rw[e1] at hp;exact⟨i+1,by omega,by omega,hlt,s',e2,e3,hp,e4,e5⟩
   have bad:pst arm i c x s=none→∀S',S'.ρ 2=.lref 2 0→S'.μ 2=some (Yh Yc,false)→S'.ρ 3=.bool false→Q .ret S':=fun e=>by
    rw[e] at hp;exact hQ2 hp.symm
   clear hp hd1 hd2
   simp only[Yh,Yc,eI1,Gp] at m2 m4
   cases c2:decide ((c.toNat:Int)=78) with
   |true=>
    have ec:c=78:=UInt8.toNat_inj.1 (by have:=Ge c2;show c.toNat=78;omega)
    have ep:pst arm i c x s=if (arm&&(decide (i=2)&&decide (x=[45,49])))||nnQ x then some {s with n:=s.n.set i (numB x)} else none:=by unfold pst;rw[Gl ec]
    have num:(arm&&(decide (i=2)&&decide (x=[45,49])))=false→Wp (K' Pg) b646_0 S (LQ (fun (i:Nat) S=>1≤i∧i≤ws.length∧∃s,s.n.length=6∧s.t.length=6∧YE arm i (f.drop (i-1)) (ws.drop i) s=YE arm 1 f (ws.drop 1) ps0∧LnI w ws f s S∧S.ρ 12=iz i) (fun i=>ws.length-i) i [] [] [] [] Q):=fun hq=>by
     rw[hq,Bool.false_or] at ep;have h3:arm=false∨(arm=true∧decide ((i:Int)=2)=false)∨(arm=true∧decide ((i:Int)=2)=true∧decide (x=[45,49])=false):=by
      cases arm
      ·exact .inl rfl
      ·cases c4:decide ((i:Int)=2) with
       |false=>exact .inr (.inl ⟨rfl,rfl⟩)
       |true=>
        rw[GN (show i=2 by have:=Ge c4;omega)] at hq;exact .inr (.inr ⟨rfl,rfl,by simpa using hq⟩)
     cases c6:decide (0≤numB x) with
     |true=>
      rw[show nnQ x=true from c6,Gl rfl] at ep;rcases h3 with c3|⟨c3,c4⟩|⟨c3,c4,c5⟩
      ·subst c3;simp only[b646_0,go_sem,r2,r4,r5,r6,r8,r9,r10,r11,r12,m2,m4,m9,m10,m11,c1,hx,hc,w1,c2,Gi,i6,hinc,kn,i6n,harm,hg,c6];refine fin _ ep (by simp[hn]) ht _ ⟨?_,?_,?_,?_,?_,?_,?_,?_,?_,?_,?_,?_,?_,?_,?_⟩ ?_<;>simp[go_sem,r2,m2,r4,m4,r5,r6,r8,r9,r10,r11,m9,m10,m11,m14,m15,r12,Yh,Yi,eA,YU,Yc,eI1]
      ·subst c3;simp only[b646_0,go_sem,r2,r4,r5,r6,r8,r9,r10,r11,r12,m2,m4,m9,m10,m11,c1,hx,hc,w1,c2,Gi,i6,hinc,kn,i6n,harm,hg,c6,c4];refine fin _ ep (by simp[hn]) ht _ ⟨?_,?_,?_,?_,?_,?_,?_,?_,?_,?_,?_,?_,?_,?_,?_⟩ ?_<;>simp[go_sem,r2,m2,r4,m4,r5,r6,r8,r9,r10,r11,m9,m10,m11,m14,m15,r12,Yh,Yi,eA,YU,Yc,eI1]
      ·subst c3;simp only[b646_0,go_sem,r2,r4,r5,r6,r8,r9,r10,r11,r12,m2,m4,m9,m10,m11,c1,hx,hc,w1,c2,Gi,i6,hinc,kn,i6n,harm,hg,c6,c4,c5];refine fin _ ep (by simp[hn]) ht _ ⟨?_,?_,?_,?_,?_,?_,?_,?_,?_,?_,?_,?_,?_,?_,?_⟩ ?_<;>simp[go_sem,r2,m2,r4,m4,r5,r6,r8,r9,r10,r11,m9,m10,m11,m14,m15,r12,Yh,Yi,eA,YU,Yc,eI1]
     |false=>
      rw[show nnQ x=false from c6] at ep;rcases h3 with c3|⟨c3,c4⟩|⟨c3,c4,c5⟩
      ·subst c3;simp only[b646_0,go_sem,r2,r4,r5,r6,r8,r9,r10,r11,r12,m2,m4,m9,m10,m11,c1,hx,hc,w1,c2,Gi,i6,hinc,kn,i6n,harm,hg,c6];exact bad (ep.trans (by simp)) _ (by simp[go_sem,r2]) (by simp[go_sem,Yh,Yc,eI1]) (by simp[go_sem])
      ·subst c3;simp only[b646_0,go_sem,r2,r4,r5,r6,r8,r9,r10,r11,r12,m2,m4,m9,m10,m11,c1,hx,hc,w1,c2,Gi,i6,hinc,kn,i6n,harm,hg,c6,c4];exact bad (ep.trans (by simp)) _ (by simp[go_sem,r2]) (by simp[go_sem,Yh,Yc,eI1]) (by simp[go_sem])
      ·subst c3;simp only[b646_0,go_sem,r2,r4,r5,r6,r8,r9,r10,r11,r12,m2,m4,m9,m10,m11,c1,hx,hc,w1,c2,Gi,i6,hinc,kn,i6n,harm,hg,c6,c4,c5];exact bad (ep.trans (by simp)) _ (by simp[go_sem,r2]) (by simp[go_sem,Yh,Yc,eI1]) (by simp[go_sem])
    cases c3:(arm&&(decide (i=2)&&decide (x=[45,49]))) with
    |false=>exact num c3
    |true=>
     clear num
     rw[c3,Bool.true_or,Gl rfl] at ep
     simp only[Gg] at c3
     obtain⟨c3,c4,c5⟩:=c3
     have c4:decide ((i:Int)=2)=true:=GN (by have:=Ge c4;omega)
     subst c3
     simp only[b646_0,go_sem,r2,r4,r5,r6,r8,r9,r10,r11,r12,m2,m4,m9,m10,m11,c1,hx,hc,w1,c2,Gi,i6,hinc,kn,i6n,harm,hg,c4,c5]
     refine fin _ ep (by simp[hn]) ht _ ⟨?_,?_,?_,?_,?_,?_,?_,?_,?_,?_,?_,?_,?_,?_,?_⟩ ?_<;>simp[go_sem,r2,m2,r4,m4,r5,r6,r8,r9,r10,r11,m9,m10,m11,m14,m15,r12,Yh,Yi,eA,YU,Yc,eI1]
   |false=>
   have n78:c≠78:=by intro e;subst e;exact Gc c2 rfl
   cases c7:decide ((c.toNat:Int)=84) with
   |true=>
    have ec:c=84:=UInt8.toNat_inj.1 (by have:=Ge c7;show c.toNat=84;omega)
    have ep:pst arm i c x s=(rdW x).map fun y=>{s with t:=s.t.set i y}:=by unfold pst;rw[Gj n78,Gl ec]
    cases hr:rdW x with
    |none=>
     rw[hr] at ep kt
     simp only[eRw,Option.getD_none,Option.isSome_none] at kt
     simp only[b646_0,go_sem,r2,r4,r5,r6,r8,r9,r10,r11,r12,m2,m4,m9,m10,m11,c1,hx,hc,w1,c2,Gi,i6,hinc,c7,kt,i6t]
     exact bad (ep.trans (by simp)) _ (by simp[go_sem,r2]) (by simp[go_sem,Yh,Yc,eI1]) (by simp[go_sem])
    |some y=>
     rw[hr] at ep kt
     simp only[eRw,Option.getD_some,Option.isSome_some] at kt
     simp only[b646_0,go_sem,r2,r4,r5,r6,r8,r9,r10,r11,r12,m2,m4,m9,m10,m11,c1,hx,hc,w1,c2,Gi,i6,hinc,c7,kt,i6t]
     refine fin _ ep hn (by simp[ht]) _ ⟨?_,?_,?_,?_,?_,?_,?_,?_,?_,?_,?_,?_,?_,?_,?_⟩ ?_<;>simp[go_sem,r2,m2,r4,m4,r5,r6,r8,r9,r10,r11,m9,m10,m11,m14,m15,r12,Yh,Yi,eA,YU,Yc,eI1]
   |false=>
   have n84:c≠84:=by intro e;subst e;exact Gc c7 rfl
   cases c8:decide ((c.toNat:Int)=83) with
   |true=>
    have ec:c=83:=UInt8.toNat_inj.1 (by have:=Ge c8;show c.toNat=83;omega)
    have ep:pst arm i c x s=(stD x).map fun a=>{s with at_:=a}:=by unfold pst;rw[Gj n78,Gj n84,Gl ec]
    simp only[eA] at m11
    cases hr:stD x with
    |none=>
     rw[hr] at ep ks
     simp only[YbZ,YU,Option.isSome_none] at ks
     simp only[b646_0,go_sem,r2,r4,r5,r6,r8,r9,r10,r11,r12,m2,m4,m9,m10,m11,c1,hx,hc,w1,c2,Gi,i6,hinc,c7,c8,ks]
     exact bad (ep.trans (by simp)) _ (by simp[go_sem,r2]) (by simp[go_sem,Yh,Yc,eI1]) (by simp[go_sem])
    |some a=>
     rw[hr] at ep ks
     simp only[YbZ,YU,Option.isSome_some] at ks
     simp only[b646_0,go_sem,r2,r4,r5,r6,r8,r9,r10,r11,r12,m2,m4,m9,m10,m11,c1,hx,hc,w1,c2,Gi,i6,hinc,c7,c8,ks]
     refine fin _ ep hn ht _ ⟨?_,?_,?_,?_,?_,?_,?_,?_,?_,?_,?_,?_,?_,?_,?_⟩ ?_<;>simp[go_sem,r2,m2,r4,m4,r5,r6,r8,r9,r10,r11,m9,m10,m11,m14,m15,r12,Yh,Yi,eA,YU,Yc,eI1]
   |false=>
    have n83:c≠83:=by intro e;subst e;exact Gc c8 rfl
    have ep:pst arm i c x s=some s:=by unfold pst;rw[Gj n78,Gj n84,Gj n83]
    simp only[b646_0,go_sem,r2,r4,r5,r6,r8,r9,r10,r11,r12,m2,m4,m9,m10,m11,c1,hx,hc,w1,c2,Gi,i6,hinc,c7,c8]
    refine fin _ ep hn ht _ ⟨?_,?_,?_,?_,?_,?_,?_,?_,?_,?_,?_,?_,?_,?_,?_⟩ ?_<;>simp[go_sem,r2,m2,r4,m4,r5,r6,r8,r9,r10,r11,m9,m10,m11,m14,m15,r12,Yh,Yi,eA,YU,Yc,eI1]
theorem YcN (n:Nat):(formN n).length≤5:=by
 unfold formN;split<;>decide
theorem YaQ (c:UInt8):∀l,(∀x∈splt c l,x.length≤l.length)∧(splt c l).length≤l.length+1
 |[]=>by simp[splt]
 |b::l=>by
  obtain⟨h1,h2⟩:=YaQ c l;unfold splt;split
  ·refine⟨fun x hx=>?_,by simpa using h2⟩;rcases GM.1 hx with rfl|hx
   ·simp
   ·have:=h1 x hx;simp;omega
  ·split
   ·rename_i y r hs;rw[hs] at h1 h2;refine⟨fun x hx=>?_,by simp at h2 ⊢;omega⟩;rcases GM.1 hx with rfl|hx
    ·have:=h1 y (GZ ..);simp;omega
    ·have:=h1 x (GF _ hx);simp;omega
   ·exact⟨fun x hx=>by simp at hx;subst hx;simp,by simp⟩
theorem six {α:Type} {l:List α} (h:l.length=6):∃a b c d e f,l=[a,b,c,d,e,f]:=by
 match l,h with
 |[a,b,c,d,e,f],_=>exact⟨a,b,c,d,e,f,rfl⟩
def H646 (Pg:PgT):Prop:=Pg 646=some (.code F646)∧H654 Pg∧H655 Pg∧H656 Pg∧H6460 Pg∧H660 Pg
theorem K646 (h:H646 Pg) (line:List UInt8) (hl:line.length≤2 ^ 20):K' Pg 646 [.str line]=some (YL (Yv line)):=by
 obtain⟨h,h654,h655,h656,hlp,h660⟩:=h;have k654:K' Pg 654 [.str line,.int .u8 32]=some (.slice 1 (Yi (splt 32 line))):=K654 h654 line 32 hl;obtain⟨hxl,hll⟩:=YaQ 32 line;obtain⟨w,ls,hs⟩:∃w ls,splt 32 line=w::ls:=by
  cases hs:splt 32 line with
  |nil=>exact absurd hs (YaD 32 line)
  |cons w ls=>exact⟨w,ls,rfl⟩
 have hd:Yv line=if wn w=20 then (if ls=[] then some {Yc with kind:=13} else none)
  else if wn w=21 then (if ls=[] then some {Yc with kind:=12,ck:=6} else none)
  else if wn w=22 then viewD (w::ls)
  else if formN (wn w)=[]∨ls.length≠(formN (wn w)).length then none
  else (YE (decide (wn w=10)) 1 (formN (wn w)) ls ps0).map (Y6 (wn w)):=by unfold Yv;rw[hs]
 rw[hs] at k654 hxl hll;simp only[Yi,Gv] at k654;have k655:=K655 h655 (w::ls);simp only[Yi,Gv] at k655;have k656:=K656 h656 w;have hlen:ls.length≤2 ^ 20+1:=by simp at hll;omega
 refine JdD h rfl ?_;cases c20:decide (wn w=20) with
 |true=>
  have e:wn w=20:=Ge c20;rw[Gl e] at hd;cases ls with
  |nil=>
   rw[Gl rfl] at hd;simp only[F646,c646,go_sem,k654,e,Gp,List.length_cons,List.length_nil,hd,YL,Yh,Yc,eI1,Option.getD_some,Option.isSome_some]
  |cons x r=>
   rw[Gj (by simp)] at hd;have c1:decide (((r.length+1+1:Nat):Int)=1)=false:=GE (by omega);simp only[F646,c646,go_sem,k654,e,Gv,List.length_cons,Gi,c1,hd,YL,Yh,Yc,eI1,Gp,Option.getD_none,Option.isSome_none]
 |false=>
 have n20:¬wn w=20:=Gc c20;rw[Gj n20] at hd;cases c21:decide (wn w=21) with
 |true=>
  have e:wn w=21:=Ge c21;rw[Gl e] at hd;cases ls with
  |nil=>
   rw[Gl rfl] at hd;simp only[F646,c646,go_sem,k654,e,Gp,List.length_cons,List.length_nil,hd,YL,Yh,Yc,eI1,Option.getD_some,Option.isSome_some]
  |cons x r=>
   rw[Gj (by simp)] at hd;have c1:decide (((r.length+1+1:Nat):Int)=1)=false:=GE (by omega);simp only[F646,c646,go_sem,k654,e,Gv,List.length_cons,Gi,c1,hd,YL,Yh,Yc,eI1,Gp,Option.getD_none,Option.isSome_none]
 |false=>
 have n21:¬wn w=21:=Gc c21;rw[Gj n21] at hd;cases c22:decide (wn w=22) with
 |true=>
  have e:wn w=22:=Ge c22;rw[Gl e] at hd;rw[hd];simp only[YL] at k655 ⊢;generalize viewD (w::ls)=o at k655;generalize o.getD Yc=y at k655;simp only[Yh] at k655;simp only[F646,c646,go_sem,k654,e,k655,Yh]
 |false=>
 have n22:¬wn w=22:=Gc c22;rw[Gj n22] at hd;have hf5:=YcN (wn w);obtain⟨f,hf⟩:∃f,f=formN (wn w):=⟨_,rfl⟩;rw[←hf] at hd hf5 k656;cases c1:decide ((f.length:Int)=0) with
 |true=>
  have hd:Yv line=none:=by rw[hd,Gl (.inl (List.length_eq_zero_iff.1 (by have:=Ge c1;omega)))]
  simp only[F646,c646,go_sem,k654,c20,c21,c22,k656,c1,hd,YL,Yh,Yc,eI1,Gp,Option.getD_none,Option.isSome_none]
 |false=>
 have w1:IntKind.i64.wrap ((f.length:Int)+1)=((f.length+1:Nat):Int):=by rw[JmB (by omega) (by omega)];omega
 cases c2:decide (((ls.length+1:Nat):Int)=((f.length+1:Nat):Int)) with
 |false=>
  have hd:Yv line=none:=by rw[hd,Gl (.inr (by have:=Gc c2;omega))]
  simp only[F646,c646,go_sem,k654,c20,c21,c22,k656,c1,w1,c2,List.length_cons,Gi,hd,YL,Yh,Yc,eI1,Gp,Option.getD_none,Option.isSome_none]
 |true=>
 have e2:ls.length=f.length:=by have:=Ge c2;omega
 have e1:f≠[]:=fun e=>Gc c1 (by rw[e];rfl);have hd:Yv line=(YE (decide (wn w=10)) 1 f ls ps0).map (Y6 (wn w)):=by rw[hd,Gj (by rintro (e|e);exact e1 e;exact e e2)]
 simp only[F646,c646,go_sem,k654,c20,c21,c22,k656,c1,w1,c2,List.length_cons,Gi];refine loop646 hlp (w:=w) (ws:=w::ls) (f:=f) rfl (by simp[e2]) hf5 (fun x hx=>GK (hxl x hx) hl) ⟨?_,?_,?_,?_,?_,?_,?_,?_,?_,?_,?_,?_,?_,?_,?_⟩ ?_ ?_ ?_
 case refine_17=>
  intro s hs hn ht S' ⟨r2,m2,r4,m4,r5,r6,r8,r9,r10,r11,m9,m10,m11,m14,m15⟩
  have hd:Yv line=some (Y6 (wn w) s):=by rw[hd];rw[List.drop_succ_cons,List.drop_zero] at hs;rw[hs];rfl
  obtain⟨n,t,a⟩:=s
  obtain⟨n0,n1,n2,n3,n4,n5,rfl⟩:=six hn
  obtain⟨t0,t1,t2,t3,t4,t5,rfl⟩:=six ht
  have k660:=K660 h660 w n0 n1 n2 n3 n4 n5 t2
  simp only[eN,eT,eA,Gv,Gp] at m9 m10 m11
  simp only[Yh,Yc,eI1,Gp] at m2
  rcases YX (YaS w) with e|e|e|e|e|e|e|e|e|e|e|e|e|e|e|e|e|e|e|e|e|e|e|e <;>
   first
   |exact absurd e n20
   |exact absurd e n21
   |exact absurd e n22
   |(rw[e] at hd hf k660;simp only[Yh,othN,Yc,eI1,Gp] at k660;first|exact absurd hf e1|simp only[go_sem,r2,r6,r9,r10,r11,m2,m9,m10,m11,m14,m15,e,k660,hd,YL,Yh,Y6,othN,Yc,eI1,Gp,Option.getD_some,Option.isSome_some]<;>rfl)
 case refine_18=>
  intro hs S' r2 m2 r3
  have hd:Yv line=none:=by rw[hd];rw[List.drop_succ_cons,List.drop_zero] at hs;rw[hs];rfl
  simp only[Yh,Yc,eI1,Gp] at m2
  simp only[go_sem,r2,m2,r3,hd,YL,Yh,Yc,eI1,Gp,Option.getD_none,Option.isSome_none]
 all_goals simp[go_sem,Yh,Yc,eI1,eN,eT,eA,ps0,Yi]
end Sg
namespace Sg
open _root_.Go (IntKind BinOp UnOp)
open _root_.Go.Lib (atoiAll itoa decDigits atoiSat)
variable {Pg:PgT}
noncomputable def spltQ:List V→Option V
 |[.str s,.str [c]]=>if s.length<4294967281 then some (.slice 1 (Yi (splt c s))) else none
 |_=>none
noncomputable def itoaQ:List V→Option V
 |[.int .i64 n]=>if -9223372036854775808≤n∧n≤9223372036854775807 then some (.str (itoa n)) else none
 |_=>none
def atoiT:Nat:=245
def YaT (s:List UInt8):V:=match atoiAll s with
 |.ok _=>.niface
 |_=>.iface atoiT .undef
noncomputable def atoiQ:List V→Option V
 |[.str s]=>if s.length≤1099511627776 then some (.tuple [iz (atV s),YaT s]) else none
 |_=>none
def Ybv (b:UInt8):Int:=if Yl b=99 then -1 else Yl b
noncomputable def idxQ:List V→Option V
 |[.str s,.int .u8 b]=>if s=YcP∧0≤b∧b<256 then some (iz (Ybv (UInt8.ofNat b.toNat))) else none
 |_=>none
noncomputable def showQ:List V→Option V
 |[.str s]=>if s.length≤1099511627776 then some (.str (YQ s)) else none
 |_=>none
def H649 (Pg:PgT):Prop:=Pg 649=some (.prim none spltQ)
def H662 (Pg:PgT):Prop:=Pg 662=some (.prim none itoaQ)
def H677 (Pg:PgT):Prop:=Pg 677=some (.prim none atoiQ)
def H704 (Pg:PgT):Prop:=Pg 704=some (.prim none idxQ)
def H673 (Pg:PgT):Prop:=Pg 673=some (.prim none showQ)
theorem K649 (h:H649 Pg) (s:List UInt8) (c:UInt8) (hs:s.length≤2 ^ 31):K' Pg 649 [.str s,.str [c]]=some (.slice 1 (Yi (splt c s))):=by
 rw[Jf3 h];unfold spltQ;exact Gl (by omega)
theorem K662 (h:H662 Pg) (n:Int) (h1:-9223372036854775808≤n) (h2:n≤9223372036854775807):K' Pg 662 [iz n]=some (.str (itoa n)):=by
 rw[Jf3 h];unfold itoaQ;exact Gl ⟨h1,h2⟩
theorem K677 (h:H677 Pg) (s:List UInt8) (hs:s.length≤1099511627776):K' Pg 677 [.str s]=some (.tuple [iz (atV s),YaT s]):=by
 rw[Jf3 h];unfold atoiQ;exact Gl hs
theorem K704 (h:H704 Pg) (b:UInt8):K' Pg 704 [.str [48,49,50,51,52,53,54,55,56,57,65,66,67,68,69,70],.int .u8 b.toNat]=some (iz (Ybv b)):=by
 have hb:=YbV b;rw[Jf3 h];unfold idxQ;refine (Gl ⟨rfl,by omega,by omega⟩).trans ?_;simp
theorem K673 (h:H673 Pg) (s:List UInt8) (hs:s.length≤1099511627776):K' Pg 673 [.str s]=some (.str (YQ s)):=by
 rw[Jf3 h];unfold showQ;exact Gl hs
def H689 (Pg:PgT):Prop:=Pg 689=some (.code F689)∧H704 Pg
theorem K689 (h:H689 Pg) (b:UInt8):K' Pg 689 [.int .u8 b.toNat]=some (.tuple [.int .u8 (if Yl b=99 then 255 else Yl b:Nat),.bool (!decide (Yl b=99))]):=by
 obtain⟨h,h704⟩:=h;have k:=K704 h704 b;refine JdD h rfl ?_;by_cases e:Yl b=99
 ·have e1:Ybv b=-1:=by unfold Ybv;rw[Gl e]
  have w1:IntKind.u8.wrap (-1)=255:=by decide
  rw[e1] at k;rw[Gl e,GN e];simp only[F689,c689,go_sem,k,w1]
 ·have hv:=Yas e;have e1:Ybv b=Yl b:=by unfold Ybv;rw[Gj e]
  have w1:IntKind.u8.wrap ((Yl b:Nat):Int)=((Yl b:Nat):Int):=by rw[u8w];omega
  have c1:decide (0≤((Yl b:Nat):Int))=true:=GN (by omega);rw[e1] at k;rw[Gj e,GE e];simp only[F689,c689,go_sem,k,w1,c1]
theorem Yek:∀a b:Fin 16,IntKind.u8.wrap (BitVec.ofInt 8 (IntKind.u8.wrap ((a.1:Int)*2 ^ 4)) ||| BitVec.ofInt 8 (b.1:Int)).toNat=((16*a.1+b.1:Nat):Int):=by decide +kernel
def eB (l:List UInt8):List (List V):=l.map fun b=>[.int .u8 b.toNat]
def H678 (Pg:PgT):Prop:=Pg 678=some (.code F678)∧H689 Pg∧H673 Pg
def eRx (r:Option (List UInt8)):V:=.tuple [.str (r.getD []),iz (if r.isSome then 0 else 3)]
theorem K678 (h:H678 Pg) (w:List UInt8) (hw:w.length≤2 ^ 20):K' Pg 678 [.str w]=some (eRx (rdW w)):=by
 obtain⟨h,h689,h673⟩:=h;refine JdD h rfl ?_;cases c0:decide (w=[37]) with
 |true=>
  have ew:=Ge c0;subst ew;have k:K' Pg 673 [.str []]=some (.str [37]):=K673 h673 [] (by decide);have e:rdW [37]=some []:=by unfold rdW;rw[Gl rfl]
  simp only[F678,c678,go_sem];unfold l678_0;refine JmD (fun (i:Nat) S=>S.ρ 0=.str [37]∧S.ρ 5=iz 0∧S.ρ 4=.own 4 1 0∧S.A 4=some (1,[],.live)) (fun _=>0) 0 ?_ ?_
  ·simp[go_sem]
  ·intro i S ⟨r0,r5,r4,a4⟩;simp only[b678_0,go_sem,r0,r5,r4,a4,bytesR,k,e,eRx,Option.isSome_some,Gx,Option.getD_some]
 |false=>
 have hne:=Gc c0;simp only[F678,c678,go_sem];unfold l678_0;refine JmD (fun (i:Nat) S=>i≤w.length∧S.ρ 0=.str w∧S.ρ 5=iz i∧∃acc:List UInt8,S.ρ 4=.own 4 1 acc.length∧S.A 4=some (1,eB acc,.live)∧(readR (w.drop i)).map (acc++·)=readR w∧acc.length≤i) (fun i=>w.length-i) 0 ?_ ?_
 ·exact⟨G1 _,by simp[go_sem],by simp[go_sem],[],by simp[go_sem,eB]⟩
 ·intro i S ⟨hi,r0,r5,acc,r4,a4,hacc,hl⟩;cases c1:decide ((i:Int)<(w.length:Int)) with
  |false=>
   have e:i=w.length:=by have:=Gc c1;omega
   subst e;have hacc:some acc=readR w:=by rw[←hacc,List.drop_length];simp[readR]
   have k:=K673 h673 acc (by omega);have hb:bytesR (acc.map fun b=>[V.int .u8 b.toNat])=some acc:=Jd2 acc;simp only[eB] at a4;cases c3:decide (YQ acc=w) with
   |true=>
    have hn:acc≠[]:=by
     intro e;subst e;have:=Ge c3;exact hne this.symm
    have e:rdW w=some acc:=by unfold rdW;rw[Gj hne,←hacc];simp[hn,Ge c3]
    simp only[b678_0,go_sem,r0,r4,r5,a4,c1,k,c3,e,eRx,Option.isSome_some,hb,Gi,Gx,Option.getD_some]
   |false=>
    have e:rdW w=none:=by unfold rdW;rw[Gj hne,←hacc];simp[Gc c3]
    simp only[b678_0,go_sem,r0,r4,r5,a4,c1,k,c3,e,eRx,Option.isSome_none,hb,Gi,Option.getD_none]
  |true=>
   have hlt:i<w.length:=by have:=Ge c1;omega
   obtain⟨b,hb⟩:∃b,w[i]?=some b:=⟨w[i]'hlt,List.getElem?_eq_getElem _⟩;have hd:=YaH hb;rw[hd] at hacc;simp only[eB] at a4;have l2:(acc.length+1≤lim)=True:=eq_true (by simp only[lim];omega);cases c2:decide ((b.toNat:Int)=37) with
   |false=>
    have hb37:b≠37:=by intro e;subst e;exact Gc c2 rfl
    have hinc:=inc64q (i:=i) (by omega)
    rw[YbQ hb37,YaB] at hacc;simp only[b678_0,go_sem,r0,r4,r5,a4,c0,c1,hb,c2,hinc,Jr,List.replicate,List.set,Gi,l2];exact⟨i+1,by omega,by omega,rfl,acc++[b],by simp,by simp[eB],hacc,by simp;omega⟩
   |true=>
    have hb37:b=37:=by
     have:=Ge c2;exact UInt8.toNat_inj.1 (by show b.toNat=37;omega)
    subst hb37;have hi2:IntKind.i64.wrap ((i:Int)+2)=((i+2:Nat):Int):=by rw[JmB (by omega) (by omega)];omega
    cases c3:decide ((w.length:Int)≤((i+2:Nat):Int)) with
    |true=>
     have c3':=Ge c3;have e:rdW w=none:=by
      rw[YbO (by rw[Gu];omega)] at hacc;unfold rdW;rw[Gj hne,←hacc];rfl
     simp only[b678_0,go_sem,r0,r4,r5,a4,c0,c1,hb,c2,hi2,c3,e,eRx,Option.isSome_none,Option.getD_none]
    |false=>
     have c3':=Gc c3;obtain⟨x,hx⟩:∃b,w[i+1]?=some b:=⟨w[i+1]'(by omega),List.getElem?_eq_getElem _⟩;obtain⟨y,hy⟩:∃b,w[i+2]?=some b:=⟨w[i+2]'(by omega),List.getElem?_eq_getElem _⟩;have hi1:=inc64q (i:=i) (by omega)
     have hi3:IntKind.i64.wrap (((i+2:Nat):Int)+1)=((i+3:Nat):Int):=by rw[JmB (by omega) (by omega)];omega
     have kx:=K689 h689 x;have ky:=K689 h689 y;rw[YaH hx,YaH hy,YbP] at hacc;cases c4:decide (Yl x=99) with
     |true=>
      have e:rdW w=none:=by
       rw[Gl (.inl (Ge c4))] at hacc;unfold rdW;rw[Gj hne,←hacc];rfl
      rw[c4] at kx;simp only[b678_0,go_sem,r0,r4,r5,a4,c0,c1,hb,hx,hy,c2,c3,hi1,hi2,kx,ky,e,eRx,Option.isSome_none,Option.getD_none]
     |false=>
      rw[c4,Gj (Gc c4)] at kx;cases c5:decide (Yl y=99) with
      |true=>
       have e:rdW w=none:=by
        rw[Gl (.inr (Ge c5))] at hacc;unfold rdW;rw[Gj hne,←hacc];rfl
       rw[c5] at ky;simp only[b678_0,go_sem,r0,r4,r5,a4,c0,c1,hb,hx,hy,c2,c3,hi1,hi2,kx,ky,e,eRx,Option.isSome_none,Option.getD_none]
      |false=>
       rw[c5,Gj (Gc c5)] at ky;have nx:=Gc c4;have ny:=Gc c5;have x16:Yl x<16:=Yas nx;have y16:Yl y<16:=Yas ny;rw[Gj (by rintro (h|h)<;>contradiction),YaB] at hacc;have m3:=Yek ⟨Yl x,x16⟩ ⟨Yl y,y16⟩;simp only at m3;have hs:shV .shl (.int .u8 ((Yl x:Nat):Int)) (.int .u64 4)=some (.int .u8 (IntKind.u8.wrap (((Yl x:Nat):Int)*2 ^ 4))):=rfl;have ho:Jdf .or (.int .u8 (IntKind.u8.wrap (((Yl x:Nat):Int)*2 ^ 4))) (.int .u8 ((Yl y:Nat):Int))=some (.int .u8 ((16*Yl x+Yl y:Nat):Int)):=by
        rw[JkJ,←m3];rfl
       simp only[b678_0,go_sem,r0,r4,r5,a4,c0,c1,hb,hx,hy,c2,c3,hi1,hi2,hi3,kx,ky,hs,ho,Jr,List.replicate,List.set,Gi,l2];refine⟨i+3,by omega,by omega,rfl,acc++[UInt8.ofNat (16*Yl x+Yl y)],by simp,?_,hacc,by simp;omega⟩;have:(UInt8.ofNat (16*Yl x+Yl y)).toNat=16*Yl x+Yl y:=by rw[UInt8.toNat_ofNat'];omega
       simp only[eB,List.map_append,Gv,Gp,this]
end Sg
namespace Sg
open _root_.Go _root_.Go.RowKit _root_.Go.Proofs _root_.Go.Shelf
open _root_.Go.Lib (atoiAll itoa atoiSat)
theorem Yci:∀{l:List UInt8} {c:UInt8},Lib.indexByte l c=-1→c∉l
 |[],c,_=>by simp
 |b::l,c,h=>by
  unfold Lib.indexByte at h;have hge:=Lib.indexByte_ge l c;split at h
  ·omega
  ·rename_i hb;split at h
   ·rename_i h1;have:=Yci (l:=l) (by simpa using h1);simp only[GM,not_or];exact⟨fun e=>hb (by simp[e]),this⟩
   ·rename_i h1;simp at h1;omega
theorem Ych:∀{l:List UInt8} {c:UInt8} {i:Nat},Lib.indexByte l c=i→c∉l.take i∧l.drop i=c::l.drop (i+1)
 |[],c,i,h=>by simp[Lib.indexByte] at h
 |b::l,c,i,h=>by
  unfold Lib.indexByte at h;have hge:=Lib.indexByte_ge l c;split at h
  ·rename_i hb;have:i=0:=by omega
   subst this;exact⟨by simp,by simpa using hb⟩
  ·rename_i hb;split at h
   ·omega
   ·rename_i h1;simp at h1;obtain⟨j,rfl⟩:∃j,i=j+1:=⟨i-1,by omega⟩;obtain⟨h2,h3⟩:=Ych (l:=l) (c:=c) (i:=j) (by omega);refine⟨?_,by simpa using h3⟩;simp only[List.take_succ_cons,GM,not_or];exact⟨fun e=>hb (by simp[e]),h2⟩
def Yan (c:UInt8):ByteArray:=⟨#[c]⟩
theorem YbI (s:ByteArray) (c:UInt8):Lib.indexB s (Yan c)=Lib.indexByte s.data.toList c:=by
 show Lib.index _ _=_
 exact Lib.index_one _ _
theorem Ybu (c:UInt8):∀(n:Nat) (s:ByteArray),s.size≤n→(Lib.splitB (Yan c) 0 (Lib.countB s (Yan c)) s).map (·.data.toList)=splt c s.data.toList:=by
 have miss:∀s:ByteArray,Lib.indexB s (Yan c)=-1→(Lib.splitB (Yan c) 0 (Lib.countB s (Yan c)) s).map (·.data.toList)=splt c s.data.toList:=fun s h=>by
  rw[Lib.splitB_miss _ _ _ _ h,Yay (Yci (by rw[←YbI];exact h))];rfl
 intro n
 induction n with
 |zero=>
  intro s hs;rcases Lib.indexB_cases s (Yan c) with h|⟨i,h1,h2⟩
  ·exact miss s h
  ·have:(Yan c).size=1:=rfl;omega
 |succ n ih=>
  intro s hs;rcases Lib.indexB_cases s (Yan c) with h|⟨i,h1,h2⟩
  ·exact miss s h
  ·have h1s:(Yan c).size=1:=rfl;obtain⟨h3,h4⟩:=Ych (l:=s.data.toList) (c:=c) (i:=i) (by rw[←YbI];exact h1);have e1:(s.extract (i+1) s.size).data.toList=s.data.toList.drop (i+1):=Jcw s (i+1) s.size rfl;have hsz:(s.extract (i+1) s.size).size≤n:=by
    rw[←size_list,e1,Gu,size_list];omega
   have e0:(s.extract 0 i).data.toList=s.data.toList.take i:=by
    rw[Lib.extract_data];simp
   rw[Lib.countB_hit s (Yan c) i (by rw[h1s];exact Gm _) h1,h1s,Nat.add_comm 1,Lib.splitB_hit _ _ _ _ i h1,h1s,Nat.add_zero,Gv,ih _ hsz,e0,e1]
   conv=>rhs;rw[←G3 i s.data.toList,h4,Yaq h3]
section
variable {P:Program} {cx:Cx}
theorem strs_rel {w:World} {X:Nat→Prop} (hX:∀b,X b→b<w.heap.size) (l:List ByteArray) (t:TypeId) (n:Nat) (hn:l.length=n) :
  RelD cx (w.alloc (.cells (l.map Value.string).toArray t)) X (.slice (some ⟨w.heap.size,0,none⟩) n n) (.slice 1 (Yi (l.map (·.data.toList)))):=by
 have hl:(Yi (l.map (·.data.toList))).length=n:=by simp[Yi,hn]
 have hr:∀i,i<n→gr (Yi (l.map (·.data.toList))) i=[.str ((l[i]?).getD ByteArray.empty).data.toList]:=fun i hi=>by
  have h1:l[i]?=some (l[i]'(by omega)):=List.getElem?_eq_getElem (by omega);rw[h1];simp[gr,Yi,List.getD_eq_getElem?_getD,h1]
 refine .slice w.heap.size 0 n n 1 _ (l.map Value.string).toArray t (0,0) (fun i _=>.string ((l[i]?).getD ByteArray.empty)) (by simp) (fun h=>by have:=hX _ h;omega) (heap_alloc_new w _) hl (Gm _) (fun i hi=>by rw[hr i hi];rfl) (fun i j hi hj=>?_) (fun i j hi hj=>?_)
 ·have:j=0:=by omega
  subst this
  have h1:l[i]?=some (l[i]'(by omega)):=List.getElem?_eq_getElem (by omega)
  refine⟨?_,rfl⟩
  rw[h1]
  simp[h1]
 ·have:j=0:=by omega
  subst this
  rw[hr i hi]
  exact RelD.str (cx:=cx) _
theorem splt_ctr {id : Nat} (hE : Ent P (cx.fm id)) (t : TypeId) (hC : ∀ (s sep : ByteArray) (w : World), cx.G w → s.size < 4294967281 → 1 ≤ sep.size → Calls P (cx.fm id) #[.string s, .string sep] w fun e w' =>
      e = .returned (.slice (some ⟨w.heap.size, 0, none⟩) (Lib.countB s sep + 1) (Lib.countB s sep + 1)) ∧ w' = w.alloc (.cells ((Lib.splitB sep 0 (Lib.countB s sep) s).map Value.string).toArray t)) :
    ∀ args r, spltQ args = some r → Ctr P cx none id args r := by
  intro args r h
  unfold spltQ at h
  split at h <;> try (simp only [reduceCtorEq] at h; done)
  rename_i l c
  split at h <;> simp only [Ga, reduceCtorEq] at h
  rename_i hlen
  subst h
  refine ⟨hE, fun w X vs hX hgn hG hsz hrel => ?_⟩
  obtain ⟨u, hu, hr⟩ := hrel 0 (by simp)
  obtain ⟨v, hv, hr'⟩ := hrel 1 (by simp)
  obtain ⟨s, rfl, rfl⟩ := Jbi (l := l) hr
  obtain ⟨sep, rfl, hsep⟩ := Jbi (l := [c]) hr'
  obtain rfl : sep = Yan c := by rw [← JcZ sep, hsep]; rfl
  rw [JkF (by simpa using hsz) hu hv]
  have hsz' : s.size < 4294967281 := by rw [← size_list]; exact hlen
  refine (hC s (Yan c) w hG hsz' (Gm 1)).mono fun e w' ⟨he, hb⟩ => ?_
  subst he; subst hb
  refine ⟨_, rfl, (Below.refl _ w).alloc (Gm _) _, ?_⟩
  rw [← Ybu c s.size s (Gm _)]
  exact strs_rel hX _ _ _ (Lib.splitB_all (Yan c) (Gm 1) 0 _ s rfl)
theorem itoa_ctr {id:Nat} (hE:Ent P (cx.fm id)) (hC:∀(n:Int) (w:World),cx.G w→-9223372036854775808≤n→n≤9223372036854775807→Calls P (cx.fm id) #[.int .i64 n] w fun e w'=>e=.returned (.string ⟨(itoa n).toArray⟩)∧Below w.heap.size w w') :
  ∀args r,itoaQ args=some r→Ctr P cx none id args r:=by
 intro args r h
 unfold itoaQ at h
 split at h<;>try (simp only[reduceCtorEq] at h;done)
 rename_i n
 split at h<;>simp only[Ga,reduceCtorEq] at h
 rename_i hn
 subst h
 refine⟨hE,fun w X vs hX hgn hG hsz hrel=>?_⟩
 obtain⟨u,hu,hr⟩:=hrel 0 (by simp)
 have hr:RelD cx w X u (.int .i64 n):=hr
 cases hr
 rw[Jh4 (by simpa using hsz) hu]
 refine (hC n w hG hn.1 hn.2).mono fun e w' ⟨he,hb⟩=>?_
 subst he
 exact⟨_,rfl,hb,RelD.str (cx:=cx) (ofL (itoa n))⟩
theorem atoi_ctr {id:Nat} (hE:Ent P (cx.fm id)) (ht:∀(s:ByteArray) (w:World),cx.G w→s.size≤281474976710656→Calls P (cx.fm id) #[.string s] w fun e w'=>(∃ev,e=.returned (.tuple #[.int .i64 (atV s.data.toList),ev])∧((∃n,atoiAll s.data.toList=.ok n)∧ev=.nilIface∨(∀n,atoiAll s.data.toList≠.ok n)∧∃p,ev=.iface (cx.tm atoiT) p))∧Below w.heap.size w w') :
  ∀args r,atoiQ args=some r→Ctr P cx none id args r:=by
 intro args r h
 unfold atoiQ at h
 split at h<;>try (simp only[reduceCtorEq] at h;done)
 rename_i l
 split at h<;>simp only[Ga,reduceCtorEq] at h
 rename_i hlen
 subst h
 refine⟨hE,fun w X vs hX hgn hG hsz hrel=>?_⟩
 obtain⟨u,hu,hr⟩:=hrel 0 (by simp)
 obtain⟨s,rfl,rfl⟩:=Jbi (l:=l) hr
 rw[Jh4 (by simpa using hsz) hu]
 refine (ht s w hG (by rw[←size_list];omega)).mono fun e w' ⟨⟨ev,he,hev⟩,hb⟩=>?_
 subst he
 refine⟨_,rfl,hb,Jkp (.int _ _) ?_⟩
 rcases hev with ⟨⟨n,hn⟩,rfl⟩|⟨hn,p,rfl⟩
 ·unfold YaT;rw[hn];exact .niface
 ·unfold YaT
  split
  ·rename_i h;exact absurd h (hn _)
  ·exact .iface _ _ _ (.undef _)
theorem YcQ:∀k:Fin 256,Lib.indexByte YcP (UInt8.ofNat k.1)=Ybv (UInt8.ofNat k.1):=by decide +kernel
theorem idx_ctr {id:Nat} (hE:Ent P (cx.fm id)) (hC:∀(s:ByteArray) (c:Int) (w:World),Calls P (cx.fm id) #[.string s,.int .u8 c] w fun e w'=>e=.returned (.int .i64 (Lib.indexByte s.data.toList c.toNat.toUInt8))∧w'=w) :
  ∀args r,idxQ args=some r→Ctr P cx none id args r:=by
 intro args r h
 unfold idxQ at h
 split at h<;>try (simp only[reduceCtorEq] at h;done)
 rename_i l b
 split at h<;>simp only[Ga,reduceCtorEq] at h
 rename_i hb
 subst h
 obtain⟨rfl,h0,h1⟩:=hb
 refine⟨hE,fun w X vs hX hgn hG hsz hrel=>?_⟩
 obtain⟨u,hu,hr⟩:=hrel 0 (by simp)
 obtain⟨v,hv,hr'⟩:=hrel 1 (by simp)
 obtain⟨s,rfl,hs⟩:=Jbi (l:=YcP) hr
 have hr':RelD cx w X v (.int .u8 b):=hr'
 cases hr'
 rw[JkF (by simpa using hsz) hu hv]
 refine (hC s b w).mono fun e w' ⟨he,hb⟩=>?_
 subst he;subst hb
 refine⟨_,rfl,Below.refl _ _,?_⟩
 have:=YcQ ⟨b.toNat,by omega⟩
 simp only at this
 rw[hs,show b.toNat.toUInt8=UInt8.ofNat b.toNat from rfl,this]
 exact .int _ _
theorem txt_ctr {id:Nat} {Q:List V→Option V} {f:List UInt8→Option (List UInt8)} (hQ:∀args r,Q args=some r→∃l y,args=[.str l]∧f l=some y∧r=.str y) (hE:Ent P (cx.fm id))
  (hC:∀(s:ByteArray) (y:List UInt8) (w:World),f s.data.toList=some y→cx.gn≤w.heap.size→cx.G w→Calls P (cx.fm id) #[.string s] w fun e w'=>e=.returned (.string ⟨y.toArray⟩)∧Below w.heap.size w w') :
  ∀args r,Q args=some r→Ctr P cx none id args r:=by
 intro args r h
 obtain⟨l,y,rfl,hy,rfl⟩:=hQ args r h
 refine⟨hE,fun w X vs hX hgn hG hsz hrel=>?_⟩
 obtain⟨u,hu,hr⟩:=hrel 0 (by simp)
 obtain⟨s,rfl,rfl⟩:=Jbi (l:=l) hr
 rw[Jh4 (by simpa using hsz) hu]
 refine (hC s y w hy hgn hG).mono fun e w' ⟨he,hb⟩=>?_
 subst he
 exact⟨_,rfl,hb,RelD.str (cx:=cx) (ofL y)⟩
end
def renS:Shelf.Ren:=⟨fun|102=>22|129=>204|137=>147|138=>54|143=>55|146=>9|156=>52|165=>88|166=>24|168=>87|169=>27|171=>25|172=>56|195=>89|197=>85|205=>214|207=>66|209=>37|217=>138|218=>90|219=>91|221=>28|224=>140|225=>139|240=>48|241=>137|242=>136|243=>49|244=>92|245=>93|246=>83|247=>142|260=>135|266=>210|267=>141|268=>53|276=>82|277=>209|278=>208|279=>143|280=>144|281=>145|282=>146|283=>130|284=>131|285=>132|286=>133|287=>212|314=>211|316=>213|317=>203|318=>205|319=>206|320=>207|321=>256|322=>257|337=>254|338=>255|n=>n,fun|0=>0|2=>2|3=>3|4=>4|5=>5|9=>9|20=>20|21=>21|31=>44|37=>67|46=>174|51=>310|53=>234|70=>66|72=>69|75=>75|76=>76|80=>48|85=>243|105=>170|119=>313|127=>130|138=>315|139=>316|143=>362|145=>364|146=>318|164=>167|167=>242|168=>245|171=>233|173=>237|175=>320|210=>323|212=>309|213=>311|232=>375|233=>376|n=>n,fun|1=>0|3=>2|4=>3|15=>4|16=>5|17=>1|18=>6|19=>7|n=>n⟩
theorem lays146:Lays.n146 Tryz.prog renS where
 mixed:=by kernel_rfl
 f138:=Tryz.func54.trans (congrArg some (by kernel_rfl))
 f143:=Tryz.func55.trans (congrArg some (by kernel_rfl))
 f146:=Tryz.func9.trans (congrArg some (by kernel_rfl))
 f195:=Tryz.func89.trans (congrArg some (by kernel_rfl))
 f197:=Tryz.func85.trans (congrArg some (by kernel_rfl))
 f217:=Tryz.func138.trans (congrArg some (by kernel_rfl))
 f218:=Tryz.func90.trans (congrArg some (by kernel_rfl))
 f219:=Tryz.func91.trans (congrArg some (by kernel_rfl))
 f221:=Tryz.func28.trans (congrArg some (by kernel_rfl))
 f224:=Tryz.func140.trans (congrArg some (by kernel_rfl))
 f225:=Tryz.func139.trans (congrArg some (by kernel_rfl))
 f260:=Tryz.func135.trans (congrArg some (by kernel_rfl))
 f266:=Tryz.func210.trans (congrArg some (by kernel_rfl))
 f267:=Tryz.func141.trans (congrArg some (by kernel_rfl))
 f268:=Tryz.func53.trans (congrArg some (by kernel_rfl))
 f314:=Tryz.func211.trans (congrArg some (by kernel_rfl))
 t0:=Tryz.underlying0
 a0:=Tryz.isAgg0
 z0:=Tryz.sizeOf0
 v0:=Tryz.zeroValue0
 t3:=Tryz.underlying3
 a3:=Tryz.isAgg3
 z3:=Tryz.sizeOf3
 v3:=Tryz.zeroValue3
 t4:=Tryz.underlying4
 a4:=Tryz.isAgg4
 z4:=Tryz.sizeOf4
 v4:=Tryz.zeroValue4
 t5:=Tryz.underlying5
 a5:=Tryz.isAgg5
 z5:=Tryz.sizeOf5
 v5:=Tryz.zeroValue5
 t9:=Tryz.underlying9
 a9:=Tryz.isAgg9
 z9:=Tryz.sizeOf9
 v9:=Tryz.zeroValue9
 t21:=Tryz.underlying21
 a21:=Tryz.isAgg21
 z21:=Tryz.sizeOf21
 v21:=Tryz.zeroValue21
 t31:=Tryz.underlying44
 a31:=Tryz.isAgg44
 z31:=Tryz.sizeOf44
 v31:=Tryz.zeroValue44
 t46:=Tryz.underlying174
 a46:=Tryz.isAgg174
 z46:=Tryz.sizeOf174
 v46:=Tryz.zeroValue174
 t51:=Tryz.underlying310
 a51:=Tryz.isAgg310
 z51:=Tryz.sizeOf310
 v51:=Tryz.zeroValue310
 t105:=Tryz.underlying170
 a105:=Tryz.isAgg170
 z105:=Tryz.sizeOf170
 v105:=Tryz.zeroValue170
 t119:=Tryz.underlying313
 a119:=Tryz.isAgg313
 z119:=Tryz.sizeOf313
 t138:=Tryz.underlying315
 a138:=Tryz.isAgg315
 z138:=Tryz.sizeOf315
 v138:=Tryz.zeroValue315
 t139:=Tryz.underlying316
 a139:=Tryz.isAgg316
 z139:=Tryz.sizeOf316
 v139:=Tryz.zeroValue316
 t146:=Tryz.underlying318
 a146:=Tryz.isAgg318
 z146:=Tryz.sizeOf318
 v146:=Tryz.zeroValue318
 g1:=by kernel_rfl
 g3:=by kernel_rfl
 g4:=by kernel_rfl
theorem lays171:LaysM.n171 Tryz.prog renS where
 mixed:=by kernel_rfl
 f129:=Tryz.func204.trans (congrArg some (by kernel_rfl))
 f171:=Tryz.func25.trans (congrArg some (by kernel_rfl))
 f243:=Tryz.func49.trans (congrArg some (by kernel_rfl))
 f246:=Tryz.func83.trans (congrArg some (by kernel_rfl))
 f283:=Tryz.func130.trans (congrArg some (by kernel_rfl))
 f284:=Tryz.func131.trans (congrArg some (by kernel_rfl))
 f285:=Tryz.func132.trans (congrArg some (by kernel_rfl))
 f286:=Tryz.func133.trans (congrArg some (by kernel_rfl))
 f317:=Tryz.func203.trans (congrArg some (by kernel_rfl))
 f318:=Tryz.func205.trans (congrArg some (by kernel_rfl))
 f319:=Tryz.func206.trans (congrArg some (by kernel_rfl))
 f320:=Tryz.func207.trans (congrArg some (by kernel_rfl))
 f337:=Tryz.func254.trans (congrArg some (by kernel_rfl))
 f338:=Tryz.func255.trans (congrArg some (by kernel_rfl))
 t0:=Tryz.underlying0
 a0:=Tryz.isAgg0
 z0:=Tryz.sizeOf0
 v0:=Tryz.zeroValue0
 t2:=Tryz.underlying2
 a2:=Tryz.isAgg2
 z2:=Tryz.sizeOf2
 v2:=Tryz.zeroValue2
 t3:=Tryz.underlying3
 a3:=Tryz.isAgg3
 z3:=Tryz.sizeOf3
 v3:=Tryz.zeroValue3
 t4:=Tryz.underlying4
 a4:=Tryz.isAgg4
 z4:=Tryz.sizeOf4
 v4:=Tryz.zeroValue4
 t5:=Tryz.underlying5
 a5:=Tryz.isAgg5
 z5:=Tryz.sizeOf5
 v5:=Tryz.zeroValue5
 t9:=Tryz.underlying9
 a9:=Tryz.isAgg9
 z9:=Tryz.sizeOf9
 v9:=Tryz.zeroValue9
 t20:=Tryz.underlying20
 a20:=Tryz.isAgg20
 z20:=Tryz.sizeOf20
 v20:=Tryz.zeroValue20
 t37:=Tryz.underlying67
 a37:=Tryz.isAgg67
 z37:=Tryz.sizeOf67
 v37:=Tryz.zeroValue67
 t46:=Tryz.underlying174
 a46:=Tryz.isAgg174
 z46:=Tryz.sizeOf174
 v46:=Tryz.zeroValue174
 t51:=Tryz.underlying310
 a51:=Tryz.isAgg310
 z51:=Tryz.sizeOf310
 v51:=Tryz.zeroValue310
 t53:=Tryz.underlying234
 a53:=Tryz.isAgg234
 z53:=Tryz.sizeOf234
 v53:=Tryz.zeroValue234
 t171:=Tryz.underlying233
 a171:=Tryz.isAgg233
 z171:=Tryz.sizeOf233
 v171:=Tryz.zeroValue233
 t173:=Tryz.underlying237
 a173:=Tryz.isAgg237
 z173:=Tryz.sizeOf237
 v173:=Tryz.zeroValue237
 t212:=Tryz.underlying309
 a212:=Tryz.isAgg309
 z212:=Tryz.sizeOf309
 v212:=Tryz.zeroValue309
 t213:=Tryz.underlying311
 a213:=Tryz.isAgg311
 z213:=Tryz.sizeOf311
 t232:=Tryz.underlying375
 a232:=Tryz.isAgg375
 z232:=Tryz.sizeOf375
 v232:=Tryz.zeroValue375
 t233:=Tryz.underlying376
 a233:=Tryz.isAgg376
 z233:=Tryz.sizeOf376
 v233:=Tryz.zeroValue376
 g17:=by kernel_rfl
 g18:=by kernel_rfl
 g19:=by kernel_rfl
 i0:=by kernel_rfl
 i2:=by kernel_rfl
 i3:=by kernel_rfl
 i4:=by kernel_rfl
 i5:=by kernel_rfl
 i9:=by kernel_rfl
 i20:=by kernel_rfl
 i37:=by kernel_rfl
 i46:=by kernel_rfl
 i51:=by kernel_rfl
 i53:=by kernel_rfl
 i171:=by kernel_rfl
 i173:=by kernel_rfl
 i212:=by kernel_rfl
 i232:=by kernel_rfl
 i233:=by kernel_rfl
 m17:=by kernel_rfl
 m18:=by kernel_rfl
 m19:=by kernel_rfl
theorem lays172:LaysC.n172 Tryz.prog renS where
 mixed:=by kernel_rfl
 f129:=Tryz.func204.trans (congrArg some (by kernel_rfl))
 f171:=Tryz.func25.trans (congrArg some (by kernel_rfl))
 f172:=Tryz.func56.trans (congrArg some (by kernel_rfl))
 f205:=Tryz.func214.trans (congrArg some (by kernel_rfl))
 f243:=Tryz.func49.trans (congrArg some (by kernel_rfl))
 f244:=Tryz.func92.trans (congrArg some (by kernel_rfl))
 f245:=Tryz.func93.trans (congrArg some (by kernel_rfl))
 f246:=Tryz.func83.trans (congrArg some (by kernel_rfl))
 f247:=Tryz.func142.trans (congrArg some (by kernel_rfl))
 f279:=Tryz.func143.trans (congrArg some (by kernel_rfl))
 f280:=Tryz.func144.trans (congrArg some (by kernel_rfl))
 f281:=Tryz.func145.trans (congrArg some (by kernel_rfl))
 f282:=Tryz.func146.trans (congrArg some (by kernel_rfl))
 f283:=Tryz.func130.trans (congrArg some (by kernel_rfl))
 f284:=Tryz.func131.trans (congrArg some (by kernel_rfl))
 f285:=Tryz.func132.trans (congrArg some (by kernel_rfl))
 f286:=Tryz.func133.trans (congrArg some (by kernel_rfl))
 f287:=Tryz.func212.trans (congrArg some (by kernel_rfl))
 f316:=Tryz.func213.trans (congrArg some (by kernel_rfl))
 f317:=Tryz.func203.trans (congrArg some (by kernel_rfl))
 f318:=Tryz.func205.trans (congrArg some (by kernel_rfl))
 f319:=Tryz.func206.trans (congrArg some (by kernel_rfl))
 f320:=Tryz.func207.trans (congrArg some (by kernel_rfl))
 f321:=Tryz.func256.trans (congrArg some (by kernel_rfl))
 f322:=Tryz.func257.trans (congrArg some (by kernel_rfl))
 f337:=Tryz.func254.trans (congrArg some (by kernel_rfl))
 f338:=Tryz.func255.trans (congrArg some (by kernel_rfl))
 t0:=Tryz.underlying0
 a0:=Tryz.isAgg0
 z0:=Tryz.sizeOf0
 v0:=Tryz.zeroValue0
 t2:=Tryz.underlying2
 a2:=Tryz.isAgg2
 z2:=Tryz.sizeOf2
 v2:=Tryz.zeroValue2
 t3:=Tryz.underlying3
 a3:=Tryz.isAgg3
 z3:=Tryz.sizeOf3
 v3:=Tryz.zeroValue3
 t4:=Tryz.underlying4
 a4:=Tryz.isAgg4
 z4:=Tryz.sizeOf4
 v4:=Tryz.zeroValue4
 t5:=Tryz.underlying5
 a5:=Tryz.isAgg5
 z5:=Tryz.sizeOf5
 v5:=Tryz.zeroValue5
 t9:=Tryz.underlying9
 a9:=Tryz.isAgg9
 z9:=Tryz.sizeOf9
 v9:=Tryz.zeroValue9
 t20:=Tryz.underlying20
 a20:=Tryz.isAgg20
 z20:=Tryz.sizeOf20
 v20:=Tryz.zeroValue20
 t21:=Tryz.underlying21
 a21:=Tryz.isAgg21
 z21:=Tryz.sizeOf21
 v21:=Tryz.zeroValue21
 t37:=Tryz.underlying67
 a37:=Tryz.isAgg67
 z37:=Tryz.sizeOf67
 v37:=Tryz.zeroValue67
 t46:=Tryz.underlying174
 a46:=Tryz.isAgg174
 z46:=Tryz.sizeOf174
 v46:=Tryz.zeroValue174
 t51:=Tryz.underlying310
 a51:=Tryz.isAgg310
 z51:=Tryz.sizeOf310
 v51:=Tryz.zeroValue310
 t53:=Tryz.underlying234
 a53:=Tryz.isAgg234
 z53:=Tryz.sizeOf234
 v53:=Tryz.zeroValue234
 t75:=Tryz.underlying75
 a75:=Tryz.isAgg75
 z75:=Tryz.sizeOf75
 v75:=Tryz.zeroValue75
 t76:=Tryz.underlying76
 a76:=Tryz.isAgg76
 z76:=Tryz.sizeOf76
 v76:=Tryz.zeroValue76
 t85:=Tryz.underlying243
 a85:=Tryz.isAgg243
 z85:=Tryz.sizeOf243
 v85:=Tryz.zeroValue243
 t127:=Tryz.underlying130
 a127:=Tryz.isAgg130
 z127:=Tryz.sizeOf130
 v127:=Tryz.zeroValue130
 t143:=Tryz.underlying362
 a143:=Tryz.isAgg362
 z143:=Tryz.sizeOf362
 v143:=Tryz.zeroValue362
 t145:=Tryz.underlying364
 a145:=Tryz.isAgg364
 z145:=Tryz.sizeOf364
 v145:=Tryz.zeroValue364
 t167:=Tryz.underlying242
 a167:=Tryz.isAgg242
 z167:=Tryz.sizeOf242
 v167:=Tryz.zeroValue242
 t168:=Tryz.underlying245
 a168:=Tryz.isAgg245
 z168:=Tryz.sizeOf245
 v168:=Tryz.zeroValue245
 t171:=Tryz.underlying233
 a171:=Tryz.isAgg233
 z171:=Tryz.sizeOf233
 v171:=Tryz.zeroValue233
 t173:=Tryz.underlying237
 a173:=Tryz.isAgg237
 z173:=Tryz.sizeOf237
 v173:=Tryz.zeroValue237
 t175:=Tryz.underlying320
 a175:=Tryz.isAgg320
 z175:=Tryz.sizeOf320
 v175:=Tryz.zeroValue320
 t210:=Tryz.underlying323
 a210:=Tryz.isAgg323
 z210:=Tryz.sizeOf323
 v210:=Tryz.zeroValue323
 t212:=Tryz.underlying309
 a212:=Tryz.isAgg309
 z212:=Tryz.sizeOf309
 v212:=Tryz.zeroValue309
 t213:=Tryz.underlying311
 a213:=Tryz.isAgg311
 z213:=Tryz.sizeOf311
 t232:=Tryz.underlying375
 a232:=Tryz.isAgg375
 z232:=Tryz.sizeOf375
 v232:=Tryz.zeroValue375
 t233:=Tryz.underlying376
 a233:=Tryz.isAgg376
 z233:=Tryz.sizeOf376
 v233:=Tryz.zeroValue376
 g15:=by kernel_rfl
 g16:=by kernel_rfl
 g17:=by kernel_rfl
 g18:=by kernel_rfl
 g19:=by kernel_rfl
 t80:=Tryz.underlying48
 a80:=Tryz.isAgg48
 z80:=Tryz.sizeOf48
 v80:=Tryz.zeroValue48
 i0:=by kernel_rfl
 i2:=by kernel_rfl
 i3:=by kernel_rfl
 i4:=by kernel_rfl
 i5:=by kernel_rfl
 i9:=by kernel_rfl
 i20:=by kernel_rfl
 i21:=by kernel_rfl
 i37:=by kernel_rfl
 i46:=by kernel_rfl
 i51:=by kernel_rfl
 i53:=by kernel_rfl
 i75:=by kernel_rfl
 i76:=by kernel_rfl
 i80:=by kernel_rfl
 i85:=by kernel_rfl
 i127:=by kernel_rfl
 i143:=by kernel_rfl
 i145:=by kernel_rfl
 i167:=by kernel_rfl
 i168:=by kernel_rfl
 i171:=by kernel_rfl
 i173:=by kernel_rfl
 i175:=by kernel_rfl
 i210:=by kernel_rfl
 i212:=by kernel_rfl
 i232:=by kernel_rfl
 i233:=by kernel_rfl
 m15:=by kernel_rfl
 m16:=by kernel_rfl
 m17:=by kernel_rfl
 m18:=by kernel_rfl
 m19:=by kernel_rfl
 c0:=by kernel_rfl
 c2:=by kernel_rfl
 c3:=by kernel_rfl
 c4:=by kernel_rfl
 c5:=by kernel_rfl
 c9:=by kernel_rfl
 c20:=by kernel_rfl
 c21:=by kernel_rfl
 c37:=by kernel_rfl
 c46:=by kernel_rfl
 c51:=by kernel_rfl
 c53:=by kernel_rfl
 c75:=by kernel_rfl
 c76:=by kernel_rfl
 c80:=by kernel_rfl
 c85:=by kernel_rfl
 c127:=by kernel_rfl
 c143:=by kernel_rfl
 c145:=by kernel_rfl
 c167:=by kernel_rfl
 c168:=by kernel_rfl
 c171:=by kernel_rfl
 c173:=by kernel_rfl
 c175:=by kernel_rfl
 c210:=by kernel_rfl
 c212:=by kernel_rfl
 c213:=by kernel_rfl
 c232:=by kernel_rfl
 c233:=by kernel_rfl
theorem lays137:Lays.n137 Tryz.prog renS where
 mixed:=by kernel_rfl
 f137:=Tryz.func147.trans (congrArg some (by kernel_rfl))
 f217:=Tryz.func138.trans (congrArg some (by kernel_rfl))
 f266:=Tryz.func210.trans (congrArg some (by kernel_rfl))
 t3:=Tryz.underlying3
 a3:=Tryz.isAgg3
 z3:=Tryz.sizeOf3
 v3:=Tryz.zeroValue3
 t5:=Tryz.underlying5
 a5:=Tryz.isAgg5
 z5:=Tryz.sizeOf5
 v5:=Tryz.zeroValue5
 t9:=Tryz.underlying9
 a9:=Tryz.isAgg9
 z9:=Tryz.sizeOf9
 v9:=Tryz.zeroValue9
theorem lays102:Lays.n102 Tryz.prog renS where
 mixed:=by kernel_rfl
 f102:=Tryz.func22.trans (congrArg some (by kernel_rfl))
 f207:=Tryz.func66.trans (congrArg some (by kernel_rfl))
 f209:=Tryz.func37.trans (congrArg some (by kernel_rfl))
 t3:=Tryz.underlying3
 a3:=Tryz.isAgg3
 z3:=Tryz.sizeOf3
 v3:=Tryz.zeroValue3
 t4:=Tryz.underlying4
 a4:=Tryz.isAgg4
 z4:=Tryz.sizeOf4
 v4:=Tryz.zeroValue4
 t9:=Tryz.underlying9
 a9:=Tryz.isAgg9
 z9:=Tryz.sizeOf9
 v9:=Tryz.zeroValue9
theorem lays168:Lays.n168 Tryz.prog renS where
 mixed:=by kernel_rfl
 f168:=Tryz.func87.trans (congrArg some (by kernel_rfl))
 f240:=Tryz.func48.trans (congrArg some (by kernel_rfl))
 f242:=Tryz.func136.trans (congrArg some (by kernel_rfl))
 f276:=Tryz.func82.trans (congrArg some (by kernel_rfl))
 f278:=Tryz.func208.trans (congrArg some (by kernel_rfl))
 t0:=Tryz.underlying0
 a0:=Tryz.isAgg0
 z0:=Tryz.sizeOf0
 v0:=Tryz.zeroValue0
 t3:=Tryz.underlying3
 a3:=Tryz.isAgg3
 z3:=Tryz.sizeOf3
 v3:=Tryz.zeroValue3
 t4:=Tryz.underlying4
 a4:=Tryz.isAgg4
 z4:=Tryz.sizeOf4
 v4:=Tryz.zeroValue4
 t5:=Tryz.underlying5
 a5:=Tryz.isAgg5
 z5:=Tryz.sizeOf5
 v5:=Tryz.zeroValue5
 t9:=Tryz.underlying9
 a9:=Tryz.isAgg9
 z9:=Tryz.sizeOf9
 v9:=Tryz.zeroValue9
 t20:=Tryz.underlying20
 a20:=Tryz.isAgg20
 z20:=Tryz.sizeOf20
 v20:=Tryz.zeroValue20
 t21:=Tryz.underlying21
 a21:=Tryz.isAgg21
 z21:=Tryz.sizeOf21
 v21:=Tryz.zeroValue21
 t37:=Tryz.underlying67
 a37:=Tryz.isAgg67
 z37:=Tryz.sizeOf67
 v37:=Tryz.zeroValue67
 t46:=Tryz.underlying174
 a46:=Tryz.isAgg174
 z46:=Tryz.sizeOf174
 v46:=Tryz.zeroValue174
 t51:=Tryz.underlying310
 a51:=Tryz.isAgg310
 z51:=Tryz.sizeOf310
 v51:=Tryz.zeroValue310
 t70:=Tryz.underlying66
 a70:=Tryz.isAgg66
 z70:=Tryz.sizeOf66
 v70:=Tryz.zeroValue66
 t72:=Tryz.underlying69
 a72:=Tryz.isAgg69
 z72:=Tryz.sizeOf69
 v72:=Tryz.zeroValue69
 t75:=Tryz.underlying75
 a75:=Tryz.isAgg75
 z75:=Tryz.sizeOf75
 v75:=Tryz.zeroValue75
 t164:=Tryz.underlying167
 a164:=Tryz.isAgg167
 z164:=Tryz.sizeOf167
 v164:=Tryz.zeroValue167
theorem lays166:Lays.n166 Tryz.prog renS where
 mixed:=by kernel_rfl
 f166:=Tryz.func24.trans (congrArg some (by kernel_rfl))
 f240:=Tryz.func48.trans (congrArg some (by kernel_rfl))
 f276:=Tryz.func82.trans (congrArg some (by kernel_rfl))
 t0:=Tryz.underlying0
 a0:=Tryz.isAgg0
 z0:=Tryz.sizeOf0
 v0:=Tryz.zeroValue0
 t3:=Tryz.underlying3
 a3:=Tryz.isAgg3
 z3:=Tryz.sizeOf3
 v3:=Tryz.zeroValue3
 t4:=Tryz.underlying4
 a4:=Tryz.isAgg4
 z4:=Tryz.sizeOf4
 v4:=Tryz.zeroValue4
 t9:=Tryz.underlying9
 a9:=Tryz.isAgg9
 z9:=Tryz.sizeOf9
 v9:=Tryz.zeroValue9
 t20:=Tryz.underlying20
 a20:=Tryz.isAgg20
 z20:=Tryz.sizeOf20
 v20:=Tryz.zeroValue20
 t37:=Tryz.underlying67
 a37:=Tryz.isAgg67
 z37:=Tryz.sizeOf67
 v37:=Tryz.zeroValue67
 t70:=Tryz.underlying66
 a70:=Tryz.isAgg66
 z70:=Tryz.sizeOf66
 v70:=Tryz.zeroValue66
 t72:=Tryz.underlying69
 a72:=Tryz.isAgg69
 z72:=Tryz.sizeOf69
 v72:=Tryz.zeroValue69
 t75:=Tryz.underlying75
 a75:=Tryz.isAgg75
 z75:=Tryz.sizeOf75
 v75:=Tryz.zeroValue75
 t164:=Tryz.underlying167
 a164:=Tryz.isAgg167
 z164:=Tryz.sizeOf167
 v164:=Tryz.zeroValue167
theorem lays169:Lays.n169 Tryz.prog renS where
 mixed:=by kernel_rfl
 f169:=Tryz.func27.trans (congrArg some (by kernel_rfl))
 t0:=Tryz.underlying0
 a0:=Tryz.isAgg0
 z0:=Tryz.sizeOf0
 v0:=Tryz.zeroValue0
 t3:=Tryz.underlying3
 a3:=Tryz.isAgg3
 z3:=Tryz.sizeOf3
 v3:=Tryz.zeroValue3
 t9:=Tryz.underlying9
 a9:=Tryz.isAgg9
 z9:=Tryz.sizeOf9
 v9:=Tryz.zeroValue9
 t37:=Tryz.underlying67
 a37:=Tryz.isAgg67
 z37:=Tryz.sizeOf67
 v37:=Tryz.zeroValue67
 t70:=Tryz.underlying66
 a70:=Tryz.isAgg66
 z70:=Tryz.sizeOf66
 v70:=Tryz.zeroValue66
 t72:=Tryz.underlying69
 a72:=Tryz.isAgg69
 z72:=Tryz.sizeOf69
 v72:=Tryz.zeroValue69
 t127:=Tryz.underlying130
 a127:=Tryz.isAgg130
 z127:=Tryz.sizeOf130
 v127:=Tryz.zeroValue130
theorem lays156:Lays.n156 Tryz.prog renS where
 mixed:=by kernel_rfl
 f156:=Tryz.func52.trans (congrArg some (by kernel_rfl))
 f165:=Tryz.func88.trans (congrArg some (by kernel_rfl))
 f166:=Tryz.func24.trans (congrArg some (by kernel_rfl))
 f169:=Tryz.func27.trans (congrArg some (by kernel_rfl))
 f240:=Tryz.func48.trans (congrArg some (by kernel_rfl))
 f241:=Tryz.func137.trans (congrArg some (by kernel_rfl))
 f276:=Tryz.func82.trans (congrArg some (by kernel_rfl))
 f277:=Tryz.func209.trans (congrArg some (by kernel_rfl))
 t0:=Tryz.underlying0
 a0:=Tryz.isAgg0
 z0:=Tryz.sizeOf0
 v0:=Tryz.zeroValue0
 t3:=Tryz.underlying3
 a3:=Tryz.isAgg3
 z3:=Tryz.sizeOf3
 v3:=Tryz.zeroValue3
 t4:=Tryz.underlying4
 a4:=Tryz.isAgg4
 z4:=Tryz.sizeOf4
 v4:=Tryz.zeroValue4
 t9:=Tryz.underlying9
 a9:=Tryz.isAgg9
 z9:=Tryz.sizeOf9
 v9:=Tryz.zeroValue9
 t20:=Tryz.underlying20
 a20:=Tryz.isAgg20
 z20:=Tryz.sizeOf20
 v20:=Tryz.zeroValue20
 t31:=Tryz.underlying44
 a31:=Tryz.isAgg44
 z31:=Tryz.sizeOf44
 v31:=Tryz.zeroValue44
 t37:=Tryz.underlying67
 a37:=Tryz.isAgg67
 z37:=Tryz.sizeOf67
 v37:=Tryz.zeroValue67
 t70:=Tryz.underlying66
 a70:=Tryz.isAgg66
 z70:=Tryz.sizeOf66
 v70:=Tryz.zeroValue66
 t72:=Tryz.underlying69
 a72:=Tryz.isAgg69
 z72:=Tryz.sizeOf69
 v72:=Tryz.zeroValue69
 t75:=Tryz.underlying75
 a75:=Tryz.isAgg75
 z75:=Tryz.sizeOf75
 v75:=Tryz.zeroValue75
 t76:=Tryz.underlying76
 a76:=Tryz.isAgg76
 z76:=Tryz.sizeOf76
 v76:=Tryz.zeroValue76
 t127:=Tryz.underlying130
 a127:=Tryz.isAgg130
 z127:=Tryz.sizeOf130
 v127:=Tryz.zeroValue130
 t164:=Tryz.underlying167
 a164:=Tryz.isAgg167
 z164:=Tryz.sizeOf167
 v164:=Tryz.zeroValue167
theorem bldX:Builder.Extra Tryz.prog renS where
 sizeBuilder:=by kernel_rfl
 liesBuilder:=by kernel_rfl
 t5:=Tryz.underlying5
 a5:=Tryz.isAgg5
 z5:=Tryz.sizeOf5
 v5:=Tryz.zeroValue5
 infoByte:=by kernel_rfl
 cellsByte:=by kernel_rfl
 sizeByte:=by kernel_rfl
 neB5:=by decide
theorem maxlen_ok (w:World) (h:w.ShapedOpen Tryz.prog):∃m,w.cell? ⟨0,0,none⟩=some (.int .i64 m):=
 cell_of_shapedOpen_int (zero:=#[.int .i64 0]) (t:=3) h (of_decide_eq_true (by kernel_rfl)) (by kernel_rfl) rfl (by kernel_rfl) (by kernel_rfl) Tryz.underlying3
theorem joinCt (l:List (Nat×Nat)) (id:Nat) (h:(cxU l).fm id=52):∀args r,joinQ args=some r→Ctr Tryz.prog (cxU l) none id args r:=
 join_ctr (by rw[h];exact⟨_,Tryz.func52,by kernel_rfl,by kernel_rfl⟩) lays156 bldX h
theorem spltCt (l:List (Nat×Nat)) (id:Nat) (h:(cxU l).fm id=9):∀args r,spltQ args=some r→Ctr Tryz.prog (cxU l) none id args r:=
 splt_ctr (by rw[h];exact⟨_,Tryz.func9,by kernel_rfl,by kernel_rfl⟩) (renS.t 9) fun s sep w hG h1 h2=>by
  rw[h];obtain⟨m,hm⟩:=hG.2.2.1;exact Any.strings_Split lays146 (by kernel_rfl) s sep m w h1 hm h2
theorem itoaCt (l:List (Nat×Nat)) (id:Nat) (h:(cxU l).fm id=25):∀args r,itoaQ args=some r→Ctr Tryz.prog (cxU l) none id args r:=
 itoa_ctr (by rw[h];exact⟨_,Tryz.func25,by kernel_rfl,by kernel_rfl⟩) fun n w hG h1 h2=>by
  rw[h];refine (Any.strconv_Itoa lays171 n h1 h2 w hG.2.1).mono fun e w' ⟨he,k,os,hw⟩=>⟨he,?_⟩;subst hw;exact Lib.below_grow _ w (Nat.le_refl _) k os
theorem bytesW_below (w:World) (e:TypeId) (t:ByteArray):Below w.heap.size w (Lib.bytesWorld w e t):=
 Lib.below_freeze ((Below.drew (Below.refl _ w)).alloc (Nat.le_refl _) _) (p:=⟨w.heap.size,_,none⟩) (Nat.le_refl _) _
theorem atoiCt (l:List (Nat×Nat)) (id:Nat) (h:(cxU l).fm id=56):∀args r,atoiQ args=some r→Ctr Tryz.prog (cxU l) none id args r:=
 atoi_ctr (by rw[h];exact⟨_,Tryz.func56,by kernel_rfl,by kernel_rfl⟩) fun s w hG hs=>by
  rw[h];cases ha:atoiAll s.data.toList with
  |ok n=>
   refine (Any.strconv_Atoi_ok lays172 s (by omega) n ha w).mono fun e w' ⟨he,hw⟩=>⟨⟨_,he.trans (by unfold atV;rw[ha]),.inl ⟨⟨n,rfl⟩,rfl⟩⟩,?_⟩;rcases hw with rfl|⟨t,rfl⟩
   ·exact Below.refl _ _
   ·exact bytesW_below w _ t
  |range=>
   obtain⟨te,pe,hv⟩:=hG.2.2.2.2;exact (Any.strconv_Atoi_range lays172 s hs ha _ w hv (.inr ⟨te,pe,rfl⟩)).mono fun e w' ⟨N,he,_,_,hb⟩=>⟨⟨_,he.trans (by unfold atV;rw[ha];rfl),.inr ⟨fun n hn=>(by cases hn),_,rfl⟩⟩,hb⟩
  |_=>
   obtain⟨te,pe,hv⟩:=hG.2.2.2.1;exact (Any.strconv_Atoi_syntax lays172 s hs ha _ w hv (.inr ⟨te,pe,rfl⟩)).mono fun e w' ⟨N,he,_,_,hb⟩=>⟨⟨_,he.trans (by unfold atV;rw[ha];rfl),.inr ⟨fun n hn=>(by cases hn),_,rfl⟩⟩,hb⟩
theorem idxCt (l:List (Nat×Nat)) (id:Nat) (h:(cxU l).fm id=147):∀args r,idxQ args=some r→Ctr Tryz.prog (cxU l) none id args r:=
 idx_ctr (by rw[h];exact⟨_,Tryz.func147,by kernel_rfl,by kernel_rfl⟩) fun s b w=>by
  rw[h];exact Any.strings_IndexByte lays137 s b w
end Sg
namespace Sg
open _root_.Go _root_.Go.RowKit _root_.Go.Proofs
def plainFm:List (Nat×Nat):=[(191,86)]
theorem okPlain:okF Tryz.prog (cxU plainFm) (onePg 191 F191) 86 F191=true:=by kernel_rfl
theorem plain_walk (r n:Int) (w:World) (hgn:6≤w.heap.size) (hT:GS w) :
  Calls Tryz.prog 86 #[.int .i32 r,.int .i64 n] w fun e w'=>e=.returned (.bool (plainR r n))∧Below w.heap.size w w':=by
 have hk:K' (onePg 191 F191) 191 [.int .i32 r,.int .i64 n]=some (.bool (plainR r n)):=K191 (by simp[H191,onePg]) r n
 obtain⟨m,hm⟩:=K'_iff.1 hk
 have hc:=one_sound (P:=Tryz.prog) (cx:=cxU plainFm) (id:=191) (F:=F191) (by kernel_rfl) okPlain m 191 _ _ hm
 refine (hc.2 w (fun _=>False) #[.int .i32 r,.int .i64 n] (fun b hb=>hb.elim) hgn hT rfl (fun i hi=>by
  match i,hi with
  |0,_=>exact⟨_,rfl,.int _ _⟩
  |1,_=>exact⟨_,rfl,.int _ _⟩
  |k+2,hi=>exact absurd hi (by simp))).mono fun e w' ⟨v,he,hb,hr⟩=>?_
 have hr:=hr.data (fun b hb=>hb.elim)
 cases hr
 exact⟨he,hb⟩
theorem decCt (l:List (Nat×Nat)) (id:Nat) (h:(cxU l).fm id=85):∀args r,decQ args=some r→Ctr Tryz.prog (cxU l) none id args r:=
 dec_ctr (by rw[h];exact⟨_,Tryz.func85,by kernel_rfl,by kernel_rfl⟩) fun s w hG=>by rw[h];exact dec_walk s w hG.1
theorem keyCt (l:List (Nat×Nat)) (id:Nat) (h:(cxU l).fm id=229):∀args r,keyQ args=some r→Ctr Tryz.prog (cxU l) none id args r:=
 key_ctr (by rw[h];exact⟨_,Tryz.func229,by kernel_rfl,by kernel_rfl⟩) fun s w hgn hG=>by rw[h];exact key_walk s w hgn hG plain_walk
end Sg
namespace Sg
open _root_.Go _root_.Go.RowKit _root_.Go.Proofs _root_.Go.Shelf
theorem YdV {l:List UInt8} (h:l≠[]):plL l=(plainR (dN l).1 (dN l).2&&!decide ((dN l).1=37)):=by
 unfold plL;rw[Ybr h,Yal h];by_cases c:dN l=(65533,1)
 ·rw[Gl c,c];rfl
 ·rw[Gj c]
  congr 2
  exact G8.2 (by simp only;omega)
theorem Ydb (l:List UInt8):Lib.decodeL l=dN l:=by
 show Utf8.decode ⟨l.toArray⟩ 0=_
 rw[decode_drop];rfl
theorem Ycc {l:List UInt8} (h:l≠[]) (hp:plainR (dN l).1 (dN l).2=true):Lib.encodeRune ((dN l).1:Int)=l.take (dN l).2:=by
 have:=Lib.encode_decode l h (by
  rw[Ydb];rintro⟨h1,h2⟩;rw[h1,h2] at hp;simp[plainR] at hp)
 rwa [Ydb] at this
theorem Ycv {l:List UInt8} (h:l≠[]):shw l=(if (plainR (dN l).1 (dN l).2&&!decide ((dN l).1=37))=true then Lib.encodeRune ((dN l).1:Int) else (l.take (dN l).2).flatMap YS)++shw (l.drop (dN l).2):=by
 rw[Ybt h];unfold YM;rw[YdV h];by_cases c:(plainR (dN l).1 (dN l).2&&!decide ((dN l).1=37))=true
 ·rw[Gl c,Gl c];rw[Gg] at c;rw[Ycc h c.1]
 ·rw[Gj c,Gj c]
theorem YcM (r:Int):(Lib.encodeRune r).length≤4:=by
 have:=Lib.runeCells_le r;rw[Lib.runeCells_length] at this;exact this.2
def RowB (w:World) (g:Nat) (x:ByteArray):Prop:=∃c fz,w.heap[g]?=some (.cells c 5 fz)∧∀j,j<x.size→c[j]?=some (.int .u8 (x.data.toList.getD j 0).toNat)
theorem RowB.cell {w:World} {g:Nat} {x:ByteArray} (h:RowB w g x) {j:Nat} (hj:j<x.size):w.cell? ⟨g,j,none⟩=some (.int .u8 (x.data.toList.getD j 0).toNat):=by
 obtain⟨c,fz,h1,h2⟩:=h;rw[Lib.cell_of_heap h1,h2 j hj]
theorem RowB.kept {w w':World} {g:Nat} {x:ByteArray} (h:RowB w g x) (hk:w'.heap[g]?=w.heap[g]?):RowB w' g x:=by
 obtain⟨c,fz,h1,h2⟩:=h;exact⟨c,fz,hk.trans h1,h2⟩
theorem RowB.lt {w:World} {g:Nat} {x:ByteArray} (h:RowB w g x):g<w.heap.size:=by
 obtain⟨c,fz,h1,h2⟩:=h;exact (Array.getElem?_eq_some_iff.1 h1).1
theorem Ycu (w:World) (x:ByteArray):RowB (Lib.bytesWorld w 5 x) w.heap.size x:=by
 refine⟨_,_,Lib.bytesWorld_at_new w 5 x,fun j hj=>?_⟩;have h:=Lib.bytesWorld_cell w 5 x j hj;rwa [Lib.cell_of_heap (Lib.bytesWorld_at_new w 5 x)] at h
theorem YcF {T e:TypeId} {B b k:Nat} {bs:List Value} {w:World} {x:ByteArray} {p:Nat} (h:Lib.IsBuilderF T e B b bs w) (hk:w.heap[k]?=some (.stringIter x p)):¬BX b w k:=by
 obtain⟨h1,h2,p,v,h3,h4,h5,-⟩:=Jcj h;rintro (rfl|⟨u,hu,hub⟩)
 ·rw[h3] at hk;simp at hk
 ·have:u=v:=by
   simp only[World.cell?,h3] at hu;simpa using hu.symm
  subst this;rcases h4.2 with ⟨rfl,_⟩|⟨g,cap,cur,fz,rfl,hg,hgg,_⟩
  ·simp[Value.ownBlock] at hub
  ·simp only[Value.ownBlock,Ga] at hub;subst hub;rw[hgg] at hk;simp at hk
theorem Ycd (k:Nat) (hk:k<16) (u:World):(Instr.index 9 (.string {data:=#[48,49,50,51,52,53,54,55,56,57,65,66,67,68,69,70]}) (.int .u8 (k:Int))).run Tryz.prog u=.ok (.int .u8 ((YO k).toNat:Int)) u:=by
 have t9:=Tryz.underlying9;have hk2:k=0∨k=1∨k=2∨k=3∨k=4∨k=5∨k=6∨k=7∨k=8∨k=9∨k=10∨k=11∨k=12∨k=13∨k=14∨k=15:=by omega
 rcases hk2 with rfl|rfl|rfl|rfl|rfl|rfl|rfl|rfl|rfl|rfl|rfl|rfl|rfl|rfl|rfl|rfl
 all_goals
  simp[t9,go_sem]
  try rfl
theorem YdF:∀k:Fin 256,bits BinOp.and IntKind.u8 (k.1:Int) 15=((k.1 % 16:Nat):Int):=by decide +kernel
theorem YdH (wd:World) (c:UInt8):(convert 67 9 (.slice (some ⟨wd.heap.size,0,none⟩) 3 3)).run Tryz.prog (wd.alloc (.cells #[.int .u8 37,.int .u8 ((YO (c.toNat / 16)).toNat:Int),.int .u8 ((YO (c.toNat % 16)).toNat:Int)] 5))=
  .ok (.string ⟨(YS c).toArray⟩) (wd.alloc (.cells #[.int .u8 37,.int .u8 ((YO (c.toNat / 16)).toNat:Int),.int .u8 ((YO (c.toNat % 16)).toNat:Int)] 5)):=by
 have h:=run_convert_bytes_arg (P:=Tryz.prog) (wd.alloc (.cells #[.int .u8 37,.int .u8 ((YO (c.toNat / 16)).toNat:Int),.int .u8 ((YO (c.toNat % 16)).toNat:Int)] 5)) 67 5 Tryz.underlying67 Tryz.underlying5 wd.heap.size 0 3 3 [37,((YO (c.toNat / 16)).toNat:Int),((YO (c.toNat % 16)).toNat:Int)] rfl (fun i hi=>by
  rw[Lib.cell_of_heap (heap_alloc_new wd _)];have:i=0∨i=1∨i=2:=by omega
  rcases this with rfl|rfl|rfl<;>rfl) 9 Tryz.underlying9
 rw[h]
 simp[strOfNums,YS]
set_option maxRecDepth 1000000 in
theorem show_walk (s:ByteArray) (w:World) (hs:s.size≤1099511627776) (hgn:6≤w.heap.size) (hT:GS w) :
  Calls Tryz.prog 51 #[.string s] w fun e w'=>e=.returned (.string ⟨(YQ s.data.toList).toArray⟩)∧Below w.heap.size w w':=by
 have t0:=Tryz.underlying0;have t3:=Tryz.underlying3;have t4:=Tryz.underlying4;have t9:=Tryz.underlying9;have t21:=Tryz.underlying21;have t5:=Tryz.underlying5;have t67:=Tryz.underlying67;have t69:=Tryz.underlying69
 have hu0:=run_underlying t0;have hu3:=run_underlying t3;have hu4:=run_underlying t4;have hu9:=run_underlying t9;have hu21:=run_underlying t21;have hu5:=run_underlying t5;have hu67:=run_underlying t67;have hu69:=run_underlying t69
 have mixed:Tryz.prog.follows .mixedOrders=true:=by kernel_rfl
 have a0:=Tryz.isAgg0;have z0:=Tryz.sizeOf0;have v0:=Tryz.zeroValue0
 have a3:=Tryz.isAgg3;have z3:=Tryz.sizeOf3;have v3:=Tryz.zeroValue3
 have a4:=Tryz.isAgg4;have z4:=Tryz.sizeOf4;have v4:=Tryz.zeroValue4
 have a5:=Tryz.isAgg5;have z5:=Tryz.sizeOf5;have v5:=Tryz.zeroValue5
 have a9:=Tryz.isAgg9;have z9:=Tryz.sizeOf9;have v9:=Tryz.zeroValue9
 have a21:=Tryz.isAgg21;have z21:=Tryz.sizeOf21;have v21:=Tryz.zeroValue21
 have a67:=Tryz.isAgg67;have z67:=Tryz.sizeOf67;have v67:=Tryz.zeroValue67
 have a69:=Tryz.isAgg69;have z69:=Tryz.sizeOf69;have v69:=Tryz.zeroValue69
 by_cases hne:s=⟨#[]⟩
 ·subst hne
  go_enter Tryz.func51,Tryz.ntmps51
  go_wp2
  go_ret
  exact⟨rfl,Below.refl _ _⟩
 have hE:s.toList.isEmpty=false:=by
  rw[Lib.toList_data,List.isEmpty_eq_false_iff];intro h;apply hne;cases s;simp at h;rw[h]
 go_enter Tryz.func51,Tryz.ntmps51
 go_wp2
 go_loopw [] (fun wr=>∃(pos:Nat) (acc:List UInt8),Lib.IsBuilderF 69 5 w.heap.size w.heap.size (Lib.byteCells acc) wr∧wr.heap[w.heap.size+1]?=some (.stringIter s pos)∧Below w.heap.size w wr∧acc++shw (s.data.toList.drop pos)=shw s.data.toList∧pos≤s.size∧acc.length≤4*pos) (fun wr=>s.size-wr.iterPos (w.heap.size+1))
 case atStart=>
  refine⟨0,[],(Lib.IsBuilderF.of (Lib.fresh_isBuilder 69 5 w)).alloc _,?_,((Below.refl _ w).alloc (Gm _) _).alloc (by simp) _,rfl,by omega,by simp⟩
  have:=World.iter_heap (w.alloc (.cells #[.pointer none,.slice none 0 0] 69)) s 0
  simpa using this
 case round=>
  obtain⟨pos,acc,hI,hit,hbw,hacc,hfu,hal⟩:=hrel
  have hsz:w.heap.size+1<wr.heap.size:=(Array.getElem?_eq_some_iff.1 hit).1
  have hbT:∀W:World,Below w.heap.size w W→GS W:=fun W h=>gs_st w W hT fun b hb=>h.block b (by omega)
  by_cases hp:pos<s.size
  ·have hnx:∀ty,(Instr.next (.pointer (some ⟨w.heap.size+1,0,none⟩)) true ty).run Tryz.prog wr=_:=fun ty=>Lib.run_next_any_at wr (w.heap.size+1) s pos ty hit hp
   have hd1:=decode_le s pos
   have hI2:=hI.iterAt hit (pos+(Utf8.decode s pos).2)
   have hbw2:=Lib.below_iterAt hbw (k:=w.heap.size+1) (by omega) s (pos+(Utf8.decode s pos).2)
   have hit2:=Lib.iterAt_heap wr (w.heap.size+1) s pos (pos+(Utf8.decode s pos).2) hit
   have hsz2:w.heap.size+2≤(wr.iterAt (w.heap.size+1) s (pos+(Utf8.decode s pos).2)).heap.size:=by rw[Lib.iterAt_size];omega
   have hde:∀n,n=s.size→Lib.decodeGo (s.extract pos n)=Utf8.decode s pos:=fun n hn=>decode_extract s pos n hn hp
   have hw1:=width_pos s pos
   have hnil:s.data.toList.drop pos≠[]:=fun e=>drop_ne s pos hp e
   have hstep:=Ycv hnil
   have hle:=YaV hnil
   rw[Gu,size_list] at hle
   rw[←decode_drop s pos] at hstep hle
   rw[List.drop_drop] at hstep
   rw[hstep] at hacc
   clear hstep hnil
   generalize Utf8.decode s pos=D at *
   obtain⟨D1,D2⟩:=D
   simp only at hw1 hacc hbw2 hit2 hsz2 hde hnx hI2 hd1 hle
   clear hT
   go_wp2_with (go_at_call 85;refine (dec_walk _ _ (hbT _ hbw2).1).mono ?_;rintro e W1 ⟨rfl,b1⟩)
   have hb3:=hbw2.trans (b1.mono (by omega))
   have hs3:W1.heap.size≥w.heap.size+2:=GK hsz2 b1.size
   have hit3:W1.heap[w.heap.size+1]?=some (.stringIter s (pos+D2)):=(b1.block _ (by omega)).trans hit2
   have hI3:=(Jfg hI2 fun k hk=>b1.block k (Jfh hI2 hk).1).1
   have hpl:=plain_walk D1 D2 W1 (by omega) (hbT _ hb3)
   have hconv:∀(u:World) (x:ByteArray),(convert 9 67 (.string x)).run Tryz.prog u=_:=fun u x=>Lib.run_convert_string_bytes u 9 67 5 x t9 t67 t5
   clear hI hI2 hde
   have hc:(plainR D1 D2=true∧D1≠37)∨(plainR D1 D2=true∧D1=37)∨plainR D1 D2=false:=by
    cases plainR D1 D2<;>simp<;>omega
   rcases hc with ⟨hP,h37⟩|hc
   ·rw[hP] at hpl hacc
    rw[Gl (by simp[h37])] at hacc
    go_wp2_with (go_at_call 86;refine hpl.mono ?_;rintro e W2 ⟨rfl,b2⟩)
    have hb4:=hb3.trans (b2.mono (by omega))
    have hs4:W2.heap.size≥w.heap.size+2:=GK hs3 b2.size
    have hit4:W2.heap[w.heap.size+1]?=some (.stringIter s (pos+D2)):=(b2.block _ (by omega)).trans hit3
    have hI4:=(Jfg hI3 fun k hk=>b2.block k (Jfh hI3 hk).1).1
    refine (Any.Builder_WriteRune_k lays168 bldX w.heap.size w.heap.size _ D1 (by omega) (by omega) _ hI4 (by rw[Lib.byteCells_length];omega) (by omega)).mono ?_
    rintro e W3 ⟨rfl,h1,b3,k3⟩
    have hit5:=k3.iter hit4 (by omega)
    go_wp2
    go_roundw
    case rel=>
     refine⟨pos+D2,acc++Lib.encodeRune D1,?_,hit5,hb4.trans b3,?_,by omega,?_⟩
     ·rw[Lib.byteCells_append,Lib.byteCells_encodeRune];exact Or.inr h1
     ·rw[←hacc,GG]
     ·have:=YcM D1
      rw[Gk];omega
    case measure=>
     simp only[World.iterPos,hit5,hit]
     omega
   ·have hno:¬(plainR D1 D2&&!decide (D1=37))=true:=by
     rcases hc with ⟨h1,h2⟩|h1
     ·simp[h2]
     ·simp[h1]
    rw[Gj hno] at hacc
    clear hno
    have hslc:∀u:World,(Instr.slice 9 (.string s) (some (.int .i64 (pos:Int))) (some (.int .i64 ((pos:Int)+(D2:Int)))) none).run Tryz.prog u=.ok (.string (s.extract pos (pos+D2))) u:=fun u=>by
     rw[run_slice_string_if u 9 s .i64 .i64 _ _ t9,Gl (by omega),Gl (by omega)]
     rfl
    have hBl:(s.extract pos (pos+D2)).data.toList=(s.data.toList.drop pos).take D2:=by
     rw[ByteArray.data_extract,Array.toList_extract,List.extract_eq_take_drop,show pos+D2-pos=D2 by omega]
    generalize s.extract pos (pos+D2)=Bs at hslc hBl
    have hBs:Bs.size=D2:=by
     rw[←size_list,hBl,Gy,Gu,size_list];omega
    rw[←hBl] at hacc
    clear hBl
    rcases hc with ⟨hP,h37⟩|hP
    all_goals
     rw[hP] at hpl
     first|(have e37:((D1:Int) != 37)=false:=(by rw[h37];rfl))|skip
     go_wp2_with (go_at_call 86;refine hpl.mono ?_;rintro e W2 ⟨rfl,b2⟩)
     have hb4:=hb3.trans (b2.mono (by omega))
     have hs4:W2.heap.size≥w.heap.size+2:=GK hs3 b2.size
     have hit4:W2.heap[w.heap.size+1]?=some (.stringIter s (pos+D2)):=(b2.block _ (by omega)).trans hit3
     have hI4:=(Jfg hI3 fun k hk=>b2.block k (Jfh hI3 hk).1).1
     have hI5:=Jfg hI4 fun k hk=>Lib.bytesWorld_at_old W2 5 Bs k (Jfh hI4 hk).1
     have hit5:=(Lib.bytesWorld_at_old W2 5 Bs (w.heap.size+1) (by omega)).trans hit4
     have hrow:=Ycu W2 Bs
     have hb5:=hb4.trans ((bytesW_below W2 5 Bs).mono (by omega))
     have hbx5:¬BX w.heap.size (Lib.bytesWorld W2 5 Bs) W2.heap.size:=fun h=>by
      have:=(Jfh hI4 (hI5.2 _ h)).1;omega
     generalize Lib.bytesWorld W2 5 Bs=W3 at *
     generalize hg:W2.heap.size=g at *
     generalize grownCap W2 D2 0 5=gc at *
     have hI5:=hI5.1
     clear hI4 hit4 hb4 hs3 hit3 hI3 hpl hb3 hg hconv hslc hnx
     go_loopw [42] (fun v wr=>∃(i:Nat) (ac:List UInt8),v=.int .i64 i∧i≤D2∧Lib.IsBuilderF 69 5 w.heap.size w.heap.size (Lib.byteCells ac) wr∧wr.heap[w.heap.size+1]?=some (.stringIter s (pos+D2))∧RowB wr g Bs∧¬BX w.heap.size wr g∧Below w.heap.size w wr∧ac++(Bs.data.toList.drop i).flatMap YS=acc++Bs.data.toList.flatMap YS∧ac.length≤4*pos+3*i) (fun v _=>(D2-intOf v).toNat)
     case atStart=>exact⟨0,acc,rfl,by omega,hI5,hit5,hrow,hbx5,hb5,rfl,by omega⟩
     case round=>
      obtain⟨i,ac,rfl,hi,hIr,hitr,hrr,hbxr,hbr,hac,hal2⟩:=hrel
      by_cases hlt:i<D2
      ·have hcell:=hrr.cell (j:=i) (by omega)
       obtain⟨c,hc⟩:∃c,Hid (c=Bs.data.toList.getD i 0):=⟨_,rfl⟩
       rw[show Bs.data.toList.getD i 0=c from hc.symm] at hcell
       have hcl:=c.toNat_lt
       go_wp2
       have hx1:∀u:World,(Instr.index 9 (.string {data:=#[48,49,50,51,52,53,54,55,56,57,65,66,67,68,69,70]}) (.int .u8 ((c.toNat:Int) / 16))).run Tryz.prog u=.ok (.int .u8 ((YO (c.toNat / 16)).toNat:Int)) u:=fun u=>by
        have:=Ycd (c.toNat / 16) (by omega) u;rwa [Int.natCast_ediv] at this
       have hx2:∀u:World,(Instr.index 9 (.string {data:=#[48,49,50,51,52,53,54,55,56,57,65,66,67,68,69,70]}) (.int .u8 (bits BinOp.and IntKind.u8 (c.toNat:Int) 15))).run Tryz.prog u=.ok (.int .u8 ((YO (c.toNat % 16)).toNat:Int)) u:=fun u=>by
        rw[YdF ⟨c.toNat,by omega⟩];exact Ycd (c.toNat % 16) (by omega) u
       go_still_tail 6,(by kernel_rfl)
       change wpList _ _ _ _ _ wr.drew
       have hId:Lib.IsBuilderF 69 5 w.heap.size w.heap.size (Lib.byteCells ac) wr.drew:=hIr
       have hitd:wr.drew.heap[w.heap.size+1]?=some (.stringIter s (pos+D2)):=hitr
       have hrd:RowB wr.drew g Bs:=hrr
       have hbxd:¬BX w.heap.size wr.drew g:=hbxr
       have hbd:Below w.heap.size w wr.drew:=hbr.drew
       generalize wr.drew=wd at *
       clear hIr hitr hrr hbxr hbr hcell
       have hcv:=YdH wd c
       have hIe:=hId.alloc (.cells #[.int .u8 37,.int .u8 ((YO (c.toNat / 16)).toNat:Int),.int .u8 ((YO (c.toNat % 16)).toNat:Int)] 5)
       go_wp2_with (go_at_call 24;refine (bld_ws lays166 bldX w.heap.size w.heap.size (Lib.byteCells ac) ⟨(YS c).toArray⟩ _ hIe ?c1 ?c2).mono ?_)
       case c1=>rw[Lib.byteCells_length,show (⟨(YS c).toArray⟩:ByteArray).size=3 from rfl];omega
       case c2=>have:=(Jfh hIe (.inl rfl)).1;omega
       rintro e W4 ⟨rfl,h1,b1,k1,z1⟩
       clear hcv
       have hia:(wd.alloc (.cells #[.int .u8 37,.int .u8 ((YO (c.toNat / 16)).toNat:Int),.int .u8 ((YO (c.toNat % 16)).toNat:Int)] 5)).heap[w.heap.size+1]?=some (.stringIter s (pos+D2)):=
        (heap_alloc_old wd _ (Array.getElem?_eq_some_iff.1 hitd).1).trans hitd
       have hra:=hrd.kept (heap_alloc_old wd (.cells #[.int .u8 37,.int .u8 ((YO (c.toNat / 16)).toNat:Int),.int .u8 ((YO (c.toNat % 16)).toNat:Int)] 5) hrd.lt)
       have hxa:¬BX w.heap.size (wd.alloc (.cells #[.int .u8 37,.int .u8 ((YO (c.toNat / 16)).toNat:Int),.int .u8 ((YO (c.toNat % 16)).toNat:Int)] 5)) g:=
        fun h=>hbxd ((Jfg hId fun k hk=>heap_alloc_old wd _ (Jfh hId hk).1).2 _ h)
       have hba:=hbd.alloc hbd.size (.cells #[.int .u8 37,.int .u8 ((YO (c.toNat / 16)).toNat:Int),.int .u8 ((YO (c.toNat % 16)).toNat:Int)] 5)
       have hi4:=(k1 _ (Array.getElem?_eq_some_iff.1 hia).1 (YcF hIe hia)).1.trans hia
       have hk4:=k1 g hra.lt hxa
       have hr4:=hra.kept hk4.1
       have hb4:=hba.trans b1
       have hx4:=hk4.2
       clear k1 hk4 hia hra hxa hba b1 hIe hId hitd hrd hbxd hbd
       go_wp2
       go_roundw
       case rel=>
        refine⟨i+1,ac++YS c,by first|rfl|(congr 1)|go_num,by omega,?_,hi4,hr4,hx4,hb4,?_,?_⟩
        ·rw[Lib.byteCells_append];exact h1
        ·rw[←hac,GG]
         congr 1
         have hl:i<Bs.data.toList.length:=by rw[size_list];omega
         rw[GR hl,List.flatMap_cons]
         have:Bs.data.toList[i]=c:=by
          rw[show c=Bs.data.toList.getD i 0 from hc,List.getD_eq_getElem?_getD,List.getElem?_eq_getElem hl];rfl
         rw[this]
        ·rw[Gk,YaI];omega
       case measure=>simp[RowKit.intOf];omega
      ·have:i=D2:=by omega
       subst this
       rw[List.drop_eq_nil_of_le (by rw[size_list];omega),List.flatMap_nil,GI] at hac
       go_wp2
       refine⟨⟨pos+i,ac,hIr,hitr,hbr,?_,by omega,by omega⟩,?_⟩
       ·rw[hac,GG];exact hacc
       ·simp only[World.iterPos,hitr,hit]
        omega
  ·have hnx:∀ty,(Instr.next (.pointer (some ⟨w.heap.size+1,0,none⟩)) true ty).run Tryz.prog wr=_:=fun ty=>Lib.run_next_end_at wr (w.heap.size+1) s pos ty hit hp
   go_wp2_with (go_at_call 27;refine (Any.Builder_String_any_k lays169 bldX w.heap.size w.heap.size acc _ hI (by omega)).mono ?_)
   rintro e W1 ⟨rfl,_,b1,_⟩
   go_wp2
   go_ret
   rw[List.drop_eq_nil_of_le (by rw[size_list];omega),YbS,GI] at hacc
   subst hacc
   have:YQ s.data.toList=shw s.data.toList:=by
    unfold YQ;rw[Gj];intro e;rw[Lib.toList_data,e] at hE;simp at hE
   rw[this]
   exact⟨rfl,hbw.trans b1⟩
end Sg
namespace Sg
open _root_.Go (IntKind BinOp UnOp)
open _root_.Go.Lib (atoiAll itoa decDigits atoiSat)
variable {Pg:PgT}
theorem YaJ {n:Int} (h0:0≤n) (h1:n≤1099511627776):(itoa n).length≤13:=by
 obtain⟨i,rfl⟩:∃i:Nat,n=(i:Int):=⟨n.toNat,by omega⟩;rw[Yu];exact Yac 12 i (by omega)
def H672 (Pg:PgT):Prop:=Pg 672=some (.code F672)∧H28 Pg∧H662 Pg
theorem K672 (h:H672 Pg) (x y z:Int):K' Pg 672 [.agg [iz x,iz y,iz z]]=some (.str (if Yy x y z=true then Y4 x y z else [])):=by
 obtain⟨h,h28,h662⟩:=h;have k:=K28 h28 ⟨x,y,z⟩;simp only[Ym,YaZ] at k;refine JdD h rfl ?_;cases c:Yy x y z with
 |false=>
  rw[c] at k;simp only[F672,c672,go_sem,k]
 |true=>
  rw[c] at k;obtain⟨⟨a1,a2⟩,⟨b1,b2⟩,c1,c2⟩:=Yaf.1 c;have kx:=K662 h662 x (by omega) (by omega);have ky:=K662 h662 y (by omega) (by omega);have kz:=K662 h662 z (by omega) (by omega);have lx:=YaJ a1 a2;have ly:=YaJ b1 (by omega);have lz:=YaJ c1 (by omega);have s1:Ja1 .add (itoa x) [46]=some (.str (itoa x++[46])):=Gl (by simp;omega);have s2:Ja1 .add (itoa x++[46]) (itoa y)=some (.str (itoa x++[46]++itoa y)):=Gl (by simp;omega);have s3:Ja1 .add (itoa x++[46]++itoa y) [46]=some (.str (itoa x++[46]++itoa y++[46])):=Gl (by simp;omega);have s4:Ja1 .add (itoa x++[46]++itoa y++[46]) (itoa z)=some (.str (itoa x++[46]++itoa y++[46]++itoa z)):=Gl (by simp;omega);have e:Y4 x y z=itoa x++[46]++itoa y++[46]++itoa z:=by simp[Y4]
  rw[e];simp only[F672,c672,go_sem,k,kx,ky,kz,↓s1,↓s2,↓s3,↓s4,Gx]
theorem YcR {z n s off k}:Jbu z n (.lref s off) (.int k 0)=if 0<n then some (.lref s (off+0*z)) else none:=Jjc (i:=0)
attribute [go_sem] YcR
def eSx (r:Option (Int×Int×Int)):V:=.tuple [.agg (YU r),iz (if r.isSome then 0 else 3)]
def H679 (Pg:PgT):Prop:=Pg 679=some (.code F679)∧H649 Pg∧H677 Pg∧H672 Pg
theorem K679 (h:H679 Pg) (w:List UInt8) (hw:w.length≤2 ^ 20):K' Pg 679 [.str w]=some (eSx (stD w)):=by
 obtain⟨h,h649,h677,h672⟩:=h;have ks:=K649 h649 w 46 (by omega);have hj:=Yau 46 w;rw[←Ydx];refine JdD h rfl ?_;generalize hs:splt 46 w=l at ks hj;simp only[Yi] at ks;cases c1:decide ((l.length:Int)=3) with
 |false=>
  have hn:stP w=none:=by
   unfold stP;rw[hs];rcases l with _|⟨a,_|⟨b,_|⟨c,_|⟨d,l⟩⟩⟩⟩<;>first|rfl|(simp at c1;done)
  simp only[F679,c679,go_sem,ks,Gi,c1,hn,eSx,YU,Option.isSome_none]
 |true=>
 obtain⟨a,b,c,rfl⟩:∃a b c,l=[a,b,c]:=by
  have:=Ge c1;rcases l with _|⟨a,_|⟨b,_|⟨c,_|⟨d,l⟩⟩⟩⟩<;>first|exact⟨_,_,_,rfl⟩|(simp at this;done)|(simp at this;omega)
 have hp:stP w=if w.length≤30∧Yy (atV a) (atV b) (atV c)=true∧Y4 (atV a) (atV b) (atV c)=w then some (atV a,atV b,atV c) else none:=by unfold stP;rw[hs]
 simp only[joinB] at hj;have hlen:a.length+b.length+c.length+2=w.length:=by rw[←hj];simp;omega
 simp only[Gv,Gp] at ks;cases c2:decide ((30:Int)<(w.length:Int)) with
 |true=>
  have hn:stP w=none:=by rw[hp,Gj (by rintro⟨h,_⟩;have:=Ge c2;omega)]
  simp only[F679,c679,go_sem,ks,List.length_cons,List.length_nil,c2,hn,eSx,YU,Option.isSome_none]
 |false=>
  have hl:w.length≤30:=by have:=Gc c2;omega
  have ka:=K677 h677 a (by omega);have kb:=K677 h677 b (by omega);have kc:=K677 h677 c (by omega);have kw:=K672 h672 (atV a) (atV b) (atV c);have hcmp:decide ((if Yy (atV a) (atV b) (atV c)=true then Y4 (atV a) (atV b) (atV c) else [])=w)=(Yy (atV a) (atV b) (atV c)&&decide (Y4 (atV a) (atV b) (atV c)=w)):=by
   cases Yy (atV a) (atV b) (atV c) with
   |true=>simp
   |false=>
    have:¬([]:List UInt8)=w:=by intro e;rw[←e] at hlen;simp at hlen
    simp[this]
  simp only[F679,c679,go_sem,ks,List.length_cons,List.length_nil,c2];have w1:IntKind.i64.wrap (0+1)=1:=by decide
  have w2:IntKind.i64.wrap (1+1)=2:=by decide
  have w3:IntKind.i64.wrap (2+1)=3:=by decide
  unfold l679_0;refine JhZ ?_;simp only[b679_0,go_sem,ka,kb,kc,Nat.reduceMul,w1,w2,w3,Int.reduceLT,decide_true];refine JhZ ?_;simp only[b679_0,go_sem,ka,kb,kc,Nat.reduceMul,w1,w2,w3,Int.reduceLT,decide_true];refine JhZ ?_;simp only[b679_0,go_sem,ka,kb,kc,Nat.reduceMul,w1,w2,w3,Int.reduceLT,decide_true];refine JhZ ?_;cases c3:(Yy (atV a) (atV b) (atV c)&&decide (Y4 (atV a) (atV b) (atV c)=w)) with
  |true=>
   have hn:stP w=some (atV a,atV b,atV c):=by rw[hp,Gl ⟨hl,by simpa using c3⟩]
   simp only[b679_0,go_sem,w1,w2,w3,Int.reduceLT,decide_false,decide_true,Nat.reduceMul,kw,hcmp,c3,hn,eSx,YU,Option.isSome_some,Gx]
  |false=>
   have hn:stP w=none:=by rw[hp,Gj (by rintro⟨_,h⟩;simp[h] at c3)]
   simp only[b679_0,go_sem,w1,w2,w3,Int.reduceLT,decide_false,decide_true,Nat.reduceMul,kw,hcmp,c3,hn,eSx,YU,Option.isSome_none]
end Sg
namespace Sg
open _root_.Go (IntKind BinOp UnOp)
variable {Pg:PgT}
structure Rep where
 id:Int
 view:Int
 members:List Int
 n:Int
 base:List UInt8
 text:List UInt8
 acks:List Int
 deriving DecidableEq
structure Word where
 kind:Int
 frm:Int
 to:Int
 view:Int
 n:Int
 members:List Int
 text:List UInt8
 deriving DecidableEq
@[go_sem] def Yk (r:Rep):List V:=[iz r.id,iz r.view,Yd r.members,iz r.n,.str r.base,.str r.text,Yd r.acks]
@[go_sem] def Yz (r:Word):List V:=[iz r.kind,iz r.frm,iz r.to,iz r.view,iz r.n,Yd r.members,.str r.text]
def Yb (r:Rep):Bool:=match r.members with|[]=>false|m::_=>decide (m=r.id)
def YF (r:Rep):Bool:=r.members.all fun m=>decide (m∈r.acks)
structure RP (r:Rep):Prop where
 id:1≤r.id∧r.id≤255
 view:0≤r.view∧r.view≤1099511627776
 n:0≤r.n∧r.n≤1099511627776
 sm:SetP r.members
 sa:SetP r.acks
 sub:∀a∈r.acks,a∈r.members
 inn:r.members≠[]→r.id∈r.members
 lead:Yb r=true→r.id∈r.acks∧(YF r=true→r.base=r.text)
 not:Yb r=false→r.acks=[]∧r.base=r.text
def Ys (k:Nat):Int:=(k:Int)+1
structure Gh where
 V:Int
 who:Int→Nat
 mem:Int→List Int
 n0:Int→Int
 top:Int→Int
 τ:Int→Int→List UInt8
structure GOK (g:Gh):Prop where
 V1:1≤g.V
 who:∀v,1≤v→v≤g.V→g.who v<3
 set:∀v,1≤v→v≤g.V→SetP (g.mem v)∧(∀m∈g.mem v,1≤m∧m≤3)∧(g.mem v).head?=some (Ys (g.who v))
 n0:∀v,1≤v→v≤g.V→1≤g.n0 v∧g.n0 v≤g.top v
 chain:∀v,1≤v→v≤g.V→∀n m,g.n0 v≤n→n≤m→m≤g.top v→g.τ v n <+:g.τ v m
 next:∀v,1≤v→v+1≤g.V→Ys (g.who (v+1))∈g.mem v∧g.n0 v≤g.n0 (v+1)-1∧g.n0 (v+1)-1≤g.top v∧g.τ (v+1) (g.n0 (v+1))=g.τ v (g.n0 (v+1)-1)
def AckOK (g:Gh) (r:Nat→Rep) (j:Nat) (v n:Int):Prop:=
 v≤(r j).view∧((r j).view=v→n≤(r j).n)∧(v+1≤g.V→g.who (v+1)=j→n≤g.n0 (v+1)-1)
def Evd (g:Gh) (r:Nat→Rep) (v b:Int):Prop:=
 b=g.n0 v∨∀j,j<3→Ys j∈g.mem v→v≤(r j).view∧((r j).view=v→b≤(r j).n)
structure ROK (g:Gh) (r:Nat→Rep) (k:Nat):Prop where
 id:(r k).id=Ys k
 right:RP (r k)
 view:1≤(r k).view∧(r k).view≤g.V
 n:g.n0 (r k).view≤(r k).n∧(r k).n≤g.top (r k).view
 text:(r k).text=g.τ (r k).view (r k).n
 mem:(r k).members=[]∨(r k).members=g.mem (r k).view∧Ys k∈g.mem (r k).view
 top:Yb (r k)=true→(r k).n=g.top (r k).view
 base:Yb (r k)=true→∃b,g.n0 (r k).view≤b∧b≤(r k).n∧(r k).base=g.τ (r k).view b∧((r k).view+1≤g.V→b≤g.n0 ((r k).view+1)-1)∧Evd g r (r k).view b
 acks:Yb (r k)=true→∀a∈(r k).acks,a≠(r k).id→∃j,j<3∧a=Ys j∧AckOK g r j (r k).view (r k).n
structure WOK (g:Gh) (r:Nat→Rep) (x:Word):Prop where
 ship:x.kind=1→1≤x.view∧x.view≤g.V∧g.n0 x.view≤x.n∧x.n≤g.top x.view∧x.text=g.τ x.view x.n∧x.members=g.mem x.view∧x.frm=Ys (g.who x.view)
 ack:x.kind=2→∃j,j<3∧x.frm=Ys j∧AckOK g r j x.view x.n
 past:x.kind=3→x.view≤g.V
structure Fixd where
 text:List UInt8
 at_:Int
structure FOK (g:Gh) (r:Nat→Rep) (x:Fixd):Prop where
 at_:1≤x.at_∧x.at_≤g.V
 b:∃b,g.n0 x.at_≤b∧b≤g.top x.at_∧x.text=g.τ x.at_ b∧(x.at_+1≤g.V→b≤g.n0 (x.at_+1)-1)∧Evd g r x.at_ b
 now:∀k,k<3→Yb (r k)=true→(r k).view=x.at_→x.text <+:(r k).base
structure Told where
 view:Int
 who:Int
 members:List Int
structure Inv1 (g:Gh) (r:Nat→Rep) (net:List Word) (views:List Told) (fx:List Fixd):Prop where
 gk:GOK g
 rk:∀k,k<3→ROK g r k
 told:∀v,1≤v→v≤g.V→v≤(r (g.who v)).view
 netk:∀x∈net,WOK g r x
 viewk:∀t∈views,2≤t.view∧t.view≤g.V∧t.who=(g.who t.view:Int)
 all:∀v,2≤v→v≤g.V→∃t∈views,t.view=v
 fxk:∀x∈fx,FOK g r x
section
variable {g:Gh} {r:Nat→Rep} {net:List Word} {views:List Told} {fx:List Fixd}
theorem Inv1.say (h:Inv1 g r net views fx) {net':List Word} (hn:∀x∈net',WOK g r x):Inv1 g r net' views fx:=⟨h.gk,h.rk,h.told,hn,h.viewk,h.all,h.fxk⟩
end
section
variable {g:Gh} {r:Nat→Rep} {net:List Word} {views:List Told} {fx:List Fixd}
end
structure Thr where
 r:Nat→Rep
 net:List Word
 views:List Told
 fx:List Fixd
 count:Int
def YcZ (net:List Word) (i:Nat):List Word:=net.take i++net.drop (i+1)
theorem Ycj {net:List Word} {i:Nat} {x:Word} (h:x∈YcZ net i):x∈net:=by
 rcases GQ.1 h with h|h
 ·exact List.mem_of_mem_take h
 ·exact G6 h
def u64 (n:Int):Int:=Go.IntKind.u64.wrap n
abbrev IT (g:Gh) (t:Thr):Prop:=Inv1 g t.r t.net t.views t.fx
section
variable {g:Gh} {t:Thr}
theorem IT.off (h:IT g t) (i:Nat):IT g {t with net:=YcZ t.net i}:=Inv1.say h fun y hy=>h.netk y (Ycj hy)
end
section
variable {g:Gh} {t:Thr} {N:Int} {T:List UInt8}
end
@[go_sem] def Yaj (t:Told):List V:=[iz t.view,iz t.who,Yd t.members]
def Yt (r:Nat→Rep) (v1 v2 v3 v4 v5:V):List V:=Yk (r 0)++(Yk (r 1)++(Yk (r 2)++[v1,v2,v3,v4,v5]))
@[go_sem] def YV (t:Thr) (a b c d:Nat):List V:=Yt t.r (.own a 7 t.net.length) (.own b 3 t.views.length) (.own c 1 t.fx.length) (.own d 1 t.fx.length) (iz t.count)
structure Arr4 (A:AA) (t:Thr) (a b c d:Nat):Prop where
 ra:A a=some (7,t.net.map Yz,.live)
 rb:A b=some (3,t.views.map Yaj,.live)
 rc:A c=some (1,t.fx.map (fun f=>[.str f.text]),.live)
 rd:A d=some (1,t.fx.map (fun f=>[iz f.at_]),.live)
 rn:a≠b∧a≠c∧a≠d∧b≠c∧b≠d∧c≠d
def HT (S:St) (v:Nat) (t:Thr) (a b c d:Nat):Prop:=S.μ v=some (YV t a b c d,false)∧Arr4 S.A t a b c d
theorem Y7 {A:AA}:∀{l m:List V},l.all V.datC=true→(∀z,V.nslice z∉l)→Jal (l++m) A=(Jal m A).map fun r=>(l++r.1,r.2)
 |[],m,_,_=>by cases h:Jal m A<;>simp[h]
 |x::l,m,hd,hn=>by
  simp only[List.all_cons,Gg] at hd;have hx:handC A x=some (x,A):=by
   cases x<;>first|rfl|(simp[V.datC] at hd;done)|(exact absurd (GZ ..) (hn _))
  rw[List.cons_append,Jef,hx];simp only[Option.bind_some];rw[Y7 hd.2 (fun z hz=>hn z (by simp[hz]))];cases Jal m A<;>simp
theorem Y8 {A:AA}:∀{l m:List V} {d:Nat},l.all V.datC=true→JS d (l++m) A=(JS (d+l.length) m A).map fun r=>(l++r.1,r.2)
 |[],m,d,_=>by cases h:JS d m A<;>simp[h]
 |x::l,m,d,hd=>by
  simp only[List.all_cons,Gg] at hd;have hx:takeC d A x=some (x,A):=by
   cases x<;>first|rfl|(simp[V.datC] at hd;done)
  rw[List.cons_append,Jez,hx];simp only[Option.bind_some];rw[Y8 hd.2,show d+1+l.length=d+(x::l).length by simp;omega];cases JS (d+(x::l).length) m A<;>simp
theorem Y3 (r:Rep):(Yk r).all V.datC=true:=rfl
section
variable {r:Nat→Rep} {v1 v2 v3 v4 v5 w:V} {k s:Nat} {S:St}
theorem Yc8:(Yt r v1 v2 v3 v4 v5).length=26:=rfl
theorem YdN:(Yt r v1 v2 v3 v4 v5)[21]?=some v1:=rfl
theorem YdO:(Yt r v1 v2 v3 v4 v5)[22]?=some v2:=rfl
theorem YdP:(Yt r v1 v2 v3 v4 v5)[23]?=some v3:=rfl
theorem YdQ:(Yt r v1 v2 v3 v4 v5)[24]?=some v4:=rfl
theorem YdR:(Yt r v1 v2 v3 v4 v5)[25]?=some v5:=rfl
theorem Ydy:stV S s 21 [w] (some (Yt r v1 v2 v3 v4 v5,false))=some ⟨S.ρ,upd S.μ s (some (Yt r w v2 v3 v4 v5,false)),S.A⟩:=rfl
theorem Ydz:stV S s 22 [w] (some (Yt r v1 v2 v3 v4 v5,false))=some ⟨S.ρ,upd S.μ s (some (Yt r v1 w v3 v4 v5,false)),S.A⟩:=rfl
theorem YdA:stV S s 23 [w] (some (Yt r v1 v2 v3 v4 v5,false))=some ⟨S.ρ,upd S.μ s (some (Yt r v1 v2 w v4 v5,false)),S.A⟩:=rfl
theorem YdB:stV S s 24 [w] (some (Yt r v1 v2 v3 v4 v5,false))=some ⟨S.ρ,upd S.μ s (some (Yt r v1 v2 v3 w v5,false)),S.A⟩:=rfl
theorem YdC:stV S s 25 [w] (some (Yt r v1 v2 v3 v4 v5,false))=some ⟨S.ρ,upd S.μ s (some (Yt r v1 v2 v3 v4 w,false)),S.A⟩:=rfl
attribute [go_sem] YdN YdO YdP YdQ YdR Yc8
attribute [go_sem high] Ydy Ydz YdA YdB YdC
end
theorem ren_arr {A:AA} {t:Thr} {a b c d x h:Nat} (hA:Arr4 A t a b c d):Arr4 (fun i=>A (swp x h i)) t (swp x h a) (swp x h b) (swp x h c) (swp x h d):=by
 obtain⟨n1,n2,n3,n4,n5,n6⟩:=hA.rn;have inj:∀{p q:Nat},p≠q→swp x h p≠swp x h q:=fun {p q} hn e=>hn (by
  have:∀r,swp x h (swp x h r)=r:=fun r=>by
   unfold swp;by_cases e1:r=x
   ·subst e1;simp only[Gx];split
    ·rename_i e;exact e
    ·rfl
   ·rw[Gj e1];by_cases e2:r=h
    ·subst e2;simp
    ·rw[Gj e2,Gj e1,Gj e2]
  rw[←this p,e,this q])
 have inv:∀r,swp x h (swp x h r)=r:=fun r=>by
   unfold swp;by_cases e1:r=x
   ·subst e1;simp only[Gx];split
    ·rename_i e;exact e
    ·rfl
   ·rw[Gj e1];by_cases e2:r=h
    ·subst e2;simp
    ·rw[Gj e2,Gj e1,Gj e2]
 exact⟨by simp only[inv];exact hA.ra,by simp only[inv];exact hA.rb,by simp only[inv];exact hA.rc,by simp only[inv];exact hA.rd,inj n1,inj n2,inj n3,inj n4,inj n5,inj n6⟩
theorem HT.ren {S:St} {v x h:Nat} {t:Thr} {a b c d:Nat} (hT:HT S v t a b c d):HT (S.ren x h) v t (swp x h a) (swp x h b) (swp x h c) (swp x h d):=by
 refine⟨?_,ren_arr hT.2⟩
 show (S.μ v).map _=_
 rw[hT.1];rfl
theorem YC {x h p:Nat} (h1:p≠x) (h2:p≠h):swp x h p=p:=by simp[swp,h1,h2]
theorem Ybi {T:List Nat} {x h y:Nat} (hx:x∈T) (hh:h∈T) (hy:y∈T):swp x h y∈T:=by
 unfold swp;split
 ·exact hh
 ·split
  ·exact hx
  ·exact hy
theorem HT.head {S:St} {v:Nat} {t:Thr} {a b c d h1 h2 h3 h4:Nat} {Wv Wa:List Nat} (hT:HT S v t a b c d) (hh:h1≠h2∧h1≠h3∧h1≠h4∧h2≠h3∧h2≠h4∧h3≠h4)
  (hv:Wv.contains v=false) (hw:Wa.contains h1=false∧Wa.contains h2=false∧Wa.contains h3=false∧Wa.contains h4=false) :
  HT (S.head [] [v,21,h1,v,22,h2,v,23,h3,v,24,h4] Wv Wa) v t h1 h2 h3 h4∧(∀x,Wa.contains x=true→(S.head [] [v,21,h1,v,22,h2,v,23,h3,v,24,h4] Wv Wa).A x=none)∧
   (∀x,x∉[a,b,c,d,h1,h2,h3,h4]→S.A x=none→(S.head [] [v,21,h1,v,22,h2,v,23,h3,v,24,h4] Wv Wa).A x=none):=by
 obtain⟨q1,q2,q3,q4,q5,q6⟩:=hh
 have s1:=hT.ren (x:=a) (h:=h1)
 rw[Jl4] at s1
 have e1:S.swp1 v 21 h1=S.ren a h1:=by rw[Jkg,hT.1,Jl2];rfl
 have T0:∀y∈[a,b,c,d,h1,h2,h3,h4],swp a h1 y∈[a,b,c,d,h1,h2,h3,h4]:=fun y hy=>Ybi (by simp) (by simp) hy
 have tb1:=T0 b (by simp)
 have tc1:=T0 c (by simp)
 have td1:=T0 d (by simp)
 generalize swp a h1 b=b1 at *
 generalize swp a h1 c=c1 at *
 generalize swp a h1 d=d1 at *
 obtain⟨n1,n2,n3,n4,n5,n6⟩:=s1.2.rn
 have s2:=s1.ren (x:=b1) (h:=h2)
 rw[Jl4,YC n1 q1] at s2
 have e2:(S.ren a h1).swp1 v 22 h2=(S.ren a h1).ren b1 h2:=by rw[Jkg,s1.1,Jl2];rfl
 have tc2:=Ybi (h:=h2) tb1 (by simp) tc1
 have td2:=Ybi (h:=h2) tb1 (by simp) td1
 generalize swp b1 h2 c1=c2 at *
 generalize swp b1 h2 d1=d2 at *
 obtain⟨m1,m2,m3,m4,m5,m6⟩:=s2.2.rn
 have s3:=s2.ren (x:=c2) (h:=h3)
 rw[Jl4,YC m2 q2,YC m4 q4] at s3
 have e3:((S.ren a h1).ren b1 h2).swp1 v 23 h3=((S.ren a h1).ren b1 h2).ren c2 h3:=by rw[Jkg,s2.1,Jl2];rfl
 have td3:=Ybi (h:=h3) tc2 (by simp) td2
 generalize swp c2 h3 d2=d3 at *
 obtain⟨l1,l2,l3,l4,l5,l6⟩:=s3.2.rn
 have s4:=s3.ren (x:=d3) (h:=h4)
 rw[Jl4,YC l3 q3,YC l5 q5,YC l6 q6] at s4
 have e4:(((S.ren a h1).ren b1 h2).ren c2 h3).swp1 v 24 h4=(((S.ren a h1).ren b1 h2).ren c2 h3).ren d3 h4:=by rw[Jkg,s3.1,Jl2];rfl
 have eh:S.head [] [v,21,h1,v,22,h2,v,23,h3,v,24,h4] Wv Wa=((((S.ren a h1).ren b1 h2).ren c2 h3).ren d3 h4).scrub [] Wv Wa:=by
  rw[Jmn,e1,Jmn,e2,Jmn,e3,Jmn,e4];rfl
 rw[eh]
 refine⟨⟨?_,?_⟩,fun x hx=>?_,fun x hx h0=>?_⟩
 ·show (if Wv.contains v then none else _)=_
  rw[hv,s4.1]
  simp only[Gr,GD,Option.map_some]
  have:(YV t h1 h2 h3 h4).map (JA Wa)=YV t h1 h2 h3 h4:=by
   unfold YV Yt;simp only[List.map_append,Jdy (Y3 _),Gv,Gp,JA,hw.1,hw.2.1,hw.2.2.1,hw.2.2.2]
   rfl
  rw[this]
  cases Wa.isEmpty<;>rfl
 ·have keep:∀x,Wa.contains x=false→(((((S.ren a h1).ren b1 h2).ren c2 h3).ren d3 h4).scrub [] Wv Wa).A x=((((S.ren a h1).ren b1 h2).ren c2 h3).ren d3 h4).A x:=fun x hx=>by
   show (if Wa.contains x then none else _)=_
   rw[hx];rfl
  exact⟨by rw[keep _ hw.1];exact s4.2.ra,by rw[keep _ hw.2.1];exact s4.2.rb,by rw[keep _ hw.2.2.1];exact s4.2.rc,by rw[keep _ hw.2.2.2];exact s4.2.rd,q1,q2,q3,q4,q5,q6⟩
 ·show (if Wa.contains x then none else _)=_
  rw[hx];rfl
 ·show (if Wa.contains x then none else _)=_
  split
  ·rfl
  ·show S.A (swp a h1 (swp b1 h2 (swp c2 h3 (swp d3 h4 x))))=none
   have ne:∀{y},y∈[a,b,c,d,h1,h2,h3,h4]→x≠y:=fun hy e=>hx (e▸hy)
   rw[YC (ne td3) (ne (by simp)),YC (ne tc2) (ne (by simp)),YC (ne tb1) (ne (by simp)),YC (ne (by simp)) (ne (by simp))]
   exact h0
theorem Arr4.of {A:AA} {t t':Thr} {a b c d:Nat} (h:Arr4 A t a b c d) (h1:t'.net=t.net) (h2:t'.views=t.views) (h3:t'.fx=t.fx):Arr4 A t' a b c d:=
 ⟨by rw[h1];exact h.ra,by rw[h2];exact h.rb,by rw[h3];exact h.rc,by rw[h3];exact h.rd,h.rn⟩
theorem YaX {A:AA} {l:List V} (hd:l.all V.datC=true) (hn:∀z,V.nslice z∉l):Jal l A=some (l,A):=by
 have:=Y7 (A:=A) (m:=[]) hd hn;rw[GI] at this;rw[this,Jfa];simp
theorem Ya0 {A:AA} {l:List V} {d:Nat} (hd:l.all V.datC=true):JS d l A=some (l,A):=by
 have:=Y8 (A:=A) (m:=[]) (d:=d) hd;rw[GI] at this;rw[this,JfT];simp
structure SDat (S:St) (rest cs:List V):Prop where
 r0:S.ρ 0=.lref 0 0
 r:∀i,S.ρ (i+1)=(rest[i]?).getD .undef
 h:S.μ 0=some (cs,false)
 m:∀i,(i == 0)=false→S.μ i=none
 a:∀x,S.A x=none
theorem YbD {f:Nat} {F:F} (rs:List Res) {rest ws cs cs':List V} (hF:Pg f=some (.codeR F 0)) (hl:rest.length+1=F.np) (hrs:F.res=rs) (hd:cs.all V.datC=true) (hd':cs'.all V.datC=true) (hn':∀z,V.nslice z∉cs')
  (h:∀S,SDat S rest cs→Wp (K' Pg) F.body S fun ex S'=>(ex=.norm∨ex=.ret)∧S'.μ 0=some (cs',false)∧∃vs,Jn (resV S') rs=some vs∧Jn (toD S'.A) vs=some ws) :
  K' Pg f (.tuple (.lref 0 0::cs)::rest)=some (.tuple [Jb9 ws,.tuple cs']):=by
 have hs:startR (.tuple (.lref 0 0::cs)::rest) 0 cs=some ⟨fun i=>if i=0 then .lref 0 0 else ((V.tuple (.lref 0 0::cs)::rest)[i]?).getD .undef,upd (fun _=>none) 0 (some (cs,false)),fun _=>none⟩:=by
  unfold startR;rw[Ya0 hd];rfl
 have hm:∀i,(i == 0)=false→(upd (fun _=>none) 0 (some (cs,false)):Nat→Option (List V×Bool)) i=none:=fun i hi=>JhT hi
 refine Qa hF (by simpa using hl) rfl hs ((h _ ⟨rfl,fun i=>rfl,by simp[upd],hm,fun x=>rfl⟩).mono fun ex S' hq=>⟨hq.1,?_⟩)
 obtain⟨h1,vs,h2,h3⟩:=hq.2
 unfold JaM
 rw[hrs,h2]
 simp only[Option.bind_some,h1,YaX hd' hn',h3]
theorem YG {f:Nat} {F:F} (rs:List Res) {rest ws cs cs':List V} (hF:Pg f=some (.codeR F 0)) (hl:rest.length+1=F.np) (hrs:F.res=rs) (hd:cs.all V.datC=true) (hd':cs'.all V.datC=true) (hn':∀z,V.nslice z∉cs')
  (h:∀S,SDat S rest cs→Wp (K' Pg) F.body S fun ex S'=>(ex=.norm∨ex=.ret)∧S'.μ 0=some (cs',false)∧∃vs,Jn (resV S') rs=some vs∧∀A,Jn (toD A) vs=some ws) :
  K' Pg f (.tuple (.lref 0 0::cs)::rest)=some (.tuple [Jb9 ws,.tuple cs']):=
 YbD rs hF hl hrs hd hd' hn' fun S hS=>(h S hS).mono fun ex S' hq=>⟨hq.1,hq.2.1,hq.2.2.elim fun vs hv=>⟨vs,hv.1,hv.2 _⟩⟩
theorem Yax {κ:Nat→List V→Option V} {S:St} {f v p:Nat} {rest cs cs':List V} {r:V} (hm:S.μ v=some (cs,false)) (hc:cs.all V.datC=true) (hn:∀z,V.nslice z∉cs) (hc':cs'.all V.datC=true)
  (hd:∀A,Jn (toD A) rest=some rest) (hs:rest.flatMap Je=[])
  (hκ:κ f (.tuple (.lref 0 0::cs)::rest)=some (.tuple [r,.tuple cs'])) :
  JaZ κ p S f 0 v (.lref v 0::rest)=some (r,⟨S.ρ,upd S.μ v (some (cs',false)),S.A⟩):=by
 have hA:rcallA S 0 v (.lref v 0::rest)=some (.tuple (.lref 0 0::cs)::rest,S.A):=by
  simp only[JfA,Jlt,JjJ,List.set_cons_zero,Jn,Jmg,hd,Option.bind_some,hm,JjL,Jec,JhB,hs,List.nil_append,JgJ,YaX hc hn]
 rw[Jmo,hA]
 simp only[Option.bind_some,hκ,JfB,Ya0 hc']
end Sg
namespace Sg
open _root_.Go (IntKind BinOp UnOp)
open _root_.Go.Lib (atoiAll itoa decDigits atoiSat parseMag)
variable {Pg:PgT}
abbrev Wd:=List (List UInt8)×Bool
def eWd (r:Wd):List V:=[.slice 1 (Yi r.1),.bool r.2]
theorem Yx (r:Wd):(eWd r).all V.datC=true:=rfl
theorem Yat (r:Wd) (z:Nat):V.nslice z∉eWd r:=by simp[eWd]
theorem Yct {κ:Nat→List V→Option V} {S:St} {f v p:Nat} {x:Wd} {r:V} {y:Wd} (hκ:κ f [.tuple (.lref 0 0::eWd x)]=some (.tuple [r,.tuple (eWd y)])) (hm:S.μ v=some (eWd x,false)) :
  JaZ κ p S f 0 v [.lref v 0]=some (r,⟨S.ρ,upd S.μ v (some (eWd y,false)),S.A⟩):=
 Yax (rest:=[]) hm (Yx x) (Yat x) (Yx y) (fun A=>rfl) rfl hκ
def nx (r:Wd):List UInt8×Wd:=match r.1 with
 |[]=>([],([],true))
 |x::l=>(x,(l,r.2))
def nmP (r:Wd):Int×Wd:=if nnQ (nx r).1 then (numB (nx r).1,(nx r).2) else (0,((nx r).2.1,true))
def txP (r:Wd):List UInt8×Wd:=((rdW (nx r).1).getD [],((nx r).2.1,(nx r).2.2||!(rdW (nx r).1).isSome))
def smP (r:Wd):(Int×Int×Int)×Wd:=((stD (nx r).1).getD (0,0,0),((nx r).2.1,(nx r).2.2||!(stD (nx r).1).isSome))
def SmW (r:Wd):Prop:=∀x∈r.1,x.length≤2 ^ 20
theorem YaN {r:Wd} (h:SmW r):(nx r).1.length≤2 ^ 20∧SmW (nx r).2:=by
 obtain⟨l,b⟩:=r;cases l with
 |nil=>exact⟨by simp[nx],fun x hx=>by simp[nx] at hx⟩
 |cons x l=>exact⟨h x (GZ ..),fun y hy=>h y (GF _ hy)⟩
theorem Yam {r:Wd} (h:SmW r):SmW (nmP r).2:=by unfold nmP;split<;>exact (YaN h).2
theorem Ya1 {r:Wd} (h:SmW r):SmW (txP r).2:=(YaN h).2
theorem Ycy {r:Wd} (h:SmW r):SmW (smP r).2:=(YaN h).2
def H650 (Pg:PgT):Prop:=Pg 650=some (.codeR F650 0)
theorem K650 (h:H650 Pg) (x:Wd):K' Pg 650 [.tuple (.lref 0 0::eWd x)]=some (.tuple [.str (nx x).1,.tuple (eWd (nx x).2)]):=by
 obtain⟨l,b⟩:=x;refine YG [.t 2] (ws:=[.str _]) h rfl rfl (Yx _) (Yx _) (Yat _) fun S ⟨r0,r,hm,m0,a0⟩=>?_;simp only[eWd] at hm;cases l with
 |nil=>
  simp only[Yi,Gp] at hm;simp only[F650,c650,go_sem,r0,hm,List.length_nil,nx,eWd,Yi,Gp];exact⟨_,rfl,fun _=>rfl⟩
 |cons w l=>
  simp only[Yi,Gv] at hm;have c1:decide (((l.length+1:Nat):Int)=0)=false:=GE (by omega);have l1:(1≤l.length+1)=True:=eq_true (by omega);have e1:(l.map fun x=>[V.str x]).take l.length=l.map fun x=>[V.str x]:=G0 (by simp);simp only[F650,c650,go_sem,r0,hm,List.length_cons,Gi,c1,l1,e1,Gm,nx,eWd,Yi];exact⟨_,rfl,fun _=>rfl⟩
theorem Yb6 {s:List UInt8} {n:Int} (h:atoiAll s=.ok n):-9223372036854775808≤n∧n≤9223372036854775807:=by
 unfold atoiAll at h;split at h
 ·cases h
 ·simp only at h;split at h
  ·cases h
  ·cases h
  ·split at h
   ·cases h
   ·split at h
    ·cases h
    ·injection h with h
     rename_i h1 h2;rw[←h];split<;>omega
theorem wd_call {κ:Nat→List V→Option V} {f:Nat} {x:Wd} {r:V} {y:Wd} (hκ:κ f [.tuple (.lref 0 0::eWd x)]=some (.tuple [r,.tuple (eWd y)])) (v:Nat) (S:St) (p:Nat) (hm:S.μ v=some (eWd x,false)) :
  JaZ κ p S f 0 v [.lref v 0]=some (r,⟨S.ρ,upd S.μ v (some (eWd y,false)),S.A⟩):=Yct hκ hm
def H665 (Pg:PgT):Prop:=Pg 665=some (.codeR F665 0)∧H650 Pg∧H677 Pg∧H662 Pg
theorem K665 (h:H665 Pg) (x:Wd) (hx:SmW x):K' Pg 665 [.tuple (.lref 0 0::eWd x)]=some (.tuple [iz (nmP x).1,.tuple (eWd (nmP x).2)]):=by
 obtain⟨h,h650,h677,h662⟩:=h;have k1:=wd_call (K650 h650 x) 0;have hs:=(YaN hx).1;have k2:=K677 h677 (nx x).1 (by omega);have hp:=YcX (nx x).1;refine YG [.t 2] (ws:=[iz _]) h rfl rfl (Yx _) (Yx _) (Yat _) fun S ⟨r0,r,hm,m0,a0⟩=>?_;unfold nmP;generalize nx x=y at *
 obtain⟨s,l,b⟩:=y;simp only at hs k1 k2 hp ⊢;have he:∀b,eWd (l,b)=[.slice 1 (Yi l),.bool b]:=fun _=>rfl;have bad:numP s=none→nnQ s=false:=fun e=>by
  rw[e] at hp;unfold nnQ;refine GE fun h=>?_;rw[Gl h] at hp;cases hp
 cases ha:atoiAll s with
 |ok n=>
  have e1:YaT s=.niface:=by unfold YaT;rw[ha]
  have e2:atV s=n:=by unfold atV;rw[ha]
  obtain⟨n1,n2⟩:=Yb6 ha;have k3:=K662 h662 n n1 n2;rw[e1,e2] at k2;have hn:numP s=if s.length≤13∧0≤n∧itoa n=s then some n else none:=by unfold numP;rw[ha]
  cases c1:decide ((13:Int)<(s.length:Int)) with
  |true=>
   have hn:=bad (by rw[hn,Gj (by have:=Ge c1;omega)]);simp only[F665,c665,go_sem,r0,hm,k1,he,k2,c1,hn];exact⟨_,rfl,fun _=>rfl⟩
  |false=>
   cases c2:decide (n<0) with
   |true=>
    have hn:=bad (by rw[hn,Gj (by have:=Ge c2;omega)]);simp only[F665,c665,go_sem,r0,hm,k1,he,k2,c1,c2,hn];exact⟨_,rfl,fun _=>rfl⟩
   |false=>
    cases c3:decide (itoa n=s) with
    |false=>
     have hn:=bad (by rw[hn,Gj (by rintro⟨_,_,e⟩;exact Gc c3 e)]);simp only[F665,c665,go_sem,r0,hm,k1,he,k2,k3,c1,c2,c3,hn];exact⟨_,rfl,fun _=>rfl⟩
    |true=>
     rw[Gl ⟨by have:=Gc c1;omega,by have:=Gc c2;omega,Ge c3⟩] at hn;rw[hn] at hp;have hq:nnQ s=true∧numB s=n:=by
      unfold nnQ;split at hp
      ·rename_i h;injection hp with hp;exact⟨GN h,hp.symm⟩
      ·cases hp
     simp only[F665,c665,go_sem,r0,hm,k1,he,k2,k3,c1,c2,c3,hq.1,hq.2,Gx];exact⟨_,rfl,fun _=>rfl⟩
 |range=>
  have e1:YaT s=.iface atoiT .undef:=by unfold YaT;rw[ha]
  have hn:=bad (by unfold numP;rw[ha]);rw[e1] at k2;simp only[F665,c665,go_sem,r0,hm,k1,he,k2,hn];exact⟨_,rfl,fun _=>rfl⟩
 |_=>
  have e1:YaT s=.iface atoiT .undef:=by unfold YaT;rw[ha]
  have hn:=bad (by unfold numP;rw[ha]);rw[e1] at k2;simp only[F665,c665,go_sem,r0,hm,k1,he,k2,hn];exact⟨_,rfl,fun _=>rfl⟩
def H666 (Pg:PgT):Prop:=Pg 666=some (.codeR F666 0)∧H650 Pg∧H678 Pg
theorem K666 (h:H666 Pg) (x:Wd) (hx:SmW x):K' Pg 666 [.tuple (.lref 0 0::eWd x)]=some (.tuple [.str (txP x).1,.tuple (eWd (txP x).2)]):=by
 obtain⟨h,h650,h678⟩:=h;have k1:=wd_call (K650 h650 x) 0;have hs:=(YaN hx).1;have k2:=K678 h678 (nx x).1 hs;refine YG [.t 2] (ws:=[.str _]) h rfl rfl (Yx _) (Yx _) (Yat _) fun S ⟨r0,r,hm,m0,a0⟩=>?_;unfold txP;generalize nx x=y at *
 obtain⟨s,l,b⟩:=y;simp only at hs k1 k2 ⊢;have he:∀b,eWd (l,b)=[.slice 1 (Yi l),.bool b]:=fun _=>rfl;cases hr:rdW s with
 |none=>
  rw[hr] at k2;simp only[eRx,Option.isSome_none,Option.getD_none,Gr,GD] at k2;cases b <;>
  ·simp only[F666,c666,go_sem,r0,hm,k1,he,k2,Option.isSome_none,Option.getD_none];exact⟨_,rfl,fun _=>rfl⟩
 |some y=>
  rw[hr] at k2;simp only[eRx,Option.isSome_some,Option.getD_some,Gx] at k2;cases b <;>
  ·simp only[F666,c666,go_sem,r0,hm,k1,he,k2,Option.isSome_some,Option.getD_some];exact⟨_,rfl,fun _=>rfl⟩
def H667 (Pg:PgT):Prop:=Pg 667=some (.codeR F667 0)∧H650 Pg∧H679 Pg
theorem K667 (h:H667 Pg) (x:Wd) (hx:SmW x):K' Pg 667 [.tuple (.lref 0 0::eWd x)]=some (.tuple [.agg (eA (smP x).1),.tuple (eWd (smP x).2)]):=by
 obtain⟨h,h650,h679⟩:=h;have k1:=wd_call (K650 h650 x) 0;have hs:=(YaN hx).1;have k2:=K679 h679 (nx x).1 hs;refine YG [.cell 2 (some 3)] (ws:=[.agg (eA _)]) h rfl rfl (Yx _) (Yx _) (Yat _) fun S ⟨r0,r,hm,m0,a0⟩=>?_;have m2:=m0 2 rfl;have m3:=m0 3 rfl;unfold smP;generalize nx x=y at *
 obtain⟨s,l,b⟩:=y;simp only at hs k1 k2 ⊢;have he:∀b,eWd (l,b)=[.slice 1 (Yi l),.bool b]:=fun _=>rfl;cases hr:stD s with
 |none=>
  rw[hr] at k2;simp only[eSx,YU,Option.isSome_none,Gr,GD] at k2;cases b <;>
  ·simp only[F667,c667,go_sem,r0,hm,k1,he,k2,m2,m3,eA,Option.isSome_none,Option.getD_none];exact⟨_,rfl,fun _=>rfl⟩
 |some y=>
  rw[hr] at k2;simp only[eSx,YU,Option.isSome_some,Gx] at k2;cases b <;>
  ·simp only[F667,c667,go_sem,r0,hm,k1,he,k2,m2,m3,eA,Option.isSome_some,Option.getD_some];exact⟨_,rfl,fun _=>rfl⟩
end Sg
namespace Sg
open _root_.Go (IntKind BinOp UnOp)
variable {Pg:PgT}
def Yf (i:Nat) (r:Wd):(Stp×Bool)×Wd:=
 let a:=nmP r
 let b:=txP a.2
 let c:=txP b.2
 match i with
 |0=>(({Yc with kind:=1,who:=a.1,rk:=1,key:=b.1,val:=c.1},true),c.2)
 |1=>(({Yc with kind:=1,who:=a.1,rk:=3,key:=b.1,val:=c.1},true),c.2)
 |2=>(({Yc with kind:=1,who:=a.1,rk:=2,key:=b.1},true),b.2)
 |3=>(({Yc with kind:=1,who:=a.1,rk:=4,key:=b.1},true),b.2)
 |4=>(({Yc with kind:=1,who:=a.1,rk:=3,key:=b.1,had:=true,old:=c.1,val:=(txP c.2).1},true),(txP c.2).2)
 |5=>(({Yc with kind:=1,who:=a.1,rk:=5,key:=b.1,at_:=(smP b.2).1},true),(smP b.2).2)
 |6=>(({Yc with kind:=1,who:=a.1,rk:=6,key:=b.1,hi:=c.1,at_:=(smP c.2).1,limit:=(nmP (smP c.2).2).1},true),(nmP (smP c.2).2).2)
 |7=>(({Yc with kind:=2,who:=a.1,key:=b.1,hi:=c.1},true),c.2)
 |8=>(({Yc with kind:=3,who:=a.1,nn:=(nmP a.2).1},true),(nmP a.2).2)
 |_=>(({Yc with kind:=1},false),r)
def eSb (s:Stp×Bool):V:=.tuple [.agg (Yh s.1),.bool s.2]
def H651 (Pg:PgT):Prop:=Pg 651=some (.codeR F651 0)∧H665 Pg∧H666 Pg∧H667 Pg
theorem K651 (h:H651 Pg) (x:Wd) (hx:SmW x) (what:List UInt8):K' Pg 651 [.tuple (.lref 0 0::eWd x),.str what]=some (.tuple [eSb (Yf (wn what) x).1,.tuple (eWd (Yf (wn what) x).2)]):=by
 obtain⟨h,h665,h666,h667⟩:=h;have s1:=Yam hx;have s2:=Ya1 s1;have s3:=Ya1 s2;have k1:=wd_call (K665 h665 x hx) 0;have k2:=wd_call (K666 h666 _ s1) 0;have k3:=wd_call (K666 h666 _ s2) 0;have k4:=wd_call (K666 h666 _ s3) 0;have k5:=wd_call (K667 h667 _ s2) 0;have k6:=wd_call (K667 h667 _ s3) 0;have k7:=wd_call (K665 h665 _ (Ycy s3)) 0;have k8:=wd_call (K665 h665 _ s1) 0;refine YG [.cell 4 (some 21),.t 5] (ws:=[.agg (Yh _),.bool _]) h rfl rfl (Yx _) (Yx _) (Yat _) fun S ⟨r0,r,hm,m0,a0⟩=>?_;have r1:=r 0;simp only[Jlt,Option.getD_some] at r1;have m4:=m0 4 rfl;have m6:=m0 6 rfl;have m7:=m0 7 rfl;simp only[eA] at k5 k6;rcases YX (YaS what) with e|e|e|e|e|e|e|e|e|e|e|e|e|e|e|e|e|e|e|e|e|e|e|e <;>
 ·simp only[F651,c651,go_sem,r0,r1,e,hm,k1,k2,k3,k4,k5,k6,k7,k8,m4,m6,m7,Yf,Yh,Yc,eI1,Gp];exact⟨_,rfl,fun _=>rfl⟩
def Yav (l:List (List UInt8)):List Int:=l.map fun x=>if nnQ x then numB x else 0
def Yaa (r:Wd):Bool:=(r.2||decide (r.1.length<1))||decide (3<r.1.length)
def Ya (i:Nat) (r:Wd):(Stp×Bool)×Wd:=
 let a:=nmP r
 match i with
 |12=>(({Yc with kind:=12,ck:=1,cs:=a.1,ct:=(nmP a.2).1},true),(nmP a.2).2)
 |19=>(({Yc with kind:=12,ck:=2,cs:=a.1,ckey:=(txP a.2).1},true),(txP a.2).2)
 |13=>(({Yc with kind:=12,ck:=3,cs:=a.1,co:=(nmP a.2).1},true),(nmP a.2).2)
 |22=>(({Yc with kind:=12,ck:=5,ct:=a.1,mem:=Yav a.2.1},true),([],Yaa a.2||!a.2.1.all nnQ))
 |21=>(({Yc with kind:=12,ck:=6},true),r)
 |_=>(({Yc with kind:=12},false),r)
structure OrI (n:Int) (m:List Int) (bad:Bool) (st:List (List UInt8)×Bool×List Int) (S:St):Prop where
 i1:SmW (st.1,st.2.1)
 i2:S.ρ 0=.lref 0 0
 i3:S.ρ 4=.lref 4 0
 i4:S.ρ 6=.lref 6 0
 i5:S.ρ 7=.lref 7 0
 i6:S.μ 0=some (eWd (st.1,st.2.1),false)
 i7:S.μ 4=some (Yh Yc,false)
 i8:S.μ 6=some (Yh {Yc with kind:=12},false)
 i9:st.2.2++Yav st.1=m
 i10:(st.2.1||!st.1.all nnQ)=bad
 i11:st.2.2.length+st.1.length≤2 ^ 21
 i12:(st.2.2=[]∧S.μ 7=some ([iz 5,iz 0,iz 0,iz n,.str [],.nslice 1],false)∧S.A 78=none)∨(st.2.2≠[]∧S.μ 7=some ([iz 5,iz 0,iz 0,iz n,.str [],.own 78 1 st.2.2.length],false)∧S.A 78=some (1,eI1 st.2.2,.live))
def H652 (Pg:PgT):Prop:=Pg 652=some (.codeR F652 0)∧H665 Pg∧H666 Pg
theorem K652 (h : H652 Pg) (x : Wd) (hx : SmW x) (hl : x.1.length ≤ 2 ^ 21) (what : List UInt8) : K' Pg 652 [.tuple (.lref 0 0 :: eWd x), .str what] = some (.tuple [eSb (Ya (wn what) x).1, .tuple (eWd (Ya (wn what) x).2)]) := by
  obtain ⟨h, h665, h666⟩ := h;have s1 := Yam hx;have k1 := wd_call (K665 h665 x hx) 0;have k2 := wd_call (K666 h666 _ s1) 0;have k8 := wd_call (K665 h665 _ s1) 0;refine YbD [.cell 4 (some 21), .t 5] (ws := [.agg (Yh _), .bool _]) h rfl rfl (Yx _) (Yx _) (Yat _) fun S ⟨r0, r, hm, m0, a0⟩ => ?_;have r1 := r 0;simp only [Jlt, Option.getD_some] at r1;have m4 := m0 4 rfl;have m6 := m0 6 rfl;have m7 := m0 7 rfl;have a78 := a0 78;cases c22 : decide (wn what = 22) with
  | false =>
    have n22 : ¬ wn what = 22 := Gc c22;rcases YX (YaS what) with e | e | e | e | e | e | e | e | e | e | e | e | e | e | e | e | e | e | e | e | e | e | e | e <;>
    first
    | exact absurd e n22
    | (simp only [F652, c652, go_sem, r0, r1, e, hm, k1, k2, k8, m4, m6, m7, Ya, Yh, Yc, eI1, Gp]
       exact ⟨_, rfl, rfl⟩)
  | true =>
    have e : wn what = 22 := Ge c22;have hlen : (nmP x).2.1.length ≤ 2 ^ 21 := by
      have : (nx x).2.1.length ≤ x.1.length := by
        unfold nx; obtain ⟨l, b⟩ := x; cases l <;> simp
      unfold nmP; split <;> exact GK this hl
    have ho : Ya 22 x = (({ Yc with kind := 12, ck := 5, ct := (nmP x).1, mem := Yav (nmP x).2.1 }, true), ([], Yaa (nmP x).2 || !(nmP x).2.1.all nnQ)) := rfl;rw [e, ho];generalize nmP x = y at *
    obtain ⟨n, l, b⟩ := y;simp only at s1 k1 hlen ⊢;have he : ∀ l b, eWd (l, b) = [.slice 1 (Yi l), .bool b] := fun _ _ => rfl;have c0 : decide ((l.length : Int) < 1) = decide (l.length < 1) := G8.2 (by omega);have c3 : decide ((3 : Int) < (l.length : Int)) = decide (3 < l.length) := G8.2 (by omega);have hb : Yaa (l, b) = ((b || decide (l.length < 1)) || decide (3 < l.length)) := rfl;have start : ∀ S0 : St, S0.ρ 0 = .lref 0 0 → S0.ρ 4 = .lref 4 0 → S0.ρ 6 = .lref 6 0 → S0.ρ 7 = .lref 7 0 → S0.μ 0 = some (eWd (l, Yaa (l, b)), false) →
        S0.μ 4 = some (Yh Yc, false) → S0.μ 6 = some (Yh { Yc with kind := 12 }, false) → S0.μ 7 = some ([iz 5, iz 0, iz 0, iz n, .str [], .nslice 1], false) → S0.A 78 = none →
        ∀ Q : Ex → St → Prop, (∀ S', S'.ρ 0 = .lref 0 0 → S'.ρ 4 = .lref 4 0 → S'.ρ 6 = .lref 6 0 → S'.ρ 7 = .lref 7 0 → S'.μ 0 = some (eWd ([], Yaa (l, b) || !l.all nnQ), false) →
          S'.μ 4 = some (Yh Yc, false) → S'.μ 6 = some (Yh { Yc with kind := 12 }, false) → ∀ M, S'.μ 7 = some ([iz 5, iz 0, iz 0, iz n, .str [], M], false) → toDC S'.A M = some (.slice 1 (eI1 (Yav l))) → M.cells = some [M] → (M = .nslice 1 ∨ ∃ k, M = .own 78 1 k) → Q (.exit 1) S') →
        Wp (K' Pg) l652_0 S0 Q := by
      intro S0 q0 q4 q6 q7 p0 p4 p6 p7 p78 Q hQ
      unfold l652_0
      refine JmD (OrI n (Yav l) (Yaa (l, b) || !l.all nnQ)) (fun st => st.1.length) (l, Yaa (l, b), []) ?_ ?_
      · exact ⟨s1, by simp [go_sem, q0], by simp [go_sem, q4], by simp [go_sem, q6], by simp [go_sem, q7], by simp [go_sem, p0], by simp [go_sem, p4], by simp [go_sem, p6], rfl, rfl, by simpa using hlen, .inl ⟨rfl, by simp [go_sem, p7], by simp [go_sem, p78]⟩⟩
      · rintro ⟨l', b', acc⟩ S' ⟨i1, i2, i3, i4, i5, i6, i7, i8, i9, i10, i11, i12⟩
        simp only at i1 i6 i9 i10 i11 i12
        cases l' with
        | nil =>
          have e1 : acc = Yav l := by rw [← i9]; simp [Yav]
          have e2 : b' = (Yaa (l, b) || !l.all nnQ) := by rw [← i10]; simp
          rw [he, Yi, Gp] at i6
          have fin : ∀ S2 : St, (∀ t, S2.ρ t = (upd S'.ρ 72 (.bool false)) t) → S2.μ = S'.μ → S2.A = S'.A → Q (.exit 1) S2 := fun S2 g1 g2 g3 => by
            rcases i12 with ⟨j1, j2, j3⟩ | ⟨j1, j2, j3⟩
            · refine hQ S2 (by rw [g1]; simp [go_sem, i2]) (by rw [g1]; simp [go_sem, i3]) (by rw [g1]; simp [go_sem, i4]) (by rw [g1]; simp [go_sem, i5]) (by rw [g2, i6, ← e2, he]; rfl) (by rw [g2, i7]) (by rw [g2, i8]) _ (by rw [g2, j2]) ?_ rfl (.inl rfl)
              rw [← e1, j1]; rfl
            · refine hQ S2 (by rw [g1]; simp [go_sem, i2]) (by rw [g1]; simp [go_sem, i3]) (by rw [g1]; simp [go_sem, i4]) (by rw [g1]; simp [go_sem, i5]) (by rw [g2, i6, ← e2, he]; rfl) (by rw [g2, i7]) (by rw [g2, i8]) _ (by rw [g2, j2]) ?_ rfl (.inr ⟨_, rfl⟩)
              rw [g3, Jkl, j3, JjC, ← e1]
              exact Gl ⟨by simp [eI1], by simp⟩
          simp only [b652_0, go_sem, i2, i6, List.length_nil]
          exact fin _ (fun t => rfl) rfl rfl
        | cons w l' =>
          have hnx : nx (w :: l', b') = (w, (l', b')) := rfl
          have kk := wd_call (K665 h665 (w :: l', b') i1) 0
          have hn1 : nmP (w :: l', b') = (if nnQ w then numB w else 0, (l', b' || !nnQ w)) := by
            unfold nmP; rw [hnx];cases nnQ w <;> simp
          rw [hn1] at kk
          have i6' := i6
          rw [he, Yi, Gv] at i6
          simp only [he, Yi, Gv] at kk
          have c1 : decide (0 < ((l'.length + 1 : Nat) : Int)) = true := GN (by omega)
          have g9 : (acc ++ [if nnQ w then numB w else 0]) ++ Yav l' = Yav l := by rw [← i9]; simp [Yav]
          have g10 : ((b' || !nnQ w) || !l'.all nnQ) = (Yaa (l, b) || !l.all nnQ) := by rw [← i10, List.all_cons]; cases b' <;> cases nnQ w <;> simp
          have g11 : (acc ++ [if nnQ w then numB w else 0]).length + l'.length ≤ 2 ^ 21 := by simp at i11 ⊢; omega
          generalize (if nnQ w then numB w else 0) = v at kk g9 g10 g11
          have g1 : SmW (l', b' || !nnQ w) := fun y hy => i1 y (GF _ hy)
          generalize (b' || !nnQ w) = b2 at kk g10 g1
          rcases i12 with ⟨j1, j2, j3⟩ | ⟨j1, j2, j3⟩
          · subst j1
            have l2 : (1 ≤ lim) = True := eq_true (by decide)
            simp only [b652_0, go_sem, i2, i6, List.length_cons, Gi, c1, i5, j2, j3, kk, Jr, List.replicate, List.set, l2]
            exact ⟨(l', b2, [v]), by simp, ⟨g1, by simp [go_sem, i2], by simp [go_sem, i3], by simp [go_sem, i4], by simp [go_sem, i5], by simp [go_sem, he, Yi], by simp [go_sem, i7], by simp [go_sem, i8], g9, g10, g11, .inr ⟨by simp, by simp [go_sem], by simp [go_sem, eI1]⟩⟩⟩
          · have l2 : (acc.length + 1 ≤ lim) = True := eq_true (by simp at i11; simp only [lim]; omega)
            simp only [eI1] at j3
            simp only [b652_0, go_sem, i2, i6, List.length_cons, Gi, c1, i5, j2, j3, kk, Jr, List.replicate, List.set, l2]
            exact ⟨(l', b2, acc ++ [v]), by simp, ⟨g1, by simp [go_sem, i2], by simp [go_sem, i3], by simp [go_sem, i4], by simp [go_sem, i5], by simp [go_sem, he, Yi], by simp [go_sem, i7], by simp [go_sem, i8], g9, g10, g11, .inr ⟨by simp, by simp [go_sem], by simp [go_sem, eI1]⟩⟩⟩
    cases b <;> cases d1 : decide (l.length < 1) <;> cases d2 : decide (3 < l.length) <;>
    · rw [d1, d2] at hb
      simp only [F652, c652, go_sem, r0, r1, e, hm, k1, m4, m6, m7, he, Yi, Gi, c0, c3, d1, d2]
      refine start _ (by simp [go_sem, r0]) (by simp [go_sem]) (by simp [go_sem]) (by simp [go_sem]) (by rw [he, hb]; simp [go_sem, Yi]) (by simp [go_sem, Yh, Yc, eI1]) (by simp [go_sem, Yh, Yc, eI1]) (by simp [go_sem]) (by simp [go_sem, a78]) _ ?_
      intro S' x0 x4 x6 x7 y0 y4 y6 M y7 hM hM1 hM2
      simp only [Yh, Yc, eI1, Gp] at y4 y6
      rcases hM2 with rfl | ⟨k, rfl⟩
      · simp only [go_sem, x0, x4, x6, x7, y0, y4, y6, y7]
        simp only [JhR, Ga, V.slice.injEq, true_and] at hM
        refine ⟨rfl, _, rfl, ?_⟩
        simp only [Jn, Jl8, Jkj, Jkn, Jki, JhR, Jl9, Option.bind_some, Option.map_some, Yh, Yc, ← hM]
      · simp only [go_sem, x0, x4, x6, x7, y0, y4, y6, y7]
        refine ⟨rfl, _, rfl, ?_⟩
        simp only [Jn, Jl8, Jkj, Jkn, Jki, hM, Jl9, Option.bind_some, Option.map_some, Yh, Yc]
def YaE (l:List (List UInt8)):Bool:=match l with
 |[x]=>decide (x=[45,49])
 |_=>false
def Ye (i:Nat) (r:Wd):(Stp×Bool)×Wd:=
 let a:=nmP r
 match i with
 |14=>(({Yc with kind:=4,who:=a.1},true),a.2)
 |15=>(({Yc with kind:=5,who:=a.1},true),a.2)
 |16=>(({Yc with kind:=6,nn:=a.1},true),a.2)
 |17=>(({Yc with kind:=7,nn:=a.1},true),a.2)
 |18=>(({Yc with kind:=8,nn:=a.1},true),a.2)
 |9=>(({Yc with kind:=9,who:=a.1,nn:=(nmP a.2).1},true),(nmP a.2).2)
 |10=>if YaE a.2.1=true then (({Yc with kind:=10,who:=a.1,nn:=-1},true),(nx a.2).2)
   else (({Yc with kind:=10,who:=a.1,nn:=(nmP a.2).1},true),(nmP a.2).2)
 |11=>(({Yc with kind:=11,who:=a.1,nn:=(nmP a.2).1},true),(nmP a.2).2)
 |20=>(({Yc with kind:=13},true),r)
 |_=>((Yc,false),r)
def H653 (Pg:PgT):Prop:=Pg 653=some (.codeR F653 0)∧H665 Pg∧H650 Pg
theorem K653 (h : H653 Pg) (x : Wd) (hx : SmW x) (what : List UInt8) : K' Pg 653 [.tuple (.lref 0 0 :: eWd x), .str what] = some (.tuple [eSb (Ye (wn what) x).1, .tuple (eWd (Ye (wn what) x).2)]) := by
  obtain ⟨h, h665, h650⟩ := h;have s1 := Yam hx;have k1 := wd_call (K665 h665 x hx) 0;have k8 := wd_call (K665 h665 _ s1) 0;have k9 := wd_call (K650 h650 (nmP x).2) 0;refine YG [.cell 4 (some 21), .t 5] (ws := [.agg (Yh _), .bool _]) h rfl rfl (Yx _) (Yx _) (Yat _) fun S ⟨r0, r, hm, m0, a0⟩ => ?_;have r1 := r 0;simp only [Jlt, Option.getD_some] at r1;have m4 := m0 4 rfl;have m6 := m0 6 rfl;cases c10 : decide (wn what = 10) with
  | false =>
    have n10 : ¬ wn what = 10 := Gc c10;rcases YX (YaS what) with e | e | e | e | e | e | e | e | e | e | e | e | e | e | e | e | e | e | e | e | e | e | e | e <;>
    first
    | exact absurd e n10
    | (simp only [F653, c653, go_sem, r0, r1, e, hm, k1, k8, m4, m6, Ye, Yh, Yc, eI1, Gp]
       exact ⟨_, rfl, fun _ => rfl⟩)
  | true =>
    have e : wn what = 10 := Ge c10;have hp : Ye 10 x = if YaE (nmP x).2.1 = true then (({ Yc with kind := 10, who := (nmP x).1, nn := -1 }, true), (nx (nmP x).2).2)
      else (({ Yc with kind := 10, who := (nmP x).1, nn := (nmP (nmP x).2).1 }, true), (nmP (nmP x).2).2) := rfl
    rw [e, hp];clear hp;generalize nmP x = y at *
    obtain ⟨n, l, b⟩ := y;simp only at s1 k1 k8 k9 ⊢;rcases l with _ | ⟨v, _ | ⟨v', l⟩⟩
    · rw [Gj (by simp [YaE])]
      have he : ∀ b, eWd ([], b) = [.slice 1 [], .bool b] := fun _ => rfl
      simp only [he] at k1 k8
      simp only [F653, c653, go_sem, r0, r1, e, hm, k1, k8, m4, m6, List.length_nil, Yh, Yc, eI1, Gp]
      exact ⟨_, rfl, fun _ => rfl⟩
    · have he : ∀ b, eWd ([v], b) = [.slice 1 [[.str v]], .bool b] := fun _ => rfl
      cases c1 : decide (v = [45, 49]) with
      | true =>
        rw [Gl (by simp only [YaE, c1])]
        simp only [he] at k1 k9
        simp only [F653, c653, go_sem, r0, r1, e, hm, k1, k9, m4, m6, List.length_cons, List.length_nil, c1, Yh, Yc, eI1, Gp]
        exact ⟨_, rfl, fun _ => rfl⟩
      | false =>
        rw [Gj (by simp only [YaE, c1]; decide)]
        simp only [he] at k1 k8
        simp only [F653, c653, go_sem, r0, r1, e, hm, k1, k8, m4, m6, List.length_cons, List.length_nil, c1, Yh, Yc, eI1, Gp]
        exact ⟨_, rfl, fun _ => rfl⟩
    · rw [Gj (by simp [YaE])]
      have he : ∀ b, eWd (v :: v' :: l, b) = [.slice 1 ([.str v] :: [.str v'] :: l.map fun x => [V.str x]), .bool b] := fun _ => rfl
      simp only [he] at k1 k8
      have c1 : decide (((l.length + 1 + 1 : Nat) : Int) = 1) = false := GE (by omega)
      simp only [F653, c653, go_sem, r0, r1, e, hm, k1, k8, m4, m6, List.length_cons, Gi, c1, Yh, Yc, eI1, Gp]
      exact ⟨_, rfl, fun _ => rfl⟩
theorem YaR {κ:Nat→List V→Option V} {f:Nat} {x:Wd} {what:List UInt8} {r:V} {y:Wd} (hκ:κ f [.tuple (.lref 0 0::eWd x),.str what]=some (.tuple [r,.tuple (eWd y)])) (v:Nat) (S:St) (p:Nat) (hm:S.μ v=some (eWd x,false)) :
  JaZ κ p S f 0 v [.lref v 0,.str what]=some (r,⟨S.ρ,upd S.μ v (some (eWd y,false)),S.A⟩):=
 Yax (rest:=[.str what]) hm (Yx x) (Yat x) (Yx y) (fun A=>rfl) rfl hκ
def Yo (i:Nat) (r:Wd):(Stp×Bool)×Wd:=
 if (Yf i r).1.2=true then Yf i r
 else if (Ya i (Yf i r).2).1.2=true then Ya i (Yf i r).2
 else Ye i (Ya i (Yf i r).2).2
def Yn (q:(Stp×Bool)×Wd):Option Stp:=if (!q.1.2||q.2.2)||decide (0<q.2.1.length) then none else some q.1.1
def YaP (line:List UInt8):Option Stp:=Yn (Yo (wn (nx (splt 32 line,false)).1) (nx (splt 32 line,false)).2)
def Yai (r:Option Stp):V:=.tuple [.agg (Yh (r.getD Yc)),iz (if r.isSome then 0 else 3)]
theorem Ya7 (r:Wd):(nx r).2.1.length≤r.1.length:=by
 unfold nx;obtain⟨l,b⟩:=r;cases l<;>simp
theorem Ybw (r:Wd):(nmP r).2.1.length≤r.1.length:=by unfold nmP;split<;>exact Ya7 r
theorem YbC (r:Wd):(txP r).2.1.length≤r.1.length:=Ya7 r
theorem Ycx (r:Wd):(smP r).2.1.length≤r.1.length:=Ya7 r
theorem YcE (i:Nat) {r:Wd} (h:SmW r):SmW (Yf i r).2∧(Yf i r).2.1.length≤r.1.length:=by
 have a1:=Yam h;have b1:=Ybw r;have a2:=Ya1 a1;have b2:=GK (YbC _) b1;have a3:=Ya1 a2;have b3:=GK (YbC _) b2;have a4:=Ya1 a3;have b4:=GK (YbC _) b3;have a5:=Ycy a2;have b5:=GK (Ycx _) b2;have a6:=Ycy a3;have b6:=GK (Ycx _) b3;have a7:=Yam a6;have b7:=GK (Ybw _) b6;have a8:=Yam a1;have b8:=GK (Ybw _) b1;unfold Yf;split
 ·exact⟨a3,b3⟩
 ·exact⟨a3,b3⟩
 ·exact⟨a2,b2⟩
 ·exact⟨a2,b2⟩
 ·exact⟨a4,b4⟩
 ·exact⟨a5,b5⟩
 ·exact⟨a7,b7⟩
 ·exact⟨a3,b3⟩
 ·exact⟨a8,b8⟩
 ·exact⟨h,Gm _⟩
theorem Yb1 (i:Nat) {r:Wd} (h:SmW r):SmW (Ya i r).2:=by
 have a1:=Yam h;unfold Ya;split
 ·exact Yam a1
 ·exact Ya1 a1
 ·exact Yam a1
 ·exact fun x hx=>by simp at hx
 ·exact h
 ·exact h
def H645 (Pg:PgT):Prop:=Pg 645=some (.code F645)∧H649 Pg∧H650 Pg∧H651 Pg∧H652 Pg∧H653 Pg
theorem K645 (h:H645 Pg) (line:List UInt8) (hl:line.length≤2 ^ 20):K' Pg 645 [.str line]=some (Yai (YaP line)):=by
 obtain⟨h,h649,h650,h651,h652,h653⟩:=h;have k0:=K649 h649 line 32 (by omega);obtain⟨hxl,hll⟩:=YaQ 32 line;have s0:SmW (splt 32 line,false):=fun x hx=>GK (hxl x hx) hl;have k1:=wd_call (K650 h650 (splt 32 line,false)) 11;obtain⟨-,s1⟩:=YaN s0;have n1:=Ya7 (splt 32 line,false);have he:eWd (splt 32 line,false)=[.slice 1 (Yi (splt 32 line)),.bool false]:=rfl;rw[he] at k1;refine JdD h rfl ?_;unfold YaP;generalize nx (splt 32 line,false)=y at *
 obtain⟨what,r⟩:=y;simp only at k1 s1 n1 ⊢;obtain⟨s2,n2⟩:=YcE (wn what) s1;have s3:=Yb1 (wn what) s2;have k2:=YaR (K651 h651 r s1 what) 11;have k3:=YaR (K652 h652 _ s2 (by omega) what) 11;have k4:=YaR (K653 h653 _ s3 what) 11;have hp:Yo (wn what) r=if (Yf (wn what) r).1.2=true then Yf (wn what) r
  else if (Ya (wn what) (Yf (wn what) r).2).1.2=true then Ya (wn what) (Yf (wn what) r).2
  else Ye (wn what) (Ya (wn what) (Yf (wn what) r).2).2:=rfl
 generalize Ye (wn what) (Ya (wn what) (Yf (wn what) r).2).2=q3 at *
 generalize Ya (wn what) (Yf (wn what) r).2=q2 at *
 generalize Yf (wn what) r=q1 at *
 obtain⟨⟨t1,o1⟩,l1,b1⟩:=q1;obtain⟨⟨t2,o2⟩,l2,b2⟩:=q2;obtain⟨⟨t3,o3⟩,l3,b3⟩:=q3;simp only[eSb] at k2 k3 k4 hp;have e1:∀b,eWd (l1,b)=[.slice 1 (Yi l1),.bool b]:=fun _=>rfl;have e2:∀b,eWd (l2,b)=[.slice 1 (Yi l2),.bool b]:=fun _=>rfl;have e3:∀b,eWd (l3,b)=[.slice 1 (Yi l3),.bool b]:=fun _=>rfl;have f1:(Yi l1).length=l1.length:=by simp[Yi]
 have f2:(Yi l2).length=l2.length:=by simp[Yi]
 have f3:(Yi l3).length=l3.length:=by simp[Yi]
 have g1:∀l:List (List UInt8),decide (0<((l.length:Nat):Int))=decide (0<l.length):=fun l=>G8.2 (by omega);have g2:∀t:Stp,(Yh t).length=21:=fun _=>rfl;cases o1 with
 |true=>
  rw[hp];cases b1<;>cases d:decide (0<l1.length) <;>
   simp only[F645,c645,go_sem,k0,k1,k2,e1,f1,g1,d,Yn,Yai,Yh,Yc,eI1,Gp,Option.getD_none,Option.getD_some,Option.isSome_none,Option.isSome_some]
 |false=>
  cases o2 with
  |true=>
   rw[hp];cases b2<;>cases d:decide (0<l2.length) <;>
    simp only[F645,c645,go_sem,k0,k1,k2,k3,e2,f2,g1,d,Yn,Yai,Yh,Yc,eI1,Gp,Option.getD_none,Option.getD_some,Option.isSome_none,Option.isSome_some]
  |false=>
   rw[hp];cases o3<;>cases b3<;>cases d:decide (0<l3.length) <;>
    simp only[F645,c645,go_sem,k0,k1,k2,k3,k4,e3,f3,g1,d,Yn,Yai,Yh,Yc,eI1,Gp,Option.getD_none,Option.getD_some,Option.isSome_none,Option.isSome_some]
theorem YcY (x:List UInt8) (l:List (List UInt8)) (b:Bool):nx (x::l,b)=(x,(l,b)):=rfl
theorem Ydr (b:Bool):nx ([],b)=([],([],true)):=rfl
theorem Yed:nnQ []=false:=by decide
theorem Yel:rdW []=none:=by decide
theorem YdX:stD []=none:=by decide
theorem Yec:numB [45,49]=-1:=by decide
theorem Yee:nnQ [45,49]=false:=by decide
theorem YA (x:List UInt8) (l:List (List UInt8)) (b:Bool):nmP (x::l,b)=if nnQ x then (numB x,(l,b)) else (0,(l,true)):=by unfold nmP;rw[YcY]
theorem Yae (b:Bool):nmP ([],b)=(0,([],true)):=by unfold nmP;rw[Ydr];simp[Yed]
theorem Y9 (x:List UInt8) (l:List (List UInt8)) (b:Bool):txP (x::l,b)=((rdW x).getD [],(l,b||!(rdW x).isSome)):=by unfold txP;rw[YcY]
theorem Yar (b:Bool):txP ([],b)=([],([],true)):=by unfold txP;rw[Ydr];simp[Yel]
theorem Ycw (x:List UInt8) (l:List (List UInt8)) (b:Bool):smP (x::l,b)=((stD x).getD (0,0,0),(l,b||!(stD x).isSome)):=by unfold smP;rw[YcY]
theorem YbB (b:Bool):smP ([],b)=((0,0,0),([],true)):=by unfold smP;rw[Ydr];simp[YdX]
theorem Ybc (arm:Bool) (i:Nat) (c:UInt8) (f:List UInt8) (x:List UInt8) (l:List (List UInt8)) (s:PS):YE arm i (c::f) (x::l) s=(pst arm i c x s).bind (YE arm (i+1) f l):=rfl
theorem Ybd (arm:Bool) (i:Nat) (l:List (List UInt8)) (s:PS):YE arm i [] l s=some s:=by unfold YE;rfl
def Yp (i:Nat) (ls:List (List UInt8)):Option Stp:=if formN i=[]∨ls.length≠(formN i).length then none
  else (YE (decide (i=10)) 1 (formN i) ls ps0).map (Y6 i)
theorem YcD {l:List (List UInt8)} (h:l.all nnQ=true):Yav l=l.map numB:=by
 unfold Yav;refine GP fun x hx=>?_;rw[Gs.1 h x hx];rfl
theorem Ycm (w:List UInt8) (ls:List (List UInt8)):Yn (Yo 22 (ls,false))=viewD (w::ls):=by
 cases ls with
 |nil=>simp[Yn,Yo,Yf,Ya,Yae,viewD,Yaa]
 |cons a l=>
  have hd:viewD (w::a::l)=if decide (l.length+2<3)||decide (5<l.length+2) then none
   else if (a::l).all nnQ then some {Yc with kind:=12,ck:=5,ct:=numB a,mem:=l.map numB} else none:=rfl
  have hp:Yn (Yo 22 (a::l,false))=if ((nmP (a::l,false)).2.2||decide ((nmP (a::l,false)).2.1.length<1)||decide (3<(nmP (a::l,false)).2.1.length))||!(nmP (a::l,false)).2.1.all nnQ then none
   else some {Yc with kind:=12,ck:=5,ct:=(nmP (a::l,false)).1,mem:=Yav (nmP (a::l,false)).2.1}:=by
   simp[Yn,Yo,Yf,Ya,Yaa]
  rw[hd,hp,YA];cases ha:nnQ a with
  |false=>simp[ha]
  |true=>
   simp only[Gx,Bool.false_or,List.all_cons,ha,Bool.true_and];cases hall:l.all nnQ with
   |false=>simp
   |true=>
    rw[YcD hall];have e1:decide (l.length<1)=decide (l.length+2<3):=G8.2 (by omega);have e2:decide (3<l.length)=decide (5<l.length+2):=G8.2 (by omega);rw[e1,e2];cases decide (l.length+2<3)<;>cases decide (5<l.length+2)<;>simp
theorem Ybq (i:Nat) (hi:i=14∨i=15∨i=16∨i=17∨i=18) (ls:List (List UInt8)):Yn (Yo i (ls,false))=Yp i ls:=by
 rcases hi with rfl|rfl|rfl|rfl|rfl <;>
 ·rcases ls with _|⟨a,_|⟨b,ls⟩⟩
  ·simp[Yn,Yo,Yf,Ya,Ye,Yp,formN,Yae]
  ·cases ha:nnQ a<;>simp[Yn,Yo,Yf,Ya,Ye,Yp,formN,YA,Ybc,Ybd,pst,ha,Y6,othN,ps0]
  ·cases ha:nnQ a<;>simp[Yn,Yo,Yf,Ya,Ye,Yp,formN,YA,ha]
theorem YaO (i:Nat) (hi:i=8∨i=9∨i=11∨i=12∨i=13) (ls:List (List UInt8)):Yn (Yo i (ls,false))=Yp i ls:=by
 rcases hi with rfl|rfl|rfl|rfl|rfl <;>
 ·rcases ls with _|⟨a,_|⟨b,_|⟨c,ls⟩⟩⟩
  ·simp[Yn,Yo,Yf,Ya,Ye,Yp,formN,Yae]
  ·cases ha:nnQ a<;>simp[Yn,Yo,Yf,Ya,Ye,Yp,formN,YA,Yae,ha]
  ·cases ha:nnQ a<;>cases hb:nnQ b<;>simp[Yn,Yo,Yf,Ya,Ye,Yp,formN,YA,Ybc,Ybd,pst,ha,hb,Y6,othN,ps0,Yc]
  ·cases ha:nnQ a<;>cases hb:nnQ b<;>simp[Yn,Yo,Yf,Ya,Ye,Yp,formN,YA,ha,hb]
theorem Yc1 (ls:List (List UInt8)):Yn (Yo 10 (ls,false))=Yp 10 ls:=by
 rcases ls with _|⟨a,_|⟨b,_|⟨c,ls⟩⟩⟩
 ·simp[Yn,Yo,Yf,Ya,Ye,Yp,formN,Yae,YaE]
 ·cases ha:nnQ a<;>simp[Yn,Yo,Yf,Ya,Ye,Yp,formN,YA,Yae,ha,YaE]
 ·by_cases e:b=[45,49]
  ·subst e;cases ha:nnQ a<;>simp[Yn,Yo,Yf,Ya,Ye,Yp,formN,YA,YcY,Ybc,Ybd,pst,ha,Y6,othN,ps0,YaE,Yec,Yee]
  ·cases ha:nnQ a<;>cases hb:nnQ b<;>simp[Yn,Yo,Yf,Ya,Ye,Yp,formN,YA,Ybc,Ybd,pst,ha,hb,Y6,othN,ps0,YaE,e]
 ·cases ha:nnQ a<;>cases hb:nnQ b<;>simp[Yn,Yo,Yf,Ya,Ye,Yp,formN,YA,ha,hb,YaE]
theorem Ybx (i:Nat) (hi:i=2∨i=3∨i=19) (ls:List (List UInt8)):Yn (Yo i (ls,false))=Yp i ls:=by
 rcases hi with rfl|rfl|rfl <;>
 ·rcases ls with _|⟨a,_|⟨b,_|⟨c,ls⟩⟩⟩
  ·simp[Yn,Yo,Yf,Ya,Ye,Yp,formN,Yae,Yar]
  ·cases ha:nnQ a<;>simp[Yn,Yo,Yf,Ya,Ye,Yp,formN,YA,Yar,ha]
  ·cases ha:nnQ a<;>cases hb:rdW b<;>simp[Yn,Yo,Yf,Ya,Ye,Yp,formN,YA,Y9,Ybc,Ybd,pst,ha,hb,Y6,othN,ps0]
  ·cases ha:nnQ a<;>cases hb:rdW b<;>simp[Yn,Yo,Yf,Ya,Ye,Yp,formN,YA,Y9,ha,hb]
theorem Ybb (i:Nat) (hi:i=0∨i=1∨i=7) (ls:List (List UInt8)):Yn (Yo i (ls,false))=Yp i ls:=by
 rcases hi with rfl|rfl|rfl <;>
 ·rcases ls with _|⟨a,_|⟨b,_|⟨c,_|⟨d,ls⟩⟩⟩⟩
  ·simp[Yn,Yo,Yf,Ya,Ye,Yp,formN,Yae,Yar]
  ·cases ha:nnQ a<;>simp[Yn,Yo,Yf,Ya,Ye,Yp,formN,YA,Yar,ha]
  ·cases ha:nnQ a<;>cases hb:rdW b<;>simp[Yn,Yo,Yf,Ya,Ye,Yp,formN,YA,Y9,Yar,ha,hb]
  ·cases ha:nnQ a<;>cases hb:rdW b<;>cases hc:rdW c<;>simp[Yn,Yo,Yf,Ya,Ye,Yp,formN,YA,Y9,Ybc,Ybd,pst,ha,hb,hc,Y6,othN,ps0]
  ·cases ha:nnQ a<;>cases hb:rdW b<;>cases hc:rdW c<;>simp[Yn,Yo,Yf,Ya,Ye,Yp,formN,YA,Y9,ha,hb,hc]
theorem Yck (ls:List (List UInt8)):Yn (Yo 4 (ls,false))=Yp 4 ls:=by
 rcases ls with _|⟨a,_|⟨b,_|⟨c,_|⟨d,_|⟨e,ls⟩⟩⟩⟩⟩
 ·simp[Yn,Yo,Yf,Ya,Ye,Yp,formN,Yae,Yar]
 ·cases ha:nnQ a<;>simp[Yn,Yo,Yf,Ya,Ye,Yp,formN,YA,Yar,ha]
 ·cases ha:nnQ a<;>cases hb:rdW b<;>simp[Yn,Yo,Yf,Ya,Ye,Yp,formN,YA,Y9,Yar,ha,hb]
 ·cases ha:nnQ a<;>cases hb:rdW b<;>cases hc:rdW c<;>simp[Yn,Yo,Yf,Ya,Ye,Yp,formN,YA,Y9,Yar,ha,hb,hc]
 ·cases ha:nnQ a<;>cases hb:rdW b<;>cases hc:rdW c<;>cases hd:rdW d<;>simp[Yn,Yo,Yf,Ya,Ye,Yp,formN,YA,Y9,Ybc,Ybd,pst,ha,hb,hc,hd,Y6,othN,ps0]
 ·cases ha:nnQ a<;>cases hb:rdW b<;>cases hc:rdW c<;>cases hd:rdW d<;>simp[Yn,Yo,Yf,Ya,Ye,Yp,formN,YA,Y9,ha,hb,hc,hd]
theorem Yc0 (ls:List (List UInt8)):Yn (Yo 5 (ls,false))=Yp 5 ls:=by
 rcases ls with _|⟨a,_|⟨b,_|⟨c,_|⟨d,ls⟩⟩⟩⟩
 ·simp[Yn,Yo,Yf,Ya,Ye,Yp,formN,Yae,Yar,YbB]
 ·cases ha:nnQ a<;>simp[Yn,Yo,Yf,Ya,Ye,Yp,formN,YA,Yar,YbB,ha]
 ·cases ha:nnQ a<;>cases hb:rdW b<;>simp[Yn,Yo,Yf,Ya,Ye,Yp,formN,YA,Y9,YbB,ha,hb]
 ·cases ha:nnQ a<;>cases hb:rdW b<;>cases hc:stD c<;>simp[Yn,Yo,Yf,Ya,Ye,Yp,formN,YA,Y9,Ycw,Ybc,Ybd,pst,ha,hb,hc,Y6,othN,ps0]
 ·cases ha:nnQ a<;>cases hb:rdW b<;>cases hc:stD c<;>simp[Yn,Yo,Yf,Ya,Ye,Yp,formN,YA,Y9,Ycw,ha,hb,hc]
theorem Ycl (ls:List (List UInt8)):Yn (Yo 6 (ls,false))=Yp 6 ls:=by
 rcases ls with _|⟨a,_|⟨b,_|⟨c,_|⟨d,_|⟨e,_|⟨f,ls⟩⟩⟩⟩⟩⟩
 ·simp[Yn,Yo,Yf,Ya,Ye,Yp,formN,Yae,Yar,YbB]
 ·cases ha:nnQ a<;>simp[Yn,Yo,Yf,Ya,Ye,Yp,formN,YA,Yae,Yar,YbB,ha]
 ·cases ha:nnQ a<;>cases hb:rdW b<;>simp[Yn,Yo,Yf,Ya,Ye,Yp,formN,YA,Yae,Y9,Yar,YbB,ha,hb]
 ·cases ha:nnQ a<;>cases hb:rdW b<;>cases hc:rdW c<;>simp[Yn,Yo,Yf,Ya,Ye,Yp,formN,YA,Yae,Y9,YbB,ha,hb,hc]
 ·cases ha:nnQ a<;>cases hb:rdW b<;>cases hc:rdW c<;>cases hd:stD d<;>simp[Yn,Yo,Yf,Ya,Ye,Yp,formN,YA,Yae,Y9,Ycw,ha,hb,hc,hd]
 ·cases ha:nnQ a<;>cases hb:rdW b<;>cases hc:rdW c<;>cases hd:stD d<;>cases he:nnQ e<;>simp[Yn,Yo,Yf,Ya,Ye,Yp,formN,YA,Y9,Ycw,Ybc,Ybd,pst,ha,hb,hc,hd,he,Y6,othN,ps0]
 ·cases ha:nnQ a<;>cases hb:rdW b<;>cases hc:rdW c<;>cases hd:stD d<;>cases he:nnQ e<;>simp[Yn,Yo,Yf,Ya,Ye,Yp,formN,YA,Y9,Ycw,ha,hb,hc,hd,he]
theorem Yds (ls:List (List UInt8)):Yn (Yo 23 (ls,false))=none:=by
 simp[Yn,Yo,Yf,Ya,Ye]
theorem Yb3 (ls:List (List UInt8)):Yn (Yo 20 (ls,false))=if ls=[] then some {Yc with kind:=13} else none:=by
 cases ls<;>simp[Yn,Yo,Yf,Ya,Ye]
theorem Yb2 (ls:List (List UInt8)):Yn (Yo 21 (ls,false))=if ls=[] then some {Yc with kind:=12,ck:=6} else none:=by
 cases ls<;>simp[Yn,Yo,Yf,Ya,Ye]
theorem Yap (line:List UInt8):YaP line=Yv line:=by
 obtain⟨w,ls,hs⟩:∃w ls,splt 32 line=w::ls:=by
  cases hs:splt 32 line with
  |nil=>exact absurd hs (YaD 32 line)
  |cons w ls=>exact⟨w,ls,rfl⟩
 have hp:YaP line=Yn (Yo (wn w) (ls,false)):=by unfold YaP;rw[hs];rfl
 have hd:Yv line=if wn w=20 then (if ls=[] then some {Yc with kind:=13} else none)
  else if wn w=21 then (if ls=[] then some {Yc with kind:=12,ck:=6} else none)
  else if wn w=22 then viewD (w::ls)
  else Yp (wn w) ls:=by unfold Yv;rw[hs];rfl
 rw[hp,hd];rcases YX (YaS w) with e|e|e|e|e|e|e|e|e|e|e|e|e|e|e|e|e|e|e|e|e|e|e|e<;>rw[e]
 ·exact Ybb 0 (by omega) ls
 ·exact Ybb 1 (by omega) ls
 ·exact Ybx 2 (by omega) ls
 ·exact Ybx 3 (by omega) ls
 ·exact Yck ls
 ·exact Yc0 ls
 ·exact Ycl ls
 ·exact Ybb 7 (by omega) ls
 ·exact YaO 8 (by omega) ls
 ·exact YaO 9 (by omega) ls
 ·exact Yc1 ls
 ·exact YaO 11 (by omega) ls
 ·exact YaO 12 (by omega) ls
 ·exact YaO 13 (by omega) ls
 ·exact Ybq 14 (by omega) ls
 ·exact Ybq 15 (by omega) ls
 ·exact Ybq 16 (by omega) ls
 ·exact Ybq 17 (by omega) ls
 ·exact Ybq 18 (by omega) ls
 ·exact Ybx 19 (by omega) ls
 ·exact Yb3 ls
 ·exact Yb2 ls
 ·exact Ycm w ls
 ·rw[Yds];simp[Yp,formN]
def H647 (Pg:PgT):Prop:=Pg 647=some (.code F647)
theorem K647 (h:H647 Pg) (s:Stp) (hl:s.mem.length≤2 ^ 40):K' Pg 647 [.agg (Yh s),.agg (Yh s)]=some (.bool true):=by
 refine JdD h rfl ?_;have c1:decide ((s.mem.length:Int)=(s.mem.length:Int))=true:=GN rfl;simp only[F647,c647,go_sem,Yh,eI1,Gi];unfold l647_0;refine JmD (fun (i:Nat) S=>i≤s.mem.length∧S.ρ 3=.lref 3 0∧S.ρ 5=.lref 5 0∧S.ρ 47=iz s.mem.length∧S.ρ 48=iz i∧S.μ 3=some (Yh s,false)∧S.μ 5=some ([iz s.ck,iz s.cs,iz s.co,iz s.ct,.str s.ckey,.slice 1 (eI1 s.mem)],false)) (fun i=>s.mem.length-i) 0 ?_ ?_
 ·exact⟨G1 _,by simp[go_sem],by simp[go_sem],by simp[go_sem],by simp[go_sem],by simp[go_sem,Yh,eI1],by simp[go_sem,eI1]⟩
 ·intro i S ⟨hi,r3,r5,r47,r48,m3,m5⟩;simp only[Yh,eI1] at m3 m5;cases c1:decide ((i:Int)<(s.mem.length:Int)) with
  |false=>simp only[b647_0,go_sem,r3,r5,r47,r48,m3,m5,c1]
  |true=>
   have hlt:i<s.mem.length:=by have:=Ge c1;omega
   obtain⟨n,hn⟩:∃n,s.mem[i]?=some n:=⟨s.mem[i]'hlt,List.getElem?_eq_getElem _⟩;have hinc:=inc64q (i:=i) (by omega)
   simp only[b647_0,go_sem,r3,r5,r47,r48,m3,m5,c1,hn,hinc];exact⟨i+1,by omega,hlt,rfl,by simp[Yh,eI1],by simp[eI1]⟩
def runS:List UInt8:=[112,117,116,32,49,32,97,32,120,10,114,111,117,110,100,10,103,101,116,32,49]
def YaU:List UInt8:=[111,107,10,111,107,32,91,49,32,49,32,48,32,48,46,49,46,49,32,48,32,37,32,48,93,10,101,114,114,111,114,32,51,10]
def runQ:List V→Option V
 |[.str s]=>if s=runS then some (.str YaU) else none
 |_=>none
def H648 (Pg:PgT):Prop:=Pg 648=some (.prim none runQ)
def H644 (Pg:PgT):Prop:=Pg 644=some (.code F644)∧H648 Pg
theorem K644 (h:H644 Pg):K' Pg 644 []=some (.bool true):=by
 obtain⟨h,h8⟩:=h;have k:K' Pg 648 [.str [112,117,116,32,49,32,97,32,120,10,114,111,117,110,100,10,103,101,116,32,49]]=some (.str YaU):=by
  rw[Jf3 h8];rfl
 refine JdD h rfl ?_;have c:decide (YaU=[111,107,10,111,107,32,91,49,32,49,32,48,32,48,46,49,46,49,32,48,32,37,32,48,93,10,101,114,114,111,114,32,51,10])=true:=GN rfl;simp only[F644,c644,go_sem,k,c]
def H643 (Pg:PgT):Prop:=Pg 643=some (.code F643)∧H644 Pg∧H645 Pg∧H646 Pg∧H647 Pg
theorem YcB {l:List (List UInt8)} {s:Stp} (h:viewD l=some s):s.mem.length≤5:=by
 unfold viewD at h;split at h
 ·cases h
 ·rename_i h1;simp only[Bool.or_eq_true,Gz,not_or] at h1;split at h
  ·injection h with h
   rw[←h];simp only[Gi,Gu];omega
  ·cases h
theorem YcL (i:Nat) (s:PS):(Y6 i s).mem=[]:=by
 unfold Y6;simp only;split<;>first|rfl|(unfold othN;split<;>rfl)
theorem Yb4 {line:List UInt8} {s:Stp} (h:Yv line=some s):s.mem.length≤5:=by
 unfold Yv at h;split at h
 ·cases h
 ·split at h
  ·split at h
   ·injection h with h;rw[←h];exact G1 _
   ·cases h
  ·split at h
   ·split at h
    ·injection h with h;rw[←h];exact G1 _
    ·cases h
   ·split at h
    ·exact YcB h
    ·split at h
     ·cases h
     ·obtain⟨p,-,rfl⟩:=GJ.1 h;rw[YcL];exact G1 _
theorem K643 (h:H643 Pg) (s:List UInt8):K' Pg 643 [.str s]=some (.bool true):=by
 obtain⟨h,h644,h645,h646,h647⟩:=h;have k4:=K644 h644;refine JdD h rfl ?_;cases c:decide ((4096:Int)<(s.length:Int)) with
 |true=>simp only[F643,c643,go_sem,c,k4]
 |false=>
  have hl:s.length≤4096:=by have:=Gc c;omega
  have k5:=K645 h645 s (by omega);have k6:=K646 h646 s (by omega);rw[Yap] at k5;cases hp:Yv s with
  |none=>
   rw[hp] at k5 k6;have k7:=K647 h647 Yc (by decide);simp only[Yai,YL,Yh,Yc,eI1,Gp,Option.getD_none,Option.isSome_none,Gr,GD] at k5 k6 k7;simp only[F643,c643,go_sem,c,k4,k5,k6,k7]
  |some t=>
   rw[hp] at k5 k6;have k7:=K647 h647 t (by have:=Yb4 hp;omega);simp only[Yai,YL,Yh,Option.getD_some,Option.isSome_some,Gx] at k5 k6 k7;simp only[F643,c643,go_sem,c,k4,k5,k6,k7]
noncomputable def Yag (c:Nat):Nat:=Nat.xor (Nat.shiftRight c 1) (@Bool.rec (fun _=>Nat) 0 2197175160 (Nat.beq (Nat.mod c 2) 1))
noncomputable def YdI (c b:Nat):Nat:=Yag (Yag (Yag (Yag (Yag (Yag (Yag (Yag (Nat.xor c b))))))))
noncomputable def Yaz (s:List UInt8):Nat→Nat:=@List.rec UInt8 (fun _=>Nat→Nat) (fun c=>c) (fun b _ ih c=>ih (YdI c b.toNat)) s
noncomputable def YcH (s:List UInt8):Nat:=Nat.xor 4294967295 (Yaz s 4294967295)
theorem YN {c:Nat} (h:c<2 ^ 32):Yag c<2 ^ 32:=by
 unfold Yag;refine Nat.xor_lt_two_pow ?_ ?_
 ·show c >>> 1<_
  rw[Nat.shiftRight_eq_div_pow];omega
 ·cases Nat.beq (Nat.mod c 2) 1<;>decide
theorem YcG {c b:Nat} (h:c<2 ^ 32) (hb:b<256):YdI c b<2 ^ 32:=
 YN (YN (YN (YN (YN (YN (YN (YN (Nat.xor_lt_two_pow h (Nat.lt_trans hb (by decide))))))))))
theorem Yb7 (s t:List UInt8) (c:Nat):Yaz (s++t) c=Yaz t (Yaz s c):=by
 induction s generalizing c with
 |nil=>rfl
 |cons b s ih=>exact ih _
theorem Ya2 (s:List UInt8):∀c,c<2 ^ 32→Yaz s c<2 ^ 32:=by
 induction s with
 |nil=>intro c h;exact h
 |cons b s ih=>intro c h;exact ih _ (YcG h b.toNat_lt)
theorem YdD {n:Nat} (h:n<2 ^ 32):IntKind.u32.wrap (n:Int)=(n:Int):=by
 have:=_root_.Go.IntWalk.u32_in (n:Int) ⟨by omega,by omega⟩;exact this
theorem YbW {a b:Nat} (ha:a<2 ^ 32) (hb:b<2 ^ 32):Jh .xor .u32 (a:Int) (b:Int)=some (.int .u32 ((Nat.xor a b:Nat):Int)):=by
 show some (V.int .u32 (IntKind.u32.wrap ((BitVec.ofInt 32 (a:Int) ^^^ BitVec.ofInt 32 (b:Int)).toNat:Int)))=_
 rw[BitVec.ofInt_natCast,BitVec.ofInt_natCast,BitVec.toNat_xor,BitVec.toNat_ofNat,BitVec.toNat_ofNat,Nat.mod_eq_of_lt ha,Nat.mod_eq_of_lt hb];rw[YdD (Nat.xor_lt_two_pow ha hb)];rfl
theorem Yc5 {c:Nat} (h:c<2 ^ 32):(shV .shr (.int .u32 (c:Int)) (.int .u64 1)).bind (fun x=>(Jdf .and (.int .u32 (c:Int)) (.int .u32 1)).bind fun y=>(unV .neg y).bind fun y=>(Jdf .and (.int .u32 2197175160) y).bind fun y=>Jdf .xor x y)=some (.int .u32 ((Yag c:Nat):Int)):=by
 have e1:shV .shr (.int .u32 (c:Int)) (.int .u64 1)=some (.int .u32 ((c >>> 1:Nat):Int)):=by
  show some (V.int .u32 ((c:Int).fdiv (2 ^ (min (Int.toNat 1) 32))))=_
  rw[show min (Int.toNat 1) 32=1 from rfl,Nat.shiftRight_eq_div_pow];rw[show ((2:Int) ^ 1)=((2 ^ 1:Nat):Int) from rfl,Int.fdiv_eq_ediv_of_nonneg _ (by omega)]
  rfl
 have e2:Jdf .and (.int .u32 (c:Int)) (.int .u32 1)=some (.int .u32 ((c % 2:Nat):Int)):=by
  show some (V.int .u32 (IntKind.u32.wrap ((BitVec.ofInt 32 (c:Int) &&& BitVec.ofInt 32 1).toNat:Int)))=_
  rw[BitVec.ofInt_natCast,BitVec.toNat_and,BitVec.toNat_ofNat,Nat.mod_eq_of_lt h];rw[show (BitVec.ofInt 32 1).toNat=1 from rfl,Nat.and_one_is_mod,YdD (by omega)]
 rw[e1,e2];simp only[Option.bind_some];have hs:c >>> 1<2 ^ 32:=by rw[Nat.shiftRight_eq_div_pow];omega
 unfold Yag;rw[show Nat.mod c 2=c % 2 from rfl];rcases Nat.mod_two_eq_zero_or_one c with q|q
 ·rw[q]
  show (unV .neg (.int .u32 ((0:Nat):Int))).bind _=_
  rw[show unV .neg (.int .u32 ((0:Nat):Int))=some (.int .u32 ((0:Nat):Int)) from rfl,Option.bind_some];rw[show Jdf .and (.int .u32 2197175160) (.int .u32 ((0:Nat):Int))=some (.int .u32 ((0:Nat):Int)) from (Jf7 .u32 _ _).symm,Option.bind_some]
  show Jh .xor .u32 _ _=_
  rw[YbW hs (by decide)];rfl
 ·rw[q]
  show (unV .neg (.int .u32 ((1:Nat):Int))).bind _=_
  rw[show unV .neg (.int .u32 ((1:Nat):Int))=some (.int .u32 ((4294967295:Nat):Int)) from rfl,Option.bind_some];rw[show Jdf .and (.int .u32 2197175160) (.int .u32 ((4294967295:Nat):Int))=some (.int .u32 ((2197175160:Nat):Int)) from (Jf7 .u32 _ _).symm,Option.bind_some]
  show Jh .xor .u32 _ _=_
  rw[YbW hs (by decide)];rfl
noncomputable def Yb8:Nat→Nat→Nat
 |0,c=>c
 |j+1,c=>Yag (Yb8 j c)
theorem YbF {c:Nat} (h:c<2 ^ 32):∀j,Yb8 j c<2 ^ 32
 |0=>h
 |j+1=>YN (YbF h j)
theorem YcC {a b:Nat} (ha:a<2 ^ 32) (hb:b<2 ^ 32):IntKind.u32.wrap ((BitVec.ofInt 32 (a:Int) ^^^ BitVec.ofInt 32 (b:Int)).toNat:Int)=((Nat.xor a b:Nat):Int):=by
 have h:some (V.int IntKind.u32 (IntKind.u32.wrap ((BitVec.ofInt 32 (a:Int) ^^^ BitVec.ofInt 32 (b:Int)).toNat:Int)))=some (V.int .u32 ((Nat.xor a b:Nat):Int)):=YbW ha hb;injection h with h
 injection h
theorem YdE {a b:Nat} (ha:a<2 ^ 32) (hb:b<2 ^ 32):IntKind.u32.wrap ((BitVec.ofInt IntKind.u32.bits (a:Int) ^^^ BitVec.ofInt IntKind.u32.bits (b:Int)).toNat:Int)=((Nat.xor a b:Nat):Int):=YcC ha hb
theorem Yej {s:List UInt8}:unV .xor (.int .u32 ((Yaz s 4294967295:Nat):Int))=some (.int .u32 ((YcH s:Nat):Int)):=YbW (a:=4294967295) (by decide) (Ya2 s _ (by decide))
theorem r586_run {κ:Nat→List V→Option V} {S:St} {c:Nat} (h3:S.ρ 3=.int .u32 (c:Int)) (hc:c<2 ^ 32):Ju κ r586_8 0 (fun _=>.undef) S=some {S with ρ:=upd S.ρ 3 (.int .u32 ((Yag c:Nat):Int))}:=by
 have h:=Yc5 hc;simp only[Gb] at h;obtain⟨x,h1,y,h2,z,h4,w,h5,h6⟩:=h;have k1:∀(e:Nat→V) (S:St),argv e S.ρ (.g 3)=S.ρ 3:=fun _ _=>rfl;have e8:r586_8=[⟨some 18,false,.mov (.g 3),none⟩,⟨some 19,false,.sh .shr (.l 0) (.c (.int .u64 1)),none⟩,⟨some 20,false,.mov (.g 3),none⟩,⟨some 21,false,.bin .and (.l 2) (.c (.int .u32 1)),none⟩,⟨some 22,false,.un .neg (.l 3),none⟩,⟨some 23,false,.bin .and (.c (.int .u32 2197175160)) (.l 4),none⟩,⟨some 24,false,.bin .xor (.l 1) (.l 5),none⟩,⟨some 3,true,.mov (.l 6),none⟩]:=rfl;simp only[e8,Ju,step,Jq,ev,argv,h3,Option.bind_some,h1,St.put,Option.getD_some];have u:∀(f:Nat→V) (i j:Nat) (v:V),(i == j)=false→upd f j v i=f i:=fun f i j v q=>by
  unfold upd;rw[Gj (by simpa using q)]
 have u':∀(f:Nat→V) (j:Nat) (v:V),upd f j v j=v:=fun f j v=>by unfold upd;rw[Gl rfl]
 simp only[u',u _ 0 1 _ rfl,u _ 1 2 _ rfl,u _ 2 3 _ rfl,u _ 1 4 _ rfl,u _ 1 3 _ rfl,u _ 3 4 _ rfl,u _ 4 5 _ rfl,u _ 5 6 _ rfl,h1,h2,h4,h5,h6,Option.bind_some];simp only[h3,h2,h4,h5,Option.bind_some];simp[upd,h6]
def H586 (Pg:PgT):Prop:=Pg 586=some (.code F586)
theorem K586 (h:H586 Pg) (s:List UInt8) (hs:s.length<2 ^ 62):K' Pg 586 [.str s]=some (.int .u32 ((YcH s:Nat):Int)):=by
 refine JdD h rfl ?_;simp only[go_sem];unfold l586_0;refine JmD (fun (i:Nat) S=>i≤s.length∧S.ρ 0=.str s∧S.ρ 6=iz s.length∧S.ρ 7=iz i∧S.ρ 3=.int .u32 ((Yaz (s.take i) 4294967295:Nat):Int)) (fun i=>s.length-i) 0 ?_ ?_
 ·exact⟨G1 _,rfl,rfl,rfl,rfl⟩
 ·intro i S ⟨hi,s0,s6,s7,s3⟩;have hlt3:=Ya2 (s.take i) 4294967295 (by decide);cases c1:decide ((i:Int)<(s.length:Int)) with
  |false=>
   have:i=s.length:=by have:=Gc c1;omega
   subst this;rw[List.take_length] at s3 hlt3;simp only[go_sem,s6,s7,s3,c1,Yej]
  |true=>
   have hlt:=YI c1;obtain⟨b,hb,-⟩:=Jmm hlt;have hinc:=inc64q (i:=i) (by omega)
   have hw:=YdD (n:=b.toNat) (by have:=b.toNat_lt;omega);have hx:=YdE hlt3 (show b.toNat<2 ^ 32 by have:=b.toNat_lt;omega);simp only[go_sem,s0,s6,s7,s3,c1,hb,hw,hx];unfold l586_1;have hb2:=b.toNat_lt;have hc0:Nat.xor (Yaz (s.take i) 4294967295) b.toNat<2 ^ 32:=Nat.xor_lt_two_pow hlt3 (Nat.lt_trans hb2 (by decide));refine JmD (fun (j:Nat) S=>j≤8∧S.ρ 0=.str s∧S.ρ 6=iz s.length∧S.ρ 7=iz i∧S.ρ 16=iz j∧S.ρ 3=.int .u32 ((Yb8 j (Nat.xor (Yaz (s.take i) 4294967295) b.toNat):Nat):Int)) (fun j=>8-j) 0 ?_ ?_
   ·refine⟨by omega,by simp only[go_sem,s0],by simp only[go_sem,s6],by simp only[go_sem,s7],by simp only[go_sem],?_⟩;simp only[go_sem];exact congrArg (V.int IntKind.u32) (YcC hlt3 (Nat.lt_trans hb2 (by decide)))
   ·intro j S ⟨hj,t0,t6,t7,t16,t3⟩;cases c2:decide ((j:Int)<8) with
    |false=>
     have:j=8:=by have:=Gc c2;omega
     subst this;simp only[go_sem,t0,t6,t7,t16,t3,c2,hinc];refine⟨i+1,by omega,by omega,rfl,?_⟩;rw[GW,hb]
     show _=V.int IntKind.u32 ((Yaz (s.take i++[b]) 4294967295:Nat):Int)
     rw[Yb7]
     rfl
    |true=>
     have hj8:=Ge c2;have hjn:=inc64q (i:=j) (by omega)
     have hk:∀(S:St) (Q:St→Prop),S.ρ 3=.int .u32 ((Yb8 j (Nat.xor (Yaz (s.take i) 4294967295) b.toNat):Nat):Int)→Q {S with ρ:=upd S.ρ 3 (.int .u32 ((Yb8 (j+1) (Nat.xor (Yaz (s.take i) 4294967295) b.toNat):Nat):Int))}→Wr (K' Pg) r586_8 0 (fun _=>.undef) S Q:=
      fun S Q h3 hq=>⟨_,r586_run h3 (YbF hc0 j),hq⟩
     unfold b586_1;generalize r586_8=ops8 at hk ⊢;simp only[go_sem,t0,t6,t7,t16,c2];refine hk _ _ (by simp only[go_sem,t3]) ?_;simp only[go_sem,t0,t6,t7,t16,hjn];exact⟨j+1,by omega,by omega,rfl,rfl⟩
noncomputable def crcQ:List V→Option V
 |[.str s]=>bif Nat.blt (Js s) 4611686018427387904 then some (.int .u32 ((YcH s:Nat):Int)) else none
 |_=>none
theorem YbG (h:H586 Pg) (a:List V) (r:V) (ha:crcQ a=some r):K' Pg 586 a=some r:=by
 unfold crcQ at ha;split at ha
 ·rename_i s;rw[Jl] at ha;cases q:Nat.blt s.length 4611686018427387904 with
  |false=>rw[q] at ha;cases ha
  |true=>rw[q] at ha;rw[K586 h s (Nat.le_of_ble_eq_true q)];exact ha
 ·cases ha
def rkO (n:Nat):Option Nat:=@Nat.rec (fun _=>Option Nat) none (fun k _=>some k) n
def mkFt (rest:List Ft):List (Nat×Fn)→List Nat→List Ft
 |[],_=>rest
 |a::l,[]=>⟨a.1,a.2,none⟩::mkFt rest l []
 |a::l,k::ks=>⟨a.1,a.2,rkO k⟩::mkFt rest l ks
def YdG:Nat:=17
theorem YW {rest:List Ft} {a:Ft}:∀{l:List (Nat×Fn)} {k:List Nat},a∈mkFt rest l k→a∈rest∨(a.f,a.x)∈l
 |[],_,h=>.inl h
 |b::l,[],h=>by
  rcases GM.1 h with h|h
  ·subst h;exact .inr (GZ ..)
  ·exact (YW h).imp id (GF _)
 |b::l,k::ks,h=>by
  rcases GM.1 h with h|h
  ·subst h;exact .inr (GZ ..)
  ·exact (YW h).imp id (GF _)
def fm0:List UInt8:=[58,1,0,0,1,1,1,3,1,2,1,2,1,1,2,2,3,1,1,2,3,1,1,2,0,3,0,0,0,0,0,0,0,0,0,0,0,0,0,0,0,0,0,0,0,0,0,0,0,0,0,0,0,0,0,0,0,0,0,111,43,87,97]
def Yef:List V:=[iz 0,.str fm0,.str [],iz 0,.bool false,.bool false,iz 0,(.slice 9 []),(.slice 5 [[.str [],.str [],iz 1,iz 1,iz 1]]),(.slice 3 [[iz 1,(.slice 1 [[iz 1],[iz 2]]),.bool true],[iz 1,(.slice 1 [[iz 2],[iz 3]]),.bool true],[iz 1,(.slice 1 [[iz 3],[iz 1]]),.bool true]]),iz 2,(.slice 5 []),(.slice 3 [[iz 0,iz 0,iz 0],[iz 0,iz 0,iz 0],[iz 0,iz 0,iz 0]]),iz 0,iz 0,iz 0,iz 0,iz 0,iz 0,iz 0,iz 0,iz 0,iz 0,iz 0,.str [],(.slice 1 []),iz 0,iz 0,iz 0,.str [],.str [],(.slice 1 []),iz 0,iz 0,iz 0,(.slice 1 []),(.slice 7 []),.bool true]
def fm1:List UInt8:=[78,1,2,1,1,2,1,2,1,22,0,0,0,0,1,1,1,1,0,0,0,0,0,0,0,0,0,0,0,0,0,0,22,0,0,0,0,1,1,1,1,0,0,0,0,0,0,0,0,0,0,0,0,0,0,2,1,2,0,3,1,2,3,1,1,5,0,0,0,0,0,5,0,0,0,0,0,0,0,140,176,181,45]
def Yeg:List V:=[iz 1,.str fm1,.str [],iz 0,.bool false,.bool false,iz 1,(.slice 9 [[iz 1,iz 1,iz 1,(.slice 1 [[iz 1],[iz 2]]),iz 1,.str [0,0,0,0,1,1,1,1,0,0,0,0,0,0,0,0,0,0,0,0,0,0],.str [0,0,0,0,1,1,1,1,0,0,0,0,0,0,0,0,0,0,0,0,0,0],(.slice 1 [[iz 1],[iz 2]]),(.slice 36 [])],[iz 3,iz 1,iz 1,(.slice 1 [[iz 3],[iz 1]]),iz 1,.str [0,0,0,0,0],.str [0,0,0,0,0],(.slice 1 []),(.slice 36 [])]]),(.slice 5 []),(.slice 3 []),iz 0,(.slice 5 []),(.slice 3 []),iz 0,iz 0,iz 0,iz 0,iz 0,iz 0,iz 0,iz 0,iz 0,iz 0,iz 0,.str [],(.slice 1 []),iz 0,iz 0,iz 0,.str [],.str [],(.slice 1 []),iz 0,iz 0,iz 0,(.slice 1 []),(.slice 7 []),.bool true]
def fm2:List UInt8:=[78,2,2,1,1,2,1,2,1,22,0,0,0,0,1,1,1,1,0,0,0,0,0,0,0,0,0,0,0,0,0,0,22,0,0,0,0,1,1,1,1,0,0,0,0,0,0,0,0,0,0,0,0,0,0,0,0,2,1,2,2,3,1,5,0,0,0,0,0,5,0,0,0,0,0,2,2,3,0,19,241,151,75]
def Yeh:List V:=[iz 2,.str fm2,.str [],iz 0,.bool false,.bool false,iz 2,(.slice 9 [[iz 1,iz 2,iz 1,(.slice 1 [[iz 1],[iz 2]]),iz 1,.str [0,0,0,0,1,1,1,1,0,0,0,0,0,0,0,0,0,0,0,0,0,0],.str [0,0,0,0,1,1,1,1,0,0,0,0,0,0,0,0,0,0,0,0,0,0],(.slice 1 []),(.slice 36 [])],[iz 2,iz 2,iz 1,(.slice 1 [[iz 2],[iz 3]]),iz 1,.str [0,0,0,0,0],.str [0,0,0,0,0],(.slice 1 [[iz 2],[iz 3]]),(.slice 36 [])]]),(.slice 5 []),(.slice 3 []),iz 0,(.slice 5 []),(.slice 3 []),iz 0,iz 0,iz 0,iz 0,iz 0,iz 0,iz 0,iz 0,iz 0,iz 0,iz 0,.str [],(.slice 1 []),iz 0,iz 0,iz 0,.str [],.str [],(.slice 1 []),iz 0,iz 0,iz 0,(.slice 1 []),(.slice 7 []),.bool true]
def fm3:List UInt8:=[44,3,2,2,1,2,2,3,1,5,0,0,0,0,0,5,0,0,0,0,0,0,0,3,1,2,3,1,1,5,0,0,0,0,0,5,0,0,0,0,0,2,3,1,0,66,191,217,70]
def Yei:List V:=[iz 3,.str fm3,.str [],iz 0,.bool false,.bool false,iz 3,(.slice 9 [[iz 2,iz 3,iz 1,(.slice 1 [[iz 2],[iz 3]]),iz 1,.str [0,0,0,0,0],.str [0,0,0,0,0],(.slice 1 []),(.slice 36 [])],[iz 3,iz 3,iz 1,(.slice 1 [[iz 3],[iz 1]]),iz 1,.str [0,0,0,0,0],.str [0,0,0,0,0],(.slice 1 [[iz 3],[iz 1]]),(.slice 36 [])]]),(.slice 5 []),(.slice 3 []),iz 0,(.slice 5 []),(.slice 3 []),iz 0,iz 0,iz 0,iz 0,iz 0,iz 0,iz 0,iz 0,iz 0,iz 0,iz 0,.str [],(.slice 1 []),iz 0,iz 0,iz 0,.str [],.str [],(.slice 1 []),iz 0,iz 0,iz 0,(.slice 1 []),(.slice 7 []),.bool true]
def cl (w:Int):List V:=[iz w,iz 1,.slice 5 [],.slice 1 [],iz 0,iz 0,iz 0,.str [],.str [],.bool false,.str [],iz 0,iz 0,iz 0,.str [],iz 0,.bool false,iz 0]
def Ydq:List (List V):=[Yef,Yeg,Yeh,Yei]
def Ydj:List (List V):=[cl 1,cl 2,cl 3,cl 4,cl 5,cl 6,cl 7,cl 8]
def wls:List (List V):=[[iz 0],[iz 0],[iz 0],[iz 0]]
def Ydk:List V:=[.slice 38 Ydq,.slice 18 Ydj,.slice 1 wls,.slice 1 []]
def body (f:List UInt8):List UInt8:=(f.drop 1).take (f.length-5)
def Ydg:List V:=[iz 1,iz 1,iz 0,iz 0,iz 0,iz 1,.str [97],.str [120],.bool false,.str [],iz 0,iz 0,iz 0,.str [],iz 0,iz 0,iz 0,iz 0,iz 0,.str [],.slice 1 []]
def Ydt:List V:=[iz 13,iz 0,iz 0,iz 0,iz 0,iz 0,.str [],.str [],.bool false,.str [],iz 0,iz 0,iz 0,.str [],iz 0,iz 0,iz 0,iz 0,iz 0,.str [],.slice 1 []]
def Yd8:List V:=[iz 1,iz 2,(.slice 5 []),(.slice 1 []),iz 1,iz 1,iz 1,.str [97],.str [120],.bool false,.str [],iz 0,iz 0,iz 0,.str [],iz 0,.bool false,iz 12]
def cu1:List V:=[.slice 38 Ydq,.slice 18 (Ydj.set 0 Yd8),.slice 1 wls,.slice 1 []]
def cu2:List V:=[(.slice 38 [[iz 0,.str [58,1,0,0,1,1,1,3,1,2,1,2,1,1,2,2,3,1,1,2,3,1,1,2,0,3,0,0,0,0,0,0,0,0,0,0,0,0,0,0,0,0,0,0,0,0,0,0,0,0,0,0,0,0,0,0,0,0,0,111,43,87,97],.str [],iz 0,.bool false,.bool false,iz 0,(.slice 9 []),(.slice 5 [[.str [],.str [],iz 1,iz 1,iz 1]]),(.slice 3 [[iz 1,(.slice 1 [[iz 1],[iz 2]]),.bool true],[iz 1,(.slice 1 [[iz 2],[iz 3]]),.bool true],[iz 1,(.slice 1 [[iz 3],[iz 1]]),.bool true]]),iz 2,(.slice 5 []),(.slice 3 [[iz 0,iz 0,iz 0],[iz 0,iz 0,iz 0],[iz 0,iz 0,iz 0]]),iz 0,iz 0,iz 0,iz 0,iz 0,iz 0,iz 0,iz 0,iz 0,iz 0,iz 0,.str [],(.slice 1 []),iz 0,iz 0,iz 0,.str [],.str [],(.slice 1 []),iz 0,iz 0,iz 0,(.slice 1 []),(.slice 7 []),.bool true],[iz 1,.str [78,1,2,1,1,2,1,2,1,22,0,0,0,0,1,1,1,1,0,0,0,0,0,0,0,0,0,0,0,0,0,0,22,0,0,0,0,1,1,1,1,0,0,0,0,0,0,0,0,0,0,0,0,0,0,2,1,2,0,3,1,2,3,1,1,5,0,0,0,0,0,5,0,0,0,0,0,0,0,140,176,181,45,131,1,1,2,1,1,2,1,2,2,22,0,0,0,0,1,1,1,1,0,0,0,0,0,0,0,0,0,0,0,0,0,0,39,0,1,1,0,1,1,1,1,0,0,0,0,0,0,0,0,0,0,0,0,1,1,97,1,0,1,1,0,1,120,1,1,1,0,0,1,1,0,0,1,1,1,36,2,1,11,0,0,0,0,1,0,0,0,0,0,1,1,0,0,0,0,0,0,0,0,0,0,0,0,1,1,0,0,0,0,0,0,0,3,1,2,3,1,1,5,0,0,0,0,0,5,0,0,0,0,0,0,0,30,252,59,143,112,1,2,1,1,2,1,2,2,39,0,1,1,0,1,1,1,1,0,0,0,0,0,0,0,0,0,0,0,0,1,1,97,1,0,1,1,0,1,120,1,1,1,0,0,1,1,0,0,39,0,1,1,0,1,1,1,1,0,0,0,0,0,0,0,0,0,0,0,0,1,1,97,1,0,1,1,0,1,120,1,1,1,0,0,1,1,0,0,2,1,2,0,3,1,2,3,1,1,5,0,0,0,0,0,5,0,0,0,0,0,0,0,222,56,195,244],.str [],iz 0,.bool false,.bool false,iz 1,(.slice 9 [[iz 1,iz 1,iz 1,(.slice 1 [[iz 1],[iz 2]]),iz 2,.str [0,1,1,0,1,1,1,1,0,0,0,0,0,0,0,0,0,0,0,0,1,1,97,1,0,1,1,0,1,120,1,1,1,0,0,1,1,0,0],.str [0,1,1,0,1,1,1,1,0,0,0,0,0,0,0,0,0,0,0,0,1,1,97,1,0,1,1,0,1,120,1,1,1,0,0,1,1,0,0],(.slice 1 [[iz 1],[iz 2]]),(.slice 36 [])],[iz 3,iz 1,iz 1,(.slice 1 [[iz 3],[iz 1]]),iz 1,.str [0,0,0,0,0],.str [0,0,0,0,0],(.slice 1 []),(.slice 36 [])]]),(.slice 5 []),(.slice 3 []),iz 0,(.slice 5 []),(.slice 3 []),iz 0,iz 0,iz 0,iz 0,iz 0,iz 0,iz 0,iz 0,iz 0,iz 0,iz 0,.str [],(.slice 1 []),iz 0,iz 0,iz 0,.str [],.str [],(.slice 1 []),iz 0,iz 0,iz 0,(.slice 1 []),(.slice 7 []),.bool true],[iz 2,.str [78,2,2,1,1,2,1,2,1,22,0,0,0,0,1,1,1,1,0,0,0,0,0,0,0,0,0,0,0,0,0,0,22,0,0,0,0,1,1,1,1,0,0,0,0,0,0,0,0,0,0,0,0,0,0,0,0,2,1,2,2,3,1,5,0,0,0,0,0,5,0,0,0,0,0,2,2,3,0,19,241,151,75,112,2,2,1,1,2,1,2,2,39,0,1,1,0,1,1,1,1,0,0,0,0,0,0,0,0,0,0,0,0,1,1,97,1,0,1,1,0,1,120,1,1,1,0,0,1,1,0,0,39,0,1,1,0,1,1,1,1,0,0,0,0,0,0,0,0,0,0,0,0,1,1,97,1,0,1,1,0,1,120,1,1,1,0,0,1,1,0,0,0,0,2,1,2,2,3,1,5,0,0,0,0,0,5,0,0,0,0,0,2,2,3,0,126,131,201,47],.str [],iz 0,.bool false,.bool false,iz 2,(.slice 9 [[iz 1,iz 2,iz 1,(.slice 1 [[iz 1],[iz 2]]),iz 2,.str [0,1,1,0,1,1,1,1,0,0,0,0,0,0,0,0,0,0,0,0,1,1,97,1,0,1,1,0,1,120,1,1,1,0,0,1,1,0,0],.str [0,1,1,0,1,1,1,1,0,0,0,0,0,0,0,0,0,0,0,0,1,1,97,1,0,1,1,0,1,120,1,1,1,0,0,1,1,0,0],(.slice 1 []),(.slice 36 [])],[iz 2,iz 2,iz 1,(.slice 1 [[iz 2],[iz 3]]),iz 1,.str [0,0,0,0,0],.str [0,0,0,0,0],(.slice 1 [[iz 2],[iz 3]]),(.slice 36 [])]]),(.slice 5 []),(.slice 3 []),iz 0,(.slice 5 []),(.slice 3 []),iz 0,iz 0,iz 0,iz 0,iz 0,iz 0,iz 0,iz 0,iz 0,iz 0,iz 0,.str [],(.slice 1 []),iz 0,iz 0,iz 0,.str [],.str [],(.slice 1 []),iz 0,iz 0,iz 0,(.slice 1 []),(.slice 7 []),.bool true],[iz 3,.str [44,3,2,2,1,2,2,3,1,5,0,0,0,0,0,5,0,0,0,0,0,0,0,3,1,2,3,1,1,5,0,0,0,0,0,5,0,0,0,0,0,2,3,1,0,66,191,217,70],.str [],iz 0,.bool false,.bool false,iz 3,(.slice 9 [[iz 2,iz 3,iz 1,(.slice 1 [[iz 2],[iz 3]]),iz 1,.str [0,0,0,0,0],.str [0,0,0,0,0],(.slice 1 []),(.slice 36 [])],[iz 3,iz 3,iz 1,(.slice 1 [[iz 3],[iz 1]]),iz 1,.str [0,0,0,0,0],.str [0,0,0,0,0],(.slice 1 [[iz 3],[iz 1]]),(.slice 36 [])]]),(.slice 5 []),(.slice 3 []),iz 0,(.slice 5 []),(.slice 3 []),iz 0,iz 0,iz 0,iz 0,iz 0,iz 0,iz 0,iz 0,iz 0,iz 0,iz 0,.str [],(.slice 1 []),iz 0,iz 0,iz 0,.str [],.str [],(.slice 1 []),iz 0,iz 0,iz 0,(.slice 1 []),(.slice 7 []),.bool true]]),(.slice 18 [[iz 1,iz 2,(.slice 5 [[.str [],.str [],iz 1,iz 1,iz 1]]),(.slice 1 [[iz 1],[iz 2],[iz 3]]),iz 0,iz 0,iz 0,.str [],.str [],.bool false,.str [],iz 0,iz 0,iz 0,.str [],iz 0,.bool false,iz 0],[iz 2,iz 1,(.slice 5 []),(.slice 1 []),iz 0,iz 0,iz 0,.str [],.str [],.bool false,.str [],iz 0,iz 0,iz 0,.str [],iz 0,.bool false,iz 0],[iz 3,iz 1,(.slice 5 []),(.slice 1 []),iz 0,iz 0,iz 0,.str [],.str [],.bool false,.str [],iz 0,iz 0,iz 0,.str [],iz 0,.bool false,iz 0],[iz 4,iz 1,(.slice 5 []),(.slice 1 []),iz 0,iz 0,iz 0,.str [],.str [],.bool false,.str [],iz 0,iz 0,iz 0,.str [],iz 0,.bool false,iz 0],[iz 5,iz 1,(.slice 5 []),(.slice 1 []),iz 0,iz 0,iz 0,.str [],.str [],.bool false,.str [],iz 0,iz 0,iz 0,.str [],iz 0,.bool false,iz 0],[iz 6,iz 1,(.slice 5 []),(.slice 1 []),iz 0,iz 0,iz 0,.str [],.str [],.bool false,.str [],iz 0,iz 0,iz 0,.str [],iz 0,.bool false,iz 0],[iz 7,iz 1,(.slice 5 []),(.slice 1 []),iz 0,iz 0,iz 0,.str [],.str [],.bool false,.str [],iz 0,iz 0,iz 0,.str [],iz 0,.bool false,iz 0],[iz 8,iz 1,(.slice 5 []),(.slice 1 []),iz 0,iz 0,iz 0,.str [],.str [],.bool false,.str [],iz 0,iz 0,iz 0,.str [],iz 0,.bool false,iz 0]]),(.slice 1 [[iz 0],[iz 0],[iz 0],[iz 0]]),(.slice 1 [])]
def Ydf:V:=(.slice 25 [[iz 1,.bool true,iz 1,iz 1,iz 1,.str [97],.str [120],.bool false,.str [],iz 0,iz 0,iz 0,.str [],iz 0,.bool false,iz 0,iz 0,iz 1,iz 1,.bool false,.str [],(.slice 2 []),.str [],.bool false,iz 0]])
end Sg
namespace Sg
open _root_.Go (IntKind BinOp UnOp)
open _root_.Go.Lib (itoa decDigits)
variable {Pg:PgT}
def ln1:List UInt8:=[112,117,116,32,49,32,97,32,120]
def ln2:List UInt8:=[114,111,117,110,100]
def ln3:List UInt8:=[103,101,116,32,49]
theorem YdS:Yai (Yv ln1)=.tuple [.agg Ydg,iz 0]:=by kernel_rfl
theorem YdT:Yai (Yv ln2)=.tuple [.agg Ydt,iz 0]:=by kernel_rfl
theorem YdU:Yai (Yv ln3)=.tuple [.agg (Yh Yc),iz 3]:=by kernel_rfl
def Yc6:List V:=[iz 1,.bool true,iz 1,iz 1,iz 1,.str [97],.str [120],.bool false,.str [],iz 0,iz 0,iz 0,.str [],iz 0,.bool false,iz 0,iz 0,iz 1,iz 1,.bool false,.str [],(.slice 2 []),.str [],.bool false,iz 0]
theorem Yc9:Ydf=.slice 25 [Yc6]:=rfl
def Yda:List UInt8:=[49,32,49,32,48,32,48,46,49,46,49,32,48,32,37,32,48]
theorem Ydc:itoa 0=[48]:=by
 rw[show (0:Int)=((0:Nat):Int) from rfl,Yu,Yw (by decide)];rfl
theorem Ydd:itoa 1=[49]:=by
 rw[show (1:Int)=((1:Nat):Int) from rfl,Yu,Yw (by decide)];rfl
theorem Yde:itoa 3=[51]:=by
 rw[show (3:Int)=((3:Nat):Int) from rfl,Yu,Yw (by decide)];rfl
def H382 (Pg:PgT):Prop:=Pg 382=some (.prim none joinQ)
def H663 (Pg:PgT):Prop:=Pg 663=some (.code F663)∧H662 Pg∧H672 Pg∧H673 Pg∧H382 Pg
theorem K663 (h:H663 Pg):K' Pg 663 [.agg Yc6]=some (.str Yda):=by
 obtain⟨h,h662,h672,h673,h382⟩:=h;have k1:=K662 h662 1 (by decide) (by decide);have k0:=K662 h662 0 (by decide) (by decide);rw[Ydd] at k1;rw[Ydc] at k0;have ks:=K672 h672 0 1 1;rw[Gl (by decide)] at ks;simp only[Y4,Ydc,Ydd] at ks;have kt:=K673 h673 [] (by decide);rw[show YQ []=[37] from rfl] at kt;have kj:K' Pg 382 [.slice 1 [[.str [49]],[.str [49]],[.str [48]],[.str [48,46,49,46,49]],[.str [48]],[.str [37]],[.str [48]]],.str [32]]=some (.str Yda):=by
  rw[Jf3 h382];rfl
 refine JdD h rfl ?_;simp only[F663,c663,go_sem,Yc6,k0,k1,ks,kt,Jr,List.replicate,List.set,List.append_eq,List.nil_append,List.cons_append];unfold l663_0;refine JhZ ?_;simp only[b663_0,go_sem,kj]
end Sg
namespace Sg
open _root_.Go (IntKind BinOp UnOp)
open _root_.Go.Lib (itoa)
def Ycn:List Op:=[
 ⟨some 2,true,.mov (.c (.str [])),none⟩]
def Yco:List Op:=[
 ⟨some 12,false,.mov (.g 0),none⟩,
 ⟨some 13,true,.bin .eql (.l 0) (.c (.str [])),none⟩]
def Ycp:List Op:=[
 ⟨some 2,true,.mov (.c (.str [])),none⟩]
def Ycq:List Op:=[
 ⟨some 14,false,.call (.k 589) .no none [],none⟩,
 ⟨some 3,true,.alloc [.slice 38 [],.slice 18 [],.slice 1 [],.slice 1 []],none⟩,
 ⟨none,false,.store (.v 3) 4 (.l 1) (.l 0),none⟩]
def Ycr:List Op:=[
 ⟨some 15,false,.mov (.g 0),none⟩,
 ⟨some 16,false,.call (.k 661) .no none [.l 0,.c (.str [10])],none⟩,
 ⟨some 17,true,.call (.k 649) .no none [.l 1,.c (.str [10])],none⟩,
 ⟨some 18,true,.len false (.l 2),none⟩,
 ⟨some 19,true,.mov (.c (.int .i64 0)),none⟩]
def Yby:List Op:=[
 ⟨some 20,true,.bin .lss (.g 19) (.g 18),none⟩]
def Ycs:List Op:=[
 ⟨some 21,false,.iad 1 (.g 17) (.g 19),none⟩,
 ⟨some 22,false,.load (.c) none (.l 0),none⟩,
 ⟨some 6,true,.mov (.l 1),none⟩]
def Ybz:List Op:=[
 ⟨some 24,false,.mov (.g 6),none⟩,
 ⟨some 25,false,.call (.k 645) .no none [.l 0],none⟩,
 ⟨some 23,false,.mov (.l 1),none⟩,
 ⟨some 26,false,.ext (.l 2) 0,none⟩,
 ⟨some 27,false,.ext (.l 2) 1,none⟩,
 ⟨some 7,true,.alloc [.int .i64 0,.int .i64 0,.int .i64 0,.int .i64 0,.int .i64 0,.int .i64 0,.str [],.str [],.bool false,.str [],.int .i64 0,.int .i64 0,.int .i64 0,.str [],.int .i64 0,.int .i64 0,.int .i64 0,.int .i64 0,.int .i64 0,.str [],.slice 1 []],none⟩,
 ⟨none,false,.store (.v 7) 21 (.l 5) (.l 3),none⟩,
 ⟨some 8,true,.mov (.l 4),none⟩]
def YbA:List Op:=[
 ⟨some 9,true,.mov (.c (.slice 25 [])),none⟩]
def Ybe:List Op:=[
 ⟨some 28,false,.mov (.g 8),none⟩,
 ⟨some 29,true,.bin .eql (.l 0) (.c (.int .i64 0)),none⟩]
def YbK:List Op:=[
 ⟨some 31,false,.load (.v 3) (some 4) (.g 3),none⟩,
 ⟨some 32,false,.load (.v 7) (some 21) (.g 7),none⟩,
 ⟨some 33,false,.call (.k 592) .no none [.l 0,.l 1],none⟩,
 ⟨some 30,false,.mov (.l 2),none⟩,
 ⟨some 34,false,.ext (.l 3) 0,none⟩,
 ⟨some 35,false,.ext (.l 3) 1,none⟩,
 ⟨some 36,false,.ext (.l 3) 2,none⟩,
 ⟨none,false,.store (.v 3) 4 (.g 3) (.l 4),none⟩,
 ⟨some 9,true,.mov (.l 5),none⟩,
 ⟨some 8,true,.mov (.l 6),none⟩]
def YaC:List Op:=[
 ⟨some 37,false,.mov (.g 8),none⟩,
 ⟨some 38,true,.bin .eql (.l 0) (.c (.int .i64 0)),none⟩]
def Ya8:List Op:=[]
def Yc2:List Op:=Ya8++[⟨some 39,false,.nilq (.c (.str [111,107])),none⟩]
def Yao:List Op:=[
 ⟨some 40,false,.mov (.g 8),none⟩,
 ⟨some 41,false,.call (.k 662) .no none [.l 0],none⟩,
 ⟨some 42,true,.bin .add (.c (.str [101,114,114,111,114,32])) (.l 1),none⟩]
def Yc3:List Op:=Yao++[⟨some 43,false,.nilq (.g 42),none⟩]
def Ybf:List Op:=[
 ⟨some 44,true,.mov (.g 9),none⟩,
 ⟨some 45,true,.len false (.l 0),none⟩,
 ⟨some 46,true,.mov (.c (.int .i64 0)),none⟩]
def Ybg:List Op:=[
 ⟨some 47,true,.bin .lss (.g 46) (.g 45),none⟩]
def YbL:List Op:=[
 ⟨some 48,false,.iad 25 (.g 44) (.g 46),none⟩,
 ⟨some 49,false,.load (.c) (some 25) (.l 0),none⟩,
 ⟨some 11,true,.alloc [.int .i64 0,.bool false,.int .i64 0,.int .i64 0,.int .i64 0,.str [],.str [],.bool false,.str [],.int .i64 0,.int .i64 0,.int .i64 0,.str [],.int .i64 0,.bool false,.int .i64 0,.int .i64 0,.int .i64 0,.int .i64 0,.bool false,.str [],.slice 2 [],.str [],.bool false,.int .i64 0],none⟩,
 ⟨none,false,.store (.v 11) 25 (.l 2) (.l 1),none⟩]
def Ya9:List Op:=[
 ⟨some 50,false,.load (.v 11) (some 25) (.g 11),none⟩,
 ⟨some 51,false,.call (.k 663) .no none [.l 0],none⟩,
 ⟨some 52,false,.bin .add (.c (.str [32,91])) (.l 1),none⟩,
 ⟨some 53,true,.bin .add (.l 2) (.c (.str [93])),none⟩]
def Yc4:List Op:=Ya9++[⟨some 54,false,.nilq (.g 53),none⟩]
def YbM:List Op:=[
 ⟨some 55,false,.bin .add (.g 46) (.c (.int .i64 1)),none⟩,
 ⟨some 46,true,.mov (.l 0),none⟩]
def Yba:List Op:=[]
def YbN:List Op:=Yba++[⟨some 56,false,.nilq (.c (.str [10])),none⟩]
def Ybh:List Op:=[
 ⟨some 57,false,.bin .add (.g 19) (.c (.int .i64 1)),none⟩,
 ⟨some 19,true,.mov (.l 0),none⟩]
def Ydi:C:=.seq (.region false Ybg) (.seq (.cond (.g 47) (.skip) (.exit 2)) (.seq (.block 3 (.seq (.region false YbL) (.region false Yc4))) (.region false YbM)))
def l648_1:C:=.loop [] [] [11] [] Ydi
def Ydh:C:=.seq (.region false Yby) (.seq (.cond (.g 20) (.skip) (.exit 0)) (.seq (.block 1 (.seq (.region false Ycs) (.seq (.region false Ybz) (.seq (.region false YbA) (.seq (.seq (.region false Ybe) (.cond (.g 29) (.region false YbK) (.skip))) (.seq (.seq (.region false YaC) (.cond (.g 38) (.region false Yc2) (.region false Yc3))) (.seq (.seq (.region false Ybf) (.block 2 (l648_1))) (.region false YbN)))))))) (.region false Ybh)))
def l648_0:C:=.loop [] [] [7,11] [] Ydh
def q648:List C:=[.region false Ycn,.seq (.region false Yco) (.cond (.g 13) (.seq (.region false Ycp) (.ret)) (.skip)),.region false Ycq]
def c648:C:=.seq (.region false Ycr) (.block 0 l648_0)
def G648:List Nat:=[0,2,3,6,7,8,9,11,13,17,18,19,20,29,38,42,44,45,46,47,53]
theorem BR.sr {P:Go.Program} {cx:Cx} {G:List Nat} {N tb fw:Nat} {T e:Go.TypeId} {w0:Go.World} {κ:Nat→List V→Option V} {S:St} {acc:List UInt8} {Q:Ex→St→List UInt8→Prop} {d:Bool} {ps:List Op} {y:C}
  (hκ:KOK P cx (fun _=>none) κ) (hgn:cx.gn≤w0.heap.size) (hw:isW ps=false) (h:Wr κ ps 0 (fun _=>.undef) S (fun S'=>BR P cx G N tb T e w0 fw y S' acc Q)):BR P cx G N tb T e w0 fw (.seq (.region d ps) y) S acc Q:=
 BR.seq (BR.reg hκ hgn hw h)
noncomputable def trimQ:List V→Option V
 |[.str s,.str p]=>if s.length≤1099511627776 then some (.str (Go.Lib.trimSuffix s p)) else none
 |_=>none
def H661 (Pg:PgT):Prop:=Pg 661=some (.prim none trimQ)
def eCl (c:List (List V)×List (List V)×List (List V)×List (List V)):List V:=[.slice 38 c.1,.slice 18 c.2.1,.slice 1 c.2.2.1,.slice 1 c.2.2.2]
def okT:List UInt8:=[111,107]
def Ybm (e:Int):List UInt8:=[101,114,114,111,114,32]++itoa e
def brT (t:List UInt8):List UInt8:=[32,91]++t++[93]
def LineOK (κ:Nat→List V→Option V) (c:List (List V)×List (List V)×List (List V)×List (List V)) (line:List UInt8) (c':List (List V)×List (List V)×List (List V)×List (List V)) (txt:List UInt8):Prop:=
 (∃s,κ 645 [.str line]=some (.tuple [.agg (Yh s),iz 3])∧c'=c∧txt=Ybm 3++[10])∨
 ∃(s:Stp) (told:List (List V)) (e:Int) (ts:List (List UInt8)),κ 645 [.str line]=some (.tuple [.agg (Yh s),iz 0])∧κ 592 [.agg (eCl c),.agg (Yh s)]=some (.tuple [.agg (eCl c'),.slice 25 told,iz e])∧-9223372036854775808≤e∧e≤9223372036854775807∧
  ts.length=told.length∧told.length≤2 ^ 40∧(∀(i:Nat) (r:List V) (t:List UInt8),told[i]?=some r→ts[i]?=some t→(r.length=25∧r.all V.datC=true)∧κ 663 [.agg r]=some (.str t))∧txt=(if e=0 then okT else Ybm e)++(ts.flatMap brT++[10])
def RunOK (κ:Nat→List V→Option V):(List (List V)×List (List V)×List (List V)×List (List V))→List (List UInt8)→List UInt8→Prop
 |_,[],txt=>txt=[]
 |c,l::ls,txt=>∃c' t ts,LineOK κ c l c' t∧RunOK κ c' ls ts∧txt=t++ts
structure RunI (κ:Nat→List V→Option V) (lines:List (List UInt8)) (out:List UInt8) (st:Nat×(List (List V)×List (List V)×List (List V)×List (List V))×List UInt8) (S:St) (acc:List UInt8):Prop where
 i:st.1≤lines.length
 r3:S.ρ 3=.lref 3 0
 m3:S.μ 3=some (eCl st.2.1,false)
 r17:S.ρ 17=.slice 1 (Yi lines)
 r18:S.ρ 18=iz lines.length
 r19:S.ρ 19=iz st.1
 m7:S.μ 7=none
 m11:S.μ 11=none
 run:RunOK κ st.2.1 (lines.drop st.1) st.2.2
 acc:acc++st.2.2=out
section
variable {P:Go.Program} {cx:Cx} {N fw:Nat} {T e:Go.TypeId} {w0:Go.World} {κ:Nat→List V→Option V}
structure InnI (κ:Nat→List V→Option V) (lines:List (List UInt8)) (c:List (List V)×List (List V)×List (List V)×List (List V)) (i0:Nat) (told:List (List V)) (st:Nat×List (List UInt8)) (base:List UInt8) (S:St) (acc:List UInt8):Prop where
 i:st.1≤told.length
 r3:S.ρ 3=.lref 3 0
 m3:S.μ 3=some (eCl c,false)
 r17:S.ρ 17=.slice 1 (Yi lines)
 r18:S.ρ 18=iz lines.length
 r19:S.ρ 19=iz i0
 m11:S.μ 11=none
 r44:S.ρ 44=.slice 25 told
 r45:S.ρ 45=iz told.length
 r46:S.ρ 46=iz st.1
 ts:st.2.length=told.length-st.1∧∀(i:Nat) (r:List V) (t:List UInt8),told[st.1+i]?=some r→st.2[i]?=some t→(r.length=25∧r.all V.datC=true)∧κ 663 [.agg r]=some (.str t)
 acc:acc++st.2.flatMap brT=base
theorem Ydm {α:Type} {l:List α} {i:Nat} {x:α} (h:l[i]?=some x):l.drop i=x::l.drop (i+1):=by
 have hl:i<l.length:=(List.getElem?_eq_some_iff.1 h).1;rw[GR hl]
 congr 1
 rw[List.getElem?_eq_getElem hl] at h;exact Option.some.inj h
theorem Ybo (hκ:KOK P cx (fun _=>none) κ) (hgn:cx.gn≤w0.heap.size) (hC:BldC P fw T e) {lines:List (List UInt8)} {c i0} {told:List (List V)} {ts:List (List UInt8)} {acc:List UInt8} {S:St} {Q:Ex→St→List UInt8→Prop}
  (r3:S.ρ 3=.lref 3 0) (m3:S.μ 3=some (eCl c,false)) (r17:S.ρ 17=.slice 1 (Yi lines)) (r18:S.ρ 18=iz lines.length) (r19:S.ρ 19=iz (i0:Nat)) (m11:S.μ 11=none) (r9:S.ρ 9=.slice 25 told)
  (hl:told.length≤2 ^ 40) (hts:ts.length=told.length) (hrow:∀(i:Nat) (r:List V) (t:List UInt8),told[i]?=some r→ts[i]?=some t→(r.length=25∧r.all V.datC=true)∧κ 663 [.agg r]=some (.str t)) (hlen:(acc++(ts.flatMap brT)).length≤140737488355328)
  (hQ:∀S',S'.ρ 3=.lref 3 0→S'.μ 3=some (eCl c,false)→S'.ρ 17=.slice 1 (Yi lines)→S'.ρ 18=iz lines.length→S'.ρ 19=iz (i0:Nat)→Q .norm S' (acc++ts.flatMap brT)) :
  BR P cx G648 N 4 T e w0 fw (.seq (.region false Ybf) (.block 2 l648_1)) S acc Q:=by
 refine BR.sr hκ hgn rfl ?_
 simp only[Ybf,go_sem,r9]
 refine BR.block ?_
 unfold l648_1
 refine BR.loop (fun st S' acc'=>InnI κ lines c i0 told st (acc++ts.flatMap brT) S' acc') (fun st=>told.length-st.1) (0,ts) ?_ ?_
 ·exact⟨G1 _,by simp[go_sem,r3],by simp[go_sem,m3,eCl],by simp[go_sem,r17],by simp[go_sem,r18],by simp[go_sem,r19],by simp[go_sem,m11],by simp[go_sem],by simp[go_sem],by simp[go_sem],⟨by simpa using hts,fun i r t h1 h2=>hrow i r t (by simpa using h1) h2⟩,rfl⟩
 ·rintro⟨i,tl⟩ S' acc' ⟨i1,i2,i3,i4,i5,i6,i7,i8,i9,i10,⟨i11,i12⟩,i13⟩
  simp only at i1 i10 i11 i12 i13
  simp only[eCl] at i3
  refine BR.sr hκ hgn rfl ?_
  cases c1:decide ((i:Int)<(told.length:Int)) with
  |false=>
   simp only[Ybg,go_sem,i9,i10,c1]
   refine BR.seq (BR.cond (t:=false) (by simp[go_sem,argv]) (fun h=>by cases h) fun _=>BR.exit ?_)
   have e1:tl=[]:=List.length_eq_zero_iff.1 (by have:=Gc c1;omega)
   subst e1
   simp only[List.flatMap_nil,GI] at i13
   rw[i13]
   simp only[Gx]
   exact hQ _ (by simp[go_sem,i2]) (by simp[go_sem,i3,eCl]) (by simp[go_sem,i4]) (by simp[go_sem,i5]) (by simp[go_sem,i6])
  |true=>
   have hlt:i<told.length:=by have:=Ge c1;omega
   obtain⟨r,hr⟩:∃r,told[i]?=some r:=⟨told[i]'hlt,List.getElem?_eq_getElem _⟩
   obtain⟨t,tl',rfl⟩:∃t tl',tl=t::tl':=by
    cases tl with
    |nil=>simp at i11;omega
    |cons t tl'=>exact⟨t,tl',rfl⟩
   obtain⟨⟨k1,k3⟩,k2⟩:=i12 0 r t (by simpa using hr) rfl
   have hinc:Go.IntKind.i64.wrap ((i:Int)+1)=((i+1:Nat):Int):=by rw[JmB (by omega) (by omega)];omega
   have hle:(acc'++brT t).length≤140737488355328:=by
    rw[←i13] at hlen;simp only[List.flatMap_cons,Gk] at hlen ⊢;omega
   have hbt:(brT t).length=t.length+3:=by simp[brT]
   have l1:(2+t.length≤4611686018427387904)=True:=eq_true (by rw[Gk,hbt] at hle;omega)
   have l3:(t.length≤4611686018427387901)=True:=eq_true (by rw[Gk,hbt] at hle;omega)
   have s1:Ja1 .add [32,91] t=some (.str ([32,91]++t)):=Gl (by rw[Gk,hbt] at hle;simp;omega)
   have s2:Ja1 .add ([32,91]++t) [93]=some (.str (brT t)):=Gl (by rw[Gk,hbt] at hle;simp;omega)
   have hrl:(0+25≤r.length)=True:=eq_true (by omega)
   have htk:r.take 25=r:=G0 (by omega)
   simp only[Ybg,go_sem,i9,i10,c1]
   refine BR.seq (BR.cond (t:=true) (by simp[go_sem,argv]) (fun _=>BR.skip ?_) fun h=>by cases h)
   refine BR.seq (BR.block (BR.sr hκ hgn rfl ?_))
   simp only[YbL,go_sem,i2,i3,i7,i8,i10,hr,hrl,htk,k1,GI,Gm,Gx]
   refine BR.wr (pre:=Ya9) (d:=54) (x:=.g 53) hκ hgn hC rfl ?_
   simp only[Ya9,go_sem,k2,k3,↓s1,l3,k1,htk,Gm,Gx,argv]
   refine⟨brT t,rfl,by rw[←Gk];exact hle,?_⟩
   refine BR.reg hκ hgn rfl ?_
   simp only[YbM,go_sem,i10,hinc]
   refine⟨(i+1,tl'),by show told.length-(i+1)<told.length-i;omega,⟨hlt,by simp[go_sem,i2],by simp[go_sem,i3,eCl],by simp[go_sem,i4],by simp[go_sem,i5],by simp[go_sem,i6],by simp[go_sem],by simp[go_sem,i8],by simp[go_sem,i9],by simp[go_sem],⟨by simp at i11 ⊢;omega,fun k r' t' h1 h2=>i12 (k+1) r' t' (by rw[←h1];congr 1;simp only;omega) (by simpa using h2)⟩,?_⟩⟩
   rw[←i13];simp
theorem Ydu (hκ:KOK P cx (fun _=>none) κ) (hgn:cx.gn≤w0.heap.size) (hC:BldC P fw T e) {script tr out:List UInt8} {lines:List (List UInt8)} {c0} {S:St}
  (r0:S.ρ 0=.str script) (r3:S.ρ 3=.lref 3 0) (m3:S.μ 3=some (eCl c0,false)) (m7:S.μ 7=none) (m11:S.μ 11=none)
  (k661:κ 661 [.str script,.str [10]]=some (.str tr)) (k649:κ 649 [.str tr,.str [10]]=some (.slice 1 (Yi lines))) (k662:∀n:Int,-9223372036854775808≤n→n≤9223372036854775807→κ 662 [iz n]=some (.str (itoa n)))
  (hl:lines.length≤2 ^ 40) (hout:out.length≤140737488355328) (hrun:RunOK κ c0 lines out) :
  BR P cx G648 N 4 T e w0 fw c648 S [] (fun ex _ acc=>ex=.norm∧acc=out):=by
 unfold c648
 refine BR.sr hκ hgn rfl ?_
 simp only[Yi] at k649
 simp only[eCl] at m3
 simp only[Ycr,go_sem,r0,k661,k649,Gi]
 refine BR.block ?_
 unfold l648_0
 refine BR.loop (RunI κ lines out) (fun st=>lines.length-st.1) (0,c0,out) ?_ ?_
 ·exact⟨G1 _,by simp[go_sem,r3],by simp[go_sem,m3,eCl],by simp[go_sem,Yi],by simp[go_sem],by simp[go_sem],by simp[go_sem,m7],by simp[go_sem,m11],hrun,rfl⟩
 ·rintro⟨i,c,rest⟩ S' acc ⟨i1,i2,i3,i4,i5,i6,i7,i8,i9,i10⟩
  simp only at i1 i3 i6 i9 i10
  simp only[eCl] at i3
  simp only[Yi] at i4
  refine BR.sr hκ hgn rfl ?_
  cases c1:decide ((i:Int)<(lines.length:Int)) with
  |false=>
   have e1:lines.drop i=[]:=List.drop_eq_nil_of_le (by have:=Gc c1;omega)
   rw[e1] at i9
   simp only[RunOK] at i9
   subst i9
   rw[GI] at i10
   simp only[Yby,go_sem,i5,i6,c1]
   refine BR.seq (BR.cond (t:=false) (by simp[go_sem,argv]) (fun h=>by cases h) fun _=>BR.exit ?_)
   first|exact i10|exact⟨rfl,i10⟩|simpa using i10
  |true=>
   have hlt:i<lines.length:=by have:=Ge c1;omega
   obtain⟨ln,hln⟩:∃ln,lines[i]?=some ln:=⟨lines[i]'hlt,List.getElem?_eq_getElem _⟩
   rw[Ydm hln] at i9
   simp only[RunOK] at i9
   obtain⟨c',t,ts',hlo,hro,rfl⟩:=i9
   have hinc:Go.IntKind.i64.wrap ((i:Int)+1)=((i+1:Nat):Int):=by rw[JmB (by omega) (by omega)];omega
   have hle:acc.length+t.length≤140737488355328:=by rw[←i10] at hout;simp only[Gk] at hout;omega
   -- what comes behind the line
   have tail:∀(S2:St) (a2:List UInt8) (R:Ex→St→List UInt8→Prop),S2.ρ 3=.lref 3 0→S2.μ 3=some (eCl c',false)→S2.ρ 17=.slice 1 (Yi lines)→S2.ρ 18=iz lines.length→S2.ρ 19=iz i→a2++[10]=acc++t→
     (∀S3:St,S3.ρ 3=.lref 3 0→S3.μ 3=some (eCl c',false)→S3.ρ 17=.slice 1 (Yi lines)→S3.ρ 18=iz lines.length→S3.ρ 19=iz i→R .norm S3 (acc++t))→
     BR P cx G648 N 4 T e w0 fw (.region false YbN) S2 a2 R:=by
    intro S2 a2 R q3 q3m q17 q18 q19 ha hR
    refine BR.wr (pre:=Yba) (d:=56) (x:=.c (.str [10])) hκ hgn hC rfl ?_
    simp only[Yba,go_sem,argv]
    refine⟨[10],rfl,by rw[←Gk,ha,Gk];exact hle,?_⟩
    rw[ha]
    exact hR _ q3 q3m q17 q18 q19
   have fin:∀(S3:St) (R:Ex→St→List UInt8→Prop),S3.ρ 3=.lref 3 0→S3.μ 3=some (eCl c',false)→S3.ρ 17=.slice 1 (Yi lines)→S3.ρ 18=iz lines.length→S3.ρ 19=iz i→
     (∀S4:St,(∃s':Nat×_×List UInt8,lines.length-s'.1<lines.length-i∧RunI κ lines out s' (S4.head [] [] [7,11] []) (acc++t))→R .norm S4 (acc++t))→BR P cx G648 N 4 T e w0 fw (.region false Ybh) S3 (acc++t) R:=by
    intro S3 R q3 q3m q17 q18 q19 hR
    refine BR.reg hκ hgn rfl ?_
    simp only[Ybh,go_sem,q19,hinc]
    refine hR _ ⟨(i+1,c',ts'),by show lines.length-(i+1)<lines.length-i;omega,⟨hlt,by simp[go_sem,q3],by simp[go_sem,q3m,eCl],by simp[go_sem,q17,Yi],by simp[go_sem,q18],by simp[go_sem],by simp[go_sem],by simp[go_sem],hro,?_⟩⟩
    rw[GG];exact i10
   simp only[Yby,go_sem,i5,i6,c1]
   refine BR.seq (BR.cond (t:=true) (by simp[go_sem,argv]) (fun _=>BR.skip ?_) fun h=>by cases h)
   refine BR.seq (BR.block (BR.sr hκ hgn rfl ?_))
   simp only[Ycs,go_sem,i4,i6,List.getElem?_map,hln,Option.map_some]
   refine BR.sr hκ hgn rfl ?_
   rcases hlo with ⟨s,kp,rfl,rfl⟩|⟨s,told,ev,ts,kp,kd,h0,h1,hts,htl,hrows,rfl⟩
   ·simp only[Yh] at kp
    have kt:=k662 3 (by decide) (by decide)
    have x1:decide ((3:Int)=0)=false:=rfl
    have l1:(6+(itoa 3).length≤4611686018427387904)=True:=eq_true (by rw[Yde];decide)
    simp only[Ybz,go_sem,kp,i7]
    refine BR.sr hκ hgn rfl ?_
    simp only[YbA,go_sem]
    refine BR.seq (BR.sr hκ hgn rfl ?_)
    simp only[Ybe,go_sem,x1]
    refine BR.cond (t:=false) (by simp[go_sem,argv]) (fun h=>by cases h) fun _=>BR.skip ?_
    refine BR.seq (BR.sr hκ hgn rfl ?_)
    simp only[YaC,go_sem,x1]
    refine BR.cond (t:=false) (by simp[go_sem,argv]) (fun h=>by cases h) fun _=>?_
    refine BR.wr (pre:=Yao) (d:=43) (x:=.g 42) hκ hgn hC rfl ?_
    simp only[Yao,go_sem,kt,l1,argv]
    refine⟨Ybm 3,rfl,by rw[Gk] at hle;omega,?_⟩
    refine BR.seq (Ybo (c:=c') (i0:=i) (lines:=lines) (told:=[]) (ts:=[]) hκ hgn hC (by simp[go_sem,i2]) (by simp[go_sem,i3,eCl]) (by simp[go_sem,i4,Yi]) (by simp[go_sem,i5]) (by simp[go_sem,i6]) (by simp[go_sem,i8]) (by simp[go_sem]) (by decide) rfl (fun k r t h1 _=>by simp at h1) (by simp only[List.flatMap_nil,GI,Gk] at hle ⊢;omega) ?_)
    intro S2 q3 q3m q17 q18 q19
    rw[List.flatMap_nil,GI]
    refine tail S2 _ _ q3 q3m q17 q18 q19 (by rw[GG]) ?_
    intro S3 z3 z3m z17 z18 z19
    exact fin S3 _ z3 z3m z17 z18 z19 (fun S4 h4=>h4)
   ·simp only[Yh] at kp kd
    simp only[eCl] at kd
    have x1:decide ((0:Int)=0)=true:=rfl
    simp only[Ybz,go_sem,kp,i7]
    refine BR.sr hκ hgn rfl ?_
    simp only[YbA,go_sem]
    refine BR.seq (BR.sr hκ hgn rfl ?_)
    simp only[Ybe,go_sem,x1]
    refine BR.cond (t:=true) (by simp[go_sem,argv]) (fun _=>BR.reg hκ hgn rfl ?_) fun h=>by cases h
    simp only[YbK,go_sem,i2,i3,kd]
    refine BR.seq (BR.sr hκ hgn rfl ?_)
    have inner:=fun (S2:St) (a2:List UInt8) (R:Ex→St→List UInt8→Prop) (q3:S2.ρ 3=.lref 3 0) (q3m:S2.μ 3=some (eCl c',false)) (q17:S2.ρ 17=.slice 1 (Yi lines)) (q18:S2.ρ 18=iz lines.length) (q19:S2.ρ 19=iz i) (q11:S2.μ 11=none) (q9:S2.ρ 9=.slice 25 told)
      (ha:a2++(ts.flatMap brT++[10])=acc++((if ev=0 then okT else Ybm ev)++(ts.flatMap brT++[10])))=>
     Ybo (N:=N) (fw:=fw) (c:=c') (i0:=i) (lines:=lines) (told:=told) (ts:=ts) (acc:=a2) (Q:=R) hκ hgn hC q3 q3m q17 q18 q19 q11 q9 htl hts hrows (by
      have:=congrArg List.length ha;simp only[Gk] at this hle ⊢;omega)
    cases x2:decide (ev=0) with
    |true=>
     have e0:=Ge x2
     rw[Gl e0] at hle tail fin inner
     simp only[YaC,go_sem,x2]
     refine BR.cond (t:=true) (by simp[go_sem,argv]) (fun _=>?_) fun h=>by cases h
     refine BR.wr (pre:=Ya8) (d:=39) (x:=.c (.str [111,107])) hκ hgn hC rfl ?_
     simp only[Ya8,go_sem,argv]
     refine⟨okT,rfl,by simp only[Gk] at hle;omega,?_⟩
     refine BR.seq (inner _ _ _ (by simp[go_sem,i2]) (by simp[go_sem,eCl]) (by simp[go_sem,i4,Yi]) (by simp[go_sem,i5]) (by simp[go_sem,i6]) (by simp[go_sem,i8]) (by simp[go_sem]) (by simp) ?_)
     intro S2 q3 q3m q17 q18 q19
     refine tail S2 _ _ q3 q3m q17 q18 q19 (by simp) ?_
     intro S3 z3 z3m z17 z18 z19
     exact fin S3 _ z3 z3m z17 z18 z19 (fun S4 h4=>h4)
    |false=>
     have e0:=Gc x2
     rw[Gj e0] at hle tail fin inner
     have kt:=k662 ev h0 h1
     have l1:(6+(itoa ev).length≤4611686018427387904)=True:=eq_true (by simp only[Ybm,Gk] at hle;omega)
     simp only[YaC,go_sem,x2]
     refine BR.cond (t:=false) (by simp[go_sem,argv]) (fun h=>by cases h) fun _=>?_
     refine BR.wr (pre:=Yao) (d:=43) (x:=.g 42) hκ hgn hC rfl ?_
     simp only[Yao,go_sem,kt,l1,argv]
     refine⟨Ybm ev,rfl,by simp only[Gk] at hle;omega,?_⟩
     refine BR.seq (inner _ _ _ (by simp[go_sem,i2]) (by simp[go_sem,eCl]) (by simp[go_sem,i4,Yi]) (by simp[go_sem,i5]) (by simp[go_sem,i6]) (by simp[go_sem,i8]) (by simp[go_sem]) (by simp) ?_)
     intro S2 q3 q3m q17 q18 q19
     refine tail S2 _ _ q3 q3m q17 q18 q19 (by simp) ?_
     intro S3 z3 z3m z17 z18 z19
     exact fin S3 _ z3 z3m z17 z18 z19 (fun S4 h4=>h4)
end
end Sg
namespace Sg
open _root_.Go (IntKind BinOp UnOp)
variable {Pg:PgT}
def Yd3:List (Nat×Fn):=[(3,.code F3),(7,.code F7),(15,.code F15),(21,.code F21),(22,.code F22),(23,.prim (some 0) (cloneQ 5)),(26,.code F26),(27,.code F27),(28,.code F28),(31,.code F31),(32,.code F32),(39,.code F39),(40,.code F40),(41,.code F41),(43,.code F43),(47,.code F47),(51,.code F51),(57,.code F57),(63,.code F63),(64,.code F64),(65,.code F65),(66,.code F66),(67,.code F67),(68,.code F68),(69,.prim (some 0) (cloneQ 1)),(71,.code F71),(72,.code F72),(73,.code F73),(74,.code F74),(75,.code F75),(76,.code F76),(81,.code F81),(82,.code F82),(84,.code F84),(88,.code F88),(97,.code F97),(98,.code F98),(100,.code F100),(102,.prim (some 0) (cloneQ 11)),(106,.code F106),(109,.code F109),(112,.code F112),(113,.code F113),(126,.code F126),(128,.code F128),(129,.code F129),(130,.code F130),(137,.code F137),(141,.code F141),(144,.code F144),(154,.code F154),(162,.code F162),(163,.code F163),(165,.code F165),(166,.code F166),(170,.prim none keyQ),(171,.code F171),(179,.prim (some 0) (cloneQ 5)),(185,.code F185),(186,.code F186),(192,.code F192),(200,.code F200),(203,.code F203),(220,.code F220),(221,.code F221),(225,.code F225),(227,.prim (some 0) (cloneQ 2)),(240,.code F240),(244,.code F244),(249,.code F249),(284,.code F284),(285,.code F285),(287,.code F287),(288,.code F288),(289,.code F289),(290,.code F290),(298,.code F298),(299,.code F299),(301,.code F301),(304,.code F304),(307,.prim (some 0) (cloneQ 17)),(312,.code F312),(313,.code F313),(314,.code F314),(315,.code F315),(316,.code F316),(319,.code F319),(320,.code F320),(327,.code F327),(328,.code F328),(335,.code F335),(340,.code F340),(341,.code F341),(345,.code F345),(346,.code F346),(347,.code F347),(348,.code F348),(355,.code F355),(356,.code F356),(357,.code F357),(361,.code F361),(366,.code F366),(367,.code F367),(368,.code F368),(369,.code F369),(373,.prim (some 0) (cloneQ 3)),(380,.prim (some 0) (cloneQ 1)),(395,.code F395),(397,.code F397),(401,.code F401),(407,.code F407),(408,.code F408),(413,.code F413),(421,.codeR F421 0),(422,.codeR F422 0),(423,.codeR F423 0),(427,.code F427),(428,.code F428),(429,.code F429),(430,.code F430),(431,.code F431),(432,.code F432),(437,.code F437),(439,.code F439),(440,.code F440),(442,.code F442),(455,.code F455),(456,.code F456),(457,.codeR F457 0),(458,.codeR F458 0),(462,.code F462),(463,.code F463),(464,.codeR F464 0),(465,.codeR F465 0),(466,.codeR F466 0),(467,.codeR F467 0),(468,.code F468),(473,.code F473),(474,.code F474),(483,.code F483),(484,.code F484),(485,.code F485),(490,.code F490),(491,.code F491),(492,.codeR F492 0),(493,.codeR F493 0),(496,.code F496),(497,.prim (some 0) (cloneQ 9)),(499,.code F499),(506,.code F506),(507,.code F507),(511,.code F511),(516,.code F516),(526,.codeR F526 0),(527,.codeR F527 0),(528,.codeR F528 0),(529,.code F529),(537,.codeR F537 0),(538,.codeR F538 0),(553,.code F553),(554,.code F554),(555,.code F555),(556,.code F556),(558,.code F558),(562,.code F562),(566,.code F566),(570,.code F570),(571,.code F571),(572,.code F572),(573,.code F573),(574,.code F574),(580,.code F580),(581,.code F581),(582,.code F582),(583,.code F583),(585,.code F585)]
def Yd4:List (Nat×Fn):=[(587,.code F587),(589,.code F589),(592,.code F592),(594,.code F594),(596,.code F596),(597,.prim (some 0) (cloneQ 38)),(598,.prim (some 0) (cloneQ 18)),(599,.codeR F599 0),(603,.codeR F603 0),(612,.code F612),(613,.code F613),(616,.codeR F616 0),(617,.codeR F617 0),(618,.code F618),(619,.codeR F619 0),(620,.codeR F620 0),(626,.code F626),(627,.code F627),(628,.code F628),(629,.code F629),(630,.codeR F630 0),(632,.code F632),(636,.code F636),(637,.code F637),(638,.code F638),(642,.code F642),(720,.code F720),(722,.code F722),(725,.code F725),(726,.code F726),(727,.code F727),(728,.code F728),(729,.code F729),(730,.code F730),(731,.code F731),(732,.code F732)]
def YeD:List Nat:=[5,4,0,3,3,0,2,1,2,1,1,4,5,6,5,7,7,6,1,3,2,0,0,1,0,1,3,4,5,1,0,4,6,5,5,1,3,1,0,0,5,4,4,3,0,0,0,0,4,5,1,1,1,0,3,0,3,0,0,2,1,6,5,2,1,0,0,9,6,7,1,3,2,1,8,7,0,0,3,2,0,6,0,1,0,0,0,0,3,5,8,9,3,2,4,1,3,7,0,1,6,1,0,1,0,0,0,9,1,8,11,10,11,0,0,0,1,8,1,9,0,0,10,1,10,9,3,1,0,0,0,0,0,0,0,0,0,1,4,2,2,1,3,2,0,0,0,0,3,3,1,11,6,0,0,0,4,0,0,7,12,4,11,12,1,4,3,3,3,1,2,1,2,1,1,3]
def YeE:List Nat:=[2,14,15,1,1,0,0,0,0,1,8,0,0,1,0,0,7,7,6,7,0,7,5,1,6,0,13,1,13,14,14,1,9,12,10,12]
noncomputable def zwF:List Ft:=mkFt (⟨586,.prim none crcQ,none⟩::mkFt [] Yd4 YeE) Yd3 YeD
noncomputable def crw (f:Nat) (a:List V):Option V:=Jmq zwF 12 3000 60 YdG f a
def H1648 (Pg:PgT):Prop:=∀x∈Yd3,Pg x.1=some x.2
def H2648 (Pg:PgT):Prop:=∀x∈Yd4,Pg x.1=some x.2
theorem Yd5 {Pg:PgT} (h1:H1648 Pg) (h2:H2648 Pg) (h3:H586 Pg):∀a∈zwF,Jf2 Pg a.f a.x:=fun a ha=>by
 rcases YW ha with h|h
 ·rcases GM.1 h with h|h
  ·subst h;exact .inr ⟨none,crcQ,rfl,fun b r hr=>YbG h3 b r hr⟩
  ·rcases YW h with h|h
   ·cases h
   ·exact .inl (h2 _ h)
 ·exact .inl (h1 _ h)
end Sg
