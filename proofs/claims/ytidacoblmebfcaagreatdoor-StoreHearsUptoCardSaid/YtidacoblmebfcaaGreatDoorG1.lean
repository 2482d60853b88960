/- A checked abstract run of translated code is sound: for every program and input that pass its checks. A general part, used by the proofs of this seat. -/
import GoSem.Core.View
import GoSem.Core.Ast
import Derived.Below
import GoSem.Dispatch
import Derived.Calls
import Derived.Laws.Entries
import Derived.Laws.Cells
import Derived.Laws.Strings
import Derived.Laws.CopyRow
import Derived.Laws.MakeOwn
import Derived.WalkKit
import Derived.Shelf.RegionOpenPlain
import Derived.Lib.Walk
import Derived.Lib.SliceRun
import Derived.Lib.JoinLaws
import Derived.Lib.AppendZeros
import Derived.Lib.AppendZerosOnto
import Derived.Lib.Overlaps
import Derived.Laws.Externs
import Derived.Laws.IdiomCopy
import Derived.Laws.NewBlocks
import Derived.Deep.RegionLaw
import Derived.Lib.SlicesDelete
set_option linter.unusedSimpArgs false
set_option linter.unusedVariables false
set_option linter.constructorNameAsVariable false
set_option linter.defProp false
namespace Sg
abbrev Ga:=@of_decide_eq_false
abbrev Gb:=@Option.some.injEq
abbrev Gc:=@of_decide_eq_true
abbrev Ge:=@Bool.and_eq_true
abbrev Gf:=@List.length_append
abbrev Gg:=@Option.bind_eq_some_iff
abbrev Gi:=@List.length_map
abbrev Gj:=@decide_eq_true_eq
abbrev Gk:=@List.map_nil
abbrev Gl:=@Bool.false_eq_true
abbrev Gm:=@Bool.false_and
abbrev Gn:=@if_neg
abbrev Gp:=@decide_eq_false
abbrev Gq:=@Bool.and_false
abbrev Gr:=@Prod.mk.injEq
abbrev Gs:=@decide_eq_false_iff_not
abbrev Gt:=@if_pos
abbrev Gu:=@decide_eq_true
abbrev Gv:=@if_false
abbrev Gw:=@if_true
abbrev Gx:=@Bool.not_true
abbrev Gy:=@Bool.true_and
abbrev Gz:=@List.map_append
abbrev GA:=@List.map_cons
abbrev GB:=@List.take_length
abbrev GC:=@Nat.le_refl
abbrev GD:=@List.append_nil
abbrev GE:=@Bool.and_true
abbrev GF:=@Nat.lt_or_ge
abbrev GG:=@List.all_eq_true
abbrev GH:=@List.mem_cons
abbrev GI:=@Nat.le_trans
abbrev GJ:=@List.eq_nil_of_length_eq_zero
abbrev GK:=@List.length_take
abbrev GL:=@Bool.and_self
abbrev GM:=@Bool.not_eq_true'
abbrev GN:=@trivial
abbrev GO:=@decide_eq_decide
abbrev GP:=@List.length_drop
abbrev GQ:=@List.drop_length
abbrev GR:=@Bool.not_false
abbrev GS:=@List.mem_append
abbrev GT:=@List.pairwise_cons
abbrev GU:=@Nat.mul_le_mul_right
abbrev GV:=@List.flatMap_cons
abbrev GW:=@Int.ofNat_lt
abbrev GX:=@List.append_assoc
abbrev GY:=@Nat.zero_le
abbrev GZ:=@Option.isSome_iff_exists
abbrev G0:=@List.mem_cons_self
abbrev G1:=@Bool.or_eq_true
abbrev G2:=@List.mem_cons_of_mem
abbrev G3:=@List.take_add_one
abbrev G4:=@List.take_append_drop
abbrev G5:=@List.flatMap_nil
abbrev G6:=@Nat.lt_of_lt_of_le
abbrev G7:=@Bool.false_or
abbrev G8:=@List.mem_filter
abbrev G9:=@beq_iff_eq
abbrev lg:=@List.mem_range
abbrev jm:=@Bool.true_or
abbrev nI:=@Nat.eq_zero_or_pos
abbrev j8:=@Nat.zero_add
abbrev jn:=@Nat.add_mul
abbrev tG:=@List.take_of_length_le
abbrev jS:=@decide_true
abbrev rg:=@List.flatMap_append
abbrev lU:=@Nat.add_assoc
abbrev tH:=@List.mem_of_mem_drop
abbrev uI:=@Option.map_eq_some_iff
abbrev gp:=@congrArg
abbrev pm:=@Nat.le_max_right
abbrev tI:=@List.map_congr_left
abbrev uJ:=@List.filter_sublist
abbrev rh:=@List.size_toArray
abbrev ri:=@List.nodup_append
abbrev rj:=@Int.lt_trichotomy
abbrev pn:=@Nat.min_eq_left
abbrev po:=@Nat.le_max_left
abbrev mu:=@decide_false
abbrev uK:=@List.length_pos_iff
abbrev yD:=@Option.isNone_iff_eq_none
abbrev yE:=@List.pairwise_iff_getElem
abbrev nJ:=@List.map_drop
abbrev rl:=@List.nodup_cons
abbrev qX:=@List.length_set
abbrev qZ:=@List.cons.injEq
abbrev uH:=@Bool.not_eq_false'
abbrev tE:=@List.mem_flatMap
abbrev xn:=@List.mem_of_mem_take
abbrev xo:=@Bool.or_eq_false_iff
abbrev nH:=@List.mem_map
abbrev Dg:=@Int.fdiv_eq_ediv_of_nonneg
abbrev re:=@List.map_take
abbrev tF:=@List.drop_zero
abbrev yC:=@List.getD_cons_zero
abbrev xp:=@List.getElem_mem
end Sg
namespace Sg
open Go (IntKind BinOp UnOp)
inductive V where
 |undef
 |bool (b:Bool)
 |int (k:IntKind) (n:Int)
 |str (s:List UInt8)
 |agg (cs:List V)
 |slice (z:Nat) (rows:List (List V))
 |tuple (vs:List V)
 |func (f:Nat) (aN:List V)
 |cptr (cs:List V) (off:Nat)
 |lref (s off:Nat)
 |eref (s i off n:Nat)
 |own (s z n:Nat)
 |iface (t:Nat) (v:V)
 |niface
 /-- exactly nil;not nil -/
 |nslice (z:Nat)
 |xslice (z:Nat) (rows:List (List V))
 deriving Inhabited
abbrev V.i (n:Int):V:=.int .i64 n
inductive bF where
 |g (t:Nat)
 |l (i:Nat)
 |c (v:V)
 |f (k:Nat)
 deriving Inhabited
inductive sC where
 |v (s:Nat)
 |e (s:Nat)
 |c
 /-- an element of any owned array -/
 |x
 deriving Inhabited,DecidableEq
inductive qW where
 |k (f:Nat)
 |v (x:bF)
 deriving Inhabited
inductive Fz where
 |live|frz|dead
 deriving Inhabited,DecidableEq
inductive Df where
 |no|borrow|freeze
 deriving Inhabited,DecidableEq
inductive Sh where
 |b|i|s
 deriving Inhabited,DecidableEq
inductive Cv where
 |int (k:IntKind)
 |same
 deriving Inhabited,DecidableEq
inductive K where
 |mov (x:bF)
 |pick (c a b:bF)
 |box (x:bF)
 |alloc (z:List V)
 |build (z:List V) (ps:List (Nat×Nat×bF))
 |mks (z n:Nat) (zero:List V) (ps:List (Nat×bF))
 |mko (z:Nat)
 |mkb (z n:Nat) (zero:List V) (ps:List (Nat×bF))
 |nilq (x:bF)
 |load (l:sC) (n:Option Nat) (p:bF)
 |store (l:sC) (n:Nat) (p x:bF)
 |bin (o:BinOp) (x y:bF)
 |eqa (ne:Bool) (sh:List Sh) (x y:bF)
 |eqb (ne:Bool) (x y:bF)
 |sh (o:BinOp) (x y:bF)
 |mm (mx:Bool) (x y:bF)
 |un (o:UnOp) (x:bF)
 |conv (c:Cv) (x:bF)
 |fn (f:Nat) (aN:List bF) (sites:List Nat)
 |sl (st:Bool) (z:Nat) (x:bF) (lo hi:Option bF)
 |fad (x:bF) (off:Nat)
 |iad (z:Nat) (x i:bF)
 |iada (z n:Nat) (x i:bF)
 |idx (x i:bF)
 |ext (x:bF) (i:Nat)
 |len (st:Bool) (x:bF)
 |app (s z:Nat) (x y:bF)
 /-- appended to,then written no more:data -/
 |apf (s z:Nat) (x y:bF)
 |ins (f s z:Nat) (x i y:bF)
 |del (f s z:Nat) (x i j:bF)
 |call (f:qW) (cv:Df) (own:Option Nat) (xs:List bF)
 |nilc (x:bF)
 /-- a struct is read,its owned slices avs data from aL on -/
 |ldf (s v n:Nat) (p:bF)
 /-- a call:argument k points to variable s;what that one owns lies at d+cell afterwards -/
 |rcall (f:Nat) (xs:List bF) (k s d:Nat)
 /-- a variable whose nil slices are owned:at d+cell -/
 |allo (z:List V) (d:Nat)
 /-- appended to whatever array it is -/
 |appd (z:Nat) (x y:bF)
 |b2s (x:bF)
 /-- a field of a value -/
 |fld (x:bF) (off:Nat) (n:Option Nat)
 /-- code that is never run -/
 |bad
 deriving Inhabited
structure Op where
 dst:Option Nat
 gl:Bool
 k:K
 gd:Option (Nat×Bool)
 deriving Inhabited
inductive C where
 |skip
 |region (draw:Bool) (ops:List Op)
 |seq (a b:C)
 |cond (x:bF) (a b:C)
 |block (id:Nat) (c:C)
 |loop (W L Wv Wa:List Nat) (c:C)
 |exit (id:Nat)
 |ret
 deriving Inhabited
inductive wn where
 |t (t:Nat)
 |cell (a:Nat) (n:Option Nat)
 deriving Inhabited
structure F where
 np:Nat
 /-- the tmps that outlive their regions -/
 gl:List Nat
 res:List wn
 /-- the result that is a slice of its own memory -/
 own:Option Nat
 body:C
 deriving Inhabited
inductive Fn where
 |code (F:F)
 |prim (own:Option Nat) (p:List V->Option V)
 /-- argument k points to a variable -/
 |codeR (F:F) (k:Nat)
def aI {α:Type} (f:Nat->α) (k:Nat) (v:α):Nat->α:=fun i=>if i=k then v else f i
structure St where
 ρ:Nat->V
 μ:Nat->Option (List V×Bool)
 A:Nat->Option (Nat×List (List V)×Fz)
inductive Ex where
 |norm|ret
 |exit (id:Nat)
 deriving DecidableEq
def V.isCell:V->Bool
 |.agg _|.tuple _|.lref ..|.eref ..=>false
 |_=>true
def V.cells:V->Option (List V)
 |.agg cs=>some cs
 |.undef=>none
 |x=>if x.isCell then some [x] else none
def V.datC:V->Bool
 |.agg _|.tuple _|.lref ..|.eref ..|.own ..=>false
 |_=>true
def V.dat:V->Bool
 |.agg cs=>cs.all V.datC
 |x=>x.datC
def V.scalar:V->Bool
 |.bool _|.int ..|.str _=>true
 |.tuple vs=>vs.all fun|.bool _|.int ..|.str _=>true|_=>false
 |_=>false
def JU (cs:List V) (off:Nat):Option Nat->Option V
 |none=>cs[off]?
 |some n=>if off+n<=cs.length then some (.agg ((cs.drop off).take n)) else none
def JZ (cs:List V) (off:Nat) (xs:List V):Option (List V):=
 if off+xs.length<=cs.length then some (cs.take off++(xs++cs.drop (off+xs.length))) else none
def aU:Nat:=1073741824
def aK (e ρ:Nat->V):bF->V
 |.g t=>ρ t
 |.l i=>e i
 |.c v=>v
 |.f k=>.func k []
def vH (o:BinOp) (k:IntKind) (a b:Int):Option V:=
 match o with
 |.add=>some (.int k (k.wrap (a+b)))
 |.sub=>some (.int k (k.wrap (a-b)))
 |.mul=>some (.int k (k.wrap (a*b)))
 |.quo=>if b=0 then none else some (.int k (k.wrap (a.tdiv b)))
 |.rem=>if b=0 then none else some (.int k (a.tmod b))
 |.eql=>some (.bool (decide (a=b)))
 |.neq=>some (.bool (!decide (a=b)))
 |.lss=>some (.bool (decide (a<b)))
 |.leq=>some (.bool (decide (a<=b)))
 |.gtr=>some (.bool (decide (b<a)))
 |.geq=>some (.bool (decide (b<=a)))
 |.and=>some (.int k (k.wrap (BitVec.ofInt k.bits a &&& BitVec.ofInt k.bits b).toNat))
 |.or=>some (.int k (k.wrap (BitVec.ofInt k.bits a ||| BitVec.ofInt k.bits b).toNat))
 |.xor=>some (.int k (k.wrap (BitVec.ofInt k.bits a ^^^ BitVec.ofInt k.bits b).toNat))
 |_=>none
def AO (o:BinOp) (a b:List UInt8):Option V:=
 match o with
 |.add=>if a.length+b.length<=4611686018427387904 then some (.str (a++b)) else none
 |.eql=>some (.bool (decide (a=b)))
 |.neq=>some (.bool (!decide (a=b)))
 |_=>none
def xy (o:BinOp):V->V->Option V
 |.int k a,.int k' b=>if k=k' then vH o k a b else none
 |.str a,.str b=>AO o a b
 |_,_=>none
def tx (o:BinOp):V->V->Option V
 |.int k a,.int _ b=>if b<0 then none else match o with
  |.shl=>some (.int k (k.wrap (a*2^(min b.toNat k.bits))))
  |.shr=>some (.int k (a.fdiv (2^(min b.toNat k.bits))))
  |_=>none
 |_,_=>none
def xa:Sh->V->V->Option Bool
 |.i,.int k a,.int k' b=>if k=k' then some (decide (a=b)) else none
 |.b,.bool a,.bool b=>some (a == b)
 |.s,.str a,.str b=>some (decide (a=b))
 |_,_,_=>none
def pr:List Sh->List V->List V->Option Bool
 |[],[],[]=>some true
 |h::hs,x::xs,y::ys=>(xa h x y).bind fun b=>(pr hs xs ys).bind fun c=>some (b&&c)
 |_,_,_=>none
def E6 (o:UnOp):V->Option V
 |.bool b=>match o with|.not=>some (.bool !b)|_=>none
 |.int k n=>match o with
  |.neg=>some (.int k (k.wrap (0-n)))
  |.xor=>some (.int k (k.wrap (BitVec.ofInt k.bits (if k.signed then -1 else k.max) ^^^ BitVec.ofInt k.bits n).toNat))
  |_=>none
 |_=>none
def tO (cs:List V):List (Nat×Nat×V)->Option (List V)
 |[]=>some cs
 |(off,n,v)::ps=>(v.cells).bind fun xs=>if xs.length=n then (JZ cs off xs).bind fun du=>tO du ps else none
def Jj (z:Nat) (rows:List (List V)):List (Nat×V)->Option (List (List V))
 |[]=>some rows
 |(i,v)::ps=>(v.cells).bind fun xs=>
   if i<rows.length/\xs.length=z/\xs.all V.datC then Jj z (rows.set i xs) ps else none
def dp:Option V->Nat->Option Nat
 |none,d=>some d
 |some (.int _ n),_=>if 0<=n then some n.toNat else none
 |_,_=>none
def uD (j:Bool) (z:Nat) (x:V) (lo hi:Option V):Option V:=
 match j,x with
 |true,.str s=>(dp hi s.length).bind fun h=>(dp lo 0).bind fun l=>
   if l<=h/\h<=s.length then some (.str ((s.take h).drop l)) else none
 |false,.slice z' rows=>(dp hi rows.length).bind fun h=>(dp lo 0).bind fun l=>
   if z'=z/\l<=h/\h<=rows.length then some (.slice z ((rows.take h).drop l)) else none
 |_,_=>none
def xA:Bool->V->Option V
 |false,.slice _ rows=>some (.int .i64 rows.length)
 |true,.str s=>some (.int .i64 s.length)
 |false,.own _ _ n=>some (.int .i64 n)
 |_,_=>none
def kj (z:Nat):V->V->Option V
 |.slice z' rows,.int _ n=>if z'=z/\0<=n then (rows[n.toNat]?).map fun r=>.cptr r 0 else none
 |.own s z' m,.int _ n=>if z'=z/\0<=n/\n<m then some (.eref s n.toNat 0 m) else none
 |_,_=>none
def vG (z n:Nat):V->V->Option V
 |.lref s off,.int _ i=>if 0<=i/\i<n then some (.lref s (off+i.toNat*z)) else none
 |.cptr cs off,.int _ i=>if 0<=i/\i<n then some (.cptr cs (off+i.toNat*z)) else none
 |_,_=>none
def xz (off:Nat):V->Option V
 |.lref s o=>some (.lref s (o+off))
 |.eref s i o n=>some (.eref s i (o+off) n)
 |.cptr cs o=>some (.cptr cs (o+off))
 |_=>none
def tQ:V->V->Option V
 |.str s,.int _ n=>if 0<=n then (s[n.toNat]?).map fun b=>.int .u8 b.toNat else none
 |_,_=>none
def DK (i:Nat):V->Option V
 |.tuple vs=>vs[i]?
 |_=>none
def DD:Cv->V->Option V
 |.int k,.int _ n=>some (.int k (k.wrap n))
 |.same,.str s=>some (.str s)
 |_,_=>none
def cn (A:Nat->Option (Nat×List (List V)×Fz)):V->Option V
 |.nslice z=>some (.slice z [])
 |.own s z n=>match A s with
  |some (z',rows,f)=>if z'=z/\rows.length=n/\f≠.dead then some (.slice z rows) else none
  |none=>none
 |x=>if x.datC then some x else none
def Jn {α β:Type} (f:α->Option β):List α->Option (List β)
 |[]=>some []
 |x::xs=>(f x).bind fun y=>(Jn f xs).bind fun j=>some (y::j)
def dT (A:Nat->Option (Nat×List (List V)×Fz)):V->Option V
 |.agg cs=>(Jn (cn A) cs).map .agg
 |x=>cn A x
def Jc:V->List Nat
 |.own s _ _=>[s]
 |_=>[]
def Jd:V->List Nat
 |.agg cs=>cs.flatMap Jc
 |x=>Jc x
def JL (A:Nat->Option (Nat×List (List V)×Fz)) (l:List Nat):Nat->Option (Nat×List (List V)×Fz):=
 l.foldl (fun A s=>aI A s ((A s).map fun (z,rows,f)=>(z,rows,if f=.live then .frz else f))) A
def J9 (μ:Nat->Option (List V×Bool)) (l:List Nat):Nat->Option (List V×Bool):=
 l.foldl (fun μ s=>aI μ s ((μ s).map fun (cs,_)=>(cs,true))) μ
def JH (μ:Nat->Option (List V×Bool)) (s:Nat):Bool:=
 match μ s with
 |some m=>m.1.all V.datC
 |none=>true
def jF (μ:Nat->Option (List V×Bool)) (sites:List Nat):V->Option V
 |.lref s 0=>match μ s with
  |some (cs,_)=>if sites.contains s/\cs.all V.datC then some (.cptr cs 0) else none
  |none=>none
 |x=>if x.dat then some x else none
def V.rowsOf (z:Nat):V->Option (List (List V))
 |.slice j rows=>if j=z then some rows else none
 |.str s=>if z=1 then some (s.map fun b=>[.int .u8 b.toNat]) else none
 |.xslice j rows=>if j=z then some rows else none
 |_=>none
def Jw (S:St) (l:sC) (n:Option Nat) (p:V):Option V:=
 match l,p with
 |.v s,.lref s' off=>if s'=s then (S.μ s).bind fun m=>JU m.1 off n else none
 |.e s,.eref s' i off m=>if s'=s then match S.A s with
   |some (_,rows,f)=>if rows.length=m/\f≠.dead then (rows[i]?).bind fun r=>JU r off n else none
   |none=>none
  else none
 |.c,.cptr cs off=>JU cs off n
 |.x,.eref s' i off m=>match S.A s' with
   |some (_,rows,f)=>if rows.length=m/\f≠.dead then (rows[i]?).bind fun r=>JU r off n else none
   |none=>none
 |_,_=>none
def Jz (S:St) (l:sC) (n:Nat) (p x:V):Option St:=
 x.cells.bind fun xs=>if xs.length=n then
  match l,p with
  |.v s,.lref s' off=>if s'=s then match S.μ s with
    |some (cs,false)=>(JZ cs off xs).bind fun du=>some {S with μ:=aI S.μ s (some (du,false))}
    |_=>none
   else none
  |.e s,.eref s' i off m=>if s'=s/\xs.all V.datC then match S.A s with
    |some (z,rows,.live)=>if rows.length=m then (rows[i]?).bind fun r=>(JZ r off xs).bind fun j=>
      some {S with A:=aI S.A s (some (z,rows.set i j,.live))} else none
    |_=>none
   else none
  |_,_=>none
 else none
def JX (S:St) (s z:Nat) (x y:V):Option (V×St):=
 match x with
 |.own s' o n=>if s'=s/\o=z then match S.A s with
   |some (z'',rows,.live)=>if z''=z/\rows.length=n then (V.rowsOf z y).bind fun j=>
     if rows.length+j.length<=aU then some (.own s z (rows.length+j.length),{S with A:=aI S.A s (some (z,rows++j,.live))}) else none
    else none
   |_=>none
  else none
 |_=>none
def jD (S:St) (s z:Nat) (x y:V):Option (V×St):=
 match x with
 |.nslice z'=>if z'=z then (match S.A s with
   |none=>(V.rowsOf z y).bind fun ys=>
     if ys.length<=aU then some (.own s z ys.length,{S with A:=aI S.A s (some (z,ys,.live))}) else none
   |some _=>none) else none
 |x=>JX S s z x y
abbrev AA:Type:=Nat->Option (Nat×List (List V)×Fz)
def cH (A:AA):V->Option (V×AA)
 |.own s z n=>match A s with
  |some (z',rows,.live)=>if z'=z/\rows.length=n then some (.tuple [.slice z rows],aI A s (some (z,[],.dead))) else none
  |_=>none
 |.nslice z=>some (.tuple [.slice z []],A)
 |x=>if x.datC then some (x,A) else none
def kl:List V->AA->Option (List V×AA)
 |[],A=>some ([],A)
 |x::xs,A=>(cH A x).bind fun r=>(kl xs r.2).bind fun q=>some (r.1::q.1,q.2)
def fi (d:Nat) (A:AA):V->Option (V×AA)
 |.tuple [.slice z rows]=>match A d with
  |none=>some (.own d z rows.length,aI A d (some (z,rows,.live)))
  |some _=>none
 |x=>if x.datC then some (x,A) else none
def JO:Nat->List V->AA->Option (List V×AA)
 |_,[],A=>some ([],A)
 |d,x::xs,A=>(fi d A x).bind fun r=>(JO (d+1) xs r.2).bind fun q=>some (r.1::q.1,q.2)
def fu:V->V
 |.nslice z=>.tuple [.slice z []]
 |x=>x
def cA:List (List V)->Option (List UInt8)
 |[]=>some []
 |[.int .u8 n]::rs=>(cA rs).bind fun l=>some (UInt8.ofNat n.toNat::l)
 |_::_=>none
def FS (A:AA) (x:V):Option V:=
 match cn A x with
 |some (.slice 1 rows)=>(cA rows).bind fun l=>some (.str l)
 |_=>none
def Z7 (A:AA) (s:Nat):V->Option V
 |.own s' z n=>if s'=s then match A s with
   |some (z',rows,.frz)=>if z'=z/\rows.length=n then some (.slice z rows) else none
   |_=>none
  else none
 |_=>none
def sX (S:St) (z:Nat) (x y:V):Option (V×St):=
 match x with
 |.own s _ _=>JX S s z x y
 |_=>none
def ew (S:St) (k s:Nat) (avs:List V):Option (List V×AA):=
 match avs[k]? with
 |some (.lref s' 0)=>if s'=s then (Jn (dT S.A) (avs.set k .undef)).bind fun bs=>match S.μ s with
   |some (cs,false)=>(kl cs (JL S.A ((avs.set k .undef).flatMap Jd))).bind fun h=>some (bs.set k (.tuple (.lref 0 0::h.1)),h.2)
   |_=>none
  else none
 |_=>none
def iH (b:Nat) (S:St) (s:Nat) (A:AA):V->Option (V×St)
 |.tuple [r0,.tuple us]=>(JO b us A).bind fun t=>some (r0,{S with μ:=aI S.μ s (some (t.1,false)),A:=t.2})
 |_=>none
section
variable (κ:Nat->List V->Option V)
def sg (b:Nat) (S:St) (f k s:Nat) (avs:List V):Option (V×St):=
 (ew S k s avs).bind fun q=>(κ f q.1).bind fun r=>iH b S s q.2 r
def callee (e ρ:Nat->V):qW->Option (Nat×List V)
 |.k f=>some (f,[])
 |.v x=>match aK e ρ x with
  |.func f aN=>some (f,aN)
  |_=>none
def ea (d:Nat) (S:St) (own:Option Nat) (r:V):Option (V×St):=
 match own with
 |none=>some (r,S)
 |some j=>match S.A d with
  |some _=>none
  |none=>match r with
   |.slice z rows=>some (.own d z rows.length,{S with A:=aI S.A d (some (z,rows,.live))})
   |.tuple vs=>match vs[j]? with
    |some (.slice z rows)=>some (.tuple (vs.set j (.own d z rows.length)),{S with A:=aI S.A d (some (z,rows,.live))})
    |_=>none
   |_=>none
def fh (d:Nat) (S:St) (cv:Df) (own:Option Nat) (fc:Nat×List V) (avs:List V):Option (V×St):=
 match cv with
 |.no=>if avs.all V.dat then (κ fc.1 (avs++fc.2)).bind fun r=>ea d S own r else none
 |.borrow=>(Jn (dT S.A) avs).bind fun bs=>(κ fc.1 (bs++fc.2)).bind fun r=>if r.scalar then some (r,S) else none
 |.freeze=>(Jn (dT S.A) avs).bind fun bs=>(κ fc.1 (bs++fc.2)).bind fun r=>ea d {S with A:=JL S.A (avs.flatMap Jd)} own r
def ev (d:Nat) (e:Nat->V) (S:St):K->Option (V×St)
 |.mov x=>some (aK e S.ρ x,S)
 |.pick c a b=>match aK e S.ρ c with
  |.bool t=>some (bif t then aK e S.ρ a else aK e S.ρ b,S)
  |_=>none
 |.box x=>match S.μ d with
  |some _=>none
  |none=>(aK e S.ρ x).cells.bind fun cs=>some (.lref d 0,{S with μ:=aI S.μ d (some (cs,false))})
 |.alloc z=>match S.μ d with
  |some _=>none
  |none=>some (.lref d 0,{S with μ:=aI S.μ d (some (z,false))})
 |.build z u=>(tO z (u.map fun p=>(p.1,p.2.1,aK e S.ρ p.2.2))).bind fun cs=>some (.agg cs,S)
 |.mks z n zero u=>(Jj z (List.replicate n zero) (u.map fun p=>(p.1,aK e S.ρ p.2))).bind fun rows=>some (.slice z rows,S)
 |.mko z=>match S.A d with
  |some _=>none
  |none=>some (.own d z 0,{S with A:=aI S.A d (some (z,[],.live))})
 |.mkb z n zero u=>(Jj z (List.replicate n zero) (u.map fun p=>(p.1,aK e S.ρ p.2))).bind fun rows=>ea d S (some 0) (.slice z rows)
 |.nilq x=>match aK e S.ρ x with
  |.nslice _=>some (.bool true,S)
  |.xslice _ _=>some (.bool false,S)
  |_=>none
 |.load l n p=>(Jw S l n (aK e S.ρ p)).bind fun v=>some (v,S)
 |.store l n p x=>(Jz S l n (aK e S.ρ p) (aK e S.ρ x)).bind fun S'=>some (.undef,S')
 |.bin o x y=>(xy o (aK e S.ρ x) (aK e S.ρ y)).bind fun v=>some (v,S)
 |.eqa ne sh x y=>match aK e S.ρ x,aK e S.ρ y with
  |.agg xs,.agg ys=>(pr sh xs ys).bind fun b=>some (.bool (ne ^^ b),S)
  |_,_=>none
 |.eqb ne x y=>match aK e S.ρ x,aK e S.ρ y with
  |.bool a,.bool b=>some (.bool (ne ^^ (a == b)),S)
  |_,_=>none
 |.sh o x y=>(tx o (aK e S.ρ x) (aK e S.ρ y)).bind fun v=>some (v,S)
 |.mm mx x y=>match aK e S.ρ x,aK e S.ρ y with
  |.int k a,.int k' b=>if k=k' then some (.int k (if (if mx then a<b else b<a) then b else a),S) else none
  |_,_=>none
 |.un o x=>(E6 o (aK e S.ρ x)).bind fun v=>some (v,S)
 |.conv c x=>(DD c (aK e S.ρ x)).bind fun v=>some (v,S)
 |.fn f aN q=>if q.all (JH S.μ) then
   (Jn (jF S.μ q) (aN.map (aK e S.ρ))).bind fun cs=>some (.func f cs,{S with μ:=J9 S.μ q})
  else none
 |.sl w z x lo hi=>(uD w z (aK e S.ρ x) (lo.map (aK e S.ρ)) (hi.map (aK e S.ρ))).bind fun v=>some (v,S)
 |.fad x off=>(xz off (aK e S.ρ x)).bind fun v=>some (v,S)
 |.iad z x i=>(kj z (aK e S.ρ x) (aK e S.ρ i)).bind fun v=>some (v,S)
 |.iada z n x i=>(vG z n (aK e S.ρ x) (aK e S.ρ i)).bind fun v=>some (v,S)
 |.idx x i=>(tQ (aK e S.ρ x) (aK e S.ρ i)).bind fun v=>some (v,S)
 |.ext x i=>(DK i (aK e S.ρ x)).bind fun v=>some (v,S)
 |.len w x=>(xA w (aK e S.ρ x)).bind fun v=>some (v,S)
 |.app s z x y=>jD S s z (aK e S.ρ x) (aK e S.ρ y)
 |.apf s z x y=>(JX S s z (aK e S.ρ x) (aK e S.ρ y)).bind fun r=>(cn r.2.A r.1).bind fun v=>some (v,{r.2 with A:=JL r.2.A [s]})
 |.ins _ s z x i y=>match aK e S.ρ x,aK e S.ρ i,aK e S.ρ y with
  |.own s' z' n,.int .i64 k,.slice z'' ys=>if s'=s/\z'=z/\z''=z then match S.A s with
    |some (z3,rows,.live)=>if z3=z/\rows.length=n/\0<=k/\k<=n/\rows.length+ys.length<=aU then
      some (.own s z (rows.length+ys.length),{S with A:=aI S.A s (some (z,rows.take k.toNat++(ys++rows.drop k.toNat),.live))})
     else none
    |_=>none
   else none
  |_,_,_=>none
 |.del _ s z x i j=>match aK e S.ρ x,aK e S.ρ i,aK e S.ρ j with
  |.own s' z' n,.int .i64 k,.int .i64 m=>if s'=s/\z'=z then match S.A s,S.A d with
    |some (z3,rows,.live),none=>if z3=z/\rows.length=n/\0<=k/\k<=m/\m<=n/\n<=aU then
      some (.own d z (rows.take k.toNat++rows.drop m.toNat).length,
       {S with A:=aI (aI S.A s (some (z,[],.dead))) d (some (z,rows.take k.toNat++rows.drop m.toNat,.live))})
     else none
    |_,_=>none
   else none
  |_,_,_=>none
 |.call f B own xs=>(callee e S.ρ f).bind fun D=>fh κ d S B own D (xs.map (aK e S.ρ))
 |.nilc x=>match aK e S.ρ x with
  |.lref s o=>some (.lref s o,S)
  |.eref s i o n=>some (.eref s i o n,S)
  |.cptr cs o=>some (.cptr cs o,S)
  |_=>none
 |.ldf s v n p=>(Jw S (.v v) (some n) (aK e S.ρ p)).bind fun x=>if (Jd x).all (· == s) then (dT S.A x).bind fun y=>some (y,{S with A:=JL S.A [s]}) else none
 |.rcall f xs k s b=>sg κ b S f k s (xs.map (aK e S.ρ))
 |.allo z b=>match S.μ d with
  |some _=>none
  |none=>(JO b (z.map fu) S.A).bind fun t=>some (.lref d 0,{S with μ:=aI S.μ d (some (t.1,false)),A:=t.2})
 |.appd z x y=>sX S z (aK e S.ρ x) (aK e S.ρ y)
 |.fld x off n=>match aK e S.ρ x with
  |.agg cs=>(JU cs off n).bind fun v=>some (v,S)
  |_=>none
 |.b2s x=>(FS S.A (aK e S.ρ x)).bind fun v=>some (v,S)
 |.bad=>none
def Jk (e:Nat->V):Option (Nat×Bool)->Option Bool
 |none=>some true
 |some (j,b)=>match e j with
  |.bool t=>some (t == b)
  |.tuple []=>some false
  |_=>none
abbrev V.un:V:=.tuple []
def St.put (S:St) (o:Op) (v:V):St:=
 match o.gl,o.dst with
 |true,some d=>{S with ρ:=aI S.ρ d v}
 |_,_=>S
def step (o:Op) (e:Nat->V) (S:St):Option (V×St):=
 match Jk e o.gd with
 |none=>none
 |some false=>some (.un,S.put o .un)
 |some true=>(ev κ (o.dst.getD 0) e S o.k).bind fun r=>some (r.1,r.2.put o r.1)
def Jr:List Op->Nat->(Nat->V)->St->Option St
 |[],_,_,S=>some S
 |o::os,i,e,S=>(step κ o e S).bind fun r=>Jr os (i+1) (aI e i r.1) r.2
def Ji (Wv Wa:List Nat):V->V
 |.lref s o=>if Wv.contains s then .undef else .lref s o
 |.eref s i o n=>if Wa.contains s then .undef else .eref s i o n
 |.own s z n=>if Wa.contains s then .undef else .own s z n
 |.agg cs=>if Wa.isEmpty then .agg cs else .undef
 |.tuple cs=>if Wa.isEmpty then .tuple cs else .undef
 |v=>v
def Ju (Wa:List Nat):V->V
 |.own s z n=>if Wa.contains s then .undef else .own s z n
 |v=>v
def dm (x h t:Nat):Nat:=if t=x then h else if t=h then x else t
def JS (x h:Nat):V->V
 |.own s z n=>.own (dm x h s) z n
 |v=>v
def AQ (x h:Nat):V->V
 |.own s z n=>.own (dm x h s) z n
 |.eref s i o n=>.eref (dm x h s) i o n
 |.agg cs=>.agg (cs.map (JS x h))
 |.tuple cs=>.tuple (cs.map (JS x h))
 |v=>v
def St.ren (S:St) (x h:Nat):St where
 ρ:=fun t=>AQ x h (S.ρ t)
 μ:=fun s=>(S.μ s).map fun m=>(m.1.map (JS x h),m.2)
 A:=fun t=>S.A (dm x h t)
def St.swp1 (S:St) (s j h:Nat):St:=
 match S.μ s with
 |some (cs,_)=>match cs[j]? with
  |some (.own x _ _)=>S.ren x h
  |_=>S
 |none=>S
def St.swps (S:St):List Nat->St
 |s::j::h::l=>(S.swp1 s j h).swps l
 |_=>S
def St.scrub (S:St) (W Wv Wa:List Nat):St where
 ρ:=fun t=>if W.contains t then .undef else Ji Wv Wa (S.ρ t)
 μ:=fun s=>if Wv.contains s then none else (S.μ s).map fun m=>(bif Wa.isEmpty then m.1 else m.1.map (Ju Wa),m.2)
 A:=fun s=>if Wa.contains s then none else S.A s
def St.head (S:St) (W L Wv Wa:List Nat):St:=(S.swps L).scrub W Wv Wa
def Je:Nat->C->St->Option (Ex×St)
 |0,_,_=>none
 |m+1,c,S=>match c with
  |.skip=>some (.norm,S)
  |.region _ o=>(Jr κ o 0 (fun _=>.undef) S).bind fun S=>some (.norm,S)
  |.seq a b=>(Je m a S).bind fun r=>match r.1 with
   |.norm=>Je m b r.2
   |x=>some (x,r.2)
  |.cond x a b=>match aK (fun _=>.undef) S.ρ x with
   |.bool t=>bif t then Je m a S else Je m b S
   |_=>none
  |.block id c=>(Je m c S).bind fun r=>match r.1 with
   |.exit j=>if j=id then some (.norm,r.2) else some (.exit j,r.2)
   |x=>some (x,r.2)
  |.loop W L Wv Wa c=>(Je m c (S.head W L Wv Wa)).bind fun r=>match r.1 with
   |.norm=>Je m (.loop W L Wv Wa c) r.2
   |x=>some (x,r.2)
  |.exit id=>some (.exit id,S)
  |.ret=>some (.ret,S)
end
def iV (S:St):wn->Option V
 |.t t=>some (S.ρ t)
 |.cell a n=>match S.ρ a with
  |.lref s 0=>match S.μ s with
   |some (cs,_)=>JU cs 0 n
   |none=>none
  |_=>none
def NQ:Option (Nat×List (List V)×Fz)->Bool
 |some (_,_,.frz)=>true
 |_=>false
def oj (A:Nat->Option (Nat×List (List V)×Fz)) (own:Option Nat) (j:Nat) (v:V):Option V:=
 if own=some j then match v with
  |.own s z n=>match A s with
   |some (z',rows,.live)=>if z'=z/\rows.length=n then some (.slice z rows) else none
   |_=>none
  |_=>none
 else if own=none then dT A v
 else if (Jd v).all (fun s=>NQ (A s)) then dT A v else none
def J2 {α β:Type} (f:Nat->α->Option β):Nat->List α->Option (List β)
 |_,[]=>some []
 |i,x::xs=>(f i x).bind fun y=>(J2 f (i+1) xs).bind fun j=>some (y::j)
def ni:List V->V
 |[v]=>v
 |vs=>.tuple vs
def jT (F:F) (S:St):Option V:=
 (Jn (iV S) F.res).bind fun vs=>(J2 (oj S.A F.own) 0 vs).bind fun vs=>some (ni vs)
def JC (args:List V):St where
 ρ:=fun t=>(args[t]?).getD .undef
 μ:=fun _=>none
 A:=fun _=>none
def eQ (args:List V) (k:Nat) (cs:List V):Option St:=
 (JO 9000 cs (fun _=>none)).bind fun t=>some ⟨fun i=>if i=k then .lref k 0 else (args[i]?).getD .undef,aI (fun _=>none) k (some (t.1,false)),t.2⟩
def vK (F:F) (k:Nat) (S:St):Option V:=
 (Jn (iV S) F.res).bind fun vs=>match S.μ k with
  |some (cs,false)=>(kl cs S.A).bind fun h=>(Jn (dT h.2) vs).bind fun ws=>some (.tuple [ni ws,.tuple h.1])
  |_=>none
def Jm (Pg:Nat->Option Fn):Nat->Nat->List V->Option V
 |0,_,_=>none
 |n+1,f,args=>match Pg f with
  |none=>none
  |some (.prim _ p)=>p args
  |some (.codeR F k)=>
   if args.length=F.np then match args[k]? with
    |some (.tuple (.lref 0 0::cs))=>(eQ args k cs).bind fun S=>(Je (Jm Pg n) n F.body S).bind fun r=>match r.1 with
      |.norm|.ret=>vK F k r.2
      |.exit _=>none
    |_=>none
   else none
  |some (.code F)=>
   if args.length=F.np then
    (Je (Jm Pg n) n F.body (JC args)).bind fun r=>match r.1 with
     |.norm|.ret=>jT F r.2
     |.exit _=>none
   else none
end Sg
namespace Sg
open Go Go.RowKit
structure Cx where
 fm:Nat->Nat
 tm:Nat->Nat
 /-- what package variables hold:it lies below block gn -/
 gn:Nat:=0
 G:World->Prop:=fun _=>True
 Gst:∀w w',G w->(∀b,b<gn->w'.heap[b]?=w.heap[b]?)->G w':=by exact fun _ _ _ _=>trivial
 tinj:∀a b,tm a=tm b->a=b:=by exact fun _ _ h=>h
abbrev gv (vs:List V) (i:Nat):V:=vs.getD i .undef
abbrev gr (rows:List (List V)) (i:Nat):List V:=rows.getD i []
section
variable (cx:Cx) (w:World) (X:Nat->Prop)
inductive aC:Value->V->Prop
 |undef (v):aC v .undef
 |bool (b):aC (.bool b) (.bool b)
 |int (k n):aC (.int k n) (.int k n)
 |str (s:ByteArray):aC (.string s) (.str s.data.toList)
 |agg (cs:Array Value) (vs:List V) (u:Nat->Value) (hl:cs.size=vs.length)
   (hc:∀i,i<vs.length->cs[i]?=some (u i)/\(u i).oneCell'=true)
   (hr:∀i,i<vs.length->aC (u i) (gv vs i)):aC (.agg cs) (.agg vs)
 |nilslice (a:Option Addr) (z):aC (.slice a 0 0) (.slice z [])
 |slice (b o len aN z rows c e fr) (u:Nat->Nat->Value)
   (hb:b<w.heap.size) (hX:¬X b) (hw:w.heap[b]?=some (.cells c e fr)) (hl:rows.length=len) (kT:len<=aN)
   (hz:∀i,i<len->(gr rows i).length=z)
   (hc:∀i j,i<len->j<z->c[o+i*z+j]?=some (u i j)/\(u i j).oneCell'=true)
   (hr:∀i j,i<len->j<z->aC (u i j) (gv (gr rows i) j)):aC (.slice (some ⟨b,o,none⟩) len aN) (.slice z rows)
 |tuple (cs:Array Value) (vs:List V) (u:Nat->Value) (hl:cs.size=vs.length)
   (hc:∀i,i<vs.length->cs[i]?=some (u i))
   (hr:∀i,i<vs.length->aC (u i) (gv vs i)):aC (.tuple cs) (.tuple vs)
 |func (f) (cs:Array Value) (vs:List V) (u:Nat->Value) (hl:cs.size=vs.length)
   (hc:∀i,i<vs.length->cs[i]?=some (u i))
   (hr:∀i,i<vs.length->aC (u i) (gv vs i)):aC (.func (.func (cx.fm f)) #[] cs) (.func f vs)
 |cptr (b o cs off c e fr) (u:Nat->Value)
   (hb:b<w.heap.size) (hX:¬X b) (hw:w.heap[b]?=some (.cells c e fr)) (ho:off<=o)
   (hc:∀j,j<cs.length->c[o-off+j]?=some (u j)/\(u j).oneCell'=true)
   (hr:∀j,j<cs.length->aC (u j) (gv cs j)):aC (.pointer (some ⟨b,o,none⟩)) (.cptr cs off)
 |iface (t v x) (hr:aC v x):aC (.iface (cx.tm t) v) (.iface t x)
 |niface:aC .nilIface .niface
 |nslice (z):aC (.slice none 0 0) (.nslice z)
 |xslice (a n c z rows) (h:aC (.slice (some a) n c) (.slice z rows)):aC (.slice (some a) n c) (.xslice z rows)
end
def aC.mono {cx:Cx} {w w':World} {X H:Nat->Prop} {v:Value} {x:V} (h:aC cx w X v x)
  (L:w.heap.size<=w'.heap.size) (J:∀b,b<w.heap.size->¬X b->w'.heap[b]?=w.heap[b]?)
  (I:∀b,b<w.heap.size->¬X b->¬H b):aC cx w' H v x:=by
 induction h with
 |undef v=>exact .undef v
 |bool b=>exact .bool b
 |int k n=>exact .int k n
 |str s=>exact .str s
 |agg cs vs u y q _ j=>exact .agg cs vs u y q j
 |nilslice a z=>exact .nilslice a z
 |slice b o len aN z rows c e fr u h1 p B D E M N _ j=>
  exact .slice b o len aN z rows c e fr u (G6 h1 L) (I b h1 p) ((J b h1 p).trans B) D E M N j
 |tuple cs vs u y q _ j=>exact .tuple cs vs u y q j
 |func f cs vs u y q _ j=>exact .func f cs vs u y q j
 |cptr b o cs off c e fr u h1 p B D E _ j=>
  exact .cptr b o cs off c e fr u (G6 h1 L) (I b h1 p) ((J b h1 p).trans B) D E j
 |iface t v x _ j=>exact .iface t v x j
 |niface=>exact .niface
 |nslice z=>exact .nslice z
 |xslice a n c z rows _ j=>exact .xslice a n c z rows j
def aC.grow {cx:Cx} {w w':World} {X:Nat->Prop} {v:Value} {x:V} (h:aC cx w X v x)
  (hs:w.heap.size<=w'.heap.size) (hb:∀b,b<w.heap.size->w'.heap[b]?=w.heap[b]?):aC cx w' X v x:=
 h.mono hs (fun b h _=>hb b h) (fun _ _ h=>h)
def aC.cell {cx:Cx} {w:World} {X:Nat->Prop} {v:Value} {x:V} (h:aC cx w X v x) (h1:v.oneCell'=true):x.datC=true:=by
 cases h<;>simp_all [V.datC,Value.oneCell']
def hdr:Value->Option Nat
 |.slice (some a) _ _=>some a.block
 |_=>none
section
variable (cx:Cx) (w:World) (X:Nat->Prop) (S:St) (β:Nat->Nat) (α:Nat->Value)
def fo (v:Value) (s z n:Nat):Prop:=
 ∃rows f a aN,S.A s=some (z,rows,f)/\v=.slice a n aN/\(n≠0->∃b o,a=some ⟨b,o,none⟩)/\(f≠.dead->n<=rows.length/\(rows.length=n->v=α s))
def cK (v:Value):V->Prop
 |.own s z n=>fo S α v s z n
 |x=>aC cx w X v x
def aJ (v:Value):V->Prop
 |.own s z n=>fo S α v s z n
 |.lref s off=>(S.μ s).isSome/\v=.pointer (some ⟨β s,off,none⟩)
 |.eref s i off m=>∃z rows f b o aN,S.A s=some (z,rows,f)/\v=.pointer (some ⟨b,o+i*z+off,none⟩)/\
   (f≠.dead->m<=rows.length/\(rows.length=m->α s=.slice (some ⟨b,o,none⟩) m aN))
 |.agg vs=>∃cs:Array Value,v=.agg cs/\cs.size=vs.length/\
   ∀i,i<vs.length->∃u,cs[i]?=some u/\u.oneCell'=true/\cK cx w X S α u (gv vs i)
 |.tuple vs=>∃cs:Array Value,v=.tuple cs/\cs.size=vs.length/\
   ∀i,i<vs.length->∃u,cs[i]?=some u/\cK cx w X S α u (gv vs i)
 |x=>aC cx w X v x
end
structure bH (cx:Cx) (w:World) (X:Nat->Prop) (v:Value) (z:Nat) (rows:List (List V)):Prop where
 len:∀i,i<rows.length->(gr rows i).length=z
 at_:(v=.slice none 0 0/\rows=[])\/∃b o aN c e,v=.slice (some ⟨b,o,none⟩) rows.length aN/\
  w.heap[b]?=some (.cells c e (0,0))/\rows.length<=aN/\o+aN*z<=c.size/\
  ∀i j,i<rows.length->j<z->∃u,c[o+i*z+j]?=some u/\u.oneCell'=true/\aC cx w X u (gv (gr rows i) j)
structure bY (B:Nat->Prop) (w w':World):Prop where
 os:w'.os=w.os
 tape:w'.tape=w.tape
 output:w'.output=w.output
 size:w.heap.size<=w'.heap.size
 block:∀b,B b->w'.heap[b]?=w.heap[b]?
def bY.refl (B:Nat->Prop) (w:World):bY B w w:=⟨rfl,rfl,rfl,GC _,fun _ _=>rfl⟩
def bY.trans {B:Nat->Prop} {a b c:World} (h:bY B a b) (k:bY B b c):bY B a c:=
 ⟨k.os.trans h.os,k.tape.trans h.tape,k.output.trans h.output,GI h.size k.size,fun i hi=>(k.block i hi).trans (h.block i hi)⟩
def bY.of {B:Nat->Prop} {n:Nat} {w w':World} (h:Below n w w') (j:∀b,B b->b<n):bY B w w':=⟨h.os,h.tape,h.output,h.size,fun b o=>h.block b (j b o)⟩
def bY.below {B:Nat->Prop} {n:Nat} {w w':World} (h:bY B w w') (j:∀b,b<n->B b):Below n w w':=⟨h.os,h.tape,h.output,h.size,fun b o=>h.block b (j b o)⟩
def bY.mono {B j:Nat->Prop} {w w':World} (h:bY B w w') (o:∀b,j b->B b):bY j w w':=⟨h.os,h.tape,h.output,h.size,fun b p=>h.block b (o b p)⟩
structure aW (cx:Cx) (B:Nat->Prop) (X:Nat->Prop) (S:St) (w:World) (β:Nat->Nat) (α:Nat->Value) (M:Nat->Prop):Prop where
 xb:∀b,X b->B b
 glob:(∀b,b<cx.gn->B b)/\cx.G w
 size:∀b,B b->b<w.heap.size
 m:∀b,M b->¬B b/\b<w.heap.size
 var:∀s cs f,S.μ s=some (cs,f)->¬B (β s)/\(f=false->M (β s))/\(f=true->¬M (β s)/\cs.all V.datC=true)/\∃c e,w.heap[β s]?=some (.cells c e (0,0))/\c.size=cs.length/\
  ∀i,i<cs.length->∃u,c[i]?=some u/\u.oneCell'=true/\cK cx w (fun b=>X b\/M b) S α u (gv cs i)
 varInj:∀s s',(S.μ s).isSome->(S.μ s').isSome->β s=β s'->s=s'
 arr:∀s z rows f,S.A s=some (z,rows,f)->f≠.dead->bH cx w (fun b=>X b\/M b) (α s) z rows/\
  ∀b,hdr (α s)=some b->¬B b/\(f=.live->M b)/\(f=.frz->¬M b)
 arrInj:∀s s' z rows f z' rows' f',S.A s=some (z,rows,f)->f≠.dead->S.A s'=some (z',rows',f')->f'≠.dead->∀b,hdr (α s)=some b->hdr (α s')=some b->s=s'
 arrVar:∀s z rows f s',S.A s=some (z,rows,f)->f≠.dead->(S.μ s').isSome->hdr (α s)≠some (β s')
end Sg
namespace Sg
open Go
section
variable (P:Program) (cx:Cx)
def dz (t:TypeId):Option Nat:=(P.info? t).map (·.size)
def Js (t:TypeId):Bool:=
 match P.underlying t with
 |some (.struct _)=>true
 |some (.array ..)=>true
 |_=>false
def wX (t:TypeId):Bool:=
 match P.underlying t with
 |some (.array _ e)=>(dz P e).isSome
 |_=>false
def Jy (t:TypeId):Option TypeId:=
 match P.underlying t with
 |some (.slice e)=>some e
 |_=>none
def Dz:Value->V->Bool
 |.bool a,.bool b=>a == b
 |.int k n,.int k' n'=>k == k'&&n == n'
 |.string s,.str l=>s.data.toList == l
 |.slice none 0 0,.slice _ []=>true
 |.slice none 0 0,.nslice _=>true
 |.nilIface,.niface=>true
 |.pointer none,.undef=>true
 |.nilFunc,.undef=>true
 |_,_=>false
def Jl:List Value->List V->Bool
 |[],[]=>true
 |v::vs,x::xs=>Dz v x&&Jl vs xs
 |_,_=>false
def FF:Value->V->Bool
 |.agg cs,.agg vs=>Jl cs.toList vs
 |v,x=>Dz v x
def Ja (ds:List (Option Nat)):Operand->bF->Bool
 |.tmp t,.g t'=>t == t'
 |.tmp t,.l j=>ds[j]? == some (some t)
 |.const v,.c x=>FF v x
 |.func f,.f k=>cx.fm k == f
 |_,_=>false
def Jh (ds:List (Option Nat)):List Operand->List bF->Bool
 |[],[]=>true
 |o::os,a::avs=>Ja cx ds o a&&Jh ds os avs
 |_,_=>false
def xx (ds:List (Option Nat)):Option Operand->Option bF->Bool
 |none,none=>true
 |some o,some a=>Ja cx ds o a
 |_,_=>false
def ii (s:TypeId) (i off:Nat):Bool:=
 match P.underlying s with
 |some (.struct fs)=>match fs[i]? with
  |some f=>f.offset == off&&(match dz P f.type with|some n=>n != 0|none=>false)
  |none=>false
 |_=>false
def er (ds:List (Option Nat)) (pl:Nat->Option (Nat×Nat)):List (Nat×Operand)->List (Nat×Nat×bF)->Bool
 |[],[]=>true
 |(i,o)::ps,(off,n,a)::qs=>(pl i == some (off,n))&&Ja cx ds o a&&er ds pl ps qs
 |_,_=>false
def J4 (ds:List (Option Nat)):List (Nat×Operand)->List (Nat×bF)->Bool
 |[],[]=>true
 |(i,o)::ps,(j,a)::qs=>(i == j)&&Ja cx ds o a&&J4 ds ps qs
 |_,_=>false
def Jt (t:TypeId) (z:List V):Bool:=
 match P.info? t with
 |some i=>match i.zero with
  |some v=>Jl v.cells.toList z
  |none=>false
 |none=>false
def aa1 (t:TypeId) (name:String):Option FuncId:=
 match P.info? t,P.underlying t with
 |some i,some u=>match i.methods.find? (·.name == name),u with
  |_,.pointer _=>none
  |some m,_=>if m.path.isEmpty then match m.func with
   |some (f,false)=>some f
   |_=>none else none
  |none,_=>none
 |_,_=>none
def fO:List Field->Option (List (Nat×Nat))
 |[]=>some []
 |f::fs=>(dz P f.type).bind fun n=>(fO fs).bind fun r=>some ((f.offset,n)::r)
def Dx (t:TypeId):Option (List (Nat×Nat)):=
 match P.underlying t with
 |some (.struct fs)=>fO P fs.toList
 |_=>none
def fQ (g:TypeId->Option (List Sh)):List Field->Nat->Option (List Sh)
 |[],_=>some []
 |f::fs,n=>if f.name == "_"||f.offset != n then none else
   (g f.type).bind fun sh=>if dz P f.type == some sh.length then (fQ g fs (n+sh.length)).bind fun r=>some (sh++r) else none
def JF:Nat->TypeId->Option (List Sh)
 |0,_=>none
 |d+1,t=>match P.underlying t with
  |some .bool=>some [.b]
  |some (.int _)=>some [.i]
  |some .string=>some [.s]
  |some (.struct fs)=>if P.stoodInHeld t then none else fQ P (JF d) fs.toList 0
  |_=>none
def AS (j:Bool) (z:Nat) (t:TypeId):Bool:=
 match j,P.underlying t with
 |true,some .string=>true
 |false,some (.slice e)=>dz P e == some z
 |_,_=>false
def AN (j:Bool) (t:TypeId):Bool:=
 match j,P.underlying t with
 |true,some .string=>true
 |false,some (.slice _)=>true
 |_,_=>false
def JV (t:TypeId):Bool:=
 match P.underlying t with
 |some (.slice _)=>true
 |some .string=>true
 |_=>false
def bT (ds:List (Option Nat)) (op:Go.Op) (k:K):Bool:=
 match op,k with
 |.move x,.mov a=>Ja cx ds x a
 |.assign x,.mov a=>Ja cx ds x a
 |.assign (.const (.slice none 0 0)),.mko _=>true
 |.move (.const (.slice none 0 0)),.mko _=>true
 |.pick c x y,.pick c' x' y'=>Ja cx ds c c'&&Ja cx ds x x'&&Ja cx ds y y'
 |.box _ x,.box a=>Ja cx ds x a
 |.alloc t,.alloc z=>Jt P t z
 |.build t ps,.build z qs=>Jt P t z&&(match Dx P t with|some j=>er cx ds (fun i=>j[i]?) ps.toList qs|none=>wX P t&&ps.isEmpty&&qs.isEmpty)
 |.buildSlice t len ps,.mks z n zero qs=>(match Jy P t with
   |some e=>dz P e == some z&&Jt P e zero&&zero.length == z&&z != 0&&len == n&&decide (len*z<=16777216)&&J4 cx ds ps.toList qs
   |none=>false)
 |.makeSlice t (.const (.int .i64 len)) (.const (.int .i64 aN)),.mks z n zero qs=>(match Jy P t with
   |some e=>dz P e == some z&&Jt P e zero&&zero.length == z&&z != 0&&len == (n:Int)&&aN == (n:Int)&&decide (n*z<=16777216)&&qs.isEmpty&&n != 0&&(match P.info? e with|some i=>decide (i.bytes*n<=65536)|none=>false)
   |none=>false)
 |.buildSlice t len ps,.mkb z n zero qs=>(match Jy P t with
   |some e=>dz P e == some z&&Jt P e zero&&zero.length == z&&z != 0&&len == n&&decide (len*z<=16777216)&&J4 cx ds ps.toList qs
   |none=>false)
 |.binOp .eql t x (.const (.slice none 0 0)) _,.nilq a=>Ja cx ds x a&&(Jy P t).isSome
 |.load t p,.load _ n a=>Ja cx ds p a&&(P.underlying t).isSome&&(if Js P t then dz P t == n&&n.isSome else n.isNone)
 |.load t p,.ldf _ _ n a=>Ja cx ds p a&&(P.underlying t).isSome&&(Js P t&&dz P t == some n)
 |.store t p x,.store _ n a b=>Ja cx ds p a&&Ja cx ds x b&&dz P t == some n
 |.binOp o _ x y _,.bin o' a b=>o == o'&&Ja cx ds x a&&Ja cx ds y b
 |.binOp o t x y _,.eqb ne a b=>(o == if ne then .neq else .eql)&&Ja cx ds x a&&Ja cx ds y b&&(match P.underlying t with|some .bool=>true|_=>false)
 |.binOp o t x y _,.eqa ne sh a b=>(o == if ne then .neq else .eql)&&Ja cx ds x a&&Ja cx ds y b&&Js P t&&JF P 20 t == some sh&&!P.eqGuardType P.depth t
 |.binOp o _ x y _,.sh o' a b=>o == o'&&Ja cx ds x a&&Ja cx ds y b
 |.unOp o _ x,.un o' a=>o == o'&&Ja cx ds x a
 |.convert s d x,.conv (.int k) a=>Ja cx ds x a&&(match P.underlying s,P.underlying d with|some _,some (.int k')=>k == k'|_,_=>false)
 |.convert s d x,.conv .same a=>Ja cx ds x a&&(match P.underlying s,P.underlying d with|some .string,some .string=>true|_,_=>false)
 |.makeFunc (.func f) first aN,.fn f' cap' _=>first.isEmpty&&cx.fm f' == f&&Jh cx ds aN.toList cap'
 |.slice t x lo hi none,.sl st z a lo' hi'=>Ja cx ds x a&&xx cx ds lo lo'&&xx cx ds hi hi'&&AS P st z t
 |.fieldAddr s x i,.fad a off=>Ja cx ds x a&&ii P s i off
 |.indexAddr t x i,.iad z a b=>Ja cx ds x a&&Ja cx ds i b&&(match Jy P t with|some e=>dz P e == some z|none=>false)
 |.indexAddr t x i,.iada z n a b=>Ja cx ds x a&&Ja cx ds i b&&(match P.underlying t with|some (.array m e)=>m == n&&dz P e == some z|_=>false)
 |.index t x i,.idx a b=>Ja cx ds x a&&Ja cx ds i b&&(match P.underlying t with|some .string=>true|_=>false)
 |.extract x i,.ext a i'=>Ja cx ds x a&&i == i'
 |.nilCheck x,.nilc a=>Ja cx ds x a
 |.call {callee:=.builtin .len,args:=args,argTypes:=ts},.len st a=>(match args.toList,ts.toList with
   |[x],[t]=>Ja cx ds x a&&AN P st t
   |_,_=>false)
 |.call {callee:=.builtin .max,args:=args,argTypes:=_},.mm true a b=>Jh cx ds args.toList [a,b]
 |.call {callee:=.builtin .min,args:=args,argTypes:=_},.mm false a b=>Jh cx ds args.toList [a,b]
 |.call {callee:=.builtin .append,args:=args,argTypes:=ts},.app _ z a b=>Jh cx ds args.toList [a,b]&&(match ts.toList with
   |[t,t']=>(match P.underlying t with
    |some (.slice e)=>z != 0&&dz P e == some z&&(match P.info? e with|some i=>decide (0<i.bytes/\i.bytes<=65536)&&(match i.zero with|some v=>v.cells.size == z|none=>false)|none=>false)
    |_=>false)&&JV P t'
   |_=>false)
 |.call {callee:=.builtin .append,args:=args,argTypes:=ts},.apf _ z a b=>Jh cx ds args.toList [a,b]&&(match ts.toList with
   |[t,t']=>(match P.underlying t with
    |some (.slice e)=>z != 0&&dz P e == some z&&(match P.info? e with|some i=>decide (0<i.bytes/\i.bytes<=65536)&&(match i.zero with|some v=>v.cells.size == z|none=>false)|none=>false)
    |_=>false)&&JV P t'
   |_=>false)
 |.call {callee:=.value (.func f),args:=args,argTypes:=_},.call (.k f') _ _ avs=>cx.fm f' == f&&Jh cx ds args.toList avs
 |.call {callee:=.value x,args:=args,argTypes:=_},.call (.v a) _ _ avs=>Ja cx ds x a&&Jh cx ds args.toList avs
 |.call {callee:=.value (.func f),args:=args,argTypes:=_},.ins f' _ _ a b c=>cx.fm f' == f&&Jh cx ds args.toList [a,b,c]
 |.call {callee:=.value (.func f),args:=args,argTypes:=_},.del f' _ _ a b c=>cx.fm f' == f&&Jh cx ds args.toList [a,b,c]
 |.call {callee:=.builtin .append,args:=args,argTypes:=ts},.appd z a b=>Jh cx ds args.toList [a,b]&&(match ts.toList with
   |[t,t']=>(match P.underlying t with
    |some (.slice e)=>z != 0&&dz P e == some z&&(match P.info? e with|some i=>decide (0<i.bytes/\i.bytes<=65536)&&(match i.zero with|some v=>v.cells.size == z|none=>false)|none=>false)
    |_=>false)&&JV P t'
   |_=>false)
 |.call {callee:=.value (.func f),args:=args,argTypes:=_},.rcall f' avs _ _ _=>cx.fm f' == f&&Jh cx ds args.toList avs
 |.alloc t,.allo z _=>Jt P t z
 |.convert s d x,.b2s a=>Ja cx ds x a&&(match P.underlying s,P.underlying d with|some (.slice e),some .string=>(match P.underlying e with|some (.int .u8)=>true|_=>false)|_,_=>false)
 |.field s x i,.fld a off n=>Ja cx ds x a&&(match P.underlying s with
   |some (.struct fs)=>(match fs[i]? with
    |some f=>f.offset == off&&(P.underlying f.type).isSome&&(if Js P f.type then dz P f.type == n&&n.isSome else n.isNone)
    |none=>false)
   |_=>false)
 |_,.bad=>true
 |_,_=>false
end
end Sg
namespace Sg
open Go Go.RowKit
def oh {α:Type} [Inhabited α] {n:Nat} {Q:Nat->α->Prop} (h:∀i,i<n->∃u,Q i u):∃f:Nat->α,∀i,i<n->Q i (f i):=by
 have j:∀i,∃u,i<n->Q i u:=fun i=>by
  by_cases hi:i<n
  ·have⟨u,hu⟩:=h i hi;exact⟨u,fun _=>hu⟩
  ·exact⟨default,fun o=>absurd o hi⟩
 exact⟨fun i=>Classical.choose (j i),fun i hi=>Classical.choose_spec (j i) hi⟩
def Tr {α:Type} [Inhabited α] {n m:Nat} {Q:Nat->Nat->α->Prop} (h:∀i j,i<n->j<m->∃u,Q i j u) :
  ∃f:Nat->Nat->α,∀i j,i<n->j<m->Q i j (f i j):=by
 have q:∀i j,∃u,i<n->j<m->Q i j u:=fun i j=>by
  by_cases hi:i<n
  ·by_cases o:j<m
   ·have⟨u,hu⟩:=h i j hi o;exact⟨u,fun _ _=>hu⟩
   ·exact⟨default,fun _ p=>absurd p o⟩
  ·exact⟨default,fun p=>absurd p hi⟩
 exact⟨fun i j=>Classical.choose (q i j),fun i j hi o=>Classical.choose_spec (q i j) hi o⟩
section
variable {P:Program} {cx:Cx} {w:World} {X:Nat->Prop} {S:St} {β:Nat->Nat} {α:Nat->Value}
theorem Jo {v:Value} {k n} (h:aJ cx w X S β α v (.int k n)):v=.int k n:=by
 simp only[aJ] at h;cases h;rfl
theorem JY {v:Value} {b} (h:aJ cx w X S β α v (.bool b)):v=.bool b:=by
 simp only[aJ] at h;cases h;rfl
def J5 {v:Value} {s} (h:aJ cx w X S β α v (.str s)):∃t:ByteArray,v=.string t/\t.data.toList=s:=by
 simp only[aJ] at h;cases h;exact⟨_,rfl,rfl⟩
def Nc {v:Value} {s o} (h:aJ cx w X S β α v (.lref s o)):v=.pointer (some ⟨β s,o,none⟩):=h.2
def aJ.of_data {v:Value} {x:V} (h:aC cx w X v x):aJ cx w X S β α v x:=by
 cases x with
 |agg vs=>
  cases h with
  |agg cs vs u q j B=>
   refine⟨cs,rfl,q,fun i hi=>⟨u i,(j i hi).1,(j i hi).2,?_⟩⟩;have h1:=B i hi;have p:=h1.cell (j i hi).2
   revert h1 p
   generalize gv vs i=y;intro h1 p;cases y<;>first|exact h1|(simp[V.datC] at p)
 |tuple vs=>
  cases h with
  |tuple cs vs u q j B=>
   refine⟨cs,rfl,q,fun i hi=>⟨u i,(j i hi),?_⟩⟩;have h1:=B i hi
   revert h1
   generalize gv vs i=y;generalize u i=z;intro h1;cases y<;>first|exact h1|(cases h1)
 |lref s o=>cases h
 |eref s i o n=>cases h
 |own s z n=>cases h
 |_=>exact h
def cK.of_data {v:Value} {x:V} (h:aC cx w X v x):cK cx w X S α v x:=by
 cases x<;>first|exact h|(cases h)
def cK.data {v:Value} {x:V} (h:cK cx w X S α v x) (hd:x.datC=true):aC cx w X v x:=by
 cases x<;>first|exact h|(simp[V.datC] at hd)
def aJ.data {v:Value} {x:V} (h:aJ cx w X S β α v x) (j:x.dat=true):aC cx w X v x:=by
 cases x with
 |agg vs=>
  obtain⟨cs,rfl,y,q⟩:=h;have p:∀x∈vs,x.datC=true:=by simpa [V.dat] using j
  have⟨u,hu⟩:=oh q;exact .agg cs vs u y (fun i hi=>⟨(hu i hi).1,(hu i hi).2.1⟩) (fun i hi=>(hu i hi).2.2.data (p _ (by simp[gv,hi])))
 |tuple vs=>simp[V.dat,V.datC] at j
 |lref s o=>simp[V.dat,V.datC] at j
 |eref s i o n=>simp[V.dat,V.datC] at j
 |own s z n=>simp[V.dat,V.datC] at j
 |_=>exact h
def DA {v:Value} {cs:List V} {off:Nat} (h:aC cx w X v (.cptr cs off)) :
  ∃b o c e fr,v=.pointer (some ⟨b,o,none⟩)/\b<w.heap.size/\¬X b/\w.heap[b]?=some (.cells c e fr)/\off<=o/\
   ∀j,j<cs.length->∃u,c[o-off+j]?=some u/\u.oneCell'=true/\aC cx w X u (gv cs j):=by
 cases h with
 |cptr b o cs off c e fr u z y hw B q D=>
  exact⟨b,o,c,e,fr,rfl,z,y,hw,B,fun j p=>⟨u j,(q j p).1,(q j p).2,D j p⟩⟩
def Dv {b o off:Nat} {c:Array Value} {e:TypeId} {fr:Nat×Nat} {cs:List V} (y:b<w.heap.size) (q:¬X b) (hw:w.heap[b]?=some (.cells c e fr))
  (B:off<=o) (z:∀j,j<cs.length->∃u,c[o-off+j]?=some u/\u.oneCell'=true/\aC cx w X u (gv cs j)) :
  aC cx w X (.pointer (some ⟨b,o,none⟩)) (.cptr cs off):=by
 have⟨u,hu⟩:=oh z
 exact .cptr b o cs off c e fr u y q hw B (fun j p=>⟨(hu j p).1,(hu j p).2.1⟩) (fun j p=>(hu j p).2.2)
def JB {v:Value} {z:Nat} {rows:List (List V)} (h:aC cx w X v (.slice z rows)):((∃a,v=.slice a 0 0)/\rows=[])\/
  ∃b o aN c e fr,v=.slice (some ⟨b,o,none⟩) rows.length aN/\b<w.heap.size/\¬X b/\w.heap[b]?=some (.cells c e fr)/\rows.length<=aN/\
   (∀i,i<rows.length->(gr rows i).length=z)/\
   ∀i j,i<rows.length->j<z->∃u,c[o+i*z+j]?=some u/\u.oneCell'=true/\aC cx w X u (gv (gr rows i) j):=by
 cases h with
 |nilslice a=>exact .inl ⟨⟨a,rfl⟩,rfl⟩
 |slice b o len aN z rows c e fr u D B hw E p hz y H=>
  subst E
  exact .inr ⟨b,o,aN,c,e,fr,rfl,D,B,hw,p,hz,fun i j hi q=>⟨u i j,(y i j hi q).1,(y i j hi q).2,H i j hi q⟩⟩
def Ds {b o aN z:Nat} {c:Array Value} {e:TypeId} {fr:Nat×Nat} {rows:List (List V)} (B:b<w.heap.size) (y:¬X b) (hw:w.heap[b]?=some (.cells c e fr))
  (p:rows.length<=aN) (hz:∀i,i<rows.length->(gr rows i).length=z)
  (D:∀i j,i<rows.length->j<z->∃u,c[o+i*z+j]?=some u/\u.oneCell'=true/\aC cx w X u (gv (gr rows i) j)) {n:Nat} (E:rows.length=n) :
  aC cx w X (.slice (some ⟨b,o,none⟩) n aN) (.slice z rows):=by
 have⟨u,hu⟩:=Tr D
 subst E
 exact .slice b o _ aN z rows c e fr u B y hw rfl p hz (fun i j hi q=>⟨(hu i j hi q).1,(hu i j hi q).2.1⟩) (fun i j hi q=>(hu i j hi q).2.2)
def FB {v:Value} {x:V} (h:Dz v x=true):aC cx w X v x/\v.oneCell'=true:=by
 unfold Dz at h;split at h
 ·rename_i a b;obtain rfl:a=b:=by simpa using h
  exact⟨.bool _,rfl⟩
 ·rename_i k n k' j;simp only[Ge,G9] at h;obtain⟨rfl,rfl⟩:=h;exact⟨.int _ _,rfl⟩
 ·rename_i s l;obtain rfl:s.data.toList=l:=by simpa using h
  exact⟨.str _,rfl⟩
 ·exact⟨.nilslice _ _,rfl⟩
 ·exact⟨.nslice _,rfl⟩
 ·exact⟨.niface,rfl⟩
 ·exact⟨.undef _,rfl⟩
 ·exact⟨.undef _,rfl⟩
 ·simp at h
theorem JI:∀{l:List Value} {vs:List V},Jl l vs=true->
  l.length=vs.length/\∀i,i<vs.length->∃u,l[i]?=some u/\u.oneCell'=true/\aC cx w X u (gv vs i)
 |[],[],_=>⟨rfl,fun i hi=>by simp at hi⟩
 |v::l,x::vs,h=>by
  simp only[Jl,Ge] at h;have⟨h1,j⟩:=JI (l:=l) (vs:=vs) h.2;refine⟨by simp[h1],fun i hi=>?_⟩;cases i with
  |zero=>exact⟨v,rfl,(FB h.1 (cx:=cx) (w:=w) (X:=X)).2,(FB h.1).1⟩
  |succ i=>have⟨u,a,b,c⟩:=j i (by simpa using hi);exact⟨u,by simpa using a,b,by simpa [gv] using c⟩
 |[],_::_,h=>by simp[Jl] at h
 |_::_,[],h=>by simp[Jl] at h
def QU {v:Value} {x:V} (h:FF v x=true):aC cx w X v x:=by
 unfold FF at h;split at h
 ·rename_i cs vs;have⟨h1,j⟩:=JI (cx:=cx) (w:=w) (X:=X) h;have⟨u,hu⟩:=oh j;exact .agg cs vs u (by simpa using h1) (fun i hi=>⟨by simpa using (hu i hi).1,(hu i hi).2.1⟩) (fun i hi=>(hu i hi).2.2)
 ·exact (FB h).1
def xu {a:Act} {ds:List (Option Nat)} {e:Nat->V} (o:∀t,aJ cx w X S β α (a.tmps.getD t undef) (S.ρ t))
  (p:∀i d,ds[i]?=some (some d)->aJ cx w X S β α (a.tmps.getD d undef) (e i)) {x:Operand} {y:bF} (h:Ja cx ds x y=true) :
  aJ cx w X S β α (a.eval x) (aK e S.ρ y):=by
 unfold Ja at h
 split at h
 ·rename_i t t';obtain rfl:t=t':=by simpa using h
  exact o t
 ·rename_i t j;exact p j t (by simpa using h)
 ·exact .of_data (QU h)
 ·rename_i f k;obtain rfl:cx.fm k=f:=by simpa using h
  exact aC.func k #[] [] (fun _=>undef) rfl (fun i hi=>by simp at hi) (fun i hi=>by simp at hi)
 ·simp at h
def RB {o:BinOp} {k:IntKind} {a b:Int} {t:TypeId} {r:V} (h:vH o k a b=some r) :
  ∃z,(Go.binOp o t (.int k a) (.int k b)).run P w=.ok z w/\aC cx w X z r:=by
 cases o<;>simp only[vH,Gb,reduceCtorEq] at h
 case quo=>
  split at h
  ·simp at h
  ·rename_i j;simp only[Gb] at h;subst h
   exact⟨.int k (k.wrap (a.tdiv b)),by simp[Go.binOp,Op.intDiv,j],.int _ _⟩
 case rem=>
  split at h
  ·simp at h
  ·rename_i j;simp only[Gb] at h;subst h
   exact⟨.int k (a.tmod b),by simp[Go.binOp,Op.intDiv,j],.int _ _⟩
 all_goals subst h
 ·exact⟨.int k (k.wrap (a+b)),by simp[Go.binOp,Op.intArith],.int _ _⟩
 ·exact⟨.int k (k.wrap (a-b)),by simp[Go.binOp,Op.intArith],.int _ _⟩
 ·exact⟨.int k (k.wrap (a*b)),by simp[Go.binOp,Op.intArith],.int _ _⟩
 ·exact⟨.int k (k.wrap (BitVec.ofInt k.bits a &&& BitVec.ofInt k.bits b).toNat),by simp[Go.binOp,Op.intBits],.int _ _⟩
 ·exact⟨.int k (k.wrap (BitVec.ofInt k.bits a ||| BitVec.ofInt k.bits b).toNat),by simp[Go.binOp,Op.intBits],.int _ _⟩
 ·exact⟨.int k (k.wrap (BitVec.ofInt k.bits a ^^^ BitVec.ofInt k.bits b).toNat),by simp[Go.binOp,Op.intBits],.int _ _⟩
 ·exact⟨.bool (decide (a=b)),by simp[Go.binOp,Op.intCmp];rfl,.bool _⟩
 ·exact⟨.bool (!decide (a=b)),by simp[Go.binOp,Op.intCmp];rfl,.bool _⟩
 ·exact⟨.bool (decide (a<b)),by simp[Go.binOp,Op.intCmp],.bool _⟩
 ·exact⟨.bool (decide (a<=b)),by simp[Go.binOp,Op.intCmp],.bool _⟩
 ·exact⟨.bool (decide (b<a)),by simp[Go.binOp,Op.intCmp],.bool _⟩
 ·exact⟨.bool (decide (b<=a)),by simp[Go.binOp,Op.intCmp],.bool _⟩
def MN {s s':ByteArray}:(s.toList == s'.toList)=decide (s.data.toList=s'.data.toList):=by
 rw[ByteArray.toList_eq,ByteArray.toList_eq,Bool.eq_iff_iff];simp
def Td {o:BinOp} {s s':ByteArray} {t:TypeId} {r:V} (h:AO o s.data.toList s'.data.toList=some r) :
  ∃z,(Go.binOp o t (.string s) (.string s')).run P w=.ok z w/\aC cx w X z r:=by
 cases o<;>simp only[AO,Gb,reduceCtorEq] at h
 case add=>
  split at h
  ·rename_i q;simp only[Gb] at h;subst h
   refine⟨.string (s++s'),?_,?_⟩
   ·have h1:s.size=s.data.toList.length:=Array.length_toList.symm
    have p:s'.size=s'.data.toList.length:=Array.length_toList.symm
    have j:¬(((s.size+s'.size:Nat):Int)>IntKind.i64.max):=by
     simp only[IntKind.max,IntKind.signed,IntKind.bits,Gw];omega
    simp only[Go.binOp,Op.stringOp]
    rw[Gn j];rfl
   ·have:=aC.str (cx:=cx) (w:=w) (X:=X) (s++s')
    simpa using this
  ·simp at h
 all_goals subst h
 ·exact⟨.bool (decide (s.data.toList=s'.data.toList)),by simp only[Go.binOp,Op.stringOp,MN];rfl,.bool _⟩
 ·exact⟨.bool (!decide (s.data.toList=s'.data.toList)),by simp only[Go.binOp,Op.stringOp,MN];rfl,.bool _⟩
def wZ {o:BinOp} {x y:V} {u v:Value} {t:TypeId} {p q:Operand} {r:V} (hx:aJ cx w X S β α u x) (hy:aJ cx w X S β α v y) (h:xy o x y=some r) :
  ∃z,(do eqGuard o t p q u v;Go.binOp o t u v:Sem Value).run P w=.ok z w/\aC cx w X z r:=by
 unfold xy at h
 split at h
 ·rename_i k a k' b
  obtain rfl:=Jo hx
  obtain rfl:=Jo hy
  have hg:(eqGuard o t p q (.int k a) (.int k' b)).run P w=.ok () w:=by
   unfold eqGuard;cases o<;>rfl
  split at h
  ·rename_i hk;subst hk
   rw[Sem.run_bind,hg]
   exact RB h
  ·simp at h
 ·rename_i a b
  obtain⟨s,rfl,rfl⟩:=J5 hx
  obtain⟨s',rfl,rfl⟩:=J5 hy
  have hg:(eqGuard o t p q (.string s) (.string s')).run P w=.ok () w:=by
   unfold eqGuard;cases o<;>rfl
  rw[Sem.run_bind,hg]
  exact Td h
 ·simp at h
def SE {ne a b:Bool} {t:TypeId} {p q:Operand} (ht:P.underlying t=some .bool) :
  (do eqGuard (if ne then .neq else .eql) t p q (.bool a) (.bool b);Go.binOp (if ne then .neq else .eql) t (.bool a) (.bool b):Sem Value).run P w=.ok (.bool (ne ^^ (a == b))) w:=by
 have u:∀o,(eqGuard o t p q (.bool a) (.bool b)).run P w=.ok () w:=fun o=>by unfold eqGuard;cases o<;>rfl
 rw[Sem.run_bind,u]
 have j:(Op.equal t (.bool a) (.bool b)).run P w=.ok (a == b) w:=by
  have hm:Op.maxDepth=9999+1:=rfl;unfold Op.equal;rw[hm];unfold Op.equalIn;rw[Sem.run_bind,run_underlying ht w]
  rfl
 cases ne
 ·show (Go.binOp .eql t (.bool a) (.bool b)).run P w=_
  unfold Go.binOp
  simp only[Sem.run_bind,j];simp[Result.andThen]
 ·show (Go.binOp .neq t (.bool a) (.bool b)).run P w=_
  unfold Go.binOp
  simp only[Sem.run_bind,j];simp[Result.andThen]
def Us {o:BinOp} {x y:V} {u v:Value} {t:TypeId} {p q:Operand} {r:V} (D:aJ cx w X S β α u x) (E:aJ cx w X S β α v y) (h:tx o x y=some r) :
  ∃z,(do eqGuard o t p q u v;Go.binOp o t u v:Sem Value).run P w=.ok z w/\aC cx w X z r:=by
 unfold tx at h
 split at h
 ·rename_i k a k' b
  obtain rfl:=Jo D
  obtain rfl:=Jo E
  have B:(eqGuard o t p q (.int k a) (.int k' b)).run P w=.ok () w:=by
   unfold eqGuard;cases o<;>rfl
  rw[Sem.run_bind,B]
  split at h
  ·simp at h
  ·rename_i j
   cases o<;>simp only[Gb,reduceCtorEq] at h
   all_goals subst h
   ·exact⟨.int k (k.wrap (a*2^(min b.toNat k.bits))),by simp[Go.binOp,Op.shift,j,Result.andThen],.int _ _⟩
   ·exact⟨.int k (a.fdiv (2^(min b.toNat k.bits))),by simp[Go.binOp,Op.shift,j,Result.andThen],.int _ _⟩
 ·simp at h
def U0 {o:UnOp} {x:V} {u:Value} {r:V} (j:aJ cx w X S β α u x) (h:E6 o x=some r) :
  ∃z,(Op.unary o u).run P w=.ok z w/\aC cx w X z r:=by
 unfold E6 at h
 split at h
 ·obtain rfl:=JY j
  cases o<;>simp at h
  subst h;exact⟨_,rfl,.bool _⟩
 ·rename_i k n
  obtain rfl:=Jo j
  cases o<;>simp only[Gb,reduceCtorEq] at h
  ·subst h;exact⟨_,by simp only[Op.unary,Op.intArith];rfl,.int _ _⟩
  ·subst h;exact⟨_,by simp only[Op.unary,Op.intBits];rfl,.int _ _⟩
 ·simp at h
def Rb {s d:TypeId} {k:IntKind} {n:Int} {k':IntKind} {j:TypeDesc} (p:P.underlying s=some j) (o:P.underlying d=some (.int k)) :
  (Go.convert s d (.int k' n)).run P w=.ok (.int k (k.wrap n)) w:=by
 unfold Go.convert
 simp[run_underlying p,run_underlying o,Result.andThen,Conv.intToInt]
def Rc {s d:TypeId} {n:ByteArray} (o:P.underlying s=some .string) (j:P.underlying d=some .string) :
  (Go.convert s d (.string n)).run P w=.ok (.string n) w:=by
 unfold Go.convert
 simp[run_underlying o,run_underlying j,Result.andThen]
def JW {t:TypeId} {i:TypeInfo} (h:P.info? t=some i) (w:World):(typeInfo t).run P w=.ok i w:=by
 simp[typeInfo,h]
def Jf {t:TypeId} {n:Nat} (h:dz P t=some n) (w:World):(Go.sizeOf t).run P w=.ok n w:=by
 unfold dz at h;cases hi:P.info? t with
 |none=>simp[hi] at h
 |some i=>
  simp only[hi,Option.map_some,Gb] at h;unfold Go.sizeOf;simp[JW hi,h,Result.andThen]
def FC (t:TypeId) {d:TypeDesc} (h:P.underlying t=some d) (w:World):(isAgg t).run P w=.ok (Js P t) w:=by
 unfold isAgg Js;rw[Sem.run_bind,run_underlying h w,h];cases d<;>rfl
theorem Jv (b o n:Nat):(⟨b,o,none⟩:Addr).add n=⟨b,o+n,none⟩:=by
 unfold Addr.add;split
 ·rename_i h;subst h;rfl
 ·rfl
def TK {s:TypeId} {i off:Nat} {x:V} {u:Value} {r:V} (q:aJ cx w X S β α u x) (p:ii P s i off=true) (h:xz off x=some r) :
  ∃z,(Instr.fieldAt s u i).run P w=.ok z w/\aJ cx w X S β α z r:=by
 unfold ii at p
 split at p<;>try (simp at p;done)
 rename_i M hu
 split at p<;>try (simp at p;done)
 rename_i f y
 split at p<;>try (simp at p;done)
 rename_i n L
 simp only[Ge,G9,bne_iff_ne,ne_eq] at p
 obtain⟨rfl,B⟩:=p
 have key:∀b o,(Instr.fieldAt s (.pointer (some ⟨b,o,none⟩)) i).run P w=.ok (.pointer (some ⟨b,o+f.offset,none⟩)) w:=by
  intro b o;unfold Instr.fieldAt;rw[Sem.run_bind,run_underlying hu w];simp only[Result.andThen,y,Instr.sureAddr,Sem.run_bind,Sem.run_pure,fieldPlace,Jf L w,Gn B,Jv]
 unfold xz at h
 split at h<;>simp only[Gb,reduceCtorEq] at h<;>subst h
 ·obtain⟨h1,rfl⟩:=q
  exact⟨_,key _ _,h1,rfl⟩
 ·obtain⟨z,rows,f',b,o,aN,D,rfl,q⟩:=q
  exact⟨_,key _ _,z,rows,f',b,o,aN,D,by rw[lU],q⟩
 ·simp only[aJ] at q
  obtain⟨b,o,c,e,fr,rfl,H,E,hw,N,I⟩:=DA q
  refine⟨_,key _ _,Dv H E hw (by omega) (fun j J=>?_)⟩
  rw[Nat.add_sub_add_right]
  exact I j J
def MQ {t e:TypeId} {z:Nat} (hu:P.underlying t=some (.slice e)) (hz:dz P e=some z) (b o:Nat) (k:IntKind) (n:Int) (len aN:Nat)
  (h0:0<=n) (h1:n<(len:Int)):(Instr.indexAt t (.slice (some ⟨b,o,none⟩) len aN) (.int k n)).run P w=.ok (.pointer (some ⟨b,o+n.toNat*z,none⟩)) w:=by
 unfold Instr.indexAt
 simp only[asIntOf,Sem.run_bind,Result.andThen,run_underlying hu w,pure_bind]
 rw[Gt ⟨h0,h1⟩]
 simp only[Sem.run_bind,Jf hz w,Result.andThen,Sem.run_pure,Jv]
def TR {t e:TypeId} {z:Nat} {x i:V} {u v:Value} {r:V} (ht:Jy P t=some e) (hz:dz P e=some z)
  (H:aJ cx w X S β α u x) (hi:aJ cx w X S β α v i) (h:kj z x i=some r) :
  ∃q,(Instr.indexAt t u v).run P w=.ok q w/\aJ cx w X S β α q r:=by
 have hu:P.underlying t=some (.slice e):=by
  unfold Jy at ht;split at ht<;>simp_all
 unfold kj at h
 split at h
 ·rename_i z' rows k n
  obtain rfl:=Jo hi
  split at h
  ·rename_i D
   obtain⟨rfl,h0⟩:=D
   cases B:rows[n.toNat]? with
   |none=>simp[B] at h
   |some jQ=>
    simp only[B,Option.map_some,Gb] at h
    subst h
    simp only[aJ] at H
    have y:n.toNat<rows.length:=by
     rcases GF n.toNat rows.length with h|h
     ·exact h
     ·simp[List.getElem?_eq_none h] at B
    have p:gr rows n.toNat=jQ:=by simp[gr,B]
    rcases JB H with⟨⟨U,rfl⟩,rfl⟩|⟨b,o,aN,c,W,fr,rfl,R,O,hw,J,I,E⟩
    ·simp at y
    ·refine⟨_,MQ hu hz b o k n _ _ h0 (by omega),?_⟩
     have T:jQ.length=z':=by have:=I n.toNat y;rwa [p] at this
     refine Dv R O hw (GY _) (fun j Y=>?_)
     have:=E n.toNat j y (by omega)
     rwa [p] at this
  ·simp at h
 ·rename_i s z' m k n
  obtain rfl:=Jo hi
  split at h
  ·rename_i D
   obtain⟨rfl,h0,h1⟩:=D
   simp only[Gb] at h
   subst h
   obtain⟨rows,f,a,aN,N,rfl,Q,M⟩:=H
   obtain⟨b,o,rfl⟩:=Q (by omega)
   refine⟨_,MQ hu hz b o k n _ _ h0 h1,z',rows,f,b,o,aN,N,by simp,fun L=>⟨(M L).1,fun e=>((M L).2 e).symm⟩⟩
  ·simp at h
 ·simp at h
def R6 {t e:TypeId} {z n:Nat} {x i:V} {u v:Value} {r:V} (hu:P.underlying t=some (.array n e)) (hz:dz P e=some z)
  (B:aJ cx w X S β α u x) (hi:aJ cx w X S β α v i) (h:vG z n x i=some r) :
  ∃q,(Instr.indexAt t u v).run P w=.ok q w/\aJ cx w X S β α q r:=by
 have key:∀b o k (m:Int),0<=m->m<(n:Int)->(Instr.indexAt t (.pointer (some ⟨b,o,none⟩)) (.int k m)).run P w=.ok (.pointer (some ⟨b,o+m.toNat*z,none⟩)) w:=by
  intro b o k m h0 h1;unfold Instr.indexAt;simp only[asIntOf,Sem.run_bind,Result.andThen,run_underlying hu w,pure_bind,Instr.sureAddr];rw[Gt ⟨h0,h1⟩];simp only[Sem.run_bind,Jf hz w,Result.andThen,Sem.run_pure,Jv]
 unfold vG at h
 split at h
 ·obtain rfl:=Jo hi
  split at h
  ·rename_i p
   simp only[Gb] at h
   subst h
   obtain⟨h1,rfl⟩:=B
   exact⟨_,key _ _ _ _ p.1 p.2,h1,rfl⟩
  ·simp at h
 ·obtain rfl:=Jo hi
  split at h
  ·rename_i p
   simp only[Gb] at h
   subst h
   simp only[aJ] at B
   obtain⟨b,o,c,e,fr,rfl,E,D,hw,I,y⟩:=DA B
   refine⟨_,key _ _ _ _ p.1 p.2,Dv E D hw (by omega) (fun j H=>?_)⟩
   rw[Nat.add_sub_add_right]
   exact y j H
  ·simp at h
 ·simp at h
def TV {t:TypeId} {x i:V} {u v:Value} {r:V} (hu:P.underlying t=some .string)
  (y:aJ cx w X S β α u x) (hi:aJ cx w X S β α v i) (h:tQ x i=some r) :
  ∃q,(Instr.index t u v).run P w=.ok q w/\aC cx w X q r:=by
 unfold tQ at h
 split at h
 ·rename_i l k n
  obtain rfl:=Jo hi
  obtain⟨s,rfl,rfl⟩:=J5 y
  split at h
  ·rename_i h0
   cases o:s.data.toList[n.toNat]? with
   |none=>simp[o] at h
   |some b=>
    simp only[o,Option.map_some,Gb] at h
    subst h
    refine⟨.int .u8 b.toNat,?_,.int _ _⟩
    have p:s[n.toNat]?=some b:=by
     have j:n.toNat<s.size:=by
      rcases GF n.toNat s.data.toList.length with h'|h'
      ·rwa [Array.length_toList] at h'
      ·simp[List.getElem?_eq_none h'] at o
     rw[ByteArray.getElem?_lt' s _ j,<-o];have:s.data.toList[n.toNat]?=some (s.data[n.toNat]'j):=by simp
     rw[this];rfl
    unfold Instr.index
    simp only[asIntOf,Sem.run_bind,Result.andThen,run_underlying hu w,pure_bind,Gt h0,p,Sem.run_pure]
  ·simp at h
 ·simp at h
def T3 {D:Bool} {t ty:TypeId} {x:V} {u:Value} {r:V} (hu:AN P D t=true)
  (y:aJ cx w X S β α u x) (h:xA D x=some r) :
  ∃q,(Builtin.len_ #[t] ty #[u]).run P w=.ok q w/\aC cx w X q r:=by
 have j:∀a n aN,D=false->(Builtin.len_ #[t] ty #[.slice a n aN]).run P w=.ok (.int .i64 n) w:=by
  intro a n aN z;subst z;unfold AN at hu;split at hu<;>simp at hu;rename_i B p
  ·simp at B
  ·rename_i e _ p;unfold Builtin.len_;simp only[List.getElem?_toArray,List.getElem?_cons_zero,Sem.run_bind,run_underlying p w,Result.andThen]
   rfl
 unfold xA at h
 split at h<;>simp only[Gb,reduceCtorEq] at h<;>subst h
 ·simp only[aJ] at y
  rcases JB y with⟨⟨E,rfl⟩,rfl⟩|⟨b,o,aN,c,H,fr,rfl,-⟩
  ·exact⟨_,j _ _ _ rfl,.int _ _⟩
  ·exact⟨_,j _ _ _ rfl,.int _ _⟩
 ·obtain⟨s,rfl,rfl⟩:=J5 y
  have p:P.underlying t=some .string:=by
   unfold AN at hu;split at hu<;>simp_all
  refine⟨.int .i64 s.size,?_,?_⟩
  ·unfold Builtin.len_
   simp only[List.getElem?_toArray,List.getElem?_cons_zero,Sem.run_bind,run_underlying p w,Result.andThen]
   rfl
  ·have:s.size=s.data.toList.length:=Array.length_toList.symm
   rw[this];exact .int _ _
 ·obtain⟨rows,f,a,aN,I,rfl,-⟩:=y
  exact⟨_,j _ _ _ rfl,.int _ _⟩
def eb {x:Option V} {v:Option Value} {d n:Nat} (h:dp x d=some n)
  (hx:(v=none/\x=none)\/∃a b,v=some a/\x=some b/\aJ cx w X S β α a b) :
  (v=none/\n=d)\/∃k,v=some (.int k n):=by
 rcases hx with⟨rfl,rfl⟩|⟨a,b,rfl,rfl,hr⟩
 ·simp[dp] at h;exact .inl ⟨rfl,h.symm⟩
 ·unfold dp at h
  split at h
  ·simp at *
  ·rename_i k m hb
   simp only[Gb] at hb
   subst hb
   obtain rfl:=Jo hr
   split at h
   ·rename_i h0
    simp only[Gb] at h
    subst h
    exact .inr ⟨_,by rw[Int.toNat_of_nonneg h0]⟩
   ·simp at h
  ·simp at h
def JE {k:IntKind} {n y:Nat} {code:BoundsCode} (h:n<=y):(Instr.sliceBound (.int k n) y code).run P w=.ok n w:=by
 unfold Instr.sliceBound;simp only[asIntOf,pure_bind];rw[Gt ⟨by omega,by omega⟩];simp
def JN {j:Bool} {len aN h l:Nat} {lo hi:Option Value} (p:(hi=none/\h=len)\/∃k,hi=some (.int k h)) (q:(lo=none/\l=0)\/∃k,lo=some (.int k l))
  (h1:l<=h) (o:h<=aN):(Instr.sliceBounds j len aN lo hi none).run P w=.ok (l,h,aN) w:=by
 unfold Instr.sliceBounds
 rcases p with⟨rfl,rfl⟩|⟨k,rfl⟩<;>rcases q with⟨rfl,rfl⟩|⟨k',rfl⟩
 ·simp
 ·simp[JE h1,Result.andThen]
 ·simp[JE o,Result.andThen]
 ·simp[JE o,JE h1,Result.andThen]
def Uv {st:Bool} {t:TypeId} {z:Nat} {x:V} {u:Value} {lo hi:Option V} {I E:Option Value} {r:V}
  (ht:AS P st z t=true)
  (Z:aJ cx w X S β α u x)
  (H:(I=none/\lo=none)\/∃a b,I=some a/\lo=some b/\aJ cx w X S β α a b)
  (D:(E=none/\hi=none)\/∃a b,E=some a/\hi=some b/\aJ cx w X S β α a b)
  (h:uD st z x lo hi=some r):∃q,(Instr.sliceAt t u I E none).run P w=.ok q w/\aC cx w X q r:=by
 unfold uD at h
 split at h
 ·rename_i l
  obtain⟨s,rfl,rfl⟩:=J5 Z
  have J:P.underlying t=some .string:=by
   unfold AS at ht;split at ht<;>simp_all
  simp only[Gg] at h
  obtain⟨p,h1,ln,R,y⟩:=h
  split at y<;>simp only[Gb,reduceCtorEq] at y
  rename_i L
  subst y
  have Y:s.data.toList.length=s.size:=Array.length_toList
  rw[Y] at h1 L
  refine⟨.string (s.extract ln p),?_,?_⟩
  ·unfold Instr.sliceAt Instr.slice
   simp only[Sem.run_bind,run_underlying J w,Result.andThen,Option.isSome_none,Gl,Gv]
   simp only[JN (eb h1 D) (eb R H) L.1 L.2,Sem.run_pure]
  ·have:=aC.str (cx:=cx) (w:=w) (X:=X) (s.extract ln p)
   have e:(s.extract ln p).data.toList=(s.data.toList.take p).drop ln:=by
    simp[ByteArray.data_extract,Array.toList_extract,List.extract_eq_take_drop,List.drop_take]
   rwa [e] at this
 ·rename_i T rows
  have J:∃e,P.underlying t=some (.slice e)/\dz P e=some z:=by
   unfold AS at ht;split at ht<;>simp_all
  obtain⟨e,J,hz⟩:=J
  simp only[Gg] at h
  obtain⟨p,h1,ln,R,y⟩:=h
  split at y<;>simp only[Gb,reduceCtorEq] at y
  rename_i L
  obtain⟨rfl,M,B⟩:=L
  subst y
  simp only[aJ] at Z
  rcases JB Z with⟨⟨a0,rfl⟩,rfl⟩|⟨b,o,aN,c,e',fr,rfl,hb,hX,hw,N,aa,U⟩
  ·simp only[List.length_nil,Nat.le_zero] at B
   subst B
   obtain rfl:ln=0:=by omega
   refine⟨.slice a0 0 0,?_,by simpa using aC.nilslice _ _⟩
   unfold Instr.sliceAt Instr.slice
   simp only[Sem.run_bind,run_underlying J w,Result.andThen]
   simp only[JN (len:=0) (aN:=0) (eb h1 D) (eb R H) M (GC _),Jf hz w,Sem.run_pure]
   cases a0<;>simp
  ·refine⟨.slice (some ⟨b,if aN=ln then o else o+ln*T,none⟩) (p-ln) (aN-ln),?_,?_⟩
   ·unfold Instr.sliceAt Instr.slice
    simp only[Sem.run_bind,run_underlying J w,Result.andThen]
    simp only[JN (eb h1 D) (eb R H) M (GI B N),Jf hz w,Sem.run_pure]
    by_cases O:aN=ln
    ·simp[O]
    ·simp[O,Jv]
   ·have Q:((rows.take p).drop ln).length=p-ln:=by simp;omega
    refine Ds hb hX hw (by omega) (fun i hi=>?_) (fun i j hi hj=>?_) Q
    ·have W:gr ((rows.take p).drop ln) i=gr rows (ln+i):=by
      simp only[gr,List.getD_eq_getElem?_getD,List.getElem?_drop];rw[List.getElem?_take_of_lt (by omega)]
     rw[W];exact aa _ (by omega)
    ·have W:gr ((rows.take p).drop ln) i=gr rows (ln+i):=by
      simp only[gr,List.getD_eq_getElem?_getD,List.getElem?_drop];rw[List.getElem?_take_of_lt (by omega)]
     rw[W]
     have:=U (ln+i) j (by omega) hj
     rw[Gn (by omega)]
     rw[show o+ln*T+i*T+j=o+(ln+i)*T+j from by rw[jn];omega]
     exact this
 ·simp at h
def TJ {x:V} {u:Value} {i:Nat} {r:V} (z:aJ cx w X S β α u x) (h:DK i x=some r) :
  ∃q,(Instr.extract u i).run P w=.ok q w/\aJ cx w X S β α q r:=by
 unfold DK at h
 split at h
 ·rename_i vs
  obtain⟨cs,rfl,B,p⟩:=z
  have hi:i<vs.length:=by
   rcases GF i vs.length with h'|h'
   ·exact h'
   ·simp[List.getElem?_eq_none h'] at h
  have⟨q,y,o⟩:=p i hi
  have j:gv vs i=r:=by simp[gv,h]
  rw[j] at o
  refine⟨q,by simp[Instr.extract,y],?_⟩
  cases r<;>first|exact o|exact .of_data o
 ·simp at h
def Up {mx:Bool} {k:IntKind} {a b:Int} {ts:Array TypeId} {ty:TypeId} :
  ((if mx then Builtin.max_ else Builtin.min_) ts ty #[.int k a,.int k b]).run P w=.ok (.int k (if (if mx then a<b else b<a) then b else a)) w:=by
 cases mx
 ·simp[Builtin.min_,Builtin.min2]
 ·simp[Builtin.max_,Builtin.max2]
end
structure ez (w w':World):Prop where
 size:w.heap.size<=w'.heap.size
 block:∀b,b<w.heap.size->w'.heap[b]?=w.heap[b]?
def ez.refl (w:World):ez w w:=⟨GC _,fun _ _=>rfl⟩
def ez.trans {a b c:World} (h:ez a b) (k:ez b c):ez a c:=
 ⟨GI h.size k.size,fun i hi=>(k.block i (G6 hi h.size)).trans (h.block i hi)⟩
def ez.of_below {w w':World} (h:Below w.heap.size w w'):ez w w':=⟨h.size,h.block⟩
def JG {w:World} {b:Nat} {o:Obj} (h:w.heap[b]?=some o):b<w.heap.size:=by
 rcases GF b w.heap.size with h'|h'
 ·exact h'
 ·simp[Array.getElem?_eq_none h'] at h
abbrev aQ (X M:Nat->Prop):Nat->Prop:=fun b=>X b\/M b
section
variable {cx:Cx} {w w':World} {Y Y':Nat->Prop} {S S':St} {β β':Nat->Nat} {α α':Nat->Value}
def dK (S S':St) (α α':Nat->Value):Prop:=∀s z rows f,S.A s=some (z,rows,f)->
 ∃rows' f',S'.A s=some (z,rows',f')/\(f'≠.dead->f≠.dead/\rows.length<=rows'.length/\(rows'.length=rows.length->α' s=α s))
def dK.refl (S:St) (α:Nat->Value):dK S S α α:=fun s z rows f h=>⟨rows,f,h,fun h=>⟨h,GC _,fun _=>rfl⟩⟩
def fo.tr (u:dK S S' α α') {v s z n} (h:fo S α v s z n):fo S' α' v s z n:=by
 obtain⟨rows,f,a,aN,H,rfl,y,E⟩:=h;have⟨rows',f',j,o⟩:=u s z rows f H;refine⟨rows',f',a,aN,j,rfl,y,fun D=>?_⟩;have⟨h1,I,p⟩:=o D;have⟨J,q⟩:=E h1;exact⟨by omega,fun e=>by rw[p (by omega)];exact q (by omega)⟩
def cK.tr (o:∀u x,aC cx w Y u x->aC cx w' Y' u x) (j:dK S S' α α') {v:Value} {x:V} (h:cK cx w Y S α v x):cK cx w' Y' S' α' v x:=by
 cases x<;>first|exact o _ _ h|exact fo.tr j h
def aJ.tr (hD:∀u x,aC cx w Y u x->aC cx w' Y' u x) (hA:dK S S' α α') (hM:∀s,(S.μ s).isSome->(S'.μ s).isSome/\β' s=β s)
  {v:Value} {x:V} (h:aJ cx w Y S β α v x):aJ cx w' Y' S' β' α' v x:=by
 cases x with
 |own s z n=>exact fo.tr hA h
 |lref s o=>obtain⟨h1,rfl⟩:=h;have⟨h2,h3⟩:=hM s h1;exact⟨h2,by rw[h3]⟩
 |eref s i o m=>
  obtain⟨z,rows,f,b,o',aN,hs,rfl,ho⟩:=h
  have⟨rows',f',hs',h'⟩:=hA s z rows f hs
  refine⟨z,rows',f',b,o',aN,hs',rfl,fun hf=>?_⟩
  have⟨h1,h2,h3⟩:=h' hf
  have⟨h4,h5⟩:=ho h1
  exact⟨by omega,fun e=>by rw[h3 (by omega)];exact h5 (by omega)⟩
 |agg vs=>
  obtain⟨cs,rfl,hl,hc⟩:=h
  refine⟨cs,rfl,hl,fun i hi=>?_⟩
  have⟨u,h1,h2,h3⟩:=hc i hi
  exact⟨u,h1,h2,h3.tr hD hA⟩
 |tuple vs=>
  obtain⟨cs,rfl,hl,hc⟩:=h
  refine⟨cs,rfl,hl,fun i hi=>?_⟩
  have⟨u,h1,h3⟩:=hc i hi
  exact⟨u,h1,h3.tr hD hA⟩
 |_=>exact hD _ _ h
def bH.tr {v:Value} {z:Nat} {rows:List (List V)} (h:bH cx w Y v z rows) (E:∀u x,aC cx w Y u x->aC cx w' Y' u x)
  (H:∀b,hdr v=some b->w'.heap[b]?=w.heap[b]?):bH cx w' Y' v z rows:=by
 refine⟨h.len,?_⟩
 rcases h.at_ with h|⟨b,o,aN,c,e,rfl,h1,q,y,D⟩
 ·exact .inl h
 ·refine .inr ⟨b,o,aN,c,e,rfl,(H b rfl).trans h1,q,y,fun i j hi I=>?_⟩
  have⟨u,a,p,r⟩:=D i j hi I
  exact⟨u,a,p,E _ _ r⟩
def bH.lt {v:Value} {z:Nat} {rows:List (List V)} (h:bH cx w Y v z rows) {b:Nat} (j:hdr v=some b):b<w.heap.size:=by
 rcases h.at_ with⟨rfl,-⟩|⟨p,o,aN,c,e,rfl,h1,-⟩
 ·simp[hdr] at j
 ·simp only[hdr,Gb] at j;subst j;exact JG h1
end
section
variable {cx:Cx} {B:Nat->Prop} {X:Nat->Prop} {S:St} {w w':World} {β:Nat->Nat} {α:Nat->Value} {M M':Nat->Prop}
def aW.varLt (h:aW cx B X S w β α M) {s:Nat} {cs:List V} {f:Bool} (j:S.μ s=some (cs,f)):β s<w.heap.size:=by
 have⟨_,_,_,c,e,h1,_⟩:=h.var s cs f j;exact JG h1
def J1 (o:ez w w') (q:∀b,M' b->M b\/w.heap.size<=b) {u:Value} {x:V} (h:aC cx w (aQ X M) u x):aC cx w' (aQ X M') u x:=
 h.mono o.size (fun b j _=>o.block b j) (fun b j p=>by
  rintro (y|hM)
  ·exact p (.inl y)
  ·rcases q b hM with h|h
   ·exact p (.inr h)
   ·omega)
def aW.grow (h:aW cx B X S w β α M) (hg:ez w w') (h1:∀b,M b->M' b) (h2:∀b,M' b->M b\/(w.heap.size<=b/\b<w'.heap.size)) :
  aW cx B X S w' β α M':=by
 have hD:∀u x,aC cx w (aQ X M) u x->aC cx w' (aQ X M') u x:=fun u x hr=>J1 hg (fun b hb=>(h2 b hb).imp id (·.1)) hr
 refine⟨h.xb,⟨h.glob.1,cx.Gst w w' h.glob.2 fun b hb=>hg.block b (h.size b (h.glob.1 b hb))⟩,fun b hb=>G6 (h.size b hb) hg.size,fun b hb=>?_,fun s cs f hs=>?_,h.varInj,fun s z rows f hs hf=>?_,h.arrInj,h.arrVar⟩
 ·rcases h2 b hb with hb|hb
  ·exact⟨(h.m b hb).1,G6 (h.m b hb).2 hg.size⟩
  ·exact⟨fun hB=>by have:=h.size b hB;omega,hb.2⟩
 ·have hlt:=h.varLt hs
  have⟨a1,a2,a3,c,e,a4,a5,a6⟩:=h.var s cs f hs
  refine⟨a1,fun hf=>h1 _ (a2 hf),fun hf=>⟨fun hm=>?_,(a3 hf).2⟩,c,e,(hg.block _ hlt).trans a4,a5,fun i hi=>?_⟩
  ·rcases h2 _ hm with h'|h'
   ·exact (a3 hf).1 h'
   ·omega
  ·have⟨u,b1,b2,b3⟩:=a6 i hi
   exact⟨u,b1,b2,b3.tr hD (dK.refl _ _)⟩
 ·have⟨a1,a2⟩:=h.arr s z rows f hs hf
  refine⟨a1.tr hD (fun b hb=>hg.block _ (a1.lt hb)),fun b hb=>⟨(a2 b hb).1,fun hl=>h1 _ ((a2 b hb).2.1 hl),fun hl hm=>?_⟩⟩
  rcases h2 _ hm with h'|h'
  ·exact (a2 b hb).2.2 hl h'
  ·have:=a1.lt hb;omega
def aW.addVar (h:aW cx B X S w β α M) {d b0:Nat} {cs:List V} (hd:S.μ d=none) (hM:M b0)
  {c:Array Value} {e:TypeId} (hw:w.heap[b0]?=some (.cells c e (0,0))) (hc:c.size=cs.length)
  (hcs:∀i,i<cs.length->∃u,c[i]?=some u/\u.oneCell'=true/\cK cx w (aQ X M) S α u (gv cs i))
  (hv:∀s,(S.μ s).isSome->β s≠b0) (ha:∀s z rows f,S.A s=some (z,rows,f)->f≠.dead->hdr (α s)≠some b0) :
  aW cx B X {S with μ:=aI S.μ d (some (cs,false))} w (aI β d b0) α M:=by
 have hne:∀s,(S.μ s).isSome->s≠d:=fun s hs e=>by rw[e,hd] at hs;simp at hs
 refine⟨h.xb,h.glob,h.size,h.m,fun s du f hs=>?_,fun s s' hs hs' he=>?_,h.arr,h.arrInj,fun s z rows f s' hs hf hs'=>?_⟩
 ·by_cases hsd:s=d
  ·subst hsd
   simp only[aI,Gw,Gb,Gr] at hs ⊢
   obtain⟨rfl,rfl⟩:=hs
   exact⟨(h.m b0 hM).1,fun _=>hM,fun hf=>by simp at hf,c,e,hw,hc,hcs⟩
  ·simp only[aI,Gn hsd] at hs ⊢
   exact h.var s du f hs
 ·simp only[aI] at hs hs' he
  by_cases h1:s=d<;>by_cases h2:s'=d
  ·rw[h1,h2]
  ·rw[Gt h1,Gn h2] at he;rw[Gn h2] at hs';exact absurd he.symm (hv _ hs')
  ·rw[Gn h1,Gt h2] at he;rw[Gn h1] at hs;exact absurd he (hv _ hs)
  ·rw[Gn h1,Gn h2] at he;rw[Gn h1] at hs;rw[Gn h2] at hs';exact h.varInj _ _ hs hs' he
 ·simp only[aI] at hs' ⊢
  split
  ·exact ha s z rows f hs hf
  ·rename_i hn;rw[Gn hn] at hs';exact h.arrVar s z rows f s' hs hf hs'
def aW.addArr (h:aW cx B X S w β α M) {d z0:Nat} {rows0:List (List V)} {v0:Value} (hd:S.A d=none)
  (ha:bH cx w (aQ X M) v0 z0 rows0) (hM:∀b,hdr v0=some b->M b)
  (hv:∀s b,(S.μ s).isSome->hdr v0=some b->β s≠b) (haa:∀s z rows f,S.A s=some (z,rows,f)->f≠.dead->∀b,hdr v0=some b->hdr (α s)≠some b) :
  aW cx B X {S with A:=aI S.A d (some (z0,rows0,.live))} w β (aI α d v0) M:=by
 have hT:dK S {S with A:=aI S.A d (some (z0,rows0,.live))} α (aI α d v0):=fun s z rows f hs=>by
  have:s≠d:=fun e=>by rw[e,hd] at hs;simp at hs
  exact⟨rows,f,by simp[aI,this,hs],fun hf=>⟨hf,GC _,fun _=>by simp[aI,this]⟩⟩
 refine⟨h.xb,h.glob,h.size,h.m,fun s du f hs=>?_,h.varInj,fun s z rows f hs hf=>?_,fun s s' z rows f z' rows' f' hs hf hs' hf' b hb dy=>?_,fun s z rows f s' hs hf hs'=>?_⟩
 ·have⟨a1,a2,a3,c,e,a4,a5,a6⟩:=h.var s du f hs
  exact⟨a1,a2,a3,c,e,a4,a5,fun i hi=>by have⟨u,b1,b2,b3⟩:=a6 i hi;exact⟨u,b1,b2,b3.tr (fun _ _ h=>h) hT⟩⟩
 ·by_cases hsd:s=d
  ·subst hsd
   simp only[aI,Gw,Gb,Gr] at hs ⊢
   obtain⟨rfl,rfl,rfl⟩:=hs
   exact⟨ha,fun b hb=>⟨(h.m b (hM b hb)).1,fun _=>hM b hb,fun hf=>by simp at hf⟩⟩
  ·simp only[aI,Gn hsd] at hs ⊢
   exact h.arr s z rows f hs hf
 ·simp only[aI] at hs hs' hb dy
  by_cases h1:s=d<;>by_cases h2:s'=d
  ·rw[h1,h2]
  ·rw[Gt h1] at hb;rw[Gn h2] at dy hs';exact absurd dy (haa s' z' rows' f' hs' hf' b hb)
  ·rw[Gn h1] at hb hs;rw[Gt h2] at dy;exact absurd hb (haa s z rows f hs hf b dy)
  ·rw[Gn h1] at hb hs;rw[Gn h2] at dy hs';exact h.arrInj s s' z rows f z' rows' f' hs hf hs' hf' b hb dy
 ·simp only[aI] at hs ⊢
  split
  ·intro hb;exact hv s' _ hs' hb rfl
  ·rename_i hn;rw[Gn hn] at hs;exact h.arrVar s z rows f s' hs hf hs'
structure lI (b0:Nat) (w w':World):Prop where
 size:w'.heap.size=w.heap.size
 block:∀b,b≠b0->w'.heap[b]?=w.heap[b]?
def vJ {b0:Nat} (j:lI b0 w w') (o:M b0) {u:Value} {x:V} (h:aC cx w (aQ X M) u x):aC cx w' (aQ X M) u x:=
 h.mono (by rw[j.size];exact GC _) (fun b q p=>j.block b (fun e=>p (.inr (e▸o)))) (fun _ _ h=>h)
def aW.setVar (h:aW cx B X S w β α M) {s:Nat} {cs du:List V} (hs:S.μ s=some (cs,false)) (hg:lI (β s) w w')
  {c:Array Value} {e:TypeId} (hw:w'.heap[β s]?=some (.cells c e (0,0))) (hc:c.size=du.length)
  (hcs:∀i,i<du.length->∃u,c[i]?=some u/\u.oneCell'=true/\cK cx w (aQ X M) S α u (gv du i)) :
  aW cx B X {S with μ:=aI S.μ s (some (du,false))} w' β α M:=by
 have hM:M (β s):=(h.var s cs false hs).2.1 rfl
 have hD:∀u x,aC cx w (aQ X M) u x->aC cx w' (aQ X M) u x:=fun u x hr=>vJ hg hM hr
 have hT:dK S {S with μ:=aI S.μ s (some (du,false))} α α:=dK.refl S α
 have hi:∀t,((aI S.μ s (some (du,false))) t).isSome->(S.μ t).isSome:=fun t ht=>by
  by_cases e:t=s
  ·rw[e,hs];rfl
  ·simpa [aI,e] using ht
 refine⟨h.xb,⟨h.glob.1,cx.Gst w w' h.glob.2 fun b hb=>hg.block b (fun e=>(h.m _ hM).1 (e▸h.glob.1 b hb))⟩,by rw[hg.size];exact h.size,fun b hb=>by rw[hg.size];exact h.m b hb,fun t ct f ht=>?_,fun t t' ht ht' he=>h.varInj _ _ (hi _ ht) (hi _ ht') he,fun t z rows f ht hf=>?_,h.arrInj,fun t z rows f t' ht hf ht'=>h.arrVar t z rows f t' ht hf (hi _ ht')⟩
 ·by_cases e':t=s
  ·subst e'
   simp only[aI,Gw,Gb,Gr] at ht
   obtain⟨rfl,rfl⟩:=ht
   refine⟨(h.var t cs false hs).1,fun _=>hM,fun hf=>by simp at hf,c,e,hw,hc,fun i hi=>?_⟩
   have⟨u,b1,b2,b3⟩:=hcs i hi
   exact⟨u,b1,b2,b3.tr hD hT⟩
  ·simp only[aI,Gn e'] at ht
   have⟨a1,a2,a3,c',e'',a4,a5,a6⟩:=h.var t ct f ht
   refine⟨a1,a2,a3,c',e'',(hg.block _ (fun hb=>e' (h.varInj t s (by simp[ht]) (by simp[hs]) hb))).trans a4,a5,fun i hi=>?_⟩
   have⟨u,b1,b2,b3⟩:=a6 i hi
   exact⟨u,b1,b2,b3.tr hD hT⟩
 ·have⟨a1,a2⟩:=h.arr t z rows f ht hf
  exact⟨a1.tr hD (fun b hb=>hg.block b (fun e'=>h.arrVar t z rows f s ht hf (by simp[hs]) (e'▸hb))),a2⟩
def xv {s z:Nat} {rows rows':List (List V)} {v':Value} (u:S.A s=some (z,rows,.live)) (q:rows.length<=rows'.length)
  (o:rows'.length=rows.length->v'=α s):dK S {S with A:=aI S.A s (some (z,rows',.live))} α (aI α s v'):=by
 intro t y r f ht
 by_cases e:t=s
 ·subst e
  rw[u] at ht
  simp only[Gb,Gr] at ht
  obtain⟨rfl,rfl,rfl⟩:=ht
  exact⟨rows',.live,by simp[aI],fun _=>⟨by simp,q,fun j=>by simp[aI,o j]⟩⟩
 ·exact⟨r,f,by simp[aI,e,ht],fun p=>⟨p,GC _,fun _=>by simp[aI,e]⟩⟩
def aW.setArr (h:aW cx B X S w β α M) {s z:Nat} {rows rows':List (List V)} (hs:S.A s=some (z,rows,.live))
  {v':Value} (hw:(∀b,some b≠hdr (α s)->b<w.heap.size->w'.heap[b]?=w.heap[b]?)) (hsz:w.heap.size<=w'.heap.size)
  (hh:hdr v'=hdr (α s)\/∃b,hdr v'=some b/\w.heap.size<=b/\b<w'.heap.size)
  (hl:rows.length<=rows'.length) (he:rows'.length=rows.length->v'=α s)
  (h1:∀b,M b->M' b) (h2:∀b,M' b->M b\/(w.heap.size<=b/\b<w'.heap.size)) (h3:∀b,hdr v'=some b->M' b)
  (ha:bH cx w' (aQ X M') v' z rows') :
  aW cx B X {S with A:=aI S.A s (some (z,rows',.live))} w' β (aI α s v') M'/\(∀u x,aC cx w (aQ X M) u x->aC cx w' (aQ X M') u x):=by
 have⟨p1,p2⟩:=h.arr s z rows .live hs (by simp)
 have hD:∀u x,aC cx w (aQ X M) u x->aC cx w' (aQ X M') u x:=fun u x hr=>
  hr.mono hsz (fun b hb hn=>hw b (fun e=>hn (.inr ((p2 b e.symm).2.1 rfl))) hb) (fun b hb hn=>by
   rintro (hX|hM)
   ·exact hn (.inl hX)
   ·rcases h2 b hM with h|h
    ·exact hn (.inr h)
    ·omega)
 have hT:=xv (α:=α) (v':=v') hs hl he
 have keep:∀t,(S.μ t).isSome->some (β t)≠hdr (α s):=fun t ht e=>h.arrVar s z rows .live t hs (by simp) ht e.symm
 refine⟨⟨h.xb,⟨h.glob.1,cx.Gst w w' h.glob.2 fun b hb=>hw b (fun e=>(p2 b e.symm).1 (h.glob.1 b hb)) (h.size b (h.glob.1 b hb))⟩,fun b hb=>G6 (h.size b hb) hsz,fun b hb=>?_,fun t ct f ht=>?_,h.varInj,fun t z' r f ht hf=>?_,fun t t' z1 r1 f1 z2 r2 f2 ht hf ht' hf' b hb dy=>?_,fun t z' r f t' ht hf ht'=>?_⟩,hD⟩
 ·rcases h2 b hb with hb|hb
  ·exact⟨(h.m b hb).1,G6 (h.m b hb).2 hsz⟩
  ·exact⟨fun hB=>by have:=h.size b hB;omega,hb.2⟩
 ·have hlt:=h.varLt ht
  have⟨a1,a2,a3,c',e'',a4,a5,a6⟩:=h.var t ct f ht
  refine⟨a1,fun hf=>h1 _ (a2 hf),fun hf=>⟨fun hm=>?_,(a3 hf).2⟩,c',e'',(hw _ (keep t (GZ.2 ⟨_,ht⟩)) hlt).trans a4,a5,fun i hi=>?_⟩
  ·rcases h2 _ hm with h'|h'
   ·exact (a3 hf).1 h'
   ·omega
  ·have⟨u,b1,b2,b3⟩:=a6 i hi
   exact⟨u,b1,b2,b3.tr hD hT⟩
 ·by_cases e:t=s
  ·subst e
   simp only[aI,Gw,Gb,Gr] at ht ⊢
   obtain⟨rfl,rfl,rfl⟩:=ht
   refine⟨ha,fun b hb=>⟨?_,fun _=>h3 b hb,fun hf=>by simp at hf⟩⟩
   rcases hh with hh|⟨b',dy,h4,h5⟩
   ·rw[hh] at hb;exact (p2 b hb).1
   ·rw[dy] at hb;simp only[Gb] at hb;subst hb;exact fun hB=>by have:=h.size _ hB;omega
  ·simp only[aI,Gn e] at ht ⊢
   have⟨a1,a2⟩:=h.arr t z' r f ht hf
   refine⟨a1.tr hD (fun b hb=>hw b (fun e'=>e (h.arrInj t s z' r f z rows .live ht hf hs (by simp) b hb e'.symm)) (a1.lt hb)),
    fun b hb=>⟨(a2 b hb).1,fun hl=>h1 _ ((a2 b hb).2.1 hl),fun hl hm=>?_⟩⟩
   rcases h2 _ hm with h'|h'
   ·exact (a2 b hb).2.2 hl h'
   ·have:=a1.lt hb;omega
 ·simp only[aI] at ht ht' hb dy
  have ei:∀t z1 r1 f1,t≠s->S.A t=some (z1,r1,f1)->f1≠.dead->hdr (α t)=some b->hdr v'=some b->False:=fun t z1 r1 f1 hne ht hf hb hv=>by
   rcases hh with hh|⟨b',dy,h4,h5⟩
   ·rw[hh] at hv;exact hne (h.arrInj t s z1 r1 f1 z rows .live ht hf hs (by simp) b hb hv)
   ·rw[dy] at hv;simp only[Gb] at hv;subst hv;have:=(h.arr t z1 r1 f1 ht hf).1.lt hb;omega
  by_cases e1:t=s<;>by_cases e2:t'=s
  ·rw[e1,e2]
  ·rw[Gt e1] at hb;rw[Gn e2] at dy ht';exact (ei t' z2 r2 f2 e2 ht' hf' dy hb).elim
  ·rw[Gn e1] at hb ht;rw[Gt e2] at dy;exact (ei t z1 r1 f1 e1 ht hf hb dy).elim
  ·rw[Gn e1] at hb ht;rw[Gn e2] at dy ht';exact h.arrInj t t' z1 r1 f1 z2 r2 f2 ht hf ht' hf' b hb dy
 ·simp only[aI] at ht ⊢
  split
  ·intro hb
   rcases hh with hh|⟨b',dy,h4,h5⟩
   ·rw[hh] at hb;exact keep t' ht' hb.symm
   ·rw[dy] at hb;simp only[Gb] at hb
    have⟨x,hx⟩:=GZ.1 ht'
    have:=h.varLt (cs:=x.1) (f:=x.2) hx
    omega
  ·rename_i hn;rw[Gn hn] at ht;exact h.arrVar t z' r f t' ht hf ht'
def sd (h1:∀b,M' b->M b) {u:Value} {x:V} (h:aC cx w (aQ X M) u x):aC cx w (aQ X M') u x:=
 h.mono (GC _) (fun _ _ _=>rfl) (fun b _ j hm=>j (hm.imp id (h1 b)))
def aW.frzVar (h:aW cx B X S w β α M) {s:Nat} {cs:List V} {f:Bool} (hs:S.μ s=some (cs,f)) (hd:cs.all V.datC=true) :
  aW cx B X {S with μ:=aI S.μ s (some (cs,true))} w β α (fun b=>M b/\b≠β s):=by
 have hD:∀u x,aC cx w (aQ X M) u x->aC cx w (aQ X (fun b=>M b/\b≠β s)) u x:=fun u x hr=>sd (fun _ hb=>hb.1) hr
 have hT:dK S {S with μ:=aI S.μ s (some (cs,true))} α α:=dK.refl S α
 have hi:∀t,((aI S.μ s (some (cs,true))) t).isSome->(S.μ t).isSome:=fun t ht=>by
  by_cases e:t=s
  ·rw[e,hs];rfl
  ·simpa [aI,e] using ht
 refine⟨h.xb,h.glob,h.size,fun b hb=>h.m b hb.1,fun t ct f' ht=>?_,fun t t' ht ht' he=>h.varInj _ _ (hi _ ht) (hi _ ht') he,fun t z rows f' ht hf=>?_,h.arrInj,fun t z rows f t' ht hf ht'=>h.arrVar t z rows f t' ht hf (hi _ ht')⟩
 ·by_cases e':t=s
  ·subst e'
   simp only[aI,Gw,Gb,Gr] at ht
   obtain⟨rfl,rfl⟩:=ht
   have⟨a1,a2,a3,c',e'',a4,a5,a6⟩:=h.var t cs f hs
   refine⟨a1,fun hf=>by simp at hf,fun _=>⟨fun hm=>hm.2 rfl,hd⟩,c',e'',a4,a5,fun i hi=>?_⟩
   have⟨u,b1,b2,b3⟩:=a6 i hi
   exact⟨u,b1,b2,b3.tr hD hT⟩
  ·simp only[aI,Gn e'] at ht
   have⟨a1,a2,a3,c',e'',a4,a5,a6⟩:=h.var t ct f' ht
   refine⟨a1,fun hf=>⟨a2 hf,fun hb=>e' (h.varInj t s (by simp[ht]) (by simp[hs]) hb)⟩,fun hf=>⟨fun hm=>(a3 hf).1 hm.1,(a3 hf).2⟩,c',e'',a4,a5,fun i hi=>?_⟩
   have⟨u,b1,b2,b3⟩:=a6 i hi
   exact⟨u,b1,b2,b3.tr hD hT⟩
 ·have⟨a1,a2⟩:=h.arr t z rows f' ht hf
  exact⟨a1.tr hD (fun b hb=>rfl),fun b hb=>⟨(a2 b hb).1,fun hl=>⟨(a2 b hb).2.1 hl,fun e'=>h.arrVar t z rows f' s ht hf (by simp[hs]) (e'▸hb)⟩,fun hl hm=>(a2 b hb).2.2 hl hm.1⟩⟩
def aW.frzArr (h:aW cx B X S w β α M) {s z:Nat} {rows rows':List (List V)} {f f':Fz} (hs:S.A s=some (z,rows,f))
  (hf':(f'=.frz/\f=.live/\rows'=rows)\/f'=.dead) :
  aW cx B X {S with A:=aI S.A s (some (z,rows',f'))} w β α (fun b=>M b/\(f=.live->hdr (α s)≠some b)):=by
 have hD:∀u x,aC cx w (aQ X M) u x->aC cx w (aQ X (fun b=>M b/\(f=.live->hdr (α s)≠some b))) u x:=fun u x hr=>sd (fun _ hb=>hb.1) hr
 have hT:dK S {S with A:=aI S.A s (some (z,rows',f'))} α α:=by
  intro t z' r f1 ht;by_cases e:t=s
  ·subst e;rw[hs] at ht;simp only[Gb,Gr] at ht;obtain⟨rfl,rfl,rfl⟩:=ht;refine⟨rows',f',by simp[aI],fun hn=>?_⟩;rcases hf' with⟨h1,h2,h3⟩|h1
   ·exact⟨by simp[h2],by simp[h3],fun _=>rfl⟩
   ·exact absurd h1 hn
  ·exact⟨r,f1,by simp[aI,e,ht],fun hf=>⟨hf,GC _,fun _=>rfl⟩⟩
 have hi:∀t z' r f1,(aI S.A s (some (z,rows',f'))) t=some (z',r,f1)->f1≠.dead->∃f2,S.A t=some (z',r,f2)/\f2≠.dead/\(t≠s->f2=f1)/\(t=s->f2=.live/\f=.live/\f1=.frz):=by
  intro t z' r f1 ht hn;by_cases e:t=s
  ·subst e;simp only[aI,Gw,Gb,Gr] at ht;obtain⟨rfl,rfl,rfl⟩:=ht;rcases hf' with⟨h1,h2,h3⟩|h1
   ·subst h3;exact⟨f,hs,by simp[h2],fun h=>absurd rfl h,fun _=>⟨h2,h2,h1⟩⟩
   ·exact absurd h1 hn
  ·exact⟨f1,by simpa [aI,e] using ht,hn,fun _=>rfl,fun h=>absurd h e⟩
 refine⟨h.xb,h.glob,h.size,fun b hb=>h.m b hb.1,fun t ct f1 ht=>?_,h.varInj,fun t z' r f1 ht hf=>?_,fun t t' z1 r1 f1 z2 r2 f2 ht hf ht' hf' b hb dy=>?_,fun t z' r f1 t' ht hf ht'=>?_⟩
 ·have⟨a1,a2,a3,c',e'',a4,a5,a6⟩:=h.var t ct f1 ht
  refine⟨a1,fun hf=>⟨a2 hf,fun hl hb=>h.arrVar s z rows f t hs (by simp[hl]) (GZ.2 ⟨_,ht⟩) hb⟩,fun hf=>⟨fun hm=>(a3 hf).1 hm.1,(a3 hf).2⟩,c',e'',a4,a5,fun i hi=>?_⟩
  have⟨u,b1,b2,b3⟩:=a6 i hi
  exact⟨u,b1,b2,b3.tr hD hT⟩
 ·have⟨f2,h1,h2,h3,h4⟩:=hi t z' r f1 ht hf
  have⟨a1,a2⟩:=h.arr t z' r f2 h1 h2
  refine⟨a1.tr hD (fun _ _=>rfl),fun b hb=>⟨(a2 b hb).1,fun hl=>?_,fun hl hm=>?_⟩⟩
  ·by_cases e:t=s
   ·rw[(h4 e).2.2] at hl;simp at hl
   ·refine⟨(a2 b hb).2.1 ((h3 e).trans hl),fun yv dy=>?_⟩
    exact e (h.arrInj t s z' r f2 z rows f h1 h2 hs (by simp[yv]) b hb dy)
  ·by_cases e:t=s
   ·subst e;exact hm.2 (h4 rfl).2.1 hb
   ·exact (a2 b hb).2.2 ((h3 e).trans hl) hm.1
 ·obtain⟨g1,p1,p2,-⟩:=hi t z1 r1 f1 ht hf
  obtain⟨g2,q1,q2,-⟩:=hi t' z2 r2 f2 ht' hf'
  exact h.arrInj t t' z1 r1 g1 z2 r2 g2 p1 p2 q1 q2 b hb dy
 ·obtain⟨g1,p1,p2,-⟩:=hi t z' r f1 ht hf
  exact h.arrVar t z' r g1 t' p1 p2 ht'
end
end Sg
namespace Sg
open Go Go.RowKit
variable {P:Program} {w:World}
def tn:Sh->Value->Value->Option Bool
 |.i,.int k a,.int k' b=>if k=k' then some (decide (a=b)) else none
 |.b,.bool a,.bool b=>some (a == b)
 |.s,.string a,.string b=>some (decide (a.data.toList=b.data.toList))
 |_,_,_=>none
def JJ:List Sh->List Value->List Value->Option Bool
 |[],[],[]=>some true
 |h::hs,x::xs,y::ys=>(tn h x y).bind fun b=>(JJ hs xs ys).bind fun c=>some (b&&c)
 |_,_,_=>none
def pv (agg:Bool) (l:List Value):Value:=if agg then .agg l.toArray else l.headD undef
theorem MP:∀(s r:List Sh) (l m:List Value) (b:Bool),JJ (s++r) l m=some b->
  ∃j o,JJ s (l.take s.length) (m.take s.length)=some j/\JJ r (l.drop s.length) (m.drop s.length)=some o/\b=(j&&o)
 |[],r,l,m,b,h=>⟨true,b,by simp[JJ],by simpa using h,by simp⟩
 |x::s,r,[],m,b,h=>by simp[JJ] at h
 |x::s,r,u::l,[],b,h=>by simp[JJ] at h
 |x::s,r,u::l,v::m,b,h=>by
  simp only[List.cons_append,JJ,Gg,Gb] at h;obtain⟨b0,h0,c,q,rfl⟩:=h;obtain⟨j,o,h1,p,rfl⟩:=MP s r l m c q;exact⟨b0&&j,o,by simp[JJ,h0,h1],by simpa using p,by simp[Bool.and_assoc]⟩
def M7:∀{s:List Sh} {x y:List Value} {c:Bool},JJ s x y=some c->x.length=s.length/\y.length=s.length:=by
 intro s
 induction s with
 |nil=>intro x y c h;cases x<;>cases y<;>simp[JJ] at h ⊢
 |cons a s o=>
  intro x y c h;cases x with
  |nil=>simp[JJ] at h
  |cons u x=>
   cases y with
   |nil=>simp[JJ] at h
   |cons v y=>
    simp only[JJ,Gg,Gb] at h;have⟨_,_,_,j,_⟩:=h;have:=o j;simp[this.1,this.2]
def Nd {t:TypeId} {d:TypeDesc} {n:Nat} (hu:P.underlying t=some d) (hz:dz P t=some n) (cs:List Value) (off:Nat)
  (p:off+n<=cs.length) (h1:Js P t=false->n=1):(part t cs.toArray off).run P w=.ok (pv (Js P t) ((cs.drop off).take n)) w:=by
 unfold part
 simp only[Sem.run_bind,FC t hu w,Result.andThen]
 cases o:Js P t
 ·have:=h1 o;subst this
  simp only[Gl,Gv,pv]
  have j:off<cs.length:=by omega
  simp only[List.getElem?_toArray,List.getElem?_eq_getElem j]
  rw[List.drop_eq_getElem_cons j]
  rfl
 ·simp only[Gw,Sem.run_bind,Jf hz w,Result.andThen,pv]
  simp[List.extract_eq_take_drop]
def No {d:Nat} {t:TypeId} {sh:List Sh} (h:JF P d t=some sh) (hz:dz P t=some sh.length) (j:Js P t=false):sh.length=1:=by
 cases d with
 |zero=>simp[JF] at h
 |succ d=>
  unfold JF at h;unfold Js at j;split at h<;>simp_all
  all_goals (subst h;rfl)
def Q6 {d:Nat} {t:TypeId} {sh:List Sh} (h:JF P d t=some sh):∃dd,P.underlying t=some dd:=by
 cases d with
 |zero=>simp[JF] at h
 |succ d=>
  unfold JF at h;cases hu:P.underlying t with
  |none=>simp[hu] at h
  |some dd=>exact⟨dd,rfl⟩
def Rf:∀(d:Nat) (t:TypeId) (sh:List Sh),JF P d t=some sh->∀(D:Nat) (l m:List Value) (b:Bool),JJ sh l m=some b->
  (Op.equalIn (D+d) t (pv (Js P t) l) (pv (Js P t) m)).run P w=.ok b w:=by
 intro d
 induction d with
 |zero=>intro t sh h;simp[JF] at h
 |succ d ih=>
  intro t sh h D l m b hb
  have hsc:∀(s:Sh),sh=[s]->∃u v,l=[u]/\m=[v]/\tn s u v=some b:=by
   intro s hs;subst hs
   match l,m,hb with
   |[u],[v],hb=>
    simp only[JJ,Gg,Gb] at hb;obtain⟨b0,h0,c,rfl,rfl⟩:=hb;exact⟨u,v,rfl,rfl,by simpa using h0⟩
   |[],_,hb=>simp[JJ] at hb
   |_::_,[],hb=>simp[JJ] at hb
   |[_],_::_::_,hb=>simp[JJ] at hb
   |_::_::_,[_],hb=>simp[JJ] at hb
   |_::_::_,_::_::_,hb=>simp[JJ] at hb
  rw[<-lU]
  unfold JF at h
  split at h
  ·rename_i hu
   simp only[Gb] at h
   obtain⟨u,v,rfl,rfl,he⟩:=hsc .b h.symm
   unfold Op.equalIn
   have hg:Js P t=false:=by simp[Js,hu]
   simp only[hg,pv,Gl,Gv,List.headD_cons,Sem.run_bind,run_underlying hu w,Result.andThen]
   cases u<;>cases v<;>simp[tn] at he
   subst he;rfl
  ·rename_i k hu
   simp only[Gb] at h
   obtain⟨u,v,rfl,rfl,he⟩:=hsc .i h.symm
   unfold Op.equalIn
   have hg:Js P t=false:=by simp[Js,hu]
   simp only[hg,pv,Gl,Gv,List.headD_cons,Sem.run_bind,run_underlying hu w,Result.andThen]
   cases u<;>cases v<;>simp[tn] at he
   have⟨hk,he⟩:=he
   subst he
   simp[hk]
   rfl
  ·rename_i hu
   simp only[Gb] at h
   obtain⟨u,v,rfl,rfl,he⟩:=hsc .s h.symm
   unfold Op.equalIn
   have hg:Js P t=false:=by simp[Js,hu]
   simp only[hg,pv,Gl,Gv,List.headD_cons,Sem.run_bind,run_underlying hu w,Result.andThen]
   cases u<;>cases v<;>simp[tn] at he
   subst he
   simp only[Sem.run_pure]
   congr 1
   rename_i a b
   rcases a with⟨a⟩
   rcases b with⟨b⟩
   show (a == b)=decide (a=b)
   rw[Bool.eq_iff_iff];simp
  ·rename_i fs hu
   split at h
   ·simp at h
   ·rename_i hs
    simp only[Bool.not_eq_true] at hs
    have hg:Js P t=true:=by simp[Js,hu]
    unfold Op.equalIn
    simp only[hg,pv,Gw,Sem.run_bind,run_underlying hu w,Result.andThen,run_program,hs,Gl,Gv]
    rw[<-Array.forIn_toList]
    have loop:∀(fs:List Field) (n:Nat) (sh:List Sh) (b:Bool),fQ P (JF P d) fs n=some sh->n+sh.length=l.length->n+sh.length=m.length->JJ sh (l.drop n) (m.drop n)=some b->
      (forIn fs ((none,()):Option Bool×Unit) fun (f:Field) (__s:Option Bool×Unit)=>
       if f.name≠"_" then do
        let __do_lift <-part f.type l.toArray f.offset
        let __do_lift_1 <-part f.type m.toArray f.offset
        let __do_lift <-Op.equalIn (D+d) f.type __do_lift __do_lift_1
        if (!__do_lift)=true then (pure (ForInStep.done (some false,())):Sem _) else pure (ForInStep.yield (none,()))
       else pure (ForInStep.yield (none,()))).run P w=.ok (if b then (none,()) else (some false,())) w:=by
     intro fs
     induction fs with
     |nil=>
      intro n sh b h hl hm hb
      simp only[fQ,Gb] at h
      subst h
      have:b=true:=by
       generalize l.drop n=l' at hb;generalize m.drop n=m' at hb;cases l'<;>cases m'<;>simp[JJ] at hb;exact hb
      subst this
      simp
     |cons f fs ihf=>
      intro n sh b h hl hm hb
      simp only[fQ] at h
      split at h
      ·simp at h
      ·rename_i hn
       simp only[G1,G9,bne_iff_ne,ne_eq,not_or,Decidable.not_not] at hn
       have⟨hname,hoff⟩:=hn
       simp only[Gg] at h
       have⟨sf,hsf,h⟩:=h
       split at h
       ·rename_i hz
        simp only[G9] at hz
        simp only[Gg,Gb] at h
        obtain⟨r,hr,rfl⟩:=h
        obtain⟨b1,b2,hb1,hb2,rfl⟩:=MP sf r _ _ b hb
        have⟨dd,hd⟩:=Q6 hsf
        simp only[Gf] at hl hm
        have hpl:n+sf.length<=l.length:=by omega
        have hpm:n+sf.length<=m.length:=by omega
        simp only[List.forIn_cons,Sem.run_bind]
        rw[Gt hname]
        rw[hoff] at *
        simp only[Sem.run_bind,Nd hd hz l n hpl (No hsf hz),Nd hd hz m n hpm (No hsf hz),Result.andThen]
        rw[ih f.type sf hsf D _ _ b1 hb1]
        cases b1
        ·simp
        ·simp only[Gx,Gl,Gv,Sem.run_pure,Gy]
         exact ihf (n+sf.length) r b2 hr (by omega) (by omega) (by simpa [List.drop_drop,Nat.add_comm] using hb2)
       ·simp at h
    rw[loop fs.toList 0 sh b h (by simpa using (M7 hb).1.symm) (by simpa using (M7 hb).2.symm) (by simpa using hb)]
    cases b<;>simp
  ·simp at h
section
variable {cx:Cx} {X:Nat->Prop} {S:St} {β:Nat->Nat} {α:Nat->Value}
def UO {h:Sh} {x y:V} {u v:Value} {b:Bool} (o:cK cx w X S α u x) (p:cK cx w X S α v y) (j:xa h x y=some b):tn h u v=some b:=by
 cases h<;>cases x<;>cases y<;>simp only[xa,reduceCtorEq,Gb] at j<;>simp only[cK] at o p<;>cases o<;>cases p
 ·simpa [tn] using j
 ·simpa [tn] using j
 ·simpa [tn] using j
def RY:∀(s:List Sh) (xs j:List V) (o vs:List Value) (b:Bool),o.length=xs.length->vs.length=j.length->
  (∀i,i<xs.length->∃u,o[i]?=some u/\cK cx w X S α u (gv xs i))->(∀i,i<j.length->∃u,vs[i]?=some u/\cK cx w X S α u (gv j i))->
  pr s xs j=some b->JJ s o vs=some b:=by
 intro s
 induction s with
 |nil=>
  intro xs j o vs b h1 p _ _ h
  cases xs<;>cases j<;>simp[pr] at h
  cases o<;>cases vs<;>simp at h1 p
  simp[JJ,h]
 |cons a s H=>
  intro xs j o vs b h1 p B D h
  cases xs with
  |nil=>simp[pr] at h
  |cons x xs=>
   cases j with
   |nil=>simp[pr] at h
   |cons y j=>
    cases o with
    |nil=>simp at h1
    |cons u o=>
     cases vs with
     |nil=>simp at p
     |cons v vs=>
      simp only[pr,Gg,Gb] at h
      obtain⟨b0,h0,c,E,rfl⟩:=h
      have q:=B 0 (by simp)
      have z:=D 0 (by simp)
      simp only[List.getElem?_cons_zero,Gb,exists_eq_left',gv,yC] at q z
      have:=H xs j o vs c (by simpa using h1) (by simpa using p)
       (fun i hi=>by have:=B (i+1) (by simpa using hi);simpa [gv] using this)
       (fun i hi=>by have:=D (i+1) (by simpa using hi);simpa [gv] using this) E
      simp[JJ,UO q z h0,this]
def SD {ne:Bool} {t:TypeId} {p q:Operand} {s:List Sh} {xs B:List V} {u v:Value} {b:Bool} (L:Js P t=true) (O:JF P 20 t=some s) (N:P.eqGuardType P.depth t=false)
  (Q:aJ cx w X S β α u (.agg xs)) (R:aJ cx w X S β α v (.agg B)) (h:pr s xs B=some b) :
  (do eqGuard (if ne then .neq else .eql) t p q u v;Go.binOp (if ne then .neq else .eql) t u v:Sem Value).run P w=.ok (.bool (ne ^^ b)) w:=by
 obtain⟨cs,rfl,M,J⟩:=Q
 obtain⟨ds,rfl,z,y⟩:=R
 have I:=RY (w:=w) (cx:=cx) (X:=X) (S:=S) (α:=α) s xs B cs.toList ds.toList b (by simpa using M) (by simpa using z)
  (fun i hi=>by have⟨u,h1,_,j⟩:=J i hi;exact⟨u,by simpa using h1,j⟩) (fun i hi=>by have⟨u,h1,_,j⟩:=y i hi;exact⟨u,by simpa using h1,j⟩) h
 have D:=Rf (P:=P) (w:=w) 20 t s O 9980 _ _ b I
 simp only[L,pv,Gw,Array.toArray_toList] at D
 have E:(Op.equal t (.agg cs) (.agg ds)).run P w=.ok b w:=D
 have H:∀o,(eqGuard o t p q (.agg cs) (.agg ds)).run P w=.ok () w:=fun o=>by
  unfold eqGuard;cases o<;>first|rfl|simp[N,Result.andThen]
 rw[Sem.run_bind,H]
 cases ne
 ·show (Go.binOp .eql t (.agg cs) (.agg ds)).run P w=_
  unfold Go.binOp
  simp only[Sem.run_bind,E];simp[Result.andThen]
 ·show (Go.binOp .neq t (.agg cs) (.agg ds)).run P w=_
  unfold Go.binOp
  simp only[Sem.run_bind,E];simp[Result.andThen]
end
end Sg
namespace Sg
open Go Go.RowKit
section
variable {P:Program} {cx:Cx} {w:World} {X:Nat->Prop} {S:St} {β:Nat->Nat} {α:Nat->Value}
def CR (cx:Cx) (w:World) (X:Nat->Prop) (S:St) (α:Nat->Value) (l:List Value) (vs:List V):Prop:=
 l.length=vs.length/\∀i,i<vs.length->∃u,l[i]?=some u/\u.oneCell'=true/\cK cx w X S α u (gv vs i)
def CR.nil:CR cx w X S α [] []:=⟨rfl,fun i hi=>by simp at hi⟩
def CR.one {u:Value} {x:V} (h1:u.oneCell'=true) (h:cK cx w X S α u x):CR cx w X S α [u] [x]:=
 ⟨rfl,fun i hi=>by
  have:i=0:=by simpa using hi
  subst this;exact⟨u,rfl,h1,h⟩⟩
def CR.append {l m:List Value} {vs j:List V} (h:CR cx w X S α l vs) (k:CR cx w X S α m j):CR cx w X S α (l++m) (vs++j):=by
 refine⟨by simp[h.1,k.1],fun i hi=>?_⟩;rcases GF i vs.length with hl|hl
 ·have⟨u,a,b,c⟩:=h.2 i hl;exact⟨u,by rw[List.getElem?_append_left (by rw[h.1];exact hl)];exact a,b,by simpa [gv,List.getD_eq_getElem?_getD,List.getElem?_append_left hl] using c⟩
 ·have⟨u,a,b,c⟩:=k.2 (i-vs.length) (by simp at hi;omega);exact⟨u,by rw[List.getElem?_append_right (by rw[h.1];exact hl),h.1];exact a,b,by simpa [gv,List.getD_eq_getElem?_getD,List.getElem?_append_right hl] using c⟩
def CR.take {l:List Value} {vs:List V} (h:CR cx w X S α l vs) (n:Nat):CR cx w X S α (l.take n) (vs.take n):=by
 refine⟨by simp[h.1],fun i hi=>?_⟩;have h1:i<n/\i<vs.length:=by simp at hi;omega
 have⟨u,a,b,c⟩:=h.2 i h1.2;exact⟨u,by rw[List.getElem?_take_of_lt h1.1];exact a,b,by simpa [gv,List.getD_eq_getElem?_getD,List.getElem?_take_of_lt h1.1] using c⟩
def CR.drop {l:List Value} {vs:List V} (h:CR cx w X S α l vs) (n:Nat):CR cx w X S α (l.drop n) (vs.drop n):=by
 refine⟨by simp[h.1],fun i hi=>?_⟩;have⟨u,a,b,c⟩:=h.2 (n+i) (by simp at hi;omega);exact⟨u,by rw[List.getElem?_drop];exact a,b,by simpa [gv,List.getD_eq_getElem?_getD,List.getElem?_drop] using c⟩
def CR.put {l m:List Value} {vs p cs:List V} {off:Nat} (h:CR cx w X S α l vs) (k:CR cx w X S α m p) (j:JZ vs off p=some cs) :
  off+m.length<=l.length/\CR cx w X S α (l.take off++(m++l.drop (off+m.length))) cs:=by
 unfold JZ at j
 split at j<;>simp only[Gb,reduceCtorEq] at j
 rename_i o
 subst j
 refine⟨by rw[h.1,k.1];exact o,?_⟩
 rw[k.1]
 exact (h.take off).append (k.append (h.drop _))
def CR.mono {w':World} {j:Nat->Prop} {S':St} {α':Nat->Value} (p:∀u x,aC cx w X u x->aC cx w' j u x) (o:dK S S' α α') {l:List Value} {vs:List V}
  (h:CR cx w X S α l vs):CR cx w' j S' α' l vs:=
 ⟨h.1,fun i hi=>by have⟨u,a,b,c⟩:=h.2 i hi;exact⟨u,a,b,c.tr p o⟩⟩
def CR.data {l:List Value} {vs:List V} (h:CR cx w X S α l vs) (j:vs.all V.datC=true):∀i,i<vs.length->∃u,l[i]?=some u/\u.oneCell'=true/\aC cx w X u (gv vs i):=
 fun i hi=>by
  have⟨u,a,b,c⟩:=h.2 i hi;refine⟨u,a,b,c.data ?_⟩;rw[GG] at j;exact j _ (by simp[gv,hi])
def eX {u:Value} {x:V} {cs:List V} (h:aJ cx w X S β α u x) (hc:x.cells=some cs):CR cx w X S α u.cells.toList cs:=by
 cases x<;>simp only[V.cells,V.isCell,Gb,reduceCtorEq,Gw,Gv,Gl] at hc<;>subst hc
 case agg vs=>
  obtain⟨cs,rfl,hl,hcs⟩:=h
  exact⟨by simpa [Value.cells] using hl,fun i hi=>by have⟨u,a,b⟩:=hcs i hi;exact⟨u,by simpa [Value.cells] using a,b⟩⟩
 case own s z n=>
  obtain⟨rows,f,a,aN,hA,rfl,hh⟩:=h
  exact .one rfl ⟨rows,f,a,aN,hA,rfl,hh⟩
 all_goals
  simp only[aJ] at h
  have h1:u.oneCell'=true:=by cases h<;>rfl
  have h2:u.cells=#[u]:=by cases h<;>rfl
  rw[h2]
  exact .one h1 (by simpa only [cK] using h)
def Dy {l:List Value} {vs:List V} (h:Jl l vs=true):CR cx w X S α l vs:=by
 have⟨h1,j⟩:=JI (cx:=cx) (w:=w) (X:=X) h;exact⟨h1,fun i hi=>by have⟨u,a,b,c⟩:=j i hi;exact⟨u,a,b,.of_data c⟩⟩
theorem Nj:∀(m:List Value) (k off:Nat) (cells:Array Value),off+k+m.length<=cells.size->
  ((m.zipIdx k).foldl (fun cs (c,j)=>cs.setIfInBounds (off+j) c) cells).toList=cells.toList.take (off+k)++(m++cells.toList.drop (off+k+m.length))
 |[],k,off,cells,h=>by simp
 |v::m,k,off,cells,h=>by
  simp only[List.zipIdx_cons,List.foldl_cons];rw[Nj m (k+1) off (cells.setIfInBounds (off+k) v) (by simp at h ⊢;omega)];have e:=list_seg_step cells.toList (off+k) v m (by simp at h ⊢;omega);simp only[Array.toList_setIfInBounds];have o:off+(k+1)=off+k+1:=by omega
  rw[o];simpa [GX,lU,Nat.add_comm 1] using e
def Rr (m:Array Value) (off:Nat) (cells:Array Value) (h:off+m.size<=cells.size) :
  (m.zipIdx.foldl (fun cs (c,j)=>cs.setIfInBounds (off+j) c) cells).toList=cells.toList.take off++(m.toList++cells.toList.drop (off+m.size)):=by
 rw[<-Array.foldl_toList,Array.toList_zipIdx,Nj m.toList 0 off cells (by simpa using h)]
 simp
def Ni {j:Nat->Option (Nat×Nat)} {cells:Array Value} {i off n:Nat} {v:Value} {bL:List (Nat×Value)} (p:j i=some (off,n)) (o:v.cells.size=n) (q:off+n<=cells.size) :
  Instr.fill j cells ((i,v)::bL)=Instr.fill j (cells.toList.take off++(v.cells.toList++cells.toList.drop (off+n))).toArray bL:=by
 simp only[Instr.fill,p]
 rw[Gn (by simp[o];omega)]
 congr 1
 apply Array.ext'
 rw[Rr v.cells off cells (by omega),o]
end
section
variable {P:Program} {cx:Cx} {w:World} {X:Nat->Prop} {S:St} {β:Nat->Nat} {α:Nat->Value}
variable {a:Act} {ds:List (Option Nat)} {e:Nat->V}
theorem M0 (I:∀t,aJ cx w X S β α (a.tmps.getD t undef) (S.ρ t)) (J:∀i d,ds[i]?=some (some d)->aJ cx w X S β α (a.tmps.getD d undef) (e i)) {L:Nat->Option (Nat×Nat)} :
  ∀(B:List (Nat×Operand)) (D:List (Nat×Nat×bF)) (cells:Array Value) (z cs:List V),er cx ds L B D=true->CR cx w X S α cells.toList z->
   tO z (D.map fun p=>(p.1,p.2.1,aK e S.ρ p.2.2))=some cs->
   ∃j,Instr.fill L cells (B.map fun (i,x)=>(i,a.eval x))=some j/\CR cx w X S α j.toList cs
 |[],[],cells,z,cs,_,hc,h=>by
  simp only[Gk,tO,Gb] at h;subst h;exact⟨cells,by simp[Instr.fill],hc⟩
 |(i,o)::B,(off,n,x)::D,cells,z,cs,hok,hc,h=>by
  simp only[er,Ge,G9] at hok;simp only[GA,tO,Gg] at h;obtain⟨xs,E,h⟩:=h;split at h
  ·rename_i Q;simp only[Gg] at h;obtain⟨du,u,h⟩:=h;have O:=xu I J hok.1.2;have q:=eX O E;obtain⟨h1,H⟩:=hc.put q u;have y:(a.eval o).cells.size=n:=by
    have:=q.1;simp only[Array.length_toList] at this;omega
   simp only[Array.length_toList,y] at h1 H;obtain⟨j,M,N⟩:=M0 I J B D _ du cs hok.2 (by simpa using H) h;refine⟨j,?_,N⟩;rw[GA,Ni hok.1.1 y h1];exact M
  ·simp at h
 |[],_::_,cells,z,cs,hok,hc,h=>by simp[er] at hok
 |_::_,[],cells,z,cs,hok,hc,h=>by simp[er] at hok
end
section
variable {P:Program} {cx:Cx} {w:World} {X:Nat->Prop} {S:St} {β:Nat->Nat} {α:Nat->Value}
def DR (cx:Cx) (w:World) (X:Nat->Prop) (z:Nat) (l:List Value) (rows:List (List V)):Prop:=
 l.length=rows.length*z/\(∀i,i<rows.length->(gr rows i).length=z)/\
 ∀i j,i<rows.length->j<z->∃u,l[i*z+j]?=some u/\u.oneCell'=true/\aC cx w X u (gv (gr rows i) j)
def DR.mono {w':World} {o:Nat->Prop} (p:∀u x,aC cx w X u x->aC cx w' o u x) {z:Nat} {l:List Value} {rows:List (List V)} (h:DR cx w X z l rows):DR cx w' o z l rows:=
 ⟨h.1,h.2.1,fun i j hi q=>by have⟨u,a,b,c⟩:=h.2.2 i j hi q;exact⟨u,a,b,p _ _ c⟩⟩
def vI {i j z n:Nat} (hi:i<n) (o:j<z):i*z+j<n*z:=by
 have:(i+1)*z<=n*z:=GU z hi;rw[jn] at this;omega
def DR.set {z:Nat} {l m:List Value} {rows:List (List V)} {xs:List V} {i:Nat} (h:DR cx w X z l rows) (hi:i<rows.length) (H:xs.length=z) (hm:m.length=z)
  (D:∀j,j<xs.length->∃u,m[j]?=some u/\u.oneCell'=true/\aC cx w X u (gv xs j)) :
  i*z+z<=l.length/\DR cx w X z (l.take (i*z)++(m++l.drop (i*z+z))) (rows.set i xs):=by
 have y:i*z+z<=l.length:=by
  rw[h.1];have:(i+1)*z<=rows.length*z:=GU z hi;rw[jn] at this;omega
 refine⟨y,?_,fun k o=>?_,fun k j o p=>?_⟩
 ·rw[Gf,Gf,GK,GP,hm,qX]
  have:=h.1
  omega
 ·simp only[qX] at o
  simp only[gr,List.getD_eq_getElem?_getD,List.getElem?_set]
  by_cases e:i=k
  ·subst e;simp[o,H]
  ·rw[Gn e];have:=h.2.1 k o;simpa [gr,List.getD_eq_getElem?_getD] using this
 ·simp only[qX] at o
  have E:=vI o p
  rcases Nat.lt_trichotomy k i with B|heq|hgt
  ·have⟨u,a,b,c⟩:=h.2.2 k j o p
   have h1:=vI B p
   refine⟨u,?_,b,?_⟩
   ·rw[List.getElem?_append_left (by simp;omega),List.getElem?_take_of_lt h1];exact a
   ·simpa [gr,List.getD_eq_getElem?_getD,List.getElem?_set,show ¬i=k by omega] using c
  ·subst heq
   have⟨u,a,b,c⟩:=D j (by omega)
   refine⟨u,?_,b,?_⟩
   ·rw[List.getElem?_append_right (by simp;omega)]
    have q:k*z+j-(List.take (k*z) l).length=j:=by simp;omega
    rw[q,List.getElem?_append_left (by omega)];exact a
   ·simpa [gr,List.getD_eq_getElem?_getD,List.getElem?_set,o] using c
  ·have⟨u,a,b,c⟩:=h.2.2 k j o p
   have h1:i*z+z<=k*z:=by
    have:(i+1)*z<=k*z:=GU z hgt;rw[jn] at this;omega
   refine⟨u,?_,b,?_⟩
   ·rw[List.getElem?_append_right (by simp;omega),List.getElem?_append_right (by simp;omega),List.getElem?_drop]
    have q:i*z+z+(k*z+j-(List.take (i*z) l).length-m.length)=k*z+j:=by simp;omega
    rw[q];exact a
   ·simpa [gr,List.getD_eq_getElem?_getD,List.getElem?_set,show ¬i=k by omega] using c
def DR.replicate {z n:Nat} {l:List Value} {xs:List V} (hz:xs.length=z) (p:∀j,j<z->∃u,l[j]?=some u/\u.oneCell'=true/\aC cx w X u (gv xs j)) (y:l.length=z) :
  DR cx w X z ((Array.range (n*z)).map (fun i=>l.toArray[i%l.toArray.size]!)).toList (List.replicate n xs):=by
 refine⟨by simp,fun i hi=>?_,fun i j hi o=>?_⟩
 ·simp at hi;simp[gr,List.getD_eq_getElem?_getD,hi,hz]
 ·simp only[List.length_replicate] at hi
  have q:=vI hi o
  have⟨u,a,b,c⟩:=p j o
  refine⟨u,?_,b,?_⟩
  ·have e:(i*z+j)%z=j:=by rw[Nat.add_comm,Nat.add_mul_mod_self_right,Nat.mod_eq_of_lt o]
   simp[q,y,e,a]
  ·simpa [gr,List.getD_eq_getElem?_getD,hi] using c
end
section
variable {P:Program} {cx:Cx} {w:World} {X:Nat->Prop} {S:St} {β:Nat->Nat} {α:Nat->Value}
variable {a:Act} {ds:List (Option Nat)} {e:Nat->V}
theorem Fw (I:∀t,aJ cx w X S β α (a.tmps.getD t undef) (S.ρ t)) (J:∀i d,ds[i]?=some (some d)->aJ cx w X S β α (a.tmps.getD d undef) (e i)) {z:Nat} :
  ∀(D:List (Nat×Operand)) (E:List (Nat×bF)) (cells:Array Value) (rows rows':List (List V)),J4 cx ds D E=true->DR cx w X z cells.toList rows->
   Jj z rows (E.map fun p=>(p.1,aK e S.ρ p.2))=some rows'->
   ∃q,Instr.fill (fun i=>some (i*z,z)) cells (D.map fun (i,x)=>(i,a.eval x))=some q/\DR cx w X z q.toList rows'
 |[],[],cells,rows,rows',_,hc,h=>by
  simp only[Gk,Jj,Gb] at h;subst h;exact⟨cells,by simp[Instr.fill],hc⟩
 |(i,o)::D,(j,x)::E,cells,rows,rows',u,hc,h=>by
  simp only[J4,Ge,G9] at u;obtain⟨⟨rfl,R⟩,u⟩:=u;simp only[GA,Jj,Gg] at h;obtain⟨xs,H,h⟩:=h;split at h
  ·rename_i Q;obtain⟨hi,hz,O⟩:=Q;have T:=xu I J R;have y:=eX T H;have B:(a.eval o).cells.size=z:=by
    have:=y.1;simp only[Array.length_toList] at this;omega
   obtain⟨h1,L⟩:=hc.set hi hz (by simpa using B) (y.data O);obtain⟨q,M,N⟩:=Fw I J D E _ (rows.set i xs) rows' u (by simpa using L) h;refine⟨q,?_,N⟩;rw[GA,Ni (off:=i*z) (n:=z) rfl B (by simpa using h1)];exact M
  ·simp at h
 |[],_::_,cells,z,cs,u,hc,h=>by simp[J4] at u
 |_::_,[],cells,z,cs,u,hc,h=>by simp[J4] at u
def Dr {t:TypeId} {z:List V} (h:Jt P t z=true):∃v,(zeroValue t).run P w=.ok v w/\Jl v.cells.toList z=true:=by
 unfold Jt at h;split at h
 ·rename_i i hi;split at h
  ·rename_i v j;exact⟨v,by simp[zeroValue,typeInfo,hi,j,Result.andThen],h⟩
  ·simp at h
 ·simp at h
def o8 (hg:∀t,aJ cx w X S β α (a.tmps.getD t undef) (S.ρ t)) (hl:∀i d,ds[i]?=some (some d)->aJ cx w X S β α (a.tmps.getD d undef) (e i))
  {t:TypeId} {len z n:Nat} {zero:List V} {ps:List (Nat×Operand)} {qs:List (Nat×bF)} {el:TypeId} {rows:List (List V)}
  (ht:Jy P t=some el) (hsz:dz P el=some z) (hz:Jt P el zero=true) (hzl:zero.length=z) (hz0:z≠0) (hlen:len=n) (hbig:len*z<=16777216)
  (hok:J4 cx ds ps qs=true) (h:Jj z (List.replicate n zero) (qs.map fun p=>(p.1,aK e S.ρ p.2))=some rows) :
  ∃cells,(Instr.buildSlice t len (ps.map fun (i,x)=>(i,a.eval x)).toArray).run P w=.ok (.slice (some ⟨w.heap.size,0,none⟩) n n) {w with heap:=w.heap.push (.cells cells el)}/\DR cx w X z cells.toList rows/\rows.length=n:=by
 have hu:P.underlying t=some (.slice el):=by
  unfold Jy at ht;split at ht<;>simp_all
 subst hlen
 obtain⟨v,hv,hvz⟩:=Dr (P:=P) (w:=w) hz
 have hvz':=JI (cx:=cx) (w:=w) (X:=X) hvz
 have hbase:DR cx w X z ((Array.range (len*z)).map (fun i=>v.cells[i%v.cells.size]!)).toList (List.replicate len zero):=by
  have:=DR.replicate (cx:=cx) (w:=w) (X:=X) (n:=len) (l:=v.cells.toList) (xs:=zero) hzl (fun j hj=>hvz'.2 j (by omega)) (by rw[hvz'.1,hzl]);simpa using this
 have hlr:∀(qs:List (Nat×V)) (r r':List (List V)),Jj z r qs=some r'->r'.length=r.length:=by
  intro qs
  induction qs with
  |nil=>intro r r' h;simp[Jj] at h;rw[h]
  |cons q qs ih=>
   intro r r' h;obtain⟨i,x⟩:=q;simp only[Jj,Gg] at h;obtain⟨xs,_,h⟩:=h;split at h
   ·have:=ih _ _ h;simpa using this
   ·simp at h
 by_cases h0:len*z=0
 ·have xf:len=0:=by rcases Nat.mul_eq_zero.1 h0 with h|h<;>simp_all
  subst xf
  obtain⟨cells',h3,h4⟩:=Fw hg hl ps qs #[] [] rows hok (by refine⟨by simp,fun i hi=>by simp at hi,fun i j hi=>by simp at hi⟩) (by simpa using h)
  refine⟨cells',?_,h4,by simpa using hlr _ _ _ h⟩
  unfold Instr.buildSlice
  have e1:∀f:Nat->Value,Array.map f (Array.range 0)=#[]:=fun f=>by simp
  simp only[Sem.run_bind,run_underlying hu w,Result.andThen,Jf hsz w,Nat.zero_mul,Sem.run_ite,run_unsupported,Sem.run_pure]
  rw[Gn (by omega)]
  simp only[Sem.run_bind,Gw,Sem.run_pure,e1,h3,newRow,run_newObj,Result.andThen]
 ·obtain⟨cells',h3,h4⟩:=Fw hg hl ps qs _ _ rows hok hbase h
  refine⟨cells',?_,h4,by simpa using hlr _ _ _ h⟩
  unfold Instr.buildSlice
  simp only[Sem.run_bind,run_underlying hu w,Result.andThen,Jf hsz w,Sem.run_ite,run_unsupported,Sem.run_pure]
  rw[Gn (by omega)]
  simp only[Sem.run_bind,Gn h0,Result.andThen,hv,Sem.run_pure,h3,newRow,run_newObj]
def tv {t el:TypeId} {z n:Nat} {zero:List V} {ie:TypeInfo}
  (ht:Jy P t=some el) (hsz:dz P el=some z) (hz:Jt P el zero=true) (hzl:zero.length=z) (hz0:z≠0) (hn:n≠0) (hie:P.info? el=some ie) (hb:ie.bytes*n<=65536) (hbig:n*z<=16777216) :
  ∃cells,(Instr.makeSlice t (.int .i64 n) (.int .i64 n)).run P w=.ok (.slice (some ⟨w.heap.size,0,none⟩) n n) {w with heap:=w.heap.push (.cells cells el)}/\DR cx w X z cells.toList (List.replicate n zero):=by
 have hu:P.underlying t=some (.slice el):=by
  unfold Jy at ht;split at ht<;>simp_all
 have hs:ie.size=z:=by simpa [dz,hie] using hsz
 unfold Jt at hz
 rw[hie] at hz
 simp only at hz
 split at hz
 ·rename_i v hv
  have hvz':=JI (cx:=cx) (w:=w) (X:=X) hz
  have hnz:n<=n*z:=Nat.le_mul_of_pos_right n (by omega)
  have dy:(ie.bytes:Int)*(n:Int)<=281474976710656:=by
   have h:((ie.bytes*n:Nat):Int)<=281474976710656:=by omega
   rwa [Int.natCast_mul] at h
  have hr:=run_make (P:=P) w t el ie v hu hie hv .i64 .i64 (n:Int) (n:Int) (by omega) (by omega) dy (by omega)
  simp only[Int.toNat_natCast,hs] at hr
  refine⟨_,hr,?_⟩
  have:=DR.replicate (cx:=cx) (w:=w) (X:=X) (n:=n) (l:=v.cells.toList) (xs:=zero) hzl (fun j hj=>hvz'.2 j (by omega)) (by rw[hvz'.1,hzl])
  simpa [madeCells] using this
 ·simp at hz
end
section
variable {P:Program} {cx:Cx} {w:World} {X:Nat->Prop} {S:St} {β:Nat->Nat} {α:Nat->Value}
def CR.agg {l:List Value} {vs:List V} (h:CR cx w X S α l vs):aJ cx w X S β α (.agg l.toArray) (.agg vs):=
 ⟨l.toArray,rfl,by simpa using h.1,fun i hi=>by have⟨u,a,b⟩:=h.2 i hi;exact⟨u,by simpa using a,b⟩⟩
def aJ.of_C {v:Value} {x:V} (h:cK cx w X S α v x):aJ cx w X S β α v x:=by
 cases x<;>first|exact h|exact .of_data h
def TL {s:TypeId} {i off:Nat} {I:Array Field} {f:Field} {cs:List V} {n:Option Nat} {u:Value} {r:V} (W:aJ cx w X S β α u (.agg cs)) (U:P.underlying s=some (.struct I)) (O:I[i]?=some f) (T:f.offset=off)
  (hu:(P.underlying f.type).isSome=true) (p:(if Js P f.type then dz P f.type == n&&n.isSome else n.isNone)=true) (h:JU cs off n=some r) :
  ∃v,(Instr.field s u i).run P w=.ok v w/\aJ cx w X S β α v r:=by
 have⟨d,N⟩:=GZ.1 hu
 obtain⟨cells,rfl,Y,J⟩:=W
 subst T
 unfold Instr.field
 rw[Sem.run_bind,run_underlying U w]
 simp only[Result.andThen,O,asAgg,part,pure_bind,Sem.run_bind,FC f.type N w]
 cases L:Js P f.type
 ·simp only[L,Gl,Gv,yD] at p
  subst p
  simp only[JU] at h
  have D:f.offset<cs.length:=by
   rcases GF f.offset cs.length with h'|h'
   ·exact h'
   ·simp[List.getElem?_eq_none h'] at h
  have⟨v,q,H,o⟩:=J f.offset D
  have y:gv cs f.offset=r:=by simp[gv,h]
  rw[y] at o
  refine⟨v,?_,.of_C o⟩
  simp[q]
 ·simp only[L,Gw,Ge,G9] at p
  have⟨hz,E⟩:=p
  obtain⟨k,rfl⟩:=GZ.1 E
  simp only[JU] at h
  split at h<;>simp only[Gb,reduceCtorEq] at h
  rename_i R
  subst h
  refine⟨.agg (cells.extract f.offset (f.offset+k)),?_,_,rfl,by simp;omega,fun j Q=>?_⟩
  ·simp[Jf hz w,Result.andThen]
  ·have z:j<k:=by simp at Q;omega
   have⟨v,q,H,o⟩:=J (f.offset+j) (by omega)
   refine⟨v,?_,H,?_⟩
   ·rw[Array.getElem?_extract]
    rw[Gt (by omega)]
    exact q
   ·have:gv ((cs.drop f.offset).take k) j=gv cs (f.offset+j):=by
     simp[gv,List.getD_eq_getElem?_getD,z]
    rw[this];exact o
def Fo {t:TypeId} {b base off:Nat} {c:Array Value} {e:TypeId} {fr:Nat×Nat} {l:List Value} {cs:List V} {n:Option Nat} {r:V}
  (hw:w.heap[b]?=some (.cells c e fr)) (D:CR cx w X S α l cs) (Q:∀j,j<l.length->c[base+j]?=l[j]?)
  (hu:(P.underlying t).isSome=true) (E:(if Js P t then dz P t == n&&n.isSome else n.isNone)=true) (h:JU cs off n=some r) :
  ∃v,(Instr.loadAt t (.pointer (some ⟨b,base+off,none⟩))).run P w=.ok v w/\aJ cx w X S β α v r:=by
 have⟨d,R⟩:=GZ.1 hu
 have o:∀j,j<l.length->w.cell? ⟨b,base+j,none⟩=l[j]?:=fun j p=>by simp[World.cell?,hw,Q j p]
 unfold Instr.loadAt loadVar
 simp only[Instr.sureAddr,pure_bind,Sem.run_bind,FC t R w,Result.andThen]
 cases L:Js P t
 ·simp only[L,Gl,Gv,yD] at E
  subst E
  simp only[JU] at h
  have z:off<cs.length:=by
   rcases GF off cs.length with h'|h'
   ·exact h'
   ·simp[List.getElem?_eq_none h'] at h
  have⟨u,O,W,J⟩:=D.2 off z
  have H:gv cs off=r:=by simp[gv,h]
  rw[H] at J
  refine⟨u,?_,.of_C J⟩
  simp only[Gl,Gv,run_load,o off (by rw[D.1];exact z),O]
 ·simp only[L,Gw,Ge,G9] at E
  have⟨hz,U⟩:=E
  obtain⟨k,rfl⟩:=GZ.1 U
  simp only[JU] at h
  split at h<;>simp only[Gb,reduceCtorEq] at h
  rename_i T
  subst h
  have q:=(D.drop off).take k
  have y:((l.drop off).take k).length=k:=by rw[q.1];simp;omega
  refine⟨.agg ((l.drop off).take k).toArray,?_,q.agg⟩
  have N:=run_loadCells_list (P:=P) w ⟨b,base+off,none⟩ ((l.drop off).take k) (fun j v p=>by
   have I:j<k:=by
    rcases GF j k with h'|h'
    ·exact h'
    ·rw[List.getElem?_eq_none (by omega)] at p;simp at p
   rw[List.getElem?_take_of_lt I,List.getElem?_drop] at p;rw[Jv,lU,o (off+j) (by rw[D.1];omega)];exact p)
  rw[y] at N
  simp only[Gw,Sem.run_bind,Jf hz w,Result.andThen,N,Sem.run_pure]
def Nq {t:TypeId} {b o:Nat} {c:Array Value} {e:TypeId} {v:Value} {n:Nat} {xs:List V}
  (hw:w.heap[b]?=some (.cells c e (0,0))) (p:CR cx w X S α v.cells.toList xs) (D:xs.length=n) (hz:dz P t=some n) (q:o+n<=c.size) :
  (Instr.storeAt t (.pointer (some ⟨b,o,none⟩)) v).run P w=.ok () (w.setRow b (c.toList.take o++(v.cells.toList++c.toList.drop (o+v.cells.toList.length))).toArray):=by
 have j:v.cells.size=n:=by have:=p.1;simp only[Array.length_toList] at this;omega
 unfold Instr.storeAt storeVar
 simp only[Instr.sureAddr,pure_bind,Sem.run_bind,Jf hz w,Result.andThen,j,ne_eq,not_true,Gv]
 have:=run_storeCells_at P b o e v.cells.toList 0 c w hw (by simp[j];exact q) (fun x z=>by
  obtain⟨i,hi,rfl⟩:=List.getElem_of_mem z;have⟨u,h1,y,_⟩:=p.2 i (by rw[<-p.1];exact hi);rw[List.getElem?_eq_getElem hi] at h1;simp only[Gb] at h1;rw[h1];exact y)
 rw[this]
 simp
def JM (w:World) (b:Nat) (cs:Array Value):lI b w (w.setRow b cs):=
 ⟨setRow_size w b cs,fun k j=>setRow_other w b k cs j⟩
def JP {B:Nat->Prop} {b:Nat} (w:World) (cs:Array Value) (h:¬B b):bY B w (w.setRow b cs):=
 ⟨rfl,rfl,rfl,by rw[setRow_size];exact GC _,fun k j=>setRow_other w b k cs (fun e=>h (e▸j))⟩
def Nl (w:World) (o:Obj):ez w {w with heap:=w.heap.push o}:=
 ⟨by simp,fun b j=>by simp[Array.getElem?_push,Nat.ne_of_lt j]⟩
def MR {B:Nat->Prop} (w:World) (o:Obj) (h:∀b,B b->b<w.heap.size):bY B w {w with heap:=w.heap.push o}:=
 ⟨rfl,rfl,rfl,by simp,fun k j=>by have:=h k j;simp[Array.getElem?_push,show ¬k=w.heap.size by omega]⟩
def M6 (w:World) (o:Obj):({w with heap:=w.heap.push o}:World).heap[w.heap.size]?=some o:=by simp
end
section
variable {P:Program} {cx:Cx} {B:Nat->Prop} {X:Nat->Prop} {S:St} {w:World} {β:Nat->Nat} {α:Nat->Value} {M:Nat->Prop}
def cz (cx:Cx) (B:Nat->Prop) (X:Nat->Prop) (S:St) (w:World) (β:Nat->Nat) (α:Nat->Value) (M:Nat->Prop) (S1:St) (r:V) (v:Value) (w':World):Prop:=
 ∃β' α' M',aW cx B X S1 w' β' α' M'/\(∀u x,aJ cx w (aQ X M) S β α u x->aJ cx w' (aQ X M') S1 β' α' u x)/\aJ cx w' (aQ X M') S1 β' α' v r/\bY B w w'
def cz.pure (h:aW cx B X S w β α M) {r:V} {v:Value} (j:aJ cx w (aQ X M) S β α v r):cz cx B X S w β α M S r v w:=
 ⟨β,α,M,h,fun _ _ h=>h,j,bY.refl _ _⟩
def CR.undef {Y:Nat->Prop} (v:Value):aJ cx w Y S β α v .undef:=aC.undef v
def TM (h:aW cx B X S w β α M) {s z:Nat} {rows:List (List V)} {f:Fz} (p:S.A s=some (z,rows,f)) (o:f≠.dead):hdr (α s)≠some w.heap.size:=fun j=>by
 have:=(h.arr s z rows f p o).1.lt j;omega
def Tj (h:aW cx B X S w β α M) {s:Nat} (j:(S.μ s).isSome):β s≠w.heap.size:=fun p=>by
 have⟨x,o⟩:=GZ.1 j;have:=h.varLt (cs:=x.1) (f:=x.2) o;omega
def eO (h:aW cx B X S w β α M) {d:Nat} {cs:List V} {l:List Value} {t:TypeId} (hd:S.μ d=none) (hc:CR cx w (aQ X M) S α l cs) :
  cz cx B X S w β α M {S with μ:=aI S.μ d (some (cs,false))} (.lref d 0) (.pointer (some ⟨w.heap.size,0,none⟩)) {w with heap:=w.heap.push (.cells l.toArray t)}:=by
 have hg:=Nl w (.cells l.toArray t)
 have h2:∀b,(M b\/b=w.heap.size)->M b\/(w.heap.size<=b/\b<({w with heap:=w.heap.push (.cells l.toArray t)}:World).heap.size):=fun b hb=>by
  rcases hb with hb|hb
  ·exact .inl hb
  ·subst hb;exact .inr ⟨GC _,by simp⟩
 have hr:=h.grow (M':=fun b=>M b\/b=w.heap.size) hg (fun b hb=>.inl hb) h2
 have hD:∀u x,aC cx w (aQ X M) u x->aC cx {w with heap:=w.heap.push (.cells l.toArray t)} (aQ X (fun b=>M b\/b=w.heap.size)) u x:=
  fun u x hu=>J1 hg (fun b hb=>(h2 b hb).imp id (·.1)) hu
 have jK:=hc.mono hD (dK.refl S α)
 have hv:=hr.addVar (d:=d) (b0:=w.heap.size) (cs:=cs) hd (.inr rfl) (M6 w _) (by simpa using jK.1) (fun i hi=>by have⟨u,a,b,c⟩:=jK.2 i hi;exact⟨u,by simpa using a,b,c⟩)
  (fun s hs=>Tj h hs) (fun s z rows f hs hf=>TM h hs hf)
 refine⟨_,_,_,hv,fun u x hu=>aJ.tr (S':={S with μ:=aI S.μ d (some (cs,false))}) hD (show dK S _ α α from dK.refl S α) (fun s hs=>?_) hu,⟨by simp[aI],by simp[aI]⟩,MR w _ h.size⟩
 have:s≠d:=fun e=>by rw[e,hd] at hs;simp at hs
 exact⟨by simp[aI,this,hs],by simp[aI,this]⟩
def kX (h:aW cx B X S w β α M) {t:TypeId} {n:Option Nat} {l:sC} (hne:l≠.x) {p r:V} {v:Value}
  (hp:aJ cx w (aQ X M) S β α v p) (hu:(P.underlying t).isSome=true) (hn:(if Js P t then dz P t == n&&n.isSome else n.isNone)=true)
  (hev:Jw S l n p=some r) :
  ∃q,(Instr.loadAt t v).run P w=.ok q w/\aJ cx w (aQ X M) S β α q r:=by
 unfold Jw at hev
 cases l with
 |v s=>
  cases p<;>try (simp at hev;done)
  rename_i s' off
  simp only at hev
  split at hev<;>try (simp at hev;done)
  rename_i e;subst e
  simp only[Gg] at hev
  have⟨m,hm,hld⟩:=hev
  obtain⟨_,rfl⟩:=hp
  have⟨a1,a2,a3,c,e,a4,a5,a6⟩:=h.var s' m.1 m.2 hm
  have:=Fo (P:=P) (t:=t) (base:=0) (off:=off) (n:=n) (r:=r) (l:=c.toList) (S:=S) (β:=β) (α:=α) a4 ⟨by simpa using a5,fun i hi=>by have⟨u,b1,b2,b3⟩:=a6 i hi;exact⟨u,by simpa using b1,b2,b3⟩⟩
   (fun j _=>by simp) hu hn hld
  rw[j8] at this
  exact this
 |e s=>
  cases p<;>try (simp at hev;done)
  rename_i s' i off m
  simp only at hev
  split at hev<;>try (simp at hev;done)
  rename_i e;subst e
  split at hev<;>try (simp at hev;done)
  rename_i z rows f hA
  split at hev<;>try (simp at hev;done)
  rename_i hc
  simp only[Gg] at hev
  have⟨jQ,hrow,hld⟩:=hev
  obtain⟨z',rows',f',b,o,aN,hA',rfl,hv⟩:=hp
  rw[hA] at hA'
  simp only[Gb,Gr] at hA'
  obtain⟨rfl,rfl,rfl⟩:=hA'
  have hα:=(hv hc.2).2 hc.1
  have⟨p1,p2⟩:=h.arr s' z rows f hA hc.2
  have hi:i<rows.length:=by
   rcases GF i rows.length with h'|h'
   ·exact h'
   ·simp[List.getElem?_eq_none h'] at hrow
  have mW:gr rows i=jQ:=by simp[gr,hrow]
  have hlen:=p1.len i hi
  rw[mW] at hlen
  rcases p1.at_ with⟨h1,rfl⟩|⟨b',o',cap',c,e,h1,h2,h3,h4,h5⟩
  ·simp at hi
  ·rw[hα] at h1
   simp only[Value.slice.injEq,Gb,Addr.mk.injEq] at h1
   obtain⟨⟨rfl,rfl,-⟩,-,rfl⟩:=h1
   have jK:CR cx w (aQ X M) S α ((c.toList.drop (o+i*z)).take z) jQ:=by
    have hb:o+i*z+z<=c.size:=by
     have e1:(i+1)*z<=rows.length*z:=GU z hi;have e2:rows.length*z<=aN*z:=GU z h3;rw[jn] at e1;omega
    refine⟨by simp[hlen];omega,fun j hj=>?_⟩;have⟨u,q1,q2,q3⟩:=h5 i j hi (by omega);rw[mW] at q3;exact⟨u,by rw[List.getElem?_take_of_lt (by omega),List.getElem?_drop];simpa using q1,q2,.of_data q3⟩
   exact Fo (base:=o+i*z) h2 jK (fun j hj=>by rw[List.getElem?_take_of_lt (by rw[jK.1] at hj;omega),List.getElem?_drop];simp) hu hn hld
 |c=>
  cases p<;>try (simp at hev;done)
  rename_i cs off
  have hld:JU cs off n=some r:=hev
  simp only[aJ] at hp
  obtain⟨b,o,c,e,fr,rfl,hb,hX,hw,ho,hc⟩:=DA hp
  have⟨u,hu'⟩:=oh hc
  have jK:CR cx w (aQ X M) S α ((List.range cs.length).map u) cs:=
   ⟨by simp,fun j hj=>⟨u j,by simp[hj],(hu' j hj).2.1,.of_data (hu' j hj).2.2⟩⟩
  have:=Fo (P:=P) (t:=t) (base:=o-off) (off:=off) (n:=n) (r:=r) (β:=β) hw jK (fun j hj=>by simp at hj;simp[hj,(hu' j hj).1]) hu hn hld
  rw[show o-off+off=o by omega] at this
  exact this
 |x=>exact absurd rfl hne
def FG (h:aW cx B X S w β α M) {t:TypeId} {n:Option Nat} {l:sC} {p r:V} {v:Value}
  (u:aJ cx w (aQ X M) S β α v p) (hu:(P.underlying t).isSome=true) (o:(if Js P t then dz P t == n&&n.isSome else n.isNone)=true)
  (j:Jw S l n p=some r) :
  ∃q,(Instr.loadAt t v).run P w=.ok q w/\aJ cx w (aQ X M) S β α q r:=by
 cases l with
 |x=>
  cases p<;>try (simp[Jw] at j;done)
  rename_i s' i off m
  exact kX (l:=.e s') h (by simp) u hu o (by simpa [Jw] using j)
 |_=>exact kX h (by simp) u hu o j
def RX {xs:List V} (h:xs.all V.datC=true) (i:Nat) (hi:i<xs.length):(gv xs i).datC=true:=by
 rw[GG] at h;exact h _ (by simp[gv,hi])
def bH.setRow {cx:Cx} {w:World} {Y:Nat->Prop} {v:Value} {z:Nat} {rows:List (List V)} (h:bH cx w Y v z rows) {i:Nat} {O:List V} (hi:i<rows.length) (hr:O.length=z)
  {b o aN:Nat} (T:v=.slice (some ⟨b,o,none⟩) rows.length aN) {c:Array Value} {e:TypeId} (hw:w.heap[b]?=some (.cells c e (0,0))) {w':World} {p:Array Value} (I:w'.heap[b]?=some (.cells p e (0,0)))
  (H:p.size=c.size) (hD:∀u x,aC cx w Y u x->aC cx w' Y u x)
  (hold:∀j,(j<o+i*z\/o+i*z+z<=j)->p[j]?=c[j]?)
  (E:∀j,j<z->∃u,p[o+i*z+j]?=some u/\u.oneCell'=true/\aC cx w' Y u (gv O j)):bH cx w' Y v z (rows.set i O):=by
 rcases h.at_ with⟨h1,y⟩|⟨b1,o1,Q,c1,e1,h1,y,U,W,Z⟩
 ·subst y;simp at hi
 ·rw[T] at h1
  simp only[Value.slice.injEq,Gb,Addr.mk.injEq] at h1
  obtain⟨⟨rfl,rfl,-⟩,-,rfl⟩:=h1
  rw[hw] at y
  simp only[Gb,Obj.cells.injEq] at y
  obtain⟨rfl,rfl,-⟩:=y
  refine⟨fun k D=>?_,.inr ⟨b,o,aN,p,e,by simpa using T,I,by simpa using U,by rw[H];exact W,fun k j D R=>?_⟩⟩
  ·simp only[qX] at D
   by_cases q:i=k
   ·subst q;simpa [gr,List.getD_eq_getElem?_getD,List.getElem?_set,hi] using hr
   ·have:=h.len k D;simpa [gr,List.getD_eq_getElem?_getD,List.getElem?_set,q] using this
  ·simp only[qX] at D
   by_cases q:i=k
   ·subst q
    have⟨u,J,L,N⟩:=E j R
    exact⟨u,J,L,by simpa [gr,List.getD_eq_getElem?_getD,List.getElem?_set,hi] using N⟩
   ·have⟨u,J,L,N⟩:=Z k j D R
    refine⟨u,?_,L,hD _ _ (by simpa [gr,List.getD_eq_getElem?_getD,List.getElem?_set,q] using N)⟩
    rw[hold]
    ·exact J
    ·rcases GF k i with h'|h'
     ·have:(k+1)*z<=i*z:=GU z h'
      rw[jn] at this;exact .inl (by omega)
     ·have:(i+1)*z<=k*z:=GU z (by omega)
      rw[jn] at this;exact .inr (by omega)
def pg {S1:St} (h:aW cx B X S w β α M) {t:TypeId} {n:Nat} {l:sC} {p x:V} {v u:Value}
  (hp:aJ cx w (aQ X M) S β α v p) (hx:aJ cx w (aQ X M) S β α u x) (hz:dz P t=some n)
  (hev:Jz S l n p x=some S1) :
  ∃w',(Instr.storeAt t v u).run P w=.ok () w'/\cz cx B X S w β α M S1 .undef undef w':=by
 unfold Jz at hev
 simp only[Gg] at hev
 obtain⟨xs,hxs,hev⟩:=hev
 have jK:=eX hx hxs
 split at hev<;>try (simp at hev;done)
 rename_i hn
 have husz:u.cells.toList.length=n:=by rw[jK.1,hn]
 split at hev
 ·rename_i s s' off
  split at hev<;>try (simp at hev;done)
  rename_i e;subst e
  split at hev<;>try (simp at hev;done)
  rename_i cs hs
  simp only[Gg,Gb] at hev
  obtain⟨du,hcs',rfl⟩:=hev
  obtain⟨_,rfl⟩:=hp
  obtain⟨a1,a2,a3,c,e,a4,a5,a6⟩:=h.var s' cs false hs
  have hcc:CR cx w (aQ X M) S α c.toList cs:=⟨by simpa using a5,fun i hi=>by obtain⟨u,b1,b2,b3⟩:=a6 i hi;exact⟨u,by simpa using b1,b2,b3⟩⟩
  obtain⟨nz,hput⟩:=hcc.put jK hcs'
  simp only[Array.length_toList,husz] at nz
  have hrun:=Nq (P:=P) (t:=t) a4 jK hn hz (by simpa using nz)
  refine⟨_,hrun,?_⟩
  have hM:=a2 rfl
  have hw':=setRow_heap w (β s') c (c.toList.take off++(u.cells.toList++c.toList.drop (off+u.cells.toList.length))).toArray e (0,0) a4
  have hsv:=h.setVar (du:=du) hs (JM w (β s') _) hw' (by simpa using hput.1) (fun i hi=>by obtain⟨u,b1,b2,b3⟩:=hput.2 i hi;exact⟨u,by simpa using b1,b2,b3⟩)
  refine⟨β,α,M,hsv,fun u' x' hu'=>aJ.tr (S':={S with μ:=aI S.μ s' (some (du,false))}) (fun _ _ hr=>vJ (JM w _ _) hM hr) (show dK S _ α α from dK.refl S α) (fun s hs'=>⟨?_,rfl⟩) hu',CR.undef _,JP w _ a1⟩
  by_cases e':s=s'
  ·simp[aI,e']
  ·simpa [aI,e'] using hs'
 ·rename_i s s' i off m
  split at hev<;>try (simp at hev;done)
  rename_i e
  obtain⟨rfl,hdat⟩:=e
  split at hev<;>try (simp at hev;done)
  rename_i z rows hA
  split at hev<;>try (simp at hev;done)
  rename_i hm
  simp only[Gg,Gb] at hev
  obtain⟨jQ,hrow,r',L0,rfl⟩:=hev
  obtain⟨z',rows',f',b,o,aN,hA',rfl,hv⟩:=hp
  rw[hA] at hA'
  simp only[Gb,Gr] at hA'
  obtain⟨rfl,rfl,rfl⟩:=hA'
  have hα:=(hv (by simp)).2 hm
  obtain⟨p1,p2⟩:=h.arr s' z rows .live hA (by simp)
  have hi:i<rows.length:=by
   rcases GF i rows.length with h'|h'
   ·exact h'
   ·simp[List.getElem?_eq_none h'] at hrow
  have mW:gr rows i=jQ:=by simp[gr,hrow]
  have hlen:=p1.len i hi
  rw[mW] at hlen
  have lO:=L0
  unfold JZ at lO
  split at lO<;>simp only[Gb,reduceCtorEq] at lO
  rename_i hoff
  have hr'len:r'.length=z:=by rw[<-lO];simp;omega
  rcases p1.at_ with⟨h1,rfl⟩|⟨b',o',cap',c,e,h1,h2,h3,h4,h5⟩
  ·simp at hi
  ·have h1':=h1
   rw[hα] at h1
   simp only[Value.slice.injEq,Gb,Addr.mk.injEq] at h1
   obtain⟨⟨rfl,rfl,-⟩,-,rfl⟩:=h1
   have hbz:o+i*z+z<=c.size:=by
    have e1:(i+1)*z<=rows.length*z:=GU z hi;have e2:rows.length*z<=aN*z:=GU z h3;rw[jn] at e1;omega
   have hrun:=Nq (P:=P) (t:=t) (o:=o+i*z+off) h2 jK hn hz (by omega)
   refine⟨_,hrun,?_⟩
   have hM:M b:=(p2 b (by rw[h1'];rfl)).2.1 rfl
   have hT:=JM w b (c.toList.take (o+i*z+off)++(u.cells.toList++c.toList.drop (o+i*z+off+u.cells.toList.length))).toArray
   have hD:∀u x,aC cx w (aQ X M) u x->aC cx _ (aQ X M) u x:=fun _ _ hr=>vJ hT hM hr
   have hw':=setRow_heap w b c (c.toList.take (o+i*z+off)++(u.cells.toList++c.toList.drop (o+i*z+off+u.cells.toList.length))).toArray e (0,0) h2
   have hcsz:(c.toList.take (o+i*z+off)++(u.cells.toList++c.toList.drop (o+i*z+off+u.cells.toList.length))).toArray.size=c.size:=by
    simp only[rh,Gf,GK,GP,husz,Array.length_toList];omega
   have hat:∀j,(c.toList.take (o+i*z+off)++(u.cells.toList++c.toList.drop (o+i*z+off+u.cells.toList.length))).toArray[j]?=
     if o+i*z+off<=j/\j<o+i*z+off+n then u.cells.toList[j-(o+i*z+off)]? else c[j]?:=by
    intro j
    simp only[List.getElem?_toArray]
    by_cases hj1:j<o+i*z+off
    ·rw[List.getElem?_append_left (by simp;omega),List.getElem?_take_of_lt hj1,Gn (by omega)];simp
    ·by_cases hj2:j<o+i*z+off+n
     ·rw[List.getElem?_append_right (by simp;omega),List.getElem?_append_left (by simp only[GK,Array.length_toList] at *;omega),Gt ⟨by omega,hj2⟩]
      congr 1;simp;omega
     ·rw[List.getElem?_append_right (by simp;omega),List.getElem?_append_right (by simp only[GK,Array.length_toList] at *;omega),List.getElem?_drop,Gn (by omega)]
      simp only[GK,Array.length_toList,husz]
      rw[show o+i*z+off+n+(j-min (o+i*z+off) c.size-n)=j by omega];simp
   have hcr':CR cx _ (aQ X M) S α u.cells.toList xs:=jK.mono hD (dK.refl S α)
   have harr:bH cx _ (aQ X M) (α s') z (rows.set i r'):=p1.setRow hi hr'len h1' h2 hw' hcsz hD
    (fun j hj=>by
     rw[hat j,Gn (by rcases hj with hj|hj<;>omega)])
    (fun j hj=>by
     rw[hat (o+i*z+j)];have hgvr:gv r' j=if off<=j/\j<off+n then gv xs (j-off) else gv jQ j:=by
      rw[<-lO];simp only[gv,List.getD_eq_getElem?_getD];by_cases hj1:j<off
      ·rw[List.getElem?_append_left (by simp;omega),List.getElem?_take_of_lt hj1,Gn (by omega)]
      ·by_cases hj2:j<off+n
       ·rw[List.getElem?_append_right (by simp;omega),List.getElem?_append_left (by simp;omega),Gt ⟨by omega,hj2⟩]
        congr 2;simp;omega
       ·rw[List.getElem?_append_right (by simp;omega),List.getElem?_append_right (by simp;omega),List.getElem?_drop,Gn (by omega)]
        congr 2;simp;omega
     rw[hgvr];by_cases hj1:off<=j/\j<off+n
     ·rw[Gt hj1,Gt (by omega)];obtain⟨u',q1,q2,q3⟩:=hcr'.data hdat (j-off) (by omega);exact⟨u',by rw[show o+i*z+j-(o+i*z+off)=j-off by omega];exact q1,q2,q3⟩
     ·rw[Gn hj1,Gn (by omega)];obtain⟨u',q1,q2,q3⟩:=h5 i j hi hj;rw[mW] at q3;exact⟨u',q1,q2,hD _ _ q3⟩)
   obtain⟨hsa,hD'⟩:=h.setArr (M':=M) (rows':=rows.set i r') (v':=α s') hA (fun b' dy _=>hT.block b' (fun e'=>dy (by rw[h1',e'];rfl))) (by rw[hT.size];exact GC _) (.inl rfl) (by simp) (fun _=>rfl)
    (fun _ hb=>hb) (fun _ hb=>.inl hb) (fun b' dy=>(p2 b' dy).2.1 rfl) harr
   refine⟨β,_,M,hsa,fun u' x' hu'=>aJ.tr hD' (xv hA (by simp) (fun _=>rfl)) (fun s hs=>⟨hs,rfl⟩) hu',CR.undef _,JP w _ (p2 b (by rw[h1'];rfl)).1⟩
 ·simp at hev
end
section
variable {P:Program} {cx:Cx} {w:World} {X:Nat->Prop} {S:St} {β:Nat->Nat} {α:Nat->Value}
def DR.append {z:Nat} {l m:List Value} {rows q:List (List V)} (h:DR cx w X z l rows) (k:DR cx w X z m q):DR cx w X z (l++m) (rows++q):=by
 refine⟨by simp[h.1,k.1,jn],fun i hi=>?_,fun i j hi p=>?_⟩
 ·rcases GF i rows.length with hl|hl
  ·have:=h.2.1 i hl;simpa [gr,List.getD_eq_getElem?_getD,List.getElem?_append_left hl] using this
  ·have:=k.2.1 (i-rows.length) (by simp at hi;omega);simpa [gr,List.getD_eq_getElem?_getD,List.getElem?_append_right hl] using this
 ·rcases GF i rows.length with hl|hl
  ·have⟨u,a,b,c⟩:=h.2.2 i j hl p;have:=vI hl p;exact⟨u,by rw[List.getElem?_append_left (by rw[h.1];exact this)];exact a,b,by simpa [gr,List.getD_eq_getElem?_getD,List.getElem?_append_left hl] using c⟩
  ·have⟨u,a,b,c⟩:=k.2.2 (i-rows.length) j (by simp at hi;omega) p;have e:i*z+j-l.length=(i-rows.length)*z+j:=by
    rw[h.1,Nat.sub_mul];have:rows.length*z<=i*z:=GU z hl;omega
   have o:l.length<=i*z+j:=by rw[h.1];have:rows.length*z<=i*z:=GU z hl;omega
   exact⟨u,by rw[List.getElem?_append_right o,e];exact a,b,by simpa [gr,List.getD_eq_getElem?_getD,List.getElem?_append_right hl] using c⟩
def DR.of_cells {z o:Nat} {c:Array Value} {rows:List (List V)} (hlen:∀i,i<rows.length->(gr rows i).length=z)
  (h:∀i j,i<rows.length->j<z->∃u,c[o+i*z+j]?=some u/\u.oneCell'=true/\aC cx w X u (gv (gr rows i) j)) (hz:0<z) :
  o+rows.length*z<=c.size\/rows=[]:=by
 rcases nI rows.length with h0|h0
 ·exact .inr (GJ h0)
 ·obtain⟨u,a,-⟩:=h (rows.length-1) (z-1) (by omega) (by omega)
  have hlt:o+(rows.length-1)*z+(z-1)<c.size:=by
   rcases GF (o+(rows.length-1)*z+(z-1)) c.size with h'|h'
   ·exact h'
   ·simp[Array.getElem?_eq_none h'] at a
  rw[Nat.sub_mul] at hlt
  have:z<=rows.length*z:=Nat.le_mul_of_pos_left z h0
  exact .inl (by omega)
def DR.seg {z o:Nat} {c:Array Value} {rows:List (List V)} (y:o+rows.length*z<=c.size) (p:∀i,i<rows.length->(gr rows i).length=z)
  (h:∀i j,i<rows.length->j<z->∃u,c[o+i*z+j]?=some u/\u.oneCell'=true/\aC cx w X u (gv (gr rows i) j)) :
  DR cx w X z ((c.toList.drop o).take (rows.length*z)) rows:=by
 refine⟨by simp;omega,p,fun i j hi q=>?_⟩
 have⟨u,a,b,r⟩:=h i j hi q
 have:=vI hi q
 exact⟨u,by rw[List.getElem?_take_of_lt this,List.getElem?_drop];simpa [lU] using a,b,r⟩
def DR.nil {z:Nat}:DR cx w X z [] []:=⟨by simp,fun i hi=>by simp at hi,fun i j hi=>by simp at hi⟩
def kQ {z n:Nat} {y:V} {u:Value} {ys:List (List V)} (hy:aJ cx w X S β α u y) (h:V.rowsOf z y=some ys) (hz:0<z) :
  ∃l,(Builtin.lenOf u).run P w=.ok ys.length w/\(∀w1:World,w1.heap=w.heap->(Builtin.firstCells z ys.length u).run P w1=.ok l.toArray w1)/\DR cx w X z l ys:=by
 suffices main:∀y,aJ cx w X S β α u y->(match y with|.slice z' rows=>if z'=z then some rows else none|.str s=>if z=1 then some (s.map fun b=>[.int .u8 b.toNat]) else none|_=>none)=some ys->
   ∃l,(Builtin.lenOf u).run P w=.ok ys.length w/\(∀w1:World,w1.heap=w.heap->(Builtin.firstCells z ys.length u).run P w1=.ok l.toArray w1)/\DR cx w X z l ys by
  unfold V.rowsOf at h
  split at h
  ·exact main _ hy h
  ·exact main _ hy h
  ·rename_i z' rows
   simp only[aJ] at hy
   cases hy with
   |xslice a n c z rows hr=>exact main (.slice z' rows) hr h
  ·simp at h
 clear h hy
 intro y hy h
 split at h
 ·rename_i z' rows0
  split at h<;>simp only[Gb,reduceCtorEq] at h
  rename_i e
  obtain rfl:z=z':=e.symm
  subst h
  simp only[aJ] at hy
  rcases JB hy with⟨⟨a0,rfl⟩,rfl⟩|⟨b,o,aN,c,e',fr,rfl,hb,hX,hw,kT,hzz,hcc⟩
  ·exact⟨[],rfl,fun w1 _=>by cases a0<;>simp[Builtin.firstCells,loadCells,loadCellsFrom],.nil⟩
  ·generalize rows0=rows at *
   by_cases hr:rows=[]
   ·subst hr
    exact⟨[],rfl,fun w1 _=>by simp[Builtin.firstCells,loadCells,loadCellsFrom],.nil⟩
   ·have hsz:=(DR.of_cells hzz hcc hz).resolve_right hr
    refine⟨(c.toList.drop o).take (rows.length*z),rfl,fun w1 hw1=>?_,.seg hsz hzz hcc⟩
    have hl:=run_loadCells_list (P:=P) w1 ⟨b,o,none⟩ ((c.toList.drop o).take (rows.length*z)) (fun j v hj=>by
     have hj':j<rows.length*z:=by
      rcases GF j (rows.length*z) with h'|h'
      ·exact h'
      ·rw[List.getElem?_eq_none (by simp;omega)] at hj;simp at hj
     rw[List.getElem?_take_of_lt hj',List.getElem?_drop] at hj;rw[Jv];simp[World.cell?,hw1,hw];simpa using hj)
    have hlen:((c.toList.drop o).take (rows.length*z)).length=rows.length*z:=by simp;omega
    rw[hlen] at hl
    simpa [Builtin.firstCells] using hl
 ·split at h<;>simp only[Gb,reduceCtorEq] at h
  rename_i e;subst e;subst h
  obtain⟨s,rfl,rfl⟩:=J5 hy
  have hs:s.data.toList.length=s.size:=Array.length_toList
  refine⟨s.data.toList.map fun b=>.int .u8 b.toNat,by simp[Builtin.lenOf,hs],fun w1 _=>?_,?_⟩
  ·simp only[Builtin.firstCells,Gi,hs,Sem.run_pure]
   congr 1
   apply Array.ext'
   have:(s.extract 0 s.size).data=s.data:=by
    apply Array.ext';simp
   rw[this];simp
  ·refine⟨by simp,fun i hi=>?_,fun i j hi hj=>?_⟩
   ·simp at hi;simp[gr,List.getD_eq_getElem?_getD,hi]
   ·simp only[Gi] at hi
    obtain rfl:j=0:=by omega
    simp only[Array.length_toList] at hi
    have hd:s.data.toList[i]?=some s.data[i]:=by simp
    refine⟨.int .u8 s.data[i].toNat,by rw[List.getElem?_map];simp[hd],rfl,?_⟩
    have:gv (gr (s.data.toList.map fun b=>[V.int .u8 b.toNat]) i) 0=.int .u8 s.data[i].toNat:=by
     simp only[gr,gv,List.getD_eq_getElem?_getD,List.getElem?_map,hd];rfl
    rw[this];exact .int _ _
 ·simp at h
theorem Nk (n:Nat):∀r c,c<=n+(n+768) / 4->Builtin.growBy n r c<=n+(n+768) / 4
 |0,c,h=>by simpa [Builtin.growBy] using h
 |r+1,c,h=>by
  unfold Builtin.growBy;split
  ·exact h
  ·exact Nk n r _ (by omega)
def QJ {need aN:Nat} (h:aN<need) (j:need<=1073741824):Builtin.nextslicecap need aN<=2147483648:=by
 unfold Builtin.nextslicecap;split
 ·omega
 ·split
  ·omega
  ·have:=Nk need 4 aN (by omega);omega
end
def bH.cells {cx:Cx} {w:World} {Y:Nat->Prop} {v:Value} {z:Nat} {rows:List (List V)} (h:bH cx w Y v z rows) (hz:0<z) :
  ∃l,DR cx w Y z l rows/\(∀(P:Program) (q:World),q.heap=w.heap->(Builtin.firstCells z rows.length v).run P q=.ok l.toArray q)/\
   ∀b o n aN c e,v=.slice (some ⟨b,o,none⟩) n aN->w.heap[b]?=some (.cells c e (0,0))->∀k,k<l.length->c[o+k]?=l[k]?:=by
 rcases h.at_ with⟨rfl,rfl⟩|⟨b,o,aN,c,e,rfl,h1,O,Z,Q⟩
 ·exact⟨[],.nil,fun P q _=>by simp[Builtin.firstCells],fun b o n aN c e h=>by simp at h⟩
 ·have H:o+rows.length*z<=c.size:=by have:=GU z O;omega
  refine⟨(c.toList.drop o).take (rows.length*z),.seg H h.len Q,fun P q I=>?_,fun T o' n' J U W N p k R=>?_⟩
  rotate_left
  ·simp only[Value.slice.injEq,Gb,Addr.mk.injEq] at N
   obtain⟨⟨rfl,rfl,-⟩,-,-⟩:=N
   rw[h1] at p
   simp only[Gb,Obj.cells.injEq] at p
   obtain⟨rfl,-⟩:=p
   have E:k<rows.length*z:=by simp at R;omega
   rw[List.getElem?_take_of_lt E,List.getElem?_drop];simp
  have L:=run_loadCells_list (P:=P) q ⟨b,o,none⟩ ((c.toList.drop o).take (rows.length*z)) (fun j v y=>by
   have D:j<rows.length*z:=by
    rcases GF j (rows.length*z) with h'|h'
    ·exact h'
    ·rw[List.getElem?_eq_none (by simp;omega)] at y;simp at y
   rw[List.getElem?_take_of_lt D,List.getElem?_drop] at y;rw[Jv];simp[World.cell?,I,h1];simpa using y)
  have u:((c.toList.drop o).take (rows.length*z)).length=rows.length*z:=by simp;omega
  rw[u] at L
  simpa [Builtin.firstCells] using L
def bH.of_DR {cx:Cx} {w:World} {Y:Nat->Prop} {z b o aN:Nat} {rows:List (List V)} {c:Array Value} {e:TypeId} {l:List Value} (hw:w.heap[b]?=some (.cells c e (0,0)))
  (h:DR cx w Y z l rows) (hl:∀k,k<l.length->c[o+k]?=l[k]?) (h1:rows.length<=aN) (h2:o+aN*z<=c.size) {n:Nat} (hn:rows.length=n):bH cx w Y (.slice (some ⟨b,o,none⟩) n aN) z rows:=by
 subst hn
 refine⟨h.2.1,.inr ⟨b,o,aN,c,e,rfl,hw,h1,h2,fun i j hi hj=>?_⟩⟩
 have⟨u,a1,a2,a3⟩:=h.2.2 i j hi hj
 have:=vI hi hj
 exact⟨u,by rw[lU,hl _ (by rw[h.1];exact this)];exact a1,a2,a3⟩
section
variable {P:Program} {w:World}
def eP {t t' ty e:TypeId} {z n m aN:Nat} {base:Option Addr} {u:Value} {l:Array Value} {w':World} (ht:P.underlying t=some (.slice e)) (hz:dz P e=some z)
  (ht':JV P t'=true)
  (hn:(Builtin.lenOf u).run P w=.ok m w) (hf:(Builtin.firstCells z m u).run P w=.ok l w) (cG:n+m<=aN)
  (hst:∀a,base=some a->(storeCells (a.add (n*z)) l.toList).run P w=.ok () w') (hnone:base=none->w'=w) :
  (Builtin.append_ #[t,t'] ty #[.slice base n aN,u]).run P w=.ok (.slice base (n+m) aN) w':=by
 obtain⟨d',hd',hd2⟩:∃d',P.underlying t'=some d'/\((∃x,d'=.slice x)\/d'=.string):=by
  unfold JV at ht';split at ht'<;>simp_all
 unfold Builtin.append_
 rcases hd2 with⟨x,rfl⟩|rfl
 all_goals
  simp only[List.getElem?_toArray,List.getElem?_cons_zero,List.getElem?_cons_succ,Sem.run_bind,run_underlying ht w,run_underlying hd' w,Result.andThen,Jf hz w,Sem.run_pure,hn,Gl,Gv,Gt cG,GR,Gw,hf]
  cases base with
  |none=>simp[hnone rfl]
  |some a=>simp[hst a rfl,Result.andThen]
def gY {t t' ty e:TypeId} {z n m aN:Nat} {base:Option Addr} {u:Value} {l l0:Array Value} {ie:TypeInfo} {zv:Value} (ht:P.underlying t=some (.slice e)) (hz:dz P e=some z)
  (hie:P.info? e=some ie) (hb2:ie.bytes<=65536) (hzv:ie.zero=some zv)
  (ht':JV P t'=true)
  (hn:(Builtin.lenOf u).run P w=.ok m w) (hf:∀w1:World,w1.heap=w.heap->(Builtin.firstCells z m u).run P w1=.ok l w1) (cG:¬n+m<=aN)
  (hold:∀w1:World,w1.heap=w.heap->(Builtin.firstCells z n (.slice base n aN)).run P w1=.ok l0 w1) (hlim:n+m<=1073741824) :
  ∃nc d,n+m<=nc/\(Builtin.append_ #[t,t'] ty #[.slice base n aN,u]).run P w=
   .ok (.slice (some ⟨w.heap.size,0,none⟩) (n+m) nc) {w with drawn:=d,heap:=w.heap.push (.cells (l0++l++Builtin.zeroCells zv.cells (nc-(n+m))) e)}:=by
 obtain⟨d',hd',hd2⟩:∃d',P.underlying t'=some d'/\((∃x,d'=.slice x)\/d'=.string):=by
  unfold JV at ht';split at ht'<;>simp_all
 have kT:¬((Builtin.nextslicecap (n+m) aN*ie.bytes:Nat)>2^48):=by
  have h1:=QJ (need:=n+m) (aN:=aN) (by omega) hlim;have h2:Builtin.nextslicecap (n+m) aN*ie.bytes<=2147483648*65536:=Nat.mul_le_mul h1 hb2;omega
 have hmax:¬(((n+m:Nat):Int)>IntKind.i64.max/\(False\/ie.bytes=0)):=by
  simp only[IntKind.max,IntKind.signed,IntKind.bits,Gw];omega
 have hti:∀w1:World,(typeInfo e).run P w1=.ok ie w1:=fun w1=>JW hie w1
 have hzero:∀w1:World,(zeroValue e).run P w1=.ok zv w1:=fun w1=>by simp[zeroValue,hti,hzv,Result.andThen]
 have hq:Question.forced (.appendCap (n+m) aN e)=false:=rfl
 refine⟨Question.cut (.appendCap (n+m) aN e) (w.tape w.drawn (.appendCap (n+m) aN e)),w.drawn+1,by simp only[Question.cut];exact Nat.le_add_right _ _,?_⟩
 unfold Builtin.append_
 rcases hd2 with⟨x,rfl⟩|rfl
 all_goals
  simp only[List.getElem?_toArray,List.getElem?_cons_zero,List.getElem?_cons_succ,Sem.run_bind,run_underlying ht w,run_underlying hd' w,Result.andThen,Jf hz w,Sem.run_pure,hn,Gl,Gv,Sem.run_ite,Gn cG,hti,Gn hmax]
  rw[Gn kT]
  simp only[Sem.run_bind,run_choose,hq,Gl,Gv,Result.andThen,run_askRoom,hold {w with drawn:=w.drawn+1} rfl,hf {w with drawn:=w.drawn+1} rfl,hzero,Sem.run_pure,newRow,run_newObj,GR,Gw]
end
section
variable {P:Program} {cx:Cx} {B:Nat->Prop} {X:Nat->Prop} {S:St} {w:World} {β:Nat->Nat} {α:Nat->Value} {M:Nat->Prop}
def DR.one {z:Nat} (hz:0<z) {l:List Value} {rows:List (List V)} {w:World} {X:Nat->Prop} (h:DR cx w X z l rows):∀x∈l,x.oneCell'=true:=fun x y=>by
 obtain⟨k,q,rfl⟩:=List.getElem_of_mem y;have o:k<rows.length*z:=by rw[<-h.1];exact q
 have p:k / z<rows.length:=Nat.div_lt_of_lt_mul (by rw[Nat.mul_comm];exact o);obtain⟨D,j,u,-⟩:=h.2.2 (k / z) (k%z) p (Nat.mod_lt _ hz);rw[Nat.mul_comm,Nat.div_add_mod,List.getElem?_eq_getElem q] at j;simp only[Gb] at j;rw[j];exact u
def DE {s z n:Nat} {rows:List (List V)} {b o aN:Nat} (j:rows.length=n) :
  fo {S with A:=aI S.A s (some (z,rows,.live))} (aI α s (.slice (some ⟨b,o,none⟩) n aN)) (.slice (some ⟨b,o,none⟩) n aN) s z n:=
 ⟨rows,.live,some ⟨b,o,none⟩,aN,by simp[aI],rfl,fun _=>⟨b,o,rfl⟩,fun _=>⟨by omega,fun _=>by simp[aI]⟩⟩
def AP {S1:St} (h:aW cx B X S w β α M) {t t' ty e:TypeId} {s z n:Nat} {y r:V} {v u:Value} {ie:TypeInfo} {zv:Value}
  (hx:aJ cx w (aQ X M) S β α v (.own s z n)) (hy:aJ cx w (aQ X M) S β α u y)
  (ht:P.underlying t=some (.slice e)) (hz:dz P e=some z) (ay:P.info? e=some ie) (ax:ie.bytes<=65536) (a4:ie.zero=some zv) (a5:zv.cells.size=z) (ak:0<z)
  (ai:JV P t'=true)
  (p:JX S s z (.own s z n) y=some (r,S1)) :
  ∃q w',(Builtin.append_ #[t,t'] ty #[v,u]).run P w=.ok q w'/\cz cx B X S w β α M S1 r q w':=by
 simp only[JX,and_self,Gw] at p
 split at p<;>try (simp at p;done)
 rename_i z'' rows hA
 split at p<;>try (simp at p;done)
 rename_i hc
 obtain⟨rfl,hn⟩:=hc
 simp only[Gg] at p
 have⟨j,a3,p⟩:=p
 split at p<;>try (simp at p;done)
 rename_i aq
 simp only[Gb,Gr] at p
 obtain⟨rfl,rfl⟩:=p
 obtain⟨rows',f,a,aN,ac,rfl,ha,ho⟩:=hx
 rw[hA] at ac
 simp only[Gb,Gr] at ac
 obtain⟨-,rfl,rfl⟩:=ac
 have O:=(ho (by simp)).2 hn
 have⟨p1,p2⟩:=h.arr s z'' rows .live hA (by simp)
 have⟨H,U,L,hdr⟩:=kQ (P:=P) (n:=0) hy a3 ak
 have⟨Q,ae,ao,am⟩:=p1.cells ak
 subst hn
 rw[<-O] at ao p1 am
 have aa:H.length=j.length*z'':=hdr.1
 have ar:Q.length=rows.length*z'':=ae.1
 by_cases I:rows.length+j.length<=aN
 ·-- there is room
  rcases p1.at_ with⟨h1,Z⟩|⟨b,o,al,c,el,h1,Z,h3,h4,h5⟩
  ·simp only[Value.slice.injEq] at h1
   obtain⟨rfl,-,rfl⟩:=h1
   subst Z
   have a2:j=[]:=GJ (by simp only[List.length_nil] at I;omega)
   subst a2
   have a0:H=[]:=GJ (by simpa using aa)
   subst a0
   have D:=eP (ty:=ty) (base:=none) (w':=w) ht hz ai U (L w rfl) I (fun a ha=>by simp at ha) (fun _=>rfl)
   refine⟨_,w,D,?_⟩
   have:S={S with A:=aI S.A s (some (z'',[]++[],.live))}:=by
    have:aI S.A s (some (z'',[]++[],.live))=S.A:=by
     funext k;simp only[aI];split
     ·rename_i e;rw[e,hA];rfl
     ·rfl
    rw[this]
   rw[<-this]
   exact .pure h ⟨[],.live,none,0,hA,rfl,by simp,fun _=>⟨by simp,fun _=>by rw[<-O];rfl⟩⟩
  ·simp only[Value.slice.injEq] at h1
   obtain⟨rfl,-,rfl⟩:=h1
   have hM:M b:=(p2 b (by rw[<-O];rfl)).2.1 rfl
   have a6:o+rows.length*z''+H.length<=c.size:=by
    have:=GU z'' I;rw[jn] at this;omega
   have av:=run_storeCells_at P b (o+rows.length*z'') el H 0 c w Z (by omega) (hdr.one ak)
   rw[Nat.add_zero] at av
   have D:=eP (ty:=ty) (base:=some ⟨b,o,none⟩) ht hz ai U (L w rfl) I (fun a ha=>by
    simp only[Gb] at ha;subst ha;rw[Jv];exact av) (fun hn=>by simp at hn)
   have W:=setRow_heap w b c (c.toList.take (o+rows.length*z'')++H++c.toList.drop (o+rows.length*z''+H.length)).toArray el (0,0) Z
   have hT:=JM w b (c.toList.take (o+rows.length*z'')++H++c.toList.drop (o+rows.length*z''+H.length)).toArray
   have N:=JP w (c.toList.take (o+rows.length*z'')++H++c.toList.drop (o+rows.length*z''+H.length)).toArray (p2 b (by rw[<-O];rfl)).1
   generalize w.setRow b (c.toList.take (o+rows.length*z'')++H++c.toList.drop (o+rows.length*z''+H.length)).toArray=w2 at D W hT N
   refine⟨_,w2,D,?_⟩
   have hD:∀u x,aC cx w (aQ X M) u x->aC cx w2 (aQ X M) u x:=fun _ _ hr=>vJ hT hM hr
   have R:DR cx w2 (aQ X M) z'' (Q++H) (rows++j):=(ae.mono hD).append (hdr.mono hD)
   have az:=am b o _ _ c el rfl Z
   have an:c.toList.length=c.size:=Array.length_toList
   have a1:(c.toList.take (o+rows.length*z'')).length=o+rows.length*z'':=by rw[GK,an];omega
   have T:bH cx w2 (aQ X M) (.slice (some ⟨b,o,none⟩) (rows.length+j.length) aN) z'' (rows++j):=by
    refine bH.of_DR W R (fun k hk=>?_) (by simpa using I) (by rw[rh,Gf,Gf,GP,a1,an];omega) (by simp);simp only[List.getElem?_toArray];rw[Gf] at hk;rw[GX];by_cases ap:k<Q.length
    ·rw[List.getElem?_append_left ap,List.getElem?_append_left (by omega),List.getElem?_take_of_lt (by omega),<-az k ap];simp
    ·have e2:(Q++H)[k]?=H[k-Q.length]?:=List.getElem?_append_right (by omega);rw[e2,List.getElem?_append_right (by omega),List.getElem?_append_left (by omega)]
     congr 1;omega
   have E:(rows++j).length=rows.length->(Value.slice (some ⟨b,o,none⟩) (rows.length+j.length) aN)=α s:=fun e'=>by
    have:j.length=0:=by simp at e';exact List.length_eq_zero_iff.2 e'
    rw[<-O,this];rfl
   have⟨ah,ad⟩:=h.setArr (M':=M) (rows':=rows++j) (v':=.slice (some ⟨b,o,none⟩) (rows.length+j.length) aN) hA
    (fun b' J _=>hT.block b' (fun e'=>J (by rw[<-O,e'];rfl))) (by rw[hT.size];exact GC _) (.inl (by rw[<-O];rfl)) (by simp) E
    (fun _ hb=>hb) (fun _ hb=>.inl hb) (fun b' J=>by simp only[Sg.hdr,Gb] at J;subst J;exact hM) T
   exact⟨β,_,M,ah,fun u' x' aj=>aJ.tr ad (xv hA (by simp) E) (fun s hs=>⟨hs,rfl⟩) aj,DE (by simp),N⟩
 ·-- a new block
  have af:rows.length+j.length<=1073741824:=aq
  have⟨Y,d,au,D⟩:=gY (ty:=ty) (P:=P) ht hz ay ax a4 ai U L I (ao P) af
  have hg:ez w {w with drawn:=d,heap:=w.heap.push (.cells (Q.toArray++H.toArray++Builtin.zeroCells zv.cells (Y-(rows.length+j.length))) e)}:=
   ⟨by simp,fun b hb=>by simp[Array.getElem?_push,Nat.ne_of_lt hb]⟩
  have W:({w with drawn:=d,heap:=w.heap.push (.cells (Q.toArray++H.toArray++Builtin.zeroCells zv.cells (Y-(rows.length+j.length))) e)}:World).heap[w.heap.size]?=some (.cells (Q.toArray++H.toArray++Builtin.zeroCells zv.cells (Y-(rows.length+j.length))) e (0,0)):=by simp
  have ag:w.heap.size<({w with drawn:=d,heap:=w.heap.push (.cells (Q.toArray++H.toArray++Builtin.zeroCells zv.cells (Y-(rows.length+j.length))) e)}:World).heap.size:=by simp
  have N:bY B w {w with drawn:=d,heap:=w.heap.push (.cells (Q.toArray++H.toArray++Builtin.zeroCells zv.cells (Y-(rows.length+j.length))) e)}:=⟨rfl,rfl,rfl,hg.size,fun k hk=>hg.block k (h.size k hk)⟩
  generalize ({w with drawn:=d,heap:=w.heap.push (.cells (Q.toArray++H.toArray++Builtin.zeroCells zv.cells (Y-(rows.length+j.length))) e)}:World)=w2 at D hg W ag N
  refine⟨_,w2,D,?_⟩
  have Z:∀b,(M b\/b=w.heap.size)->M b\/(w.heap.size<=b/\b<w2.heap.size):=fun b hb=>by
   rcases hb with hb|hb
   ·exact .inl hb
   ·subst hb;exact .inr ⟨GC _,ag⟩
  have hD:∀u x,aC cx w (aQ X M) u x->aC cx w2 (aQ X (fun b=>M b\/b=w.heap.size)) u x:=fun _ _ hr=>J1 hg (fun b hb=>(Z b hb).imp id (·.1)) hr
  have R:DR cx w2 (aQ X (fun b=>M b\/b=w.heap.size)) z'' (Q++H) (rows++j):=(ae.mono hD).append (hdr.mono hD)
  have ab:0<j.length:=by
   rcases nI j.length with h0|h0
   ·exfalso
    rcases p1.at_ with⟨h1,Z⟩|⟨b,o,al,c,el,h1,Z,h3,h4,h5⟩
    ·simp only[Value.slice.injEq] at h1;obtain⟨-,h1,rfl⟩:=h1;omega
    ·simp only[Value.slice.injEq] at h1;obtain⟨-,-,rfl⟩:=h1;omega
   ·exact h0
  have E:(rows++j).length=rows.length->(Value.slice (some ⟨w.heap.size,0,none⟩) (rows.length+j.length) Y)=α s:=fun e'=>by
   simp at e';rw[e'] at ab;simp at ab
  have T:bH cx w2 (aQ X (fun b=>M b\/b=w.heap.size)) (.slice (some ⟨w.heap.size,0,none⟩) (rows.length+j.length) Y) z'' (rows++j):=by
   refine bH.of_DR W R (fun k hk=>?_) (by simpa using au) ?_ (by simp)
   ·rw[j8,Array.getElem?_append_left (by simpa using hk)];simp
   ·have:(Builtin.zeroCells zv.cells (Y-(rows.length+j.length))).size=(Y-(rows.length+j.length))*z'':=by simp[Builtin.zeroCells,a5]
    simp only[Array.size_append,rh,this,ar,aa,j8,Nat.sub_mul,jn];have:=GU z'' au;rw[jn] at this;omega
  have⟨ah,ad⟩:=h.setArr (M':=fun b=>M b\/b=w.heap.size) (rows':=rows++j) (v':=.slice (some ⟨w.heap.size,0,none⟩) (rows.length+j.length) Y) hA
   (fun b' _ J=>hg.block b' J) hg.size (.inr ⟨w.heap.size,rfl,GC _,ag⟩) (by simp) E
   (fun _ hb=>.inl hb) Z (fun b' J=>by simp only[Sg.hdr,Gb] at J;exact .inr J.symm) T
  refine⟨β,_,_,ah,fun u' x' aj=>aJ.tr ad (xv hA (by simp) E) (fun s hs=>⟨hs,rfl⟩) aj,DE (by simp),N⟩
end
def mI (cx:Cx) (w w':World) (X:Nat->Prop) (own:Option Nat) (v:Value) (r:V):Prop:=
 match own with
 |none=>aC cx w' X v r
 |some j=>∃hv z rows,∃N:Nat->Prop,(∀b,N b->w.heap.size<=b/\b<w'.heap.size)/\(∀b,hdr hv=some b->N b)/\bH cx w' (aQ X N) hv z rows/\
   ((r=.slice z rows/\v=hv)\/∃vs,∃cs:Array Value,r=.tuple vs/\v=.tuple cs/\cs.size=vs.length/\j<vs.length/\vs[j]?=some (.slice z rows)/\cs[j]?=some hv/\
    ∀i,i<vs.length->i≠j->∃u,cs[i]?=some u/\aC cx w' (aQ X N) u (gv vs i))
def pj (P:Program) (f:FuncId):Prop:=∃fn,P.funcs[f]?=some fn/\(fn.name == "runtime.NumGoroutine")=false/\fn.body.isNone=false
def jR (P:Program) (cx:Cx) (own:Option Nat) (f:Nat) (args:List V) (r:V):Prop:=
 pj P (cx.fm f)/\∀(w:World) (X:Nat->Prop) (vs:Array Value),(∀b,X b->b<w.heap.size)->cx.gn<=w.heap.size->cx.G w->vs.size=args.length->
  (∀i,i<args.length->∃u,vs[i]?=some u/\aC cx w X u (gv args i))->
  Calls P (cx.fm f) vs w fun e w'=>∃v,e=.returned v/\Below w.heap.size w w'/\mI cx w w' X own v r
theorem bH.slice {cx:Cx} {w:World} {Y:Nat->Prop} {v:Value} {z:Nat} {rows:List (List V)} (h:bH cx w Y v z rows) (q:∀b,hdr v=some b->¬Y b):aC cx w Y v (.slice z rows):=by
 rcases h.at_ with⟨rfl,rfl⟩|⟨b,o,aN,c,e,rfl,h1,j,u,p⟩
 ·exact .nilslice none z
 ·exact Ds (JG h1) (q b rfl) h1 j h.len p rfl
def mI.data {cx:Cx} {w w':World} {X:Nat->Prop} {own:Option Nat} {v:Value} {r:V} (h:mI cx w w' X own v r) (O:∀b,X b->b<w.heap.size):aC cx w' X v r:=by
 cases own with
 |none=>exact h
 |some j=>
  have⟨D,z,rows,N,L,T,Q,y⟩:=h;have I:∀u x,aC cx w' (aQ X N) u x->aC cx w' X u x:=fun u x y=>y.mono (GC _) (fun _ _ _=>rfl) (fun b _ W H=>W (.inl H));have p:bH cx w' X D z rows:=Q.tr I (fun _ _=>rfl);have J:aC cx w' X D (.slice z rows):=p.slice (fun b R H=>by have:=(L b (T b R)).1;have:=O b H;omega);rcases y with⟨rfl,rfl⟩|⟨vs,cs,rfl,rfl,U,Y,E,q,o⟩
  ·exact J
  ·have:∀i,i<vs.length->∃u,cs[i]?=some u/\aC cx w' X u (gv vs i):=fun i hi=>by
    by_cases e:i=j
    ·subst e;exact⟨D,q,by simpa [gv,E] using J⟩
    ·have⟨u,a,b⟩:=o i hi e;exact⟨u,a,I _ _ b⟩
   have⟨u,hu⟩:=oh this;exact .tuple cs vs u U (fun i hi=>(hu i hi).1) (fun i hi=>(hu i hi).2)
section
variable {P:Program} {cx:Cx} {B:Nat->Prop} {X:Nat->Prop} {S:St} {w w':World} {β:Nat->Nat} {α:Nat->Value} {M:Nat->Prop}
def Dw (h:aW cx B X S w β α M):cx.gn<=w.heap.size:=by
 rcases nI cx.gn with e|e
 ·omega
 ·have:=h.size _ (h.glob.1 (cx.gn-1) (by omega));omega
def iy {S1:St} (h:aW cx B X S w β α M) {d:Nat} {own own':Option Nat} {v:Value} {r r1:V} (hb:Below w.heap.size w w') (ho:own=none\/own=own')
  (hr:mI cx w w' (aQ X M) own' v r) (hXM:∀b,aQ X M b->b<w.heap.size) (had:ea d S own r=some (r1,S1)):cz cx B X S w β α M S1 r1 v w':=by
 have hg:=ez.of_below hb
 have hbB:bY B w w':=.of hb h.size
 unfold ea at had
 cases own with
 |none=>
  simp only[Gb,Gr] at had
  obtain⟨rfl,rfl⟩:=had
  have hw:=h.grow hg (M':=M) (fun _ h=>h) (fun _ h=>.inl h)
  exact⟨β,α,M,hw,fun u x hu=>aJ.tr (fun _ _ hr=>J1 hg (fun _ h=>.inl h) hr) (dK.refl S α) (fun s hs=>⟨hs,rfl⟩) hu,.of_data (hr.data hXM),hbB⟩
 |some j=>
  obtain rfl:own'=some j:=by rcases ho with h|h<;>simp_all
  have⟨hv,z,rows,N,hN,hh,ha,hr⟩:=hr
  simp only at had
  split at had
  ·simp at had
  ·rename_i hA
   have h2:∀b,(M b\/N b)->M b\/(w.heap.size<=b/\b<w'.heap.size):=fun b hb=>hb.imp id (hN b)
   have hw:=h.grow hg (M':=fun b=>M b\/N b) (fun _ h=>.inl h) h2
   have hD:∀u x,aC cx w (aQ X M) u x->aC cx w' (aQ X (fun b=>M b\/N b)) u x:=fun _ _ hr=>J1 hg (fun b hb=>(h2 b hb).imp id (·.1)) hr
   have hE:∀u x,aC cx w' (aQ (aQ X M) N) u x->aC cx w' (aQ X (fun b=>M b\/N b)) u x:=fun _ _ hr=>hr.mono (GC _) (fun _ _ _=>rfl) (fun b _ hn hx=>hn (by
    rcases hx with hx|hx|hx
    ·exact .inl (.inl hx)
    ·exact .inl (.inr hx)
    ·exact .inr hx))
   have yu:bH cx w' (aQ X (fun b=>M b\/N b)) hv z rows:=ha.tr hE (fun _ _=>rfl)
   have hadd:=hw.addArr (d:=d) (z0:=z) (rows0:=rows) (v0:=hv) hA yu (fun b hb=>.inr (hh b hb))
    (fun s b hs hb he=>by
     have⟨x,hx⟩:=GZ.1 hs;have:=h.varLt (cs:=x.1) (f:=x.2) hx;have:=(hN b (hh b hb)).1;omega)
    (fun s z' r f hs hf b hb hs'=>by
     have:=(h.arr s z' r f hs hf).1.lt hs';have:=(hN b (hh b hb)).1;omega)
   have hT:dK S {S with A:=aI S.A d (some (z,rows,.live))} α (aI α d hv):=fun s z' r f hs=>by
    have:s≠d:=fun e=>by rw[e,hA] at hs;simp at hs
    exact⟨r,f,by simp[aI,this,hs],fun hf=>⟨hf,GC _,fun _=>by simp[aI,this]⟩⟩
   have hO:fo {S with A:=aI S.A d (some (z,rows,.live))} (aI α d hv) hv d z rows.length:=by
    rcases ha.at_ with⟨rfl,rfl⟩|⟨b,o,aN,c,e,rfl,h1,h2,h3,h4⟩
    ·exact⟨[],.live,none,0,by simp[aI],rfl,by simp,fun _=>⟨by simp,fun _=>by simp[aI]⟩⟩
    ·exact⟨rows,.live,some ⟨b,o,none⟩,aN,by simp[aI],rfl,fun _=>⟨b,o,rfl⟩,fun _=>⟨GC _,fun _=>by simp[aI]⟩⟩
   rcases hr with⟨rfl,rfl⟩|⟨vs,cs,rfl,rfl,hl,hj,hvj,hcj,hoth⟩
   ·simp only[Gb,Gr] at had
    obtain⟨rfl,rfl⟩:=had
    exact⟨β,_,_,hadd,fun u x hu=>aJ.tr hD hT (fun s hs=>⟨hs,rfl⟩) hu,hO,hbB⟩
   ·simp only[hvj,Gb,Gr] at had
    obtain⟨rfl,rfl⟩:=had
    refine⟨β,_,_,hadd,fun u x hu=>aJ.tr hD hT (fun s hs=>⟨hs,rfl⟩) hu,⟨cs,rfl,by simpa using hl,fun i hi=>?_⟩,hbB⟩
    simp only[qX] at hi
    by_cases e:i=j
    ·subst e
     refine⟨hv,hcj,?_⟩
     have:gv (vs.set i (.own d z rows.length)) i=.own d z rows.length:=by simp[gv,List.getD_eq_getElem?_getD,hi]
     rw[this];exact hO
    ·have⟨u,a,b⟩:=hoth i hi e
     refine⟨u,a,?_⟩
     have:gv (vs.set j (.own d z rows.length)) i=gv vs i:=by simp[gv,List.getD_eq_getElem?_getD,Ne.symm e]
     rw[this];exact .of_data (hE _ _ b)
def cj (h:aW cx B X S w β α M) {v:Value} {x y:V} (hx:cK cx w (aQ X M) S α v x) (hy:cn S.A x=some y) {Y:Nat->Prop}
  (hY:∀b,Y b->X b\/M b) (hs:∀s∈Jc x,∀b,hdr (α s)=some b->(∃z rows f,S.A s=some (z,rows,f)/\f≠.dead)->¬Y b):aC cx w Y v y:=by
 have hD:∀u x,aC cx w (aQ X M) u x->aC cx w Y u x:=fun u x hr=>hr.mono (GC _) (fun _ _ _=>rfl) (fun b _ hn hx=>hn (hY b hx))
 unfold cn at hy
 split at hy
 ·simp only[Gb] at hy
  subst hy
  have hx:aC cx w (aQ X M) v (.nslice _):=hx
  cases hx
  exact .nilslice _ _
 ·rename_i s z n
  split at hy
  ·rename_i z' rows f hA
   split at hy<;>simp only[Gb,reduceCtorEq] at hy
   rename_i hc
   obtain⟨rfl,hn,hf⟩:=hc
   subst hy
   obtain⟨rows',f',a,aN,hA',rfl,ha,ho⟩:=hx
   rw[hA] at hA'
   simp only[Gb,Gr] at hA'
   obtain⟨-,rfl,rfl⟩:=hA'
   have:=(h.arr s z' rows f hA hf).1.tr hD (fun _ _=>rfl)
   rw[<-(ho hf).2 hn] at this
   refine this.slice (fun b hb=>?_)
   rw[(ho hf).2 hn] at hb
   exact hs s (by simp[Jc]) b hb ⟨z',rows,f,hA,hf⟩
  ·simp at hy
 ·split at hy<;>simp only[Gb,reduceCtorEq] at hy
  rename_i hd
  subst hy
  exact hD _ _ (hx.data hd)
theorem JA {α β:Type} {f:α->Option β}:∀{l:List α} {r:List β},Jn f l=some r->r.length=l.length/\∀(i:Nat) (x:α),l[i]?=some x->∃y,r[i]?=some y/\f x=some y
 |[],r,h=>by simp only[Jn,Gb] at h;subst h;exact⟨rfl,fun i x j=>by simp at j⟩
 |a::l,r,h=>by
  simp only[Jn,Gg,Gb] at h;obtain⟨y,q,u,o,rfl⟩:=h;have⟨h1,p⟩:=JA o;refine⟨by simp[h1],fun i x j=>?_⟩;cases i with
  |zero=>simp at j;subst j;exact⟨y,rfl,q⟩
  |succ i=>simpa using p i x (by simpa using j)
def xt (h:aW cx B X S w β α M) {v:Value} {x y:V} (D:aJ cx w (aQ X M) S β α v x) (p:dT S.A x=some y) {Y:Nat->Prop}
  (q:∀b,Y b->X b\/M b) (O:∀s∈Jd x,∀b,hdr (α s)=some b->(∃z rows f,S.A s=some (z,rows,f)/\f≠.dead)->¬Y b):aC cx w Y v y:=by
 cases x with
 |agg vs=>
  simp only[dT,uI] at p
  obtain⟨H,N,rfl⟩:=p
  obtain⟨cs,rfl,U,R⟩:=D
  have⟨h1,Q⟩:=JA N
  have:∀i,i<H.length->∃u,cs[i]?=some u/\u.oneCell'=true/\aC cx w Y u (gv H i):=fun i hi=>by
   have E:i<vs.length:=by omega
   have⟨u,a,b,c⟩:=R i E;have⟨y,J,L⟩:=Q i vs[i] (by simp[E]);have T:gv vs i=vs[i]:=by simp[gv,E]
   rw[T] at c;have I:gv H i=y:=by simp[gv,J]
   rw[I];refine⟨u,a,b,cj h c L q (fun s j=>O s ?_)⟩;simp only[Jd,tE];exact⟨vs[i],by simp,j⟩
  have⟨u,hu⟩:=oh this
  exact .agg cs H u (by omega) (fun i hi=>⟨(hu i hi).1,(hu i hi).2.1⟩) (fun i hi=>(hu i hi).2.2)
 |tuple vs=>simp[dT,cn,V.datC] at p
 |lref s o=>simp[dT,cn,V.datC] at p
 |eref s i o n=>simp[dT,cn,V.datC] at p
 |own s z n=>exact cj (x:=.own s z n) h D p q (fun s' j=>O s' (by simpa [Jd] using j))
 |undef=>exact cj (x:=.undef) h D p q (fun s' j=>by simp[Jc] at j)
 |bool b=>exact cj (x:=.bool b) h D p q (fun s' j=>by simp[Jc] at j)
 |int k n=>exact cj (x:=.int k n) h D p q (fun s' j=>by simp[Jc] at j)
 |str s=>exact cj (x:=.str s) h D p q (fun s' j=>by simp[Jc] at j)
 |slice z r=>exact cj (x:=.slice z r) h D p q (fun s' j=>by simp[Jc] at j)
 |func f c=>exact cj (x:=.func f c) h D p q (fun s' j=>by simp[Jc] at j)
 |cptr c o=>exact cj (x:=.cptr c o) h D p q (fun s' j=>by simp[Jc] at j)
 |iface t v=>exact cj (x:=.iface t v) h D p q (fun s' j=>by simp[Jc] at j)
 |niface=>exact cj (x:=.niface) h D p q (fun s' j=>by simp[Jc] at j)
 |nslice z=>exact cj (x:=.nslice z) h D p q (fun s' j=>by simp[Jc] at j)
 |xslice z r=>exact cj (x:=.xslice z r) h D p q (fun s' j=>by simp[Jc] at j)
theorem Dt {α:Type} (f:Nat->α) (k:Nat) (v:α) (h:f k=v):aI f k v=f:=by
 funext i;simp only[aI];split
 ·rename_i e;rw[e,h]
 ·rfl
def fK:∀(l:List Nat) {S:St} {M:Nat->Prop},aW cx B X S w β α M->∃M',aW cx B X {S with A:=JL S.A l} w β α M'/\(∀b,M' b->M b)/\dK S {S with A:=JL S.A l} α α/\
  ∀s∈l,∀b,hdr (α s)=some b->(∃z rows f,S.A s=some (z,rows,f)/\f≠.dead)->¬M' b
 |[],S,M,h=>⟨M,h,fun _ h=>h,dK.refl S α,fun s hs=>by simp at hs⟩
 |s::l,S,M,h=>by
  have key:∀(A1:Nat->Option (Nat×List (List V)×Fz)) (M1:Nat->Prop),A1=aI S.A s ((S.A s).map fun (z,rows,f)=>(z,rows,if f=.live then .frz else f))->
    aW cx B X {S with A:=A1} w β α M1->(∀b,M1 b->M b)->dK S {S with A:=A1} α α->(∀b,hdr (α s)=some b->(∃z rows f,S.A s=some (z,rows,f)/\f≠.dead)->¬M1 b)->
    ∃M',aW cx B X {S with A:=JL S.A (s::l)} w β α M'/\(∀b,M' b->M b)/\dK S {S with A:=JL S.A (s::l)} α α/\
     ∀s'∈s::l,∀b,hdr (α s')=some b->(∃z rows f,S.A s'=some (z,rows,f)/\f≠.dead)->¬M' b:=by
   intro A1 M1 hA1 hr hsub hT hs
   have e:JL S.A (s::l)=JL A1 l:=by rw[hA1];rfl
   have⟨M',h1,h2,h3,h4⟩:=fK l hr
   rw[e]
   refine⟨M',h1,fun b hb=>hsub b (h2 b hb),fun t z rows f ht=>?_,fun s' hs' b hb hex hm=>?_⟩
   ·have⟨r1,f1,a1,a2⟩:=hT t z rows f ht
    have⟨r2,f2,b1,b2⟩:=h3 t z r1 f1 a1
    refine⟨r2,f2,b1,fun hf=>?_⟩
    have⟨c1,c2,c3⟩:=b2 hf
    have⟨d1,d2,d3⟩:=a2 c1
    exact⟨d1,by omega,fun _=>rfl⟩
   ·rcases GH.1 hs' with rfl|hs'
    ·exact hs b hb hex (h2 b hm)
    ·refine h4 s' hs' b hb ?_ hm
     have⟨z,rows,f,e1,e2⟩:=hex
     by_cases e':s'=s
     ·subst e'
      refine⟨z,rows,if f=.live then .frz else f,by simp[hA1,aI,e1],?_⟩
      split
      ·simp
      ·exact e2
     ·exact⟨z,rows,f,by simp[hA1,aI,e',e1],e2⟩
  cases hA:S.A s with
  |none=>
   exact key S.A M (by rw[hA,Dt _ _ _ (by simp[hA])]) h (fun _ h=>h) (dK.refl S α) (fun b _ hex=>by have⟨z,rows,f,e,_⟩:=hex;simp[hA] at e)
  |some x=>
   have⟨z,rows,f⟩:=x;by_cases hf:f=.live
   ·subst hf;have hfr:=h.frzArr (f':=.frz) (rows':=rows) hA (.inl ⟨rfl,rfl,rfl⟩);refine key _ _ (by rw[hA];rfl) hfr (fun _ h=>h.1) (fun t z' r f1 ht=>?_) (fun b hb _ hm=>hm.2 rfl hb);by_cases e:t=s
    ·subst e;rw[hA] at ht;simp only[Gb,Gr] at ht;obtain⟨rfl,rfl,rfl⟩:=ht;exact⟨rows,.frz,by simp[aI],fun _=>⟨by simp,GC _,fun _=>rfl⟩⟩
    ·exact⟨r,f1,by simp[aI,e,ht],fun hf=>⟨hf,GC _,fun _=>rfl⟩⟩
   ·refine key S.A M (by rw[hA,Dt _ _ _ (by simp[hA,hf])]) h (fun _ h=>h) (dK.refl S α) (fun b hb hex hm=>?_);have⟨z',rows',f',e1,e2⟩:=hex;rw[hA] at e1;simp only[Gb,Gr] at e1;obtain⟨rfl,rfl,rfl⟩:=e1;have hfz:f=.frz:=by cases f<;>simp_all
    exact ((h.arr s z rows f hA e2).2 b hb).2.2 hfz hm
def md:∀(l:List Nat) {S:St} {M:Nat->Prop},aW cx B X S w β α M->l.all (JH S.μ)=true->
  ∃M',aW cx B X {S with μ:=J9 S.μ l} w β α M'/\(∀b,M' b->M b)/\(∀s,(S.μ s).isSome->(J9 S.μ l s).isSome)/\
  ∀s∈l,(S.μ s).isSome->¬M' (β s)
 |[],S,M,h,_=>⟨M,h,fun _ h=>h,fun _ h=>h,fun s hs=>by simp at hs⟩
 |s::l,S,M,h,hd=>by
  simp only[List.all_cons,Ge] at hd;have key:∀(μ1:Nat->Option (List V×Bool)) (M1:Nat->Prop),μ1=aI S.μ s ((S.μ s).map fun (cs,_)=>(cs,true))->
    aW cx B X {S with μ:=μ1} w β α M1->(∀b,M1 b->M b)->((S.μ s).isSome->¬M1 (β s))->
    ∃M',aW cx B X {S with μ:=J9 S.μ (s::l)} w β α M'/\(∀b,M' b->M b)/\(∀t,(S.μ t).isSome->(J9 S.μ (s::l) t).isSome)/\∀t∈s::l,(S.μ t).isSome->¬M' (β t):=by
   intro μ1 M1 hμ hr hsub hs
   have e:J9 S.μ (s::l)=J9 μ1 l:=by rw[hμ];rfl
   have hsame:∀t,(S.μ t).isSome=(μ1 t).isSome:=fun t=>by
    rw[hμ];simp only[aI];split
    ·rename_i e;rw[e];simp
    ·rfl
   have⟨M',h1,h2,h3,h4⟩:=md l hr (by
    rw[GG] at hd ⊢;intro t ht;have:=hd.2 t ht;simp only[JH] at this ⊢;simp only[hμ,aI];split
    ·rename_i m hm;split at hm
     ·rename_i e;subst e;cases hx:S.μ t with
      |none=>simp[hx] at hm
      |some x=>simp only[hx,Option.map_some,Gb] at hm;subst hm;simpa [hx] using this
     ·simpa [hm] using this
    ·rfl)
   rw[e]
   refine⟨M',h1,fun b hb=>hsub b (h2 b hb),fun t ht=>h3 t (by rw[<-hsame];exact ht),fun t ht hts hm=>?_⟩
   rcases GH.1 ht with rfl|ht
   ·exact hs hts (h2 _ hm)
   ·exact h4 t ht (by rw[<-hsame];exact hts) hm
  cases hm:S.μ s with
  |none=>exact key S.μ M (by rw[hm,Dt _ _ _ (by simp[hm])]) h (fun _ h=>h) (fun h=>by simp[hm] at h)
  |some x=>
   have⟨cs,f⟩:=x;have hd1:=hd.1;simp only[JH,hm] at hd1;exact key _ _ (by rw[hm];rfl) (h.frzVar hm hd1) (fun _ h=>h.1) (fun _ hmm=>hmm.2 rfl)
def Sc {Y o:Nat->Prop} {v:Value} {r:V} (h:aC cx w Y v r) (j:r.scalar=true):aC cx w' o v r:=by
 have h1:∀{v:Value} {x:V},aC cx w Y v x->(match x with|.bool _|.int ..|.str _=>true|_=>false)=true->aC cx w' o v x:=by
  intro v x h z;cases h<;>simp at z
  ·exact .bool _
  ·exact .int _ _
  ·exact .str _
 cases h with
 |tuple cs vs u q p y=>
  simp only[V.scalar,GG] at j;exact .tuple cs vs u q p (fun i hi=>h1 (y i hi) (j _ (by simp[gv,hi])))
 |bool b=>exact .bool _
 |int k n=>exact .int _ _
 |str s=>exact .str _
 |_=>simp[V.scalar] at j
end
def ly (P:Program) (o:Oper) (a:Act) (w:World) (post:Value->World->Prop):Prop:=
 (∃v w',(execOp a.eval o).run P w=.ok (.value v) w'/\post v w')\/
 (∃w',(execOp a.eval o).run P w=.ok .skip w'/\post undef w')\/
 ∃f args w',(execOp a.eval o).run P w=.ok (.enter f args) w'/\Calls P f args w' fun e w''=>∃v,e=.returned v/\post v w''
def ly.wp {P:Program} {o:Oper} {a:Act} {w:World} {post:Value->World->Prop} (h:ly P o a w post) {K:Act->World->Prop} {Q:Exit->Act->World->Prop}
  (q:∀v w',post v w'->K (a.put o.dst v) w'):o.wp P a w K Q:=by
 unfold Oper.wp
 rcases h with⟨v,w',p,j⟩|⟨w',p,j⟩|⟨f,args,w',p,u⟩
 ·rw[p];exact q _ _ j
 ·rw[p];exact q _ _ j
 ·rw[p]
  refine u.mono fun e z y=>?_
  obtain⟨v,rfl,j⟩:=y
  exact q _ _ j
def ly.value {P:Program} {o:Oper} {a:Act} {w:World} {post:Value->World->Prop} {s:Sem Value} {v:Value} {w':World}
  (j:execOp a.eval o=(do pure (.value (<-s)):Sem Next)) (q:s.run P w=.ok v w') (p:post v w'):ly P o a w post:=
 .inl ⟨v,w',by rw[j];simp[q,Result.andThen],p⟩
theorem JR {cx:Cx} {w:World} {Y:Nat->Prop} {S:St} {β:Nat->Nat} {α:Nat->Value} {a:Act} {ds:List (Option Nat)} {e:Nat->V}
  (j:∀t,aJ cx w Y S β α (a.tmps.getD t undef) (S.ρ t)) (y:∀i d,ds[i]?=some (some d)->aJ cx w Y S β α (a.tmps.getD d undef) (e i)) :
  ∀(os:List Operand) (avs:List bF),Jh cx ds os avs=true->os.length=avs.length/\∀i,i<avs.length->∃u,(os.map a.eval)[i]?=some u/\aJ cx w Y S β α u (gv (avs.map (aK e S.ρ)) i)
 |[],[],_=>⟨rfl,fun i hi=>by simp at hi⟩
 |o::os,x::avs,h=>by
  simp only[Jh,Ge] at h;have⟨h1,z⟩:=JR j y os avs h.2;refine⟨by simp[h1],fun i hi=>?_⟩;cases i with
  |zero=>exact⟨a.eval o,rfl,by simpa [gv] using xu j y h.1⟩
  |succ i=>have⟨u,p,q⟩:=z i (by simpa using hi);exact⟨u,by simpa using p,by simpa [gv] using q⟩
 |[],_::_,h=>by simp[Jh] at h
 |_::_,[],h=>by simp[Jh] at h
section
variable {P:Program} {cx:Cx} {B:Nat->Prop} {X:Nat->Prop} {S:St} {w:World} {β:Nat->Nat} {α:Nat->Value} {M:Nat->Prop}
variable {a:Act} {ds:List (Option Nat)} {e:Nat->V}
def C4 {S1:St} (h:aW cx B X S w β α M) (hg:∀t,aJ cx w (aQ X M) S β α (a.tmps.getD t undef) (S.ρ t)) (hl:∀i d,ds[i]?=some (some d)->aJ cx w (aQ X M) S β α (a.tmps.getD d undef) (e i))
  {f:Nat} {os:List Operand} {avs:List bF} {sites:List Nat} {r:V} (hok:Jh cx ds os avs=true)
  (hev:(if sites.all (JH S.μ) then
   (Jn (jF S.μ sites) (avs.map (aK e S.ρ))).bind fun cs=>some (V.func f cs,{S with μ:=J9 S.μ sites})
  else none)=some (r,S1)) :
  cz cx B X S w β α M S1 r (.func (.func (cx.fm f)) #[] (os.map a.eval).toArray) w:=by
 split at hev<;>try (simp at hev;done)
 rename_i hall
 simp only[Gg,Gb,Gr] at hev
 obtain⟨cs,hcs,rfl,rfl⟩:=hev
 have⟨M',h1,h2,h3,h4⟩:=md sites h hall
 have⟨hlen,hrel⟩:=JR hg hl os avs hok
 have⟨m1,m2⟩:=JA hcs
 have hD:∀u x,aC cx w (aQ X M) u x->aC cx w (aQ X M') u x:=fun u x hr=>sd h2 hr
 have kT:∀i,i<cs.length->∃u,(os.map a.eval).toArray[i]?=some u/\aC cx w (aQ X M') u (gv cs i):=fun i hi=>by
  have hi':i<avs.length:=by simpa using (by omega:i<(avs.map (aK e S.ρ)).length)
  have⟨u,p,q⟩:=hrel i hi';have⟨y,y1,y2⟩:=m2 i _ (List.getElem?_eq_getElem (by simpa using hi'));have hgv:gv cs i=y:=by simp[gv,y1]
  have hga:gv (avs.map (aK e S.ρ)) i=(avs.map (aK e S.ρ))[i]'(by simpa using hi'):=by simp[gv,hi']
  rw[hga] at q;rw[hgv];refine⟨u,by simpa using p,?_⟩;generalize (avs.map (aK e S.ρ))[i]'(by simpa using hi')=x at q y2;unfold jF at y2;split at y2
  ·rename_i s;split at y2
   ·rename_i c0 f0 hs;split at y2<;>simp only[Gb,reduceCtorEq] at y2;rename_i hc;subst y2;obtain⟨q1,rfl⟩:=q;have⟨a1,a2,a3,c,el,a4,a5,a6⟩:=h.var s c0 f0 hs;have hin:s∈sites:=by simpa using hc.1
    refine Dv (JG a4) ?_ a4 (GC _) (fun j hj=>?_)
    ·rintro (hx|hm)
     ·exact a1 (h.xb _ hx)
     ·exact h4 s hin q1 hm
    ·have⟨u,b1,b2,b3⟩:=a6 j hj;exact⟨u,by simpa using b1,b2,hD _ _ (b3.data (RX hc.2 j hj))⟩
   ·simp at y2
  ·split at y2<;>simp only[Gb,reduceCtorEq] at y2;rename_i hd;subst y2;exact hD _ _ (q.data hd)
 have⟨u,hu⟩:=oh kT
 refine⟨β,α,M',h1,fun v x hv=>aJ.tr (S':={S with μ:=J9 S.μ sites}) hD (show dK S _ α α from dK.refl S α) (fun s hs=>⟨h3 s hs,rfl⟩) hv,?_,bY.refl _ _⟩
 exact aC.func f _ cs u (by simp[hlen] at *;omega) (fun i hi=>(hu i hi).1) (fun i hi=>(hu i hi).2)
def JD {f:FuncId} {args:Array Value} (h:pj P f):(callFunc f args).run P w=.ok (.enter f args) w:=by
 have⟨fn,h1,j,o⟩:=h;unfold callFunc;simp only[Sem.run_bind,run_program,Result.andThen,h1,j,o,Gl,Gv,Sem.run_pure]
variable {κ:Nat->List V->Option V} {aR:Nat->Option Nat}
def DC (cx:Cx) (ds:List (Option Nat)) (x:Operand):qW->Prop
 |.k f=>x=.func (cx.fm f)
 |.v y=>Ja cx ds x y=true
def mT {x:Operand} {c:qW} {fc:Nat×List V} {Y:Nat->Prop}
  (hg:∀t,aJ cx w Y S β α (a.tmps.getD t undef) (S.ρ t)) (hl:∀i d,ds[i]?=some (some d)->aJ cx w Y S β α (a.tmps.getD d undef) (e i))
  (hc:callee e S.ρ c=some fc) (hx:DC cx ds x c) :
  ∃caps:Array Value,a.eval x=.func (.func (cx.fm fc.1)) #[] caps/\caps.size=fc.2.length/\∀i,i<fc.2.length->∃u,caps[i]?=some u/\aC cx w Y u (gv fc.2 i):=by
 cases c with
 |k f=>
  simp only[callee,Gb] at hc
  subst hc
  simp only[DC] at hx
  subst hx
  exact⟨#[],rfl,rfl,fun i hi=>by simp at hi⟩
 |v y=>
  have hr:=xu hg hl hx
  simp only[callee] at hc
  split at hc<;>simp only[Gb,reduceCtorEq] at hc
  rename_i f aN hy
  subst hc
  rw[hy] at hr
  simp only[aJ] at hr
  generalize a.eval x=q at hr
  cases hr with
  |func f cs vs u hl hc hr=>exact⟨cs,rfl,hl,fun i hi=>⟨u i,hc i hi,hr i hi⟩⟩
def RQ {S1:St} {o:Oper} {c:Call} {x:Operand} {f:qW} {cv:Df} {own:Option Nat} {avs:List bF} {r:V} {d:Nat}
  (h:aW cx B X S w β α M) (hg:∀t,aJ cx w (aQ X M) S β α (a.tmps.getD t undef) (S.ρ t)) (hl:∀i d,ds[i]?=some (some d)->aJ cx w (aQ X M) S β α (a.tmps.getD d undef) (e i))
  (hκ:∀f args r,κ f args=some r->jR P cx (aR f) f args r) (ag:own=none\/∃g,f=.k g/\own=aR g)
  (ho:o.op=.call c) (an:c.callee=.value x) (hx:DC cx ds x f) (aq:Jh cx ds c.args.toList avs=true)
  (j:((callee e S.ρ f).bind fun W=>fh κ d S cv own W (avs.map (aK e S.ρ)))=some (r,S1)) :
  ly P o a w (cz cx B X S w β α M S1 r):=by
 simp only[Gg] at j
 have⟨W,ae,j⟩:=j
 unfold fh at j
 have⟨J,am,ak,al⟩:=mT hg hl ae hx
 have⟨ac,ad⟩:=JR hg hl _ avs aq
 have R:own=none\/own=aR W.1:=by
  rcases ag with h|⟨g,rfl,h⟩
  ·exact .inl h
  ·simp only[callee,Gb] at ae;subst ae;exact .inr h
 have U:∀(hE:pj P (cx.fm W.1)),(execOp a.eval o).run P w=.ok (.enter (cx.fm W.1) ((c.args.toList.map a.eval).toArray++J)) w:=by
  intro hE;have ah:(resolve a.eval c o.type).run P w=.ok {target:=.fn (.func (cx.fm W.1)) J,args:=#[]++c.args.map a.eval} w:=by
   unfold resolve;rw[an];simp only;rw[am]
   rfl
  unfold execOp;simp only[ho,Sem.run_bind,ah,Result.andThen,invoke];rw[JD hE];have:(c.args.toList.map a.eval).toArray=c.args.map a.eval:=by apply Array.ext';simp
  rw[this];simp
 have N:∀b,aQ X M b->b<w.heap.size:=fun b hb=>by
  rcases hb with hb|hb
  ·exact h.size b (h.xb b hb)
  ·exact (h.m b hb).2
 have I:((c.args.toList.map a.eval).toArray++J).size=avs.length+W.2.length:=by rw[Array.size_append,rh,Gi,ac,ak]
 -- the arguments,avs data under Y
 have eW:∀(Y:Nat->Prop) (D:List V),D.length=avs.length->(∀i,i<D.length->∃u,(c.args.toList.map a.eval)[i]?=some u/\aC cx w Y u (gv D i))->(∀b,Y b->aQ X M b)->
   ∀i,i<(D++W.2).length->∃u,((c.args.toList.map a.eval).toArray++J)[i]?=some u/\aC cx w Y u (gv (D++W.2) i):=by
  intro Y D H hb hY i hi
  have aj:(c.args.toList.map a.eval).toArray.size=D.length:=by rw[rh,Gi,ac,H]
  rcases GF i D.length with L|hge
  ·have⟨u,p,q⟩:=hb i L
   refine⟨u,?_,?_⟩
   ·rw[Array.getElem?_append_left (by omega)];simpa using p
   ·simpa [gv,List.getD_eq_getElem?_getD,List.getElem?_append_left L] using q
  ·have⟨u,p,q⟩:=al (i-D.length) (by simp at hi;omega)
   refine⟨u,?_,?_⟩
   ·rw[Array.getElem?_append_right (by omega),aj];exact p
   ·have q':aC cx w Y u (gv W.2 (i-D.length)):=q.mono (GC _) (fun _ _ _=>rfl) (fun b _ hn hy=>hn (hY b hy))
    simpa [gv,List.getD_eq_getElem?_getD,List.getElem?_append_right hge] using q'
 have conv:∀(Y:Nat->Prop) (D:List V),Jn (dT S.A) (avs.map (aK e S.ρ))=some D->(∀b,Y b->X b\/M b)->
   (∀s∈(avs.map (aK e S.ρ)).flatMap Jd,∀b,hdr (α s)=some b->(∃z rows f,S.A s=some (z,rows,f)/\f≠.dead)->¬Y b)->
   D.length=avs.length/\∀i,i<D.length->∃u,(c.args.toList.map a.eval)[i]?=some u/\aC cx w Y u (gv D i):=by
  intro Y D O hY hs
  have⟨m1,m2⟩:=JA O
  have av:D.length=avs.length:=by simpa using m1
  refine⟨av,fun i hi=>?_⟩
  have Q:i<avs.length:=by omega
  have⟨u,p,q⟩:=ad i Q
  have L:i<(avs.map (aK e S.ρ)).length:=by simpa using Q
  have⟨y,y1,y2⟩:=m2 i _ (List.getElem?_eq_getElem L)
  have ap:gv D i=y:=by simp[gv,y1]
  have ao:gv (avs.map (aK e S.ρ)) i=(avs.map (aK e S.ρ))[i]'L:=by simp[gv,Q]
  rw[ao] at q
  rw[ap]
  exact⟨u,p,xt h q y2 hY (fun s ar=>hs s (tE.2 ⟨_,xp L,ar⟩))⟩
 cases cv with
 |no=>
  simp only at j
  split at j<;>try (simp at j;done)
  rename_i ab
  simp only[Gg] at j
  have⟨r0,T,had⟩:=j
  have⟨hE,hC⟩:=hκ _ _ _ T
  refine .inr (.inr ⟨_,_,w,U hE,(hC w (aQ X M) _ N (Dw h) h.glob.2 (by rw[I];simp) ?_).mono ?_⟩)
  ·refine eW (aQ X M) _ (by simp) (fun i hi=>?_) (fun _ h=>h)
   have Q:i<avs.length:=by simpa using hi
   have⟨u,p,q⟩:=ad i Q
   refine⟨u,p,q.data ?_⟩
   rw[GG] at ab
   exact ab _ (by simp only[gv,List.getD_eq_getElem?_getD,List.getElem?_eq_getElem hi,Option.getD_some];exact xp hi)
  ·rintro en w' ⟨v,rfl,hb,Z⟩
   exact⟨v,rfl,iy h hb R Z N had⟩
 |borrow=>
  simp only[Gg] at j
  have⟨D,O,r0,T,had⟩:=j
  split at had<;>simp only[Gb,Gr,reduceCtorEq] at had
  rename_i au
  obtain⟨rfl,rfl⟩:=had
  have⟨hE,hC⟩:=hκ _ _ _ T
  have⟨H,hb⟩:=conv (fun b=>aQ X M b/\∀s∈(avs.map (aK e S.ρ)).flatMap Jd,hdr (α s)≠some b) D O (fun b hb=>hb.1) (fun s hs b hb _ hn=>hn.2 s hs hb)
  refine .inr (.inr ⟨_,_,w,U hE,(hC w (fun b=>aQ X M b/\∀s∈(avs.map (aK e S.ρ)).flatMap Jd,hdr (α s)≠some b) _ (fun b hb=>N b hb.1) (Dw h) h.glob.2 (by rw[I];simp[H]) (eW _ D H hb (fun b hb=>hb.1))).mono ?_⟩)
  rintro en w' ⟨v,rfl,E,Z⟩
  have hw:=h.grow (ez.of_below E) (M':=M) (fun _ h=>h) (fun _ h=>.inl h)
  refine⟨v,rfl,β,α,M,hw,fun u x hu=>aJ.tr (fun _ _ Z=>J1 (ez.of_below E) (fun _ h=>.inl h) Z) (dK.refl S α) (fun s hs=>⟨hs,rfl⟩) hu,.of_data (Sc (Z.data (fun b hb=>N b hb.1)) au),.of E h.size⟩
 |freeze=>
  simp only[Gg] at j
  have⟨D,O,r0,T,had⟩:=j
  have⟨hE,hC⟩:=hκ _ _ _ T
  have⟨M',f1,f2,f3,f4⟩:=fK ((avs.map (aK e S.ρ)).flatMap Jd) h
  have⟨H,hb⟩:=conv (aQ X M') D O (fun b hb=>hb.imp id (f2 b)) (fun s hs b hb af hn=>by
   rcases hn with hx|hm
   ·have⟨z,rows,f,e1,e2⟩:=af;exact ((h.arr s z rows f e1 e2).2 b hb).1 (h.xb b hx)
   ·exact f4 s hs b hb af hm)
  have aa:∀b,aQ X M' b->b<w.heap.size:=fun b hb=>N b (hb.imp id (f2 b))
  refine .inr (.inr ⟨_,_,w,U hE,(hC w (aQ X M') _ aa (Dw h) h.glob.2 (by rw[I];simp[H]) (eW _ D H hb (fun b hb=>hb.imp id (f2 b)))).mono ?_⟩)
  rintro en w' ⟨v,rfl,E,Z⟩
  have⟨β',α',ai,q1,q2,q3,q4⟩:=iy f1 E R Z aa had
  exact⟨v,rfl,β',α',ai,q1,fun u x hu=>q2 u x (aJ.tr (S':={S with A:=JL S.A ((avs.map (aK e S.ρ)).flatMap Jd)}) (fun _ _ Z=>sd f2 Z) f3 (fun s hs=>⟨hs,rfl⟩) hu),q3,q4⟩
end
section inv
variable {P:Program} {cx:Cx} {ds:List (Option Nat)} {op:Go.Op}
def S4 {y:bF} (h:bT P cx ds op (.mov y)=true):∃x,(op=.move x\/op=.assign x)/\Ja cx ds x y=true:=by
 cases op<;>simp[bT] at h
 ·exact⟨_,.inl rfl,h⟩
 ·exact⟨_,.inr rfl,h⟩
def R7 {c x y:bF} (h:bT P cx ds op (.pick c x y)=true):∃j o p,op=.pick j o p/\Ja cx ds j c=true/\Ja cx ds o x=true/\Ja cx ds p y=true:=by
 cases op<;>simp[bT] at h;exact⟨_,_,_,rfl,h.1.1,h.1.2,h.2⟩
def RH {y:bF} (h:bT P cx ds op (.box y)=true):∃t x,op=.box t x/\Ja cx ds x y=true:=by
 cases op<;>simp[bT] at h;exact⟨_,_,rfl,h⟩
def Rt {z:List V} (h:bT P cx ds op (.alloc z)=true):∃t,op=.alloc t/\Jt P t z=true:=by
 cases op<;>simp[bT] at h;exact⟨_,rfl,h⟩
def Ru {z:List V} {qs} (h:bT P cx ds op (.build z qs)=true):∃t o,op=.build t o/\Jt P t z=true/\((∃p,Dx P t=some p/\er cx ds (fun i=>p[i]?) o.toList qs=true)\/(wX P t=true/\o=#[]/\qs=[])):=by
 cases op<;>simp[bT] at h;have⟨h1,j⟩:=h;split at j
 ·exact⟨_,_,rfl,h1,.inl ⟨_,by assumption,j⟩⟩
 ·simp only[Ge,Array.isEmpty_iff,List.isEmpty_iff] at j;exact⟨_,_,rfl,h1,.inr ⟨j.1.1,j.1.2,j.2⟩⟩
def M4 {z n:Nat} {zero:List V} {qs} (h:bT P cx ds op (.mks z n zero qs)=true):(∃t len p el,op=.buildSlice t len p/\Jy P t=some el/\dz P el=some z/\Jt P el zero=true/\zero.length=z/\z≠0/\len=n/\len*z<=16777216/\J4 cx ds p.toList qs=true)\/
  (∃t el q,op=.makeSlice t (.const (.int .i64 n)) (.const (.int .i64 n))/\Jy P t=some el/\dz P el=some z/\Jt P el zero=true/\zero.length=z/\z≠0/\n*z<=16777216/\qs=[]/\n≠0/\P.info? el=some q/\q.bytes*n<=65536):=by
 have o:(∃t len p,op=.buildSlice t len p)\/(∃t len aN,op=.makeSlice t (.const (.int .i64 len)) (.const (.int .i64 aN))):=by
  unfold bT at h;split at h<;>simp_all
 rcases o with⟨t,len,p,rfl⟩|⟨t,len,aN,rfl⟩
 rotate_left
 ·refine .inr ?_
  simp only[bT] at h
  split at h
  ·rename_i e L
   simp only[Ge,G9,bne_iff_ne,Gj,List.isEmpty_iff] at h
   have⟨⟨⟨⟨⟨⟨⟨⟨⟨h1,u⟩,w⟩,y⟩,B⟩,D⟩,E⟩,I⟩,J⟩,j⟩:=h
   split at j
   ·rename_i q H
    subst B;subst D
    exact⟨t,e,q,rfl,L,h1,u,w,y,E,I,J,H,Gc j⟩
   ·simp at j
  ·simp at h
 refine .inl ?_
 simp[bT] at h
 split at h
 ·simp at h
  have⟨⟨⟨⟨⟨⟨h1,u⟩,w⟩,y⟩,B⟩,D⟩,E⟩:=h
  exact⟨_,_,_,_,rfl,by assumption,h1,u,w,y,B,D,E⟩
 ·simp at h
def S3 {z:Nat} (h:bT P cx ds op (.mko z)=true):∃x,(op=.move (.const x)\/op=.assign (.const x))/\x=.slice none 0 0:=by
 unfold bT at h;split at h<;>simp_all
def SZ {z n:Nat} {zero:List V} {qs} (h:bT P cx ds op (.mkb z n zero qs)=true):bT P cx ds op (.mks z n zero qs)=true:=by
 cases op<;>simp[bT] at h;simpa [bT] using h
def Q2 {y:bF} (h:bT P cx ds op (.nilq y)=true):∃t x t' e,op=.binOp .eql t x (.const (.slice none 0 0)) t'/\Ja cx ds x y=true/\P.underlying t=some (.slice e):=by
 unfold bT at h;split at h<;>try (simp_all;done)
 simp only[Ge] at h;rename_i t x t' a _ j;simp only[K.nilq.injEq] at j;subst j;have⟨h1,o⟩:=h;unfold Jy at o;split at o
 ·exact⟨_,_,_,_,rfl,h1,by assumption⟩
 ·simp at o
def Q0 {l:sC} {n:Option Nat} {y:bF} (h:bT P cx ds op (.load l n y)=true):∃t p,op=.load t p/\Ja cx ds p y=true/\(P.underlying t).isSome=true/\(if Js P t then dz P t == n&&n.isSome else n.isNone)=true:=by
 cases op<;>simp[bT] at h;exact⟨_,_,rfl,h.1.1,h.1.2,by simpa using h.2⟩
def SX {s v n:Nat} {y:bF} (h:bT P cx ds op (.ldf s v n y)=true):∃t p,op=.load t p/\Ja cx ds p y=true/\(P.underlying t).isSome=true/\(if Js P t then dz P t == some n&&(some n).isSome else (some n).isNone)=true:=by
 cases op<;>simp[bT] at h;exact⟨_,_,rfl,h.1.1,h.1.2,by simp[h.2.1,h.2.2]⟩
def Ry {l:sC} {n:Nat} {y z:bF} (h:bT P cx ds op (.store l n y z)=true):∃t p x,op=.store t p x/\Ja cx ds p y=true/\Ja cx ds x z=true/\dz P t=some n:=by
 cases op<;>simp[bT] at h;exact⟨_,_,_,rfl,h.1.1,h.1.2,h.2⟩
def RG {o:BinOp} {y z:bF} (h:bT P cx ds op (.bin o y z)=true):∃t x j t',op=.binOp o t x j t'/\Ja cx ds x y=true/\Ja cx ds j z=true:=by
 cases op<;>simp[bT] at h;obtain⟨⟨rfl,h1⟩,p⟩:=h;exact⟨_,_,_,_,rfl,h1,p⟩
def SQ {ne:Bool} {y z:bF} (h:bT P cx ds op (.eqb ne y z)=true):∃t x o t',op=.binOp (if ne then .neq else .eql) t x o t'/\Ja cx ds x y=true/\Ja cx ds o z=true/\P.underlying t=some .bool:=by
 cases op<;>simp[bT] at h;obtain⟨⟨⟨rfl,h1⟩,p⟩,j⟩:=h;split at j
 ·exact⟨_,_,_,_,rfl,h1,p,by assumption⟩
 ·simp at j
def RJ {ne:Bool} {sh:List Sh} {y z:bF} (h:bT P cx ds op (.eqa ne sh y z)=true):∃t x j t',op=.binOp (if ne then .neq else .eql) t x j t'/\Ja cx ds x y=true/\Ja cx ds j z=true/\Js P t=true/\JF P 20 t=some sh/\P.eqGuardType P.depth t=false:=by
 cases op<;>simp[bT] at h;obtain⟨⟨⟨⟨⟨rfl,h1⟩,o⟩,p⟩,q⟩,u⟩:=h;exact⟨_,_,_,_,rfl,h1,o,p,q,u⟩
def T9 {o:BinOp} {y z:bF} (h:bT P cx ds op (.sh o y z)=true):∃t x j t',op=.binOp o t x j t'/\Ja cx ds x y=true/\Ja cx ds j z=true:=by
 cases op<;>simp[bT] at h;obtain⟨⟨rfl,h1⟩,p⟩:=h;exact⟨_,_,_,_,rfl,h1,p⟩
def Ub {o:UnOp} {y:bF} (h:bT P cx ds op (.un o y)=true):∃t x,op=.unOp o t x/\Ja cx ds x y=true:=by
 cases op<;>simp[bT] at h;obtain⟨rfl,h1⟩:=h;exact⟨_,_,rfl,h1⟩
def Rv {k:IntKind} {y:bF} (h:bT P cx ds op (.conv (.int k) y)=true):∃s d x o,op=.convert s d x/\Ja cx ds x y=true/\P.underlying s=some o/\P.underlying d=some (.int k):=by
 cases op<;>simp[bT] at h;have⟨h1,j⟩:=h;split at j
 ·simp at j;subst j;exact⟨_,_,_,_,rfl,h1,by assumption,by assumption⟩
 ·simp at j
def Rw {y:bF} (h:bT P cx ds op (.conv .same y)=true):∃s d x,op=.convert s d x/\Ja cx ds x y=true/\P.underlying s=some .string/\P.underlying d=some .string:=by
 cases op<;>simp[bT] at h;have⟨h1,j⟩:=h;split at j
 ·exact⟨_,_,_,rfl,h1,by assumption,by assumption⟩
 ·simp at j
def T7 {f:Nat} {avs:List bF} {j:List Nat} (h:bT P cx ds op (.fn f avs j)=true):∃aN,op=.makeFunc (.func (cx.fm f)) #[] aN/\Jh cx ds aN.toList avs=true:=by
 unfold bT at h;split at h<;>simp_all
def Ua {p:Bool} {z:Nat} {y:bF} {lo hi:Option bF} (h:bT P cx ds op (.sl p z y lo hi)=true):∃t x o j,op=.slice t x o j none/\Ja cx ds x y=true/\xx cx ds o lo=true/\xx cx ds j hi=true/\AS P p z t=true:=by
 cases op
 case slice t x o j mx=>
  cases mx with
  |some m=>simp[bT] at h
  |none=>
   simp only[bT,Ge] at h
   exact⟨t,x,o,j,rfl,h.1.1.1,h.1.1.2,h.1.2,h.2⟩
 all_goals (simp[bT] at h)
def SS {y:bF} {off:Nat} (h:bT P cx ds op (.fad y off)=true):∃s x i,op=.fieldAddr s x i/\Ja cx ds x y=true/\ii P s i off=true:=by
 cases op<;>simp[bT] at h;exact⟨_,_,_,rfl,h.1,h.2⟩
def SU {z:Nat} {y i:bF} (h:bT P cx ds op (.iad z y i)=true):∃t x o el,op=.indexAddr t x o/\Ja cx ds x y=true/\Ja cx ds o i=true/\Jy P t=some el/\dz P el=some z:=by
 cases op<;>simp[bT] at h;have⟨⟨h1,p⟩,j⟩:=h;split at j
 ·exact⟨_,_,_,_,rfl,h1,p,by assumption,by simpa using j⟩
 ·simp at j
def QZ {z n:Nat} {y i:bF} (h:bT P cx ds op (.iada z n y i)=true):∃t x o el,op=.indexAddr t x o/\Ja cx ds x y=true/\Ja cx ds o i=true/\P.underlying t=some (.array n el)/\dz P el=some z:=by
 cases op<;>simp[bT] at h;have⟨⟨h1,p⟩,j⟩:=h;split at j
 ·simp at j;obtain⟨rfl,j⟩:=j;exact⟨_,_,_,_,rfl,h1,p,by assumption,j⟩
 ·simp at j
def SV {y i:bF} (h:bT P cx ds op (.idx y i)=true):∃t x o,op=.index t x o/\Ja cx ds x y=true/\Ja cx ds o i=true/\P.underlying t=some .string:=by
 cases op<;>simp[bT] at h;have⟨⟨h1,p⟩,j⟩:=h;split at j
 ·exact⟨_,_,_,rfl,h1,p,by assumption⟩
 ·simp at j
def SR {y:bF} {i:Nat} (h:bT P cx ds op (.ext y i)=true):∃x,op=.extract x i/\Ja cx ds x y=true:=by
 cases op<;>simp[bT] at h;obtain⟨h1,rfl⟩:=h;exact⟨_,rfl,h1⟩
def Q1 {y:bF} (h:bT P cx ds op (.nilc y)=true):∃x,op=.nilCheck x/\Ja cx ds x y=true:=by
 cases op<;>simp[bT] at h;exact⟨_,rfl,h⟩
def NV {α:Type} {a:Array α} {x:α} (h:a.toList=[x]):a=#[x]:=by
 apply Array.ext';simpa using h
def FQ {α:Type} {a:Array α} {x y:α} (h:a.toList=[x,y]):a=#[x,y]:=by
 apply Array.ext';simpa using h
def SY {o:Bool} {y:bF} (h:bT P cx ds op (.len o y)=true):∃x t,op=.call {callee:=.builtin .len,args:=#[x],argTypes:=#[t]}/\Ja cx ds x y=true/\AN P o t=true:=by
 unfold bT at h;split at h<;>try (simp_all;done)
 rename_i args ts q a j;simp only[K.len.injEq] at j;obtain⟨rfl,rfl⟩:=j;split at h
 ·rename_i x t h1 p;simp only[Ge] at h;rw[NV h1,NV p];exact⟨x,t,rfl,h.1,h.2⟩
 ·simp at h
def M3 {os:List Operand} {y z:bF} (h:Jh cx ds os [y,z]=true):∃x j,os=[x,j]/\Ja cx ds x y=true/\Ja cx ds j z=true:=by
 match os,h with
 |[x,j],h=>simp[Jh] at h;exact⟨x,j,rfl,h.1,h.2⟩
 |[],h=>simp[Jh] at h
 |[_],h=>simp[Jh] at h
 |_::_::_::_,h=>simp[Jh] at h
def T8 {mx:Bool} {y z:bF} (h:bT P cx ds op (.mm mx y z)=true):∃x o ts,op=.call {callee:=.builtin (if mx then .max else .min),args:=#[x,o],argTypes:=ts}/\Ja cx ds x y=true/\Ja cx ds o z=true:=by
 unfold bT at h;split at h<;>try (simp_all;done)
 all_goals
  rename_i args ts a b j
  simp only[K.mm.injEq] at j
  obtain⟨rfl,rfl,rfl⟩:=j
  have⟨x,o,h1,p,q⟩:=M3 h
  rw[FQ h1]
  exact⟨x,o,ts,rfl,p,q⟩
def QX {s z:Nat} {y o:bF} (h:bT P cx ds op (.appd z y o)=true):bT P cx ds op (.app s z y o)=true:=by
 unfold bT at h;split at h<;>try (simp_all;done)
 rename_i args ts p a b j;simp only[K.appd.injEq] at j;obtain⟨rfl,rfl,rfl⟩:=j
 first|exact h|simpa [bT] using h
def Rx {f k s d:Nat} {avs:List bF} (h:bT P cx ds op (.rcall f avs k s d)=true):∃c:Call,op=.call c/\c.callee=.value (.func (cx.fm f))/\Jh cx ds c.args.toList avs=true:=by
 unfold bT at h;split at h<;>first|(simp_all;done)|skip
 all_goals (rename_i f' args ts o p k' s' q j;simp only[K.rcall.injEq] at j;obtain⟨rfl,rfl,rfl,rfl,rfl⟩:=j;simp only[Bool.and_eq_true,beq_iff_eq] at h;exact⟨_,rfl,by rw[<-h.1],h.2⟩)
def QW {z:List V} {d:Nat} (h:bT P cx ds op (.allo z d)=true):∃t,op=.alloc t/\Jt P t z=true:=by
 cases op<;>simp[bT] at h;exact⟨_,rfl,h⟩
def ST {y:bF} {off:Nat} {n:Option Nat} (h:bT P cx ds op (.fld y off n)=true):∃s x i o f,op=.field s x i/\Ja cx ds x y=true/\P.underlying s=some (.struct o)/\o[i]?=some f/\f.offset=off/\
  (P.underlying f.type).isSome=true/\(if Js P f.type then dz P f.type == n&&n.isSome else n.isNone)=true:=by
 cases op<;>simp[bT] at h
 have⟨h1,j⟩:=h
 split at j<;>try (simp at j;done)
 split at j<;>try (simp at j;done)
 simp only[Ge,G9] at j
 exact⟨_,_,_,_,_,rfl,h1,by assumption,by assumption,j.1.1,j.1.2,by simpa using j.2⟩
def RF {y:bF} (h:bT P cx ds op (.b2s y)=true):∃s d x e,op=.convert s d x/\Ja cx ds x y=true/\P.underlying s=some (.slice e)/\P.underlying d=some .string/\P.underlying e=some (.int .u8):=by
 cases op<;>simp[bT] at h;have⟨h1,j⟩:=h;split at j<;>try (simp at j;done)
 split at j<;>try (simp at j;done)
 exact⟨_,_,_,_,rfl,h1,by assumption,by assumption,by assumption⟩
def RE {s z:Nat} {y o:bF} (h:bT P cx ds op (.apf s z y o)=true):bT P cx ds op (.app s z y o)=true:=by
 unfold bT at h;split at h<;>try (simp_all;done)
 rename_i args ts s' p a b j;simp only[K.apf.injEq] at j;obtain⟨rfl,rfl,rfl,rfl⟩:=j
 first|exact h|simpa [bT] using h
def FH {s z:Nat} {y I:bF} (h:bT P cx ds op (.app s z y I)=true):∃x u t t' e o w,op=.call {callee:=.builtin .append,args:=#[x,u],argTypes:=#[t,t']}/\Ja cx ds x y=true/\Ja cx ds u I=true/\
  P.underlying t=some (.slice e)/\dz P e=some z/\P.info? e=some o/\0<o.bytes/\o.bytes<=65536/\o.zero=some w/\w.cells.size=z/\JV P t'=true/\0<z:=by
 unfold bT at h
 split at h<;>try (simp_all;done)
 rename_i args ts s' R a b p
 simp only[K.app.injEq] at p
 obtain⟨rfl,rfl,rfl,rfl⟩:=p
 simp only[Ge] at h
 have⟨h1,j⟩:=h
 have⟨x,u,J,L,M⟩:=M3 h1
 split at j
 ·rename_i t t' N
  simp only[Ge] at j
  have⟨j,O⟩:=j
  split at j
  ·rename_i el hu
   simp only[Ge,G9,bne_iff_ne,ne_eq] at j
   have⟨⟨h0,Q⟩,q⟩:=j
   split at q
   ·rename_i o D
    simp only[Ge,Gj] at q
    have⟨H,B⟩:=q
    split at B
    ·rename_i w E
     rw[FQ J,FQ N]
     exact⟨x,u,t,t',el,o,w,rfl,L,M,hu,Q,D,H.1,H.2,E,by simpa using B,O,by omega⟩
    ·simp at B
   ·simp at q
  ·simp at j
 ·simp at j
def QY {f:qW} {u:Df} {own:Option Nat} {avs:List bF} (h:bT P cx ds op (.call f u own avs)=true):∃(x:Operand) (c:Call),op=.call c/\c.callee=.value x/\DC cx ds x f/\Jh cx ds c.args.toList avs=true:=by
 unfold bT at h;split at h<;>try (simp_all;done)
 ·rename_i f' args ts g q p o j;simp only[K.call.injEq] at j;obtain⟨rfl,rfl,rfl,rfl⟩:=j;simp only[Ge,G9] at h;exact⟨_,_,rfl,rfl,by rw[<-h.1];rfl,h.2⟩
 ·rename_i x args ts a q p o _ j;simp only[K.call.injEq] at j;obtain⟨rfl,rfl,rfl,rfl⟩:=j;simp only[Ge] at h;exact⟨_,_,rfl,rfl,h.1,h.2⟩
end inv
def iq (cx:Cx) (w:World) (Y N:Nat->Prop) (v:Value) (x:V):Prop:=
 (∃z rows,x=.tuple [.slice z rows]/\bH cx w Y v z rows/\∀b,hdr v=some b->N b)\/(x.datC=true/\aC cx w Y v x)
def lH (cx:Cx) (w:World) (Y N:Nat->Prop):List Value->List V->Prop
 |[],[]=>True
 |v::l,x::xs=>v.oneCell'=true/\iq cx w Y N v x/\lH cx w Y N l xs
 |_,_=>False
def ee (v:Value):V->List Nat
 |.tuple _=>(hdr v).toList
 |_=>[]
def Jp:List Value->List V->List Nat
 |v::l,x::xs=>ee v x++Jp l xs
 |_,_=>[]
def oE (cx:Cx) (w:World) (Y N:Nat->Prop) (b:Nat) (cs:List V):Prop:=
 N b/\∃l e,w.heap[b]?=some (.cells (List.toArray l) e (0,0))/\lH cx w Y N l cs/\(b::Jp l cs).Nodup
def nD (P:Program) (cx:Cx) (k f:Nat) (args:List V) (r:V):Prop:=
 pj P (cx.fm f)/\∀(w:World) (X N:Nat->Prop) (b:Nat) (vs:Array Value) (cs:List V),(∀b,X b->b<w.heap.size)->(∀b,N b->b<w.heap.size/\¬X b/\cx.gn<=b)->
  cx.gn<=w.heap.size->cx.G w->vs.size=args.length->args[k]?=some (.tuple (.lref 0 0::cs))->vs[k]?=some (.pointer (some ⟨b,0,none⟩))->oE cx w (aQ X N) N b cs->
  (∀i,i<args.length->i≠k->∃u,vs[i]?=some u/\aC cx w (aQ X N) u (gv args i))->
  Calls P (cx.fm f) vs w fun e w'=>∃v r0 du N',e=.returned v/\r=.tuple [r0,.tuple du]/\bY (fun b=>b<w.heap.size/\¬N b) w w'/\
   (∀b,N' b->N b\/(w.heap.size<=b/\b<w'.heap.size))/\oE cx w' (aQ X N') N' b du/\aC cx w' (aQ X N') v r0
section
variable {cx:Cx} {w w':World} {Y Y' N N':Nat->Prop}
def iq.mono {v:Value} {x:V} (h:iq cx w Y N v x) (o:∀u x,aC cx w Y u x->aC cx w Y' u x) (p:∀b,b∈ee v x->N' b):iq cx w Y' N' v x:=by
 rcases h with⟨z,rows,rfl,h1,j⟩|⟨h1,j⟩
 ·exact .inl ⟨z,rows,rfl,h1.tr o (fun _ _=>rfl),fun b q=>p b (by simp[ee,q])⟩
 ·exact .inr ⟨h1,o _ _ j⟩
theorem lH.mono (o:∀u x,aC cx w Y u x->aC cx w Y' u x):∀{l:List Value} {cs:List V},lH cx w Y N l cs->(∀b,b∈Jp l cs->N' b)->lH cx w Y' N' l cs
 |[],[],_,_=>GN
 |v::l,x::xs,h,hN=>⟨h.1,h.2.1.mono o (fun b j=>hN b (by simp[Jp,j])),lH.mono o h.2.2 (fun b j=>hN b (by simp[Jp,j]))⟩
 |[],_::_,h,_=>h.elim
 |_::_,[],h,_=>h.elim
theorem lH.len:∀{l:List Value} {cs:List V},lH cx w Y N l cs->l.length=cs.length
 |[],[],_=>rfl
 |v::l,x::xs,h=>by simp[lH.len h.2.2]
 |[],_::_,h=>h.elim
 |_::_,[],h=>h.elim
theorem lH.hdr:∀{l:List Value} {cs:List V},lH cx w Y N l cs->∀b,b∈Jp l cs->N b/\b<w.heap.size
 |[],[],_,b,hb=>by simp[Jp] at hb
 |v::l,x::xs,h,b,hb=>by
  simp only[Jp,GS] at hb;rcases hb with hb|hb
  ·rcases h.2.1 with⟨z,rows,rfl,h1,h2⟩|⟨h1,h2⟩
   ·simp only[ee,Option.mem_toList] at hb;exact⟨h2 b hb,h1.lt hb⟩
   ·exfalso;cases x<;>simp[ee,V.datC] at hb h1
  ·exact lH.hdr h.2.2 b hb
 |[],_::_,h,_,_=>h.elim
 |_::_,[],h,_,_=>h.elim
end
section
variable {cx:Cx} {B:Nat->Prop} {X:Nat->Prop} {w:World} {β:Nat->Nat} {M:Nat->Prop}
def CR.cons {Y:Nat->Prop} {S:St} {α:Nat->Value} {v:Value} {x:V} {l:List Value} {xs:List V} (h1:v.oneCell'=true) (j:cK cx w Y S α v x) (h:CR cx w Y S α l xs):CR cx w Y S α (v::l) (x::xs):=
 CR.append (CR.one h1 j) h
def CR.inv {Y:Nat->Prop} {S:St} {α:Nat->Value} {v:Value} {x:V} {l:List Value} {xs:List V} (h:CR cx w Y S α (v::l) (x::xs)):v.oneCell'=true/\cK cx w Y S α v x/\CR cx w Y S α l xs:=by
 have⟨u,p,q,r⟩:=h.2 0 (by simp);simp at p;subst p;refine⟨q,r,by have:=h.1;simpa using this,fun i hi=>?_⟩;have⟨u,p,q,r⟩:=h.2 (i+1) (by simpa using hi);exact⟨u,by simpa using p,q,by simpa [gv] using r⟩
def fR:∀(us:List V) (d:Nat) (S:St) (α:Nat->Value) (A':AA) (du:List V) (l:List Value),aW cx B X S w β α M->JO d us S.A=some (du,A')->lH cx w (aQ X M) M l us->
  (Jp l us).Nodup->(∀h∈Jp l us,(∀s,(S.μ s).isSome->β s≠h)/\∀s z rows f,S.A s=some (z,rows,f)->f≠.dead->hdr (α s)≠some h)->
  ∃α',aW cx B X {S with A:=A'} w β α' M/\CR cx w (aQ X M) {S with A:=A'} α' l du/\dK S {S with A:=A'} α α'/\
   ∀s z rows f,A' s=some (z,rows,f)->f≠.dead->∀h,hdr (α' s)=some h->h∈Jp l us\/∃z rows f,S.A s=some (z,rows,f)/\f≠.dead/\hdr (α s)=some h
 |[],d,S,α,A',du,[],hW,ht,_,_,_=>by
  simp only[JO,Gb,Gr] at ht;obtain⟨rfl,rfl⟩:=ht;exact⟨α,hW,CR.nil,dK.refl _ _,fun s z rows f hs hf h hh=>.inr ⟨z,rows,f,hs,hf,hh⟩⟩
 |[],_,_,_,_,_,_::_,_,_,h,_,_=>h.elim
 |_::_,_,_,_,_,_,[],_,_,h,_,_=>h.elim
 |x::xs,d,S,α,A',du,v::l,hW,ht,hl,hnd,hdis=>by
  simp only[JO,Gg,Gb,Gr] at ht;obtain⟨⟨y,A1⟩,h1,⟨ys,A2⟩,h2,rfl,rfl⟩:=ht;have⟨l1,l2,l3⟩:=hl;simp only[Jp] at hnd hdis;have hnd2:=(ri.1 hnd).2.1;have hnd3:=(ri.1 hnd).2.2;rcases l2 with⟨z,rows,rfl,p1,p2⟩|⟨p1,p2⟩
  ·simp only[fi] at h1;split at h1<;>simp only[Gb,Gr,reduceCtorEq] at h1;rename_i hd;obtain⟨rfl,rfl⟩:=h1;have hhv:∀b,hdr v=some b->b∈ee v (V.tuple [.slice z rows]):=fun b hb=>by simp[ee,hb]
   have hadd:=hW.addArr (d:=d) (z0:=z) (rows0:=rows) (v0:=v) hd p1 p2
    (fun s b hs hb=>(hdis b (GS.2 (.inl (hhv b hb)))).1 s hs)
    (fun s z' r f hs hf b hb=>(hdis b (GS.2 (.inl (hhv b hb)))).2 s z' r f hs hf)
   have hT:dK S {S with A:=aI S.A d (some (z,rows,.live))} α (aI α d v):=fun s z' r f hs=>by
    have:s≠d:=fun e=>by rw[e,hd] at hs;simp at hs
    exact⟨r,f,by simp[aI,this,hs],fun hf=>⟨hf,GC _,fun _=>by simp[aI,this]⟩⟩
   have hO:fo {S with A:=aI S.A d (some (z,rows,.live))} (aI α d v) v d z rows.length:=by
    rcases p1.at_ with⟨rfl,rfl⟩|⟨b,o,aN,c,e,rfl,h1,h2,h3,h4⟩
    ·exact⟨[],.live,none,0,by simp[aI],rfl,by simp,fun _=>⟨by simp,fun _=>by simp[aI]⟩⟩
    ·exact⟨rows,.live,some ⟨b,o,none⟩,aN,by simp[aI],rfl,fun _=>⟨b,o,rfl⟩,fun _=>⟨GC _,fun _=>by simp[aI]⟩⟩
   have⟨α',r1,r2,r3,r4⟩:=fR xs (d+1) {S with A:=aI S.A d (some (z,rows,.live))} (aI α d v) A2 ys l hadd h2 l3 hnd2 (fun h hh=>by
    refine⟨(hdis h (GS.2 (.inr hh))).1,fun s z' r f hs hf hb=>?_⟩;simp only[aI] at hs hb;split at hs
    ·rename_i e;rw[Gt e] at hb;exact hnd3 h (hhv h hb) h hh rfl
    ·rename_i e;rw[Gn e] at hb;exact (hdis h (GS.2 (.inr hh))).2 s z' r f hs hf hb)
   refine⟨α',r1,CR.cons l1 (cK.tr (S:={S with A:=aI S.A d (some (z,rows,.live))}) (fun _ _ h=>h) r3 hO) r2,fun s z' r f hs=>?_,fun s z' r f hs hf h hh=>?_⟩
   ·have⟨r',f',a1,a2⟩:=hT s z' r f hs;have⟨r'',f'',b1,b2⟩:=r3 s z' r' f' a1;refine⟨r'',f'',b1,fun hf=>?_⟩;have⟨c1,c2,c3⟩:=b2 hf;have⟨d1,d2,d3⟩:=a2 c1;exact⟨d1,by omega,fun e=>by rw[c3 (by omega),d3 (by omega)]⟩
   ·rcases r4 s z' r f hs hf h hh with h'|⟨z1,r1',f1,a1,a2,a3⟩
    ·exact .inl (by simp[Jp,h'])
    ·simp only[aI] at a1 a3;split at a1
     ·rename_i e;rw[Gt e] at a3;exact .inl (by simp only[Jp];exact GS.2 (.inl (hhv h a3)))
     ·rename_i e;rw[Gn e] at a3;exact .inr ⟨z1,r1',f1,a1,a2,a3⟩
  ·have h1':y=x/\A1=S.A:=by
    cases x<;>simp[fi,V.datC] at h1 p1<;>exact⟨h1.1.symm,h1.2.symm⟩
   obtain⟨rfl,rfl⟩:=h1';have⟨α',r1,r2,r3,r4⟩:=fR xs (d+1) S α A2 ys l hW h2 l3 hnd2 (fun h hh=>hdis h (GS.2 (.inr hh)));refine⟨α',r1,CR.cons l1 (.of_data p2) r2,r3,fun s z' r f hs hf h hh=>?_⟩;rcases r4 s z' r f hs hf h hh with h'|h'
   ·exact .inl (by simp[Jp,h'])
   ·exact .inr h'
def fW (A A':AA):Prop:=∀s,A' s=A s\/∃z rows,A s=some (z,rows,.live)/\A' s=some (z,[],.dead)
def fW.atr {S:St} {o:AA} (h:fW S.A o) (α:Nat->Value):dK S {S with A:=o} α α:=fun s z rows f p=>by
 rcases h s with h|⟨u,rows',h1,q⟩
 ·exact⟨rows,f,by simp only[];rw[h];exact p,fun j=>⟨j,GC _,fun _=>rfl⟩⟩
 ·rw[p] at h1;simp only[Gb,Gr] at h1;obtain⟨rfl,rfl,rfl⟩:=h1;exact⟨[],.dead,q,fun j=>absurd rfl j⟩
def fW.keep {A o:AA} (h:fW A o) {s z rows f} (p:o s=some (z,rows,f)) (q:f≠.dead):A s=some (z,rows,f):=by
 rcases h s with h|⟨u,rows',h1,j⟩
 ·rw[<-h];exact p
 ·rw[p] at j;simp only[Gb,Gr] at j;exact absurd j.2.2 q
def fW.trans {A p A'':AA} (h:fW A p) (k:fW p A''):fW A A'':=fun s=>by
 rcases k s with k|⟨z,rows,o,u⟩
 ·rcases h s with h|⟨q,rows',h1,j⟩
  ·exact .inl (k.trans h)
  ·exact .inr ⟨q,rows',h1,k.trans j⟩
 ·rcases h s with h|⟨q,rows',h1,j⟩
  ·exact .inr ⟨z,rows,h▸o,u⟩
  ·rw[j] at o;simp at o
theorem jH {α:Nat->Value}:∀(cs:List V) (S:St) (l:List Value) (ts:List V) (A':AA),(∀s z rows f,S.A s=some (z,rows,f)->f≠.dead->bH cx w (aQ X M) (α s) z rows/\∀b,hdr (α s)=some b->f=.live->M b)->
  (∀s s' z rows f z' rows' f',S.A s=some (z,rows,f)->f≠.dead->S.A s'=some (z',rows',f')->f'≠.dead->∀b,hdr (α s)=some b->hdr (α s')=some b->s=s')->
  CR cx w (aQ X M) S α l cs->kl cs S.A=some (ts,A')->
  lH cx w (aQ X M) M l ts/\fW S.A A'/\(Jp l ts).Nodup/\(∀h∈Jp l ts,∃s z rows,S.A s=some (z,rows,.live)/\A' s=some (z,[],.dead)/\hdr (α s)=some h)
 |[],S,l,ts,A',_,_,hc,hh=>by
  simp only[kl,Gb,Gr] at hh;obtain⟨rfl,rfl⟩:=hh;have:l=[]:=GJ (by simpa using hc.1);subst this;exact⟨GN,fun s=>.inl rfl,by simp[Jp],fun h hh=>by simp[Jp] at hh⟩
 |x::xs,S,[],ts,A',_,_,hc,_=>by have:=hc.1;simp at this
 |x::xs,S,v::l,ts,A',ha,hi,hc,hh=>by
  simp only[kl,Gg,Gb,Gr] at hh;obtain⟨⟨y,A1⟩,h1,⟨ys,A2⟩,h2,rfl,rfl⟩:=hh;have⟨c1,c2,c3⟩:=hc.inv;have key:iq cx w (aQ X M) M v y/\fW S.A A1/\(ee v y).Nodup/\∀h∈ee v y,∃s z rows,S.A s=some (z,rows,.live)/\A1 s=some (z,[],.dead)/\hdr (α s)=some h:=by
   have dat:∀x:V,x.datC=true->cK cx w (aQ X M) S α v x->y=x->A1=S.A->iq cx w (aQ X M) M v y/\fW S.A A1/\(ee v y).Nodup/\∀h∈ee v y,∃s z rows,S.A s=some (z,rows,.live)/\A1 s=some (z,[],.dead)/\hdr (α s)=some h:=by
    intro x hx hr e1 e2;subst e1;subst e2;have hn:ee v y=[]:=by cases y<;>simp[ee,V.datC] at hx ⊢
    rw[hn];exact⟨.inr ⟨hx,hr.data hx⟩,fun s=>.inl rfl,List.nodup_nil,fun h hh=>by simp at hh⟩
   cases x with
   |own s z n=>
    simp only[cH] at h1;split at h1<;>try (simp at h1;done)
    rename_i z' rows hA;split at h1<;>simp only[Gb,Gr,reduceCtorEq] at h1;rename_i hcond;obtain⟨rfl,hn⟩:=hcond;obtain⟨rfl,rfl⟩:=h1;obtain⟨rows',f',a,aN,hA',rfl,_,ho⟩:=c2;rw[hA] at hA';simp only[Gb,Gr] at hA';obtain⟨-,rfl,rfl⟩:=hA';have hα:=(ho (by simp)).2 hn;have⟨a1,a2⟩:=ha s z' rows .live hA (by simp);rw[<-hα] at a1 a2;refine⟨.inl ⟨z',rows,rfl,a1,fun b hb=>a2 b hb rfl⟩,fun t=>?_,?_,fun h hh=>⟨s,z',rows,hA,by simp[aI],?_⟩⟩
    ·by_cases e:t=s
     ·subst e;exact .inr ⟨z',rows,hA,by simp[aI]⟩
     ·exact .inl (by simp[aI,e])
    ·simp only[ee];cases hdr (Value.slice a n aN)<;>simp
    ·rw[<-hα];simpa [ee] using hh
   |nslice z=>
    simp only[cH,Gb,Gr] at h1;obtain⟨rfl,rfl⟩:=h1;have c2':aC cx w (aQ X M) v (.nslice z):=c2;cases c2';refine⟨.inl ⟨z,[],rfl,⟨fun i hi=>by simp at hi,.inl ⟨rfl,rfl⟩⟩,fun b hb=>by simp[Sg.hdr] at hb⟩,fun s=>.inl rfl,by simp[ee,Sg.hdr],fun h hh=>by simp[ee,Sg.hdr] at hh⟩
   |undef=>simp[cH,V.datC] at h1;exact dat .undef rfl c2 h1.1.symm h1.2.symm
   |bool b=>simp[cH,V.datC] at h1;exact dat (.bool b) rfl c2 h1.1.symm h1.2.symm
   |int k n=>simp[cH,V.datC] at h1;exact dat (.int k n) rfl c2 h1.1.symm h1.2.symm
   |str s=>simp[cH,V.datC] at h1;exact dat (.str s) rfl c2 h1.1.symm h1.2.symm
   |slice z r=>simp[cH,V.datC] at h1;exact dat (.slice z r) rfl c2 h1.1.symm h1.2.symm
   |func f c=>simp[cH,V.datC] at h1;exact dat (.func f c) rfl c2 h1.1.symm h1.2.symm
   |cptr c o=>simp[cH,V.datC] at h1;exact dat (.cptr c o) rfl c2 h1.1.symm h1.2.symm
   |iface t v=>simp[cH,V.datC] at h1;exact dat (.iface t v) rfl c2 h1.1.symm h1.2.symm
   |niface=>simp[cH,V.datC] at h1;exact dat .niface rfl c2 h1.1.symm h1.2.symm
   |xslice z r=>simp[cH,V.datC] at h1;exact dat (.xslice z r) rfl c2 h1.1.symm h1.2.symm
   |agg cs=>simp[cH,V.datC] at h1
   |tuple cs=>simp[cH,V.datC] at h1
   |lref s o=>simp[cH,V.datC] at h1
   |eref s i o n=>simp[cH,V.datC] at h1
  have⟨k1,k2,k3,k4⟩:=key;have⟨q1,q2,q3,q4⟩:=jH xs {S with A:=A1} l ys A2 (fun s z rows f hs hf=>ha s z rows f (k2.keep hs hf) hf)
   (fun s s' z rows f z' rows' f' hs hf hs' hf'=>hi s s' z rows f z' rows' f' (k2.keep hs hf) hf (k2.keep hs' hf') hf')
   ⟨c3.1,fun i hi=>by have⟨u,p,q,r⟩:=c3.2 i hi;exact⟨u,p,q,r.tr (fun _ _ h=>h) (k2.atr α)⟩⟩ h2
  refine⟨⟨c1,k1,q1⟩,k2.trans q2,?_,fun h hh=>?_⟩
  ·simp only[Jp];refine ri.2 ⟨k3,q3,fun a ha1 b hb1 e=>?_⟩;subst e;have⟨s,z,rows,e1,e2,e3⟩:=k4 a ha1;have⟨s',z',rows',f1,f2,f3⟩:=q4 a hb1;have f1':=k2.keep f1 (by simp);have:=hi s s' z rows .live z' rows' .live e1 (by simp) f1' (by simp) a e3 f3;subst this;simp only at f1;rw[e2] at f1;simp at f1
  ·simp only[Jp,GS] at hh;rcases hh with hh|hh
   ·have⟨s,z,rows,e1,e2,e3⟩:=k4 h hh;refine⟨s,z,rows,e1,?_,e3⟩;rcases q2 s with e|⟨z',rows',e,_⟩
    ·exact e.trans e2
    ·simp only at e;rw[e2] at e;simp at e
   ·have⟨s,z,rows,e1,e2,e3⟩:=q4 h hh;exact⟨s,z,rows,k2.keep e1 (by simp),e2,e3⟩
theorem mi {Y N:Nat->Prop} {S:St} {α:Nat->Value}:∀{l:List Value} {cs:List V},CR cx w Y S α l cs->(∀x∈cs,x.datC=true)->lH cx w Y N l (cs.map fu)/\Jp l (cs.map fu)=[]
 |[],[],_,_=>⟨GN,rfl⟩
 |v::l,x::xs,h,hd=>by
  have⟨c1,c2,c3⟩:=h.inv;have⟨i1,i2⟩:=mi (N:=N) c3 (fun y hy=>hd y (by simp[hy]));have hx:=hd x (by simp);have c2':=c2.data hx;have key:iq cx w Y N v (fu x)/\ee v (fu x)=[]:=by
   cases x with
   |nslice z=>cases c2';exact⟨.inl ⟨z,[],rfl,⟨fun i hi=>by simp at hi,.inl ⟨rfl,rfl⟩⟩,fun b hb=>by simp[Sg.hdr] at hb⟩,by simp[fu,ee,Sg.hdr]⟩
   |_=>first|exact⟨.inr ⟨hx,c2'⟩,rfl⟩|(simp[V.datC] at hx)
  refine⟨⟨c1,key.1,i1⟩,?_⟩
  show ee v (fu x)++Jp l (xs.map fu)=[]
  rw[key.2,i2];rfl
 |[],_::_,h,_=>by have:=h.1;simp at this
 |_::_,[],h,_=>by have:=h.1;simp at this
def jO {S:St} {α:Nat->Value} (h:aW cx B X S w β α M) {d b0:Nat} {cs cells:List V} {A':AA} {l:List Value} {t:TypeId} (hd:S.μ d=none) (hc:CR cx w (aQ X M) S α l cs)
  (ht:JO b0 (cs.map fu) S.A=some (cells,A')) :
  cz cx B X S w β α M {S with μ:=aI S.μ d (some (cells,false)),A:=A'} (.lref d 0) (.pointer (some ⟨w.heap.size,0,none⟩)) {w with heap:=w.heap.push (.cells l.toArray t)}:=by
 have hdat:∀(cs:List V) (d:Nat) (A:AA) (r:List V×AA),JO d (cs.map fu) A=some r->∀x∈cs,x.datC=true\/∃z rows,x=.tuple [.slice z rows]:=by
  intro cs
  induction cs with
  |nil=>intro d A r _ x hx;simp at hx
  |cons y ys ih=>
   intro d A r hr x hx;simp only[GA,JO,Gg] at hr;obtain⟨q,h1,q2,h2,-⟩:=hr;rcases GH.1 hx with rfl|hx
   ·cases x<;>first|exact .inl rfl|(simp[fu,fi,V.datC] at h1;done)|skip
    rename_i vs;refine .inr ?_;simp only[fu] at h1;unfold fi at h1;split at h1
    ·rename_i z rows heq;exact⟨z,rows,heq⟩
    ·simp[V.datC] at h1
   ·exact ih _ _ _ h2 x hx
 have hdc:∀x∈cs,x.datC=true:=fun x hx=>by
  rcases hdat cs b0 S.A _ ht x hx with h'|⟨z,rows,rfl⟩
  ·exact h'
  ·exfalso
   have⟨i,hi,he⟩:=List.getElem_of_mem hx;have⟨u,p,q,r⟩:=hc.2 i hi;have hg:gv cs i=.tuple [.slice z rows]:=by simp[gv,hi,he]
   rw[hg] at r;have r':aC cx w (aQ X M) u (.tuple [.slice z rows]):=r;cases r';simp[Value.oneCell'] at q
 have⟨k1,k2⟩:=mi (N:=M) hc hdc
 have⟨α',t1,t2,t3,t4⟩:=fR (cs.map fu) b0 S α A' cells l h ht k1 (by rw[k2];exact List.nodup_nil) (fun x hx=>by rw[k2] at hx;simp at hx)
 have hpost:=eO (t:=t) t1 (d:=d) hd t2
 have⟨β2,α2,M2,p1,p2,p3,p4⟩:=hpost
 exact⟨β2,α2,M2,p1,fun u x hu=>p2 u x (aJ.tr (fun _ _ h=>h) t3 (fun s hs=>⟨hs,rfl⟩) hu),p3,p4⟩
end
def dK.trans {S S' S'':St} {α α' α'':Nat->Value} (h:dK S S' α α') (k:dK S' S'' α' α''):dK S S'' α α'':=fun s z rows f J=>by
 have⟨L,E,j,o⟩:=h s z rows f J;have⟨r2,H,p,q⟩:=k s z L E j;refine⟨r2,H,p,fun I=>?_⟩;have⟨u,N,c3⟩:=q I;have⟨y,O,D⟩:=o u;exact⟨y,by omega,fun e=>by rw[c3 (by omega),D (by omega)]⟩
def SI {α:Type} (f:Nat->α) (k:Nat) (v w:α):aI (aI f k v) k w=aI f k w:=by
 funext i;simp only[aI];split<;>rfl
section
variable {P:Program} {cx:Cx} {B:Nat->Prop} {X:Nat->Prop} {S:St} {w w':World} {β:Nat->Nat} {α:Nat->Value} {M:Nat->Prop}
def aW.lend (h:aW cx B X S w β α M) {s:Nat} {cs:List V} (hs:S.μ s=some (cs,false)) {A':AA} (hd:fW S.A A') {N N':Nat->Prop}
  (hN:∀b,N b->M b) (hNs:N (β s)) (hNv:∀t,t≠s->(S.μ t).isSome->¬N (β t)) (hNa:∀t z rows f,A' t=some (z,rows,f)->f≠.dead->∀b,hdr (α t)=some b->¬N b)
  (hk:bY (fun b=>b<w.heap.size/\¬N b) w w') (hN':∀b,N' b->N b\/(w.heap.size<=b/\b<w'.heap.size)) :
  aW cx B X ⟨S.ρ,aI S.μ s none,A'⟩ w' β α (fun b=>(M b/\¬N b)\/N' b)/\
   (∀u x,aC cx w (aQ X M) u x->aC cx w' (aQ X (fun b=>(M b/\¬N b)\/N' b)) u x):=by
 have hD:∀u x,aC cx w (aQ X M) u x->aC cx w' (aQ X (fun b=>(M b/\¬N b)\/N' b)) u x:=fun u x hr=>
  hr.mono hk.size (fun b hb hn=>hk.block b ⟨hb,fun hh=>hn (.inr (hN b hh))⟩) (fun b hb hn hx=>by
   rcases hx with hx|hx|hx
   ·exact hn (.inl hx)
   ·exact hn (.inr hx.1)
   ·rcases hN' b hx with h'|h'
    ·exact hn (.inr (hN b h'))
    ·omega)
 have hmu:∀t x,(aI S.μ s none) t=some x->t≠s/\S.μ t=some x:=fun t x hx=>by
  simp only[aI] at hx;split at hx
  ·simp at hx
  ·rename_i e;exact⟨e,hx⟩
 have hmi:∀t,((aI S.μ s none) t).isSome->t≠s/\(S.μ t).isSome:=fun t ht=>by
  have⟨x,hx⟩:=GZ.1 ht;have⟨e1,e2⟩:=hmu t x hx;exact⟨e1,by simp[e2]⟩
 refine⟨⟨h.xb,⟨h.glob.1,cx.Gst w w' h.glob.2 fun b hb=>hk.block b ⟨h.size b (h.glob.1 b hb),fun hh=>(h.m b (hN b hh)).1 (h.glob.1 b hb)⟩⟩,fun b hb=>G6 (h.size b hb) hk.size,fun b hb=>?_,
  fun t ct f ht=>?_,fun t t' ht ht' he=>h.varInj t t' (hmi t ht).2 (hmi t' ht').2 he,fun t z rows f ht hf=>?_,
  fun t t' z1 r1 f1 z2 r2 f2 ht hf ht' hf'=>h.arrInj t t' z1 r1 f1 z2 r2 f2 (hd.keep ht hf) hf (hd.keep ht' hf') hf',
  fun t z rows f t' ht hf ht'=>h.arrVar t z rows f t' (hd.keep ht hf) hf (hmi t' ht').2⟩,hD⟩
 ·rcases hb with hb|hb
  ·exact⟨(h.m b hb.1).1,G6 (h.m b hb.1).2 hk.size⟩
  ·rcases hN' b hb with hb|hb
   ·exact⟨(h.m b (hN b hb)).1,G6 (h.m b (hN b hb)).2 hk.size⟩
   ·exact⟨fun hB=>by have:=h.size b hB;omega,hb.2⟩
 ·have⟨e1,e2⟩:=hmu t _ ht
  have hn:=hNv t e1 (by simp[e2])
  have hlt:=h.varLt e2
  have⟨a1,a2,a3,c,e,a4,a5,a6⟩:=h.var t ct f e2
  refine⟨a1,fun hf=>.inl ⟨a2 hf,hn⟩,fun hf=>⟨fun hm=>?_,(a3 hf).2⟩,c,e,(hk.block _ ⟨hlt,hn⟩).trans a4,a5,fun i hi=>?_⟩
  ·rcases hm with hm|hm
   ·exact (a3 hf).1 hm.1
   ·rcases hN' _ hm with h'|h'
    ·exact hn h'
    ·omega
  ·have⟨u,b1,b2,b3⟩:=a6 i hi
   exact⟨u,b1,b2,b3.tr hD (hd.atr α)⟩
 ·have hk':=hd.keep ht hf
  have⟨a1,a2⟩:=h.arr t z rows f hk' hf
  refine⟨a1.tr hD (fun b hb=>hk.block b ⟨a1.lt hb,hNa t z rows f ht hf b hb⟩),fun b hb=>⟨(a2 b hb).1,fun hl=>.inl ⟨(a2 b hb).2.1 hl,hNa t z rows f ht hf b hb⟩,fun hl hm=>?_⟩⟩
  rcases hm with hm|hm
  ·exact (a2 b hb).2.2 hl hm.1
  ·rcases hN' _ hm with h'|h'
   ·exact hNa t z rows f ht hf b hb h'
   ·have:=a1.lt hb;omega
def Rp {a:Act} {o:Oper} {c:Call} {f:FuncId} (u:o.op=.call c) (q:c.callee=.value (.func f)) (p:pj P f):(execOp a.eval o).run P w=.ok (.enter f (c.args.map a.eval)) w:=by
 have j:(resolve a.eval c o.type).run P w=.ok {target:=.fn (.func f) #[],args:=#[]++c.args.map a.eval} w:=by
  unfold resolve;rw[q];rfl
 unfold execOp;simp only[u,Sem.run_bind,j,Result.andThen,invoke];rw[JD p];simp
def R8 {κ:Nat->List V->Option V} {ds:List (Option Nat)} {e:Nat->V} {a:Act} {S1:St} {o:Oper} {c:Call} {f k s b0:Nat} {avs:List bF} {r:V}
  (h:aW cx B X S w β α M) (hg:∀t,aJ cx w (aQ X M) S β α (a.tmps.getD t undef) (S.ρ t)) (hl:∀i d,ds[i]?=some (some d)->aJ cx w (aQ X M) S β α (a.tmps.getD d undef) (e i))
  (hκ:∀args r,κ f args=some r->nD P cx k f args r)
  (ho:o.op=.call c) (a9:c.callee=.value (.func (cx.fm f))) (bf:Jh cx ds c.args.toList avs=true)
  (ad:sg κ b0 S f k s (avs.map (aK e S.ρ))=some (r,S1)) :
  ly P o a w (cz cx B X S w β α M S1 r):=by
 have⟨bk,R⟩:=JR hg hl _ avs bf
 have bd:(avs.map (aK e S.ρ)).length=avs.length:=by simp
 generalize avs.map (aK e S.ρ)=I at R ad bd
 simp only[sg,Gg] at ad
 have⟨q,N,r',ab,hE⟩:=ad
 unfold ew at N
 split at N<;>try (simp at N;done)
 rename_i s' af
 split at N<;>try (simp at N;done)
 rename_i e0;subst e0
 simp only[Gg] at N
 have⟨bs,a7,N⟩:=N
 split at N<;>try (simp at N;done)
 rename_i cs hm
 simp only[Gg,Gb] at N
 obtain⟨⟨ts,A2⟩,U,rfl⟩:=N
 simp only at ab hE
 have⟨ag,hC⟩:=hκ _ _ ab
 have bc:k<I.length:=by
  rcases GF k I.length with h'|h'
  ·exact h'
  ·rw[List.getElem?_eq_none h'] at af;simp at af
 have⟨m1,m2⟩:=JA a7
 have ak:bs.length=I.length:=by simpa using m1
 have⟨W,D,f2,f3,f4⟩:=fK ((I.set k .undef).flatMap Jd) h
 have aq:({S with A:=JL S.A ((I.set k .undef).flatMap Jd)}:St).μ s'=some (cs,false):=hm
 have⟨a1,a2,a3,cb,el,a4,a5,a6⟩:=D.var s' cs false aq
 have a8:CR cx w (aQ X W) {S with A:=JL S.A ((I.set k .undef).flatMap Jd)} α cb.toList cs:=⟨by simpa using a5,fun i hi=>by have⟨u,p,q,r⟩:=a6 i hi;exact⟨u,by simpa using p,q,r⟩⟩
 have⟨k1,k2,k3,k4⟩:=jH cs _ cb.toList ts A2 (fun s z rows f hs E=>⟨(D.arr s z rows f hs E).1,fun b hb hl=>((D.arr s z rows f hs E).2 b hb).2.1 hl⟩)
  (fun s s' z rows f z' rows' f' hs E bg ba b hb a0=>D.arrInj s s' z rows f z' rows' f' hs E bg ba b hb a0) a8 U
 generalize hH:Jp cb.toList ts=H at k3 k4
 have ax:∀b∈H,W b:=fun b hb=>(k1.hdr b (hH▸hb)).1
 have ay:β s'∉H:=fun hb=>by
  have⟨t,z,rows,j,Y,e3⟩:=k4 _ hb;exact D.arrVar t z rows .live s' j (by simp) (by simp[hm]) e3
 have J:∀b,(b=β s'\/b∈H)->W b:=fun b hb=>by
  rcases hb with rfl|hb
  ·exact a2 rfl
  ·exact ax b hb
 have aj:∀b,aQ X W b->b<w.heap.size:=fun b hb=>by
  rcases hb with hb|hb
  ·exact h.size b (h.xb b hb)
  ·exact (D.m b hb).2
 have aa:∀{u x},aC cx w (aQ X W) u x->aC cx w (aQ (fun b=>aQ X W b/\¬(b=β s'\/b∈H)) (fun b=>b=β s'\/b∈H)) u x:=fun hr=>
  hr.mono (GC _) (fun _ _ _=>rfl) (fun b _ hn hx=>by
   rcases hx with hx|hx
   ·exact hn hx.1
   ·exact hn (.inr (J b hx)))
 have bh:(c.args.map a.eval).size=I.length:=by
  have:(c.args.map a.eval).size=c.args.toList.length:=by simp
  omega
 have al:∀{x},(bs.set k x)[k]?=some x:=fun {x}=>by simp[ak,bc]
 refine .inr (.inr ⟨_,_,w,Rp ho a9 ag,(hC w (fun b=>aQ X W b/\¬(b=β s'\/b∈H)) (fun b=>b=β s'\/b∈H) (β s') (c.args.map a.eval) ts (fun b hb=>aj b hb.1)
  (fun b hb=>⟨(D.m b (J b hb)).2,fun hx=>hx.2 hb,?_⟩) (Dw h) h.glob.2 (by rw[bh];simp[ak]) al ?_ ?_ ?_).mono ?_⟩)
 ·rcases GF b cx.gn with h'|h'
  ·exact absurd (h.glob.1 b h') (D.m b (J b hb)).1
  ·exact h'
 ·have⟨u,p,q⟩:=R k (by omega)
  have bb:gv I k=.lref s' 0:=by simp[gv,af]
  rw[bb] at q
  have:=Nc q
  subst this
  simpa using p
 ·refine⟨.inl rfl,cb.toList,el,by simpa using a4,k1.mono (fun _ _ hr=>aa hr) (fun b hb=>.inr (hH▸hb)),?_⟩
  rw[hH];exact rl.2 ⟨ay,k3⟩
 ·intro i hi ao
  have an:i<I.length:=by simp at hi;omega
  have⟨u,p,q⟩:=R i (by omega)
  refine⟨u,by simpa using p,?_⟩
  have ae:i<(I.set k .undef).length:=by simpa using an
  have⟨y,y1,y2⟩:=m2 i _ (List.getElem?_eq_getElem ae)
  have j:(I.set k V.undef)[i]'ae=I[i]:=by simp[Ne.symm ao]
  have Y:gv (bs.set k (.tuple (.lref 0 0::ts))) i=y:=by simp[gv,List.getD_eq_getElem?_getD,Ne.symm ao,y1]
  have e3:gv I i=I[i]:=by simp[gv,an]
  rw[Y]
  rw[e3] at q
  have bm:=y2
  rw[j] at y2
  refine aa (xt h q y2 (fun b hb=>hb.imp id (f2 b)) (fun s hs b hb am hn=>?_))
  rcases hn with hx|hx
  ·have⟨z,rows,f,j,Y⟩:=am
   exact ((h.arr s z rows f j Y).2 b hb).1 (h.xb b hx)
  ·exact f4 s (tE.2 ⟨_,xp ae,by rw[j];exact hs⟩) b hb am hx
 ·rintro en w' ⟨v,r0,du,N',rfl,rfl,Q,ah,⟨n1,l',bl,n2,n3,n4⟩,ar⟩
  simp only[iH] at hE
  simp only[Gg,Gb,Gr] at hE
  obtain⟨⟨cells,A3⟩,ht,rfl,rfl⟩:=hE
  have ai:∀t,t≠s'->(S.μ t).isSome->¬(β t=β s'\/β t∈H):=fun t be ht hx=>by
   rcases hx with hx|hx
   ·exact be (D.varInj t s' ht (by simp[hm]) hx)
   ·have⟨t',z,rows,j,Y,e3⟩:=k4 _ hx;exact D.arrVar t' z rows .live t j (by simp) ht e3
  have ac:∀t z rows f,A2 t=some (z,rows,f)->f≠.dead->∀b,hdr (α t)=some b->¬(b=β s'\/b∈H):=fun t z rows f ht E b hb hx=>by
   have ap:=k2.keep ht E;rcases hx with rfl|hx
   ·exact D.arrVar t z rows f s' ap E (by simp[hm]) hb
   ·have⟨t',z',rows',j,Y,e3⟩:=k4 _ hx;have:=D.arrInj t t' z rows f z' rows' .live ap E j (by simp) b hb e3;subst this;rw[ht] at Y;simp only[Gb,Gr] at Y;exact E Y.2.2
  have⟨az,av⟩:=D.lend aq k2 J (.inl rfl) ai ac Q ah
  have T:∀u x,aC cx w' (aQ (fun b=>aQ X W b/\¬(b=β s'\/b∈H)) N') u x->aC cx w' (aQ X fun b=>(W b/\¬(b=β s'\/b∈H))\/N' b) u x:=fun u x hr=>
   hr.mono (GC _) (fun _ _ _=>rfl) (fun b _ hn hx=>hn (by
    rcases hx with hx|hx|hx
    ·exact .inl ⟨.inl hx,fun U=>(D.m b (J b U)).1 (h.xb b hx)⟩
    ·exact .inl ⟨.inr hx.1,hx.2⟩
    ·exact .inr hx))
  have⟨bi,bj⟩:=rl.1 n4
  have Z:∀hb∈Jp l' du,(hb=β s'\/hb∈H)\/w.heap.size<=hb:=fun hb U=>(ah hb (n3.hdr hb U).1).imp id (·.1)
  have⟨α',t1,t2,t3,t4⟩:=fR du b0 _ α A3 cells l' az ht (n3.mono T (fun b hb=>.inr (n3.hdr b hb).1)) bj (fun hb U=>by
   refine⟨fun t ht he=>?_,fun t z rows f ht E hx=>?_⟩
   ·have L:t≠s'/\(S.μ t).isSome:=by
     simp only[aI] at ht;split at ht
     ·simp at ht
     ·rename_i j;exact⟨j,ht⟩
    rcases Z hb U with h'|h'
    ·exact ai t L.1 L.2 (he▸h')
    ·have⟨x,hx⟩:=GZ.1 L.2;have:=h.varLt (cs:=x.1) (f:=x.2) hx;omega
   ·rcases Z hb U with h'|h'
    ·exact ac t z rows f ht E hb hx h'
    ·have:=(D.arr t z rows f (k2.keep ht E) E).1.lt hx;omega)
  have O:=t1.addVar (d:=s') (b0:=β s') (cs:=cells) (by simp[aI]) (.inr n1) n2 (by simpa using t2.1) (fun i hi=>by have⟨u,p,q,r⟩:=t2.2 i hi;exact⟨u,by simpa using p,q,r⟩)
   (fun t ht he=>by
    have L:t≠s'/\(S.μ t).isSome:=by
     simp only[aI] at ht;split at ht
     ·simp at ht
     ·rename_i j;exact⟨j,ht⟩
    exact L.1 (h.varInj t s' L.2 (by simp[hm]) he))
   (fun t z rows f ht E hx=>by
    rcases t4 t z rows f ht E _ hx with h'|⟨z1,r1,au,b1,b2,b3⟩
    ·exact bi h'
    ·exact ac t z1 r1 au b1 b2 _ b3 (.inl rfl))
  have j:aI β s' (β s')=β:=Dt _ _ _ rfl
  rw[j] at O
  simp only[SI] at O
  refine⟨v,rfl,β,α',_,O,fun u x hu=>aJ.tr (S:=S) (fun u x hr=>av u x (sd f2 hr)) ?_ (fun t ht=>⟨?_,rfl⟩) hu,.of_data (T _ _ ar),Q.mono fun b hb=>⟨h.size b hb,fun U=>(D.m b (J b U)).1 hb⟩⟩
  ·exact (f3.trans (k2.atr α)).trans (S'':=⟨S.ρ,aI S.μ s' (some (cells,false)),A3⟩) t3
  ·simp only[aI]
   split
   ·rfl
   ·exact ht
end
end Sg
namespace Sg
open Go Go.RowKit Go.Lib
variable {P:Program}
def J6 (z:Nat) (w:World) (I R ty p:TypeId) (b o q y:Nat) (a:Addr) (u D:Nat) (cs:List Value) (k:Nat)
  (hu:P.underlying I=some (.slice p)) (L:(P.info? p).map (·.size)=some z) (O:k=Nat.min u q) (Q:cs.length=k*z)
  (B:∀j v,cs[j]?=some v->w.cell? (a.add j)=some v) (M:∀j,j<cs.length->(w.cell? ⟨b,o+j,none⟩).isSome=true) (N:∀j,j<cs.length->w.frozen? ⟨b,o+j,none⟩=false) (h1:∀v∈cs,v.oneCell'=true) :
  (Builtin.copy_ #[I,R] ty #[.slice (some ⟨b,o,none⟩) q y,.slice (some a) u D]).run P w=.ok (goInt k) (w.setCells b o cs):=by
 have J:=run_loadCells_list (P:=P) w a cs B
 have H:=run_storeCells_cells (P:=P) b o cs 0 w (by simpa using M) (by simpa using N) h1
 cases E:P.info? p with
 |none=>simp[E] at L
 |some i=>
  have hi:i.size=z:=by simpa [E] using L
  rw[Q] at J
  simp[Builtin.copy_,run_underlying hu,Builtin.lenOf,Builtin.firstCells,Go.sizeOf,typeInfo,E,hi,<-O,J,H]
def dg (w:World) (tS tR e:TypeId) (ht:P.underlying tS=some (.slice e)) (size:Nat) (hz:∀w,(Go.sizeOf e).run P w=.ok size w)
  (a b:Addr) (la ca lb cb:Nat) (hne:a.block≠b.block) (tA tB:TypeId) (kA kB:Nat)
  (hsa:w.shape? a.block=some (tA,kA)) (hsb:w.shape? b.block=some (tB,kB)) (hkA:kA≠0)
  (hfb:w.frozen? b=false) (E1:w.frozen? {block:=b.block,off:=kB}=false) :
  (Extern.SlicesOverlaps.overlaps #[tS,tS] #[tR] #[.slice (some a) la ca,.slice (some b) lb cb]).run P w=.ok (.bool false) w:=by
 have hnb:(a.block != b.block)=true:=by simpa using hne
 have hnb':(a.block == b.block)=false:=by simpa using hne
 change Sem.run P (α:=Value) (do
  let some t:=(#[tS,tS]:Array TypeId)[0]?|stuck "slices.overlaps: no parameter types"
  let .slice elem <-underlying t|stuck "slices.overlaps: slice type expected"
  let size <-sizeOf elem
  match (some a:Option Addr),(some b:Option Addr) with
  |some a,some b=>
   if la=0\/lb=0\/size=0 then pure (Value.bool false)
   else if a.block != b.block&&(<-frozen a)&&(<-frozen b) then unsupported .addressObserved
   else do
    if a.block != b.block then do
     noView a;noView b
     if <-mayBeOne a b then return Value.bool ((<-choose (.extern "sameAddr.stringBytes" 2)) == 1)
    pure (Value.bool (a.block == b.block&&a.off<b.off+lb*size&&b.off<a.off+la*size))
  |_,_=>pure (Value.bool false)) w=_
 by_cases h0:la=0\/lb=0\/size=0
 ·simp[run_underlying ht,hz,h0]
 ·cases kA with
  |zero=>exact absurd rfl hkA
  |succ kA=>
   cases hfa:w.frozen? a with
   |true=>simp[run_underlying ht,hz,h0,hnb,hnb',frozen,noView,viewAt,mayBeOne,stringish,shape,Sem.run,hsa,hsb,hfa,hfb,E1]
   |false=>
    cases hfk:w.frozen? {block:=a.block,off:=kA+1}<;>simp[run_underlying ht,hz,h0,hnb,hnb',frozen,noView,viewAt,mayBeOne,stringish,shape,Sem.run,hsa,hsb,hfa,hfb,E1,hfk]
def ng (w:World) {o:Oper} {a:Act} {K:Act->World->Prop} {Q:Exit->Act->World->Prop} (d s:Operand) (t t':TypeId)
  (ho:o.op=.call {callee:=.builtin .copy,args:=#[d,s],argTypes:=#[t,t']}) (v u:Value) (hd:a.eval d=v) (hs:a.eval s=u) {v':Value} {w':World}
  (hr:(Builtin.copy_ #[t,t'] o.type #[v,u]).run P w=.ok v' w') (h:K (a.put o.dst v') w'):o.wp P a w K Q:=by
 unfold Oper.wp execOp
 simp only[ho,resolve,invoke,builtin,Sem.run_bind,Sem.run_pure,Result.andThen_ok,List.map_toArray,GA,Gk,hd,hs,hr]
 exact h
def aX (w:World) {j:Array Oper} {bL:List Oper} {o:Oper} {a:Act} {Q:Exit->Act->World->Prop} (p:o.guard=none) (d s:Operand) (t t':TypeId)
  (z:o.op=.call {callee:=.builtin .copy,args:=#[d,s],argTypes:=#[t,t']}) (v u:Value) (y:a.eval d=v) (D:a.eval s=u) {v':Value} {w':World}
  (B:(Builtin.copy_ #[t,t'] o.type #[v,u]).run P w=.ok v' w') (h:wpList P j Q bL (a.put o.dst v') w'):wpList P j Q (o::bL) a w:=
 wpList_plain p fun _ q=>ng w d s t t' z v u y D B (q _ _ h)
def cg {j:Array Oper} {o:Oper} {a:Act} {w:World} {K:Act->World->Prop} {Q:Exit->Act->World->Prop} {E:Prop}
  (D:o.guard=none) (d x:Operand) (q y:TypeId) (p:o.op=Op.call {callee:=Callee.builtin Builtin.copy,args:=#[d,x],argTypes:=#[q,y]})
  (v u:Value) (B:a.eval d=v) (I:a.eval x=u) {v':Value} {w':World} (H:(Builtin.copy_ #[q,y] o.type #[v,u]).run P w=.ok v' w') (z:K (a.put o.dst v') w') :
  if Region.wanted o (yielded j a.tmps)=true then Oper.wp P o a w K Q else E:=by
 have hw:Region.wanted o (yielded j a.tmps)=true:=by simp[Region.wanted,D]
 rw[Gt hw]
 unfold Oper.wp
 simp[execOp,p,resolve,invoke,builtin,B,I,H,Result.andThen]
 exact z
def eM (b:Nat) (vs:List Value) (o:Nat) (w:World) (h:∀j,j<vs.length->(w.cell? ⟨b,o+j,none⟩).isSome=true) (k:Nat) (q:(w.cell? ⟨b,k,none⟩).isSome=true):((w.setCells b o vs).cell? ⟨b,k,none⟩).isSome=true:=by
 by_cases p:o<=k/\k<o+vs.length
 ·have:=World.cell?_setCells_in b vs o w h (k-o) (by omega);rw[show o+(k-o)=k by omega] at this;rw[this];rfl
 ·rw[World.cell?_setCells_out b vs o w ⟨b,k,none⟩ (fun _ _=>by show k<o\/o+vs.length<=k;omega)];exact q
theorem cy (b:Nat):∀(vs:List Value) (o:Nat) (w:World),(w.setCells b o vs).drew=w.drew.setCells b o vs
 |[],_,_=>rfl
 |v::r,o,w=>by rw[World.setCells,World.setCells,cy b r];rfl
def lf (w:World) (t e ty:TypeId) (q:Value) (ht:P.underlying t=some (.slice e)) (z:∀w,(zeroValue e).run P w=.ok q w) (b o n c:Nat) (B:0<n) (h1:∀v∈(Builtin.zeroCells q.cells n).toList,v.oneCell'=true)
  (u:∀j,j<(Builtin.zeroCells q.cells n).toList.length->(w.cell? ⟨b,o+j,none⟩).isSome=true) (y:∀j,w.frozen? ⟨b,j,none⟩=false) :
  (Builtin.clear_ #[t] ty #[.slice (some ⟨b,o,none⟩) n c]).run P w=.ok (.tuple #[]) (w.setCells b o (Builtin.zeroCells q.cells n).toList):=by
 have p:=run_storeCells_cells (P:=P) b o (Builtin.zeroCells q.cells n).toList 0 w (by simpa using u) (fun j _=>y _) h1
 simp only[Nat.add_zero] at p
 obtain⟨m,rfl⟩:∃m,n=m+1:=⟨n-1,by omega⟩
 simp only[Builtin.clear_]
 simp[run_underlying ht,z,p]
def pi {j:Array Value} {k:Nat} {v:Value} (h:∀u∈j.toList,u.oneCell'=true) (p:v∈(Builtin.zeroCells j k).toList):v.oneCell'=true:=by
 simp only[Builtin.zeroCells,Array.toList_map,nH] at p;obtain⟨i,hi,rfl⟩:=p;simp only[Array.toList_range,lg] at hi;have hz:0<j.size:=Nat.pos_of_ne_zero fun e=>by rw[e] at hi;simp at hi
 have o:=Nat.mod_lt i hz;rw[getElem!_pos j (i%j.size) o];exact h _ (by simp)
end Sg
namespace Sg
open Go Go.RowKit
structure ki (P:Program) (f:FuncId) (z:Nat) (tS el:TypeId):Prop where
 ent:pj P f
 hS:P.underlying tS=some (.slice el)
 hz:dz P el=some z
 pos:0<z
 info:∃ie zv,P.info? el=some ie/\ie.bytes<=65536/\ie.zero=some zv/\zv.cells.size=z
 nothing:∀(base:Option Addr) (n c i vc:Nat) (vb:Option Addr) (w:World),n<=c->i<=n->(base=none->n=0)->
  Calls P f #[.slice base n c,.int .i64 i,.slice vb 0 vc] w fun e w1=>e=.returned (.slice base n c)/\w1=w
 end_:∀(base:Option Addr) (n c m vc:Nat) (vb:Option Addr) (w w':World) (q:Value),0<m->n<=c->n+m<=1073741824->(base=none->n=0)->
  (Builtin.append_ #[tS,tS] tS #[.slice base n c,.slice vb m vc]).run P w=.ok q w'->
  Calls P f #[.slice base n c,.int .i64 n,.slice vb m vc] w fun e w1=>e=.returned q/\w1=w'
 shift:∀(b off n c i vb voff m vc:Nat) (cs vs:List Value) (w:World),i<n->0<m->n+m<=c->n+m<=1073741824->vb≠b->cs.length=n*z->vs.length=m*z->
  (∀(j:Nat) (v:Value),cs[j]?=some v->w.cell? ⟨b,off+j,none⟩=some v)->(∀j,j<(n+m)*z->(w.cell? ⟨b,off+j,none⟩).isSome=true)->(∀j,w.frozen? ⟨b,j,none⟩=false)->
  (∀(j:Nat) (v:Value),vs[j]?=some v->w.cell? ⟨vb,voff+j,none⟩=some v)->(∀v∈cs,v.oneCell'=true)->(∀v∈vs,v.oneCell'=true)->
  ∀(tA tB:TypeId) (kA kB:Nat),w.shape? vb=some (tA,kA)->w.shape? b=some (tB,kB)->kA≠0->
  Calls P f #[.slice (some ⟨b,off,none⟩) n c,.int .i64 i,.slice (some ⟨vb,voff,none⟩) m vc] w fun e w'=>
   e=.returned (.slice (some ⟨b,off,none⟩) (n+m) c)/\w'=(w.drew.setCells b (off+(i+m)*z) (cs.drop (i*z))).setCells b (off+i*z) vs
 grow:∀(b off n c i vb voff m vc:Nat) (cs vs:List Value) (w:World),i<n->0<m->n<=c->c<n+m->n+m<=1073741824->cs.length=n*z->vs.length=m*z->b<w.heap.size->vb<w.heap.size->
  (∀(j:Nat) (v:Value),cs[j]?=some v->w.cell? ⟨b,off+j,none⟩=some v)->
  (∀(j:Nat) (v:Value),vs[j]?=some v->w.cell? ⟨vb,voff+j,none⟩=some v)->(∀v∈cs,v.oneCell'=true)->(∀v∈vs,v.oneCell'=true)->
  Calls P f #[.slice (some ⟨b,off,none⟩) n c,.int .i64 i,.slice (some ⟨vb,voff,none⟩) m vc] w fun e w'=>
   ∃(G:Nat) (ROW:Array Value) (d1:Nat),n+m<=G/\(n+m)*z<=ROW.size/\ROW.size=G*z/\(∀(j:Nat) (v:Value),(cs.take (i*z))[j]?=some v->ROW[j]?=some v)/\e=.returned (.slice (some ⟨w.heap.size,0,none⟩) (n+m) G)/\
   w'=((({w with drawn:=d1}:World).alloc (.cells ROW el)).setCells w.heap.size (i*z) vs).setCells w.heap.size ((i+m)*z) (cs.drop (i*z))
structure nE (P:Program) (f:FuncId) (z:Nat):Prop where
 ent:pj P f
 pos:0<z
 nothing:∀(base:Option Addr) (n c i:Nat) (w:World),n<=c->i<=n->(base=none->n=0)->
  Calls P f #[.slice base n c,.int .i64 i,.int .i64 i] w fun e w1=>e=.returned (.slice base n c)/\w1=w
 cut:∀(b off n c i j:Nat) (cs:List Value) (w:World),i<j->j<=n->n<=c->n<=1073741824->cs.length=n*z->
  (∀(j:Nat) (v:Value),cs[j]?=some v->w.cell? ⟨b,off+j,none⟩=some v)->(∀j,w.frozen? ⟨b,j,none⟩=false)->(∀v∈cs,v.oneCell'=true)->
  Calls P f #[.slice (some ⟨b,off,none⟩) n c,.int .i64 i,.int .i64 j] w fun e w'=>
   e=.returned (.slice (some ⟨b,off,none⟩) (n-(j-i)) c)/\∃(d1:Nat) (zs:List Value),zs.length=(j-i)*z/\(∀v∈zs,v.oneCell'=true)/\
   w'=((({w with drawn:=d1}:World)).setCells b (off+i*z) (cs.drop (j*z))).setCells b (off+(n-(j-i))*z) zs
def cQ (P:Program) {w:World} {b o:Nat} {c:Array Value} {e:TypeId} {vs:List Value} (h:w.heap[b]?=some (.cells c e (0,0))) (hsz:o+vs.length<=c.size) (h1:∀v∈vs,v.oneCell'=true) :
  ∃c2,(w.setCells b o vs).heap[b]?=some (.cells c2 e (0,0))/\c2.size=c.size/\lI b w (w.setCells b o vs)/\(∀B:Nat->Prop,¬B b->bY B w (w.setCells b o vs))/\
   (∀k,k<o->c2[k]?=c[k]?)/\(∀k,k<vs.length->c2[o+k]?=vs[k]?)/\∀k,o+vs.length<=k->c2[k]?=c[k]?:=by
 have a:=run_storeCells_at P b o e vs 0 c w h (by omega) h1
 have hcell:∀j,j<vs.length->(w.cell? ⟨b,o+0+j,none⟩).isSome=true:=fun j hj=>by
  simp[World.cell?,h];omega
 have hfz:∀j,j<vs.length->w.frozen? ⟨b,o+0+j,none⟩=false:=fun j hj=>by simp[World.frozen?,h]
 have b':=run_storeCells_cells (P:=P) b o vs 0 w hcell hfz h1
 rw[a] at b'
 have e1:w.setCells b o vs=w.setRow b (c.toList.take o++vs++c.toList.drop (o+vs.length)).toArray:=by
  simpa using b'.symm
 rw[e1]
 have hcl:c.toList.length=c.size:=Array.length_toList
 have htk:(c.toList.take o).length=o:=by rw[GK,hcl];omega
 refine⟨_,setRow_heap w b c _ e (0,0) h,by rw[rh,Gf,Gf,htk,GP,hcl];omega,JM w b _,fun B hB=>JP w _ hB,fun k hk=>?_,fun k hk=>?_,fun k hk=>?_⟩
 ·simp only[List.getElem?_toArray]
  rw[GX,List.getElem?_append_left (by omega),List.getElem?_take_of_lt hk];simp
 ·simp only[List.getElem?_toArray]
  rw[GX,List.getElem?_append_right (by omega),htk,Nat.add_sub_cancel_left,List.getElem?_append_left hk]
 ·simp only[List.getElem?_toArray]
  rw[List.getElem?_append_right (by rw[Gf,htk];omega),Gf,htk,List.getElem?_drop]
  have:o+vs.length+(k-(o+vs.length))=k:=by omega
  rw[this];simp
section
variable {P:Program} {cx:Cx} {B:Nat->Prop} {X:Nat->Prop} {S:St} {w:World} {β:Nat->Nat} {α:Nat->Value} {M:Nat->Prop}
def DR.take {z i:Nat} {l:List Value} {rows:List (List V)} (h:DR cx w X z l rows) (hi:i<=rows.length):DR cx w X z (l.take (i*z)) (rows.take i):=by
 have q:i*z<=rows.length*z:=GU z hi;refine⟨by rw[GK,h.1,GK,pn q,pn hi],fun k p=>?_,fun k j p y=>?_⟩
 ·have o:k<i:=by simp at p;omega
  have:=h.2.1 k (by omega);simpa [gr,List.getD_eq_getElem?_getD,List.getElem?_take_of_lt o] using this
 ·have o:k<i:=by simp at p;omega
  have⟨u,a,b,c⟩:=h.2.2 k j (by omega) y;exact⟨u,by rw[List.getElem?_take_of_lt (vI o y)];exact a,b,by simpa [gr,List.getD_eq_getElem?_getD,List.getElem?_take_of_lt o] using c⟩
def DR.drop {z i:Nat} {l:List Value} {rows:List (List V)} (h:DR cx w X z l rows) (hi:i<=rows.length):DR cx w X z (l.drop (i*z)) (rows.drop i):=by
 refine⟨by rw[GP,h.1,GP,Nat.sub_mul],fun k o=>?_,fun k j o p=>?_⟩
 ·have:=h.2.1 (i+k) (by simp at o;omega);simpa [gr,List.getD_eq_getElem?_getD,List.getElem?_drop] using this
 ·have⟨u,a,b,c⟩:=h.2.2 (i+k) j (by simp at o;omega) p;refine⟨u,?_,b,by simpa [gr,List.getD_eq_getElem?_getD,List.getElem?_drop] using c⟩;rw[List.getElem?_drop,<-a];congr 1;rw[jn];omega
def aW.delArr (h:aW cx B X S w β α M) {s d z b0:Nat} {rows rows':List (List V)} {v':Value} {w':World} (hs:S.A s=some (z,rows,.live)) (hd:S.A d=none)
  (hg:lI b0 w w') (hb0:hdr (α s)=some b0) (hv:hdr v'=some b0) (ha:bH cx w' (aQ X M) v' z rows') :
  aW cx B X {S with A:=aI (aI S.A s (some (z,[],.dead))) d (some (z,rows',.live))} w' β (aI α d v') M/\(∀u x,aC cx w (aQ X M) u x->aC cx w' (aQ X M) u x)/\
   dK S {S with A:=aI (aI S.A s (some (z,[],.dead))) d (some (z,rows',.live))} α (aI α d v'):=by
 have⟨p1,p2⟩:=h.arr s z rows .live hs (by simp)
 have hM:M b0:=(p2 b0 hb0).2.1 rfl
 have hsd:s≠d:=fun e=>by rw[e,hd] at hs;simp at hs
 have hD:∀u x,aC cx w (aQ X M) u x->aC cx w' (aQ X M) u x:=fun _ _ hr=>vJ hg hM hr
 have hT:dK S {S with A:=aI (aI S.A s (some (z,[],.dead))) d (some (z,rows',.live))} α (aI α d v'):=fun t z1 r f ht=>by
  have htd:t≠d:=fun e=>by rw[e,hd] at ht;simp at ht
  by_cases e:t=s
  ·subst e;rw[hs] at ht;simp only[Gb,Gr] at ht;obtain⟨rfl,rfl,rfl⟩:=ht;exact⟨[],.dead,by simp[aI,htd],fun h=>absurd rfl h⟩
  ·exact⟨r,f,by simp[aI,htd,e,ht],fun h=>⟨h,GC _,fun _=>by simp[aI,htd]⟩⟩
 have keep:∀t,(S.μ t).isSome->β t≠b0:=fun t ht e=>h.arrVar s z rows .live t hs (by simp) ht (by rw[hb0,e])
 have old:∀t z1 r f,t≠d->(aI (aI S.A s (some (z,[],.dead))) d (some (z,rows',.live))) t=some (z1,r,f)->f≠.dead->S.A t=some (z1,r,f)/\t≠s:=fun t z1 r f htd ht hf=>by
  by_cases e:t=s
  ·subst e;simp only[aI,Gn htd,Gw,Gb,Gr] at ht;exact absurd ht.2.2.symm hf
  ·simp only[aI,Gn htd,Gn e] at ht;exact⟨ht,e⟩
 refine⟨⟨h.xb,⟨h.glob.1,cx.Gst w w' h.glob.2 fun b hb=>hg.block b (fun e=>(h.m _ hM).1 (e▸h.glob.1 b hb))⟩,by rw[hg.size];exact h.size,fun b hb=>by rw[hg.size];exact h.m b hb,fun t ct f ht=>?_,h.varInj,fun t z' r f ht hf=>?_,fun t t' z1 r1 f1 z2 r2 f2 ht hf ht' hf' b hb dy=>?_,fun t z' r f t' ht hf ht'=>?_⟩,hD,hT⟩
 ·have⟨a1,a2,a3,c',e'',a4,a5,a6⟩:=h.var t ct f ht
  refine⟨a1,a2,a3,c',e'',(hg.block _ (keep t (GZ.2 ⟨_,ht⟩))).trans a4,a5,fun i hi=>?_⟩
  have⟨u,b1,b2,b3⟩:=a6 i hi
  exact⟨u,b1,b2,b3.tr hD hT⟩
 ·by_cases e:t=d
  ·subst e
   simp only[aI,Gw,Gb,Gr] at ht ⊢
   obtain⟨rfl,rfl,rfl⟩:=ht
   refine⟨ha,fun b hb=>?_⟩
   rw[hv] at hb
   simp only[Gb] at hb
   subst hb
   exact⟨(p2 b0 hb0).1,fun _=>hM,fun hf=>by simp at hf⟩
  ·have⟨ht,es⟩:=old t z' r f e ht hf
   have⟨a1,a2⟩:=h.arr t z' r f ht hf
   have:aI α d v' t=α t:=by simp[aI,e]
   rw[this]
   exact⟨a1.tr hD (fun b hb=>hg.block b (fun e'=>es (h.arrInj t s z' r f z rows .live ht hf hs (by simp) b hb (by rw[hb0,e'])))),a2⟩
 ·have ei:∀t z1 r1 f1,t≠d->S.A t=some (z1,r1,f1)->t≠s->f1≠.dead->hdr (α t)=some b->hdr v'=some b->False:=fun t z1 r1 f1 hne ht hs' hf hb hv'=>by
   rw[hv] at hv';simp only[Gb] at hv';subst hv';exact hs' (h.arrInj t s z1 r1 f1 z rows .live ht hf hs (by simp) b0 hb hb0)
  by_cases e1:t=d<;>by_cases e2:t'=d
  ·rw[e1,e2]
  ·have⟨q1,q2⟩:=old t' z2 r2 f2 e2 ht' hf'
   simp only[aI,e1,Gw] at hb
   simp only[aI,e2,Gv] at dy
   exact (ei t' z2 r2 f2 e2 q1 q2 hf' dy hb).elim
  ·have⟨q1,q2⟩:=old t z1 r1 f1 e1 ht hf
   simp only[aI,e2,Gw] at dy
   simp only[aI,e1,Gv] at hb
   exact (ei t z1 r1 f1 e1 q1 q2 hf hb dy).elim
  ·have⟨q1,q2⟩:=old t z1 r1 f1 e1 ht hf
   have⟨q3,q4⟩:=old t' z2 r2 f2 e2 ht' hf'
   simp only[aI,e1,e2,Gv] at hb dy
   exact h.arrInj t t' z1 r1 f1 z2 r2 f2 q1 hf q3 hf' b hb dy
 ·by_cases e:t=d
  ·subst e
   simp only[aI,Gw]
   rw[hv]
   intro hb
   simp only[Gb] at hb
   exact keep t' ht' hb.symm
  ·have⟨q1,q2⟩:=old t z' r f e ht hf
   have:aI α d v' t=α t:=by simp[aI,e]
   rw[this]
   exact h.arrVar t z' r f t' q1 hf ht'
end
section
variable {P:Program} {cx:Cx} {B:Nat->Prop} {X:Nat->Prop} {S:St} {w:World} {β:Nat->Nat} {α:Nat->Value} {M:Nat->Prop}
def Du {w:World} {b:Nat} {c:Array Value} {e:TypeId} {fr:Nat×Nat} (h:w.heap[b]?=some (.cells c e fr)) (k:Nat):w.cell? ⟨b,k,none⟩=c[k]?:=by
 simp[World.cell?,h]
def TW {f tS el:Nat} {z:Nat} (R:ki P f z tS el) (h:aW cx B X S w β α M) {s n k:Nat} {rows p:List (List V)} {v u:Value}
  (hA:S.A s=some (z,rows,.live)) (hn:rows.length=n) (Z:k<=n) (ah:rows.length+p.length<=aU)
  (hx:aJ cx w (aQ X M) S β α v (.own s z n)) (hy:aJ cx w (aQ X M) S β α u (.slice z p)) :
  Calls P f #[v,.int .i64 k,u] w fun e w1=>∃q,e=.returned q/\
   cz cx B X S w β α M {S with A:=aI S.A s (some (z,rows.take k++(p++rows.drop k),.live))} (.own s z (rows.length+p.length)) q w1:=by
 have ar:=hy
 obtain⟨rows',f',a,aN,al,rfl,ha,ho⟩:=hx
 rw[hA] at al
 simp only[Gb,Gr] at al
 obtain⟨-,rfl,rfl⟩:=al
 have hα:=(ho (by simp)).2 hn
 have⟨p1,p2⟩:=h.arr s z rows .live hA (by simp)
 obtain⟨D,W,-,az⟩:=p1.cells R.pos
 subst hn
 rw[<-hα] at p1 az
 have I:rows.length<=aN/\(a=none->rows.length=0):=by
  rcases p1.at_ with⟨h1,Y⟩|⟨b,o,au,c,ak,h1,Y,h3,h4,h5⟩
  ·simp only[Value.slice.injEq] at h1;subst Y;exact⟨by simp,fun _=>rfl⟩
  ·simp only[Value.slice.injEq] at h1;obtain⟨rfl,-,rfl⟩:=h1;exact⟨h3,fun e=>by simp at e⟩
 have N:rows.length+p.length<=1073741824:=ah
 simp only[aJ] at hy
 have bb:∃vb vc,u=.slice vb p.length vc:=by
  rcases JB hy with⟨⟨a0,rfl⟩,rfl⟩|⟨b,o,vc,c,e',fr,rfl,-⟩
  ·exact⟨a0,0,rfl⟩
  ·exact⟨_,_,rfl⟩
 rcases nI p.length with hz|hpos
 ·-- nothing
  have ar:p=[]:=GJ hz
  subst ar
  obtain⟨vb,vc,rfl⟩:=bb
  refine (R.nothing a rows.length aN k vc vb w I.1 Z I.2).mono ?_
  rintro e w1 ⟨rfl,rfl⟩
  refine⟨_,rfl,?_⟩
  have:S={S with A:=aI S.A s (some (z,rows.take k++([]++rows.drop k),.live))}:=by
   have:aI S.A s (some (z,rows.take k++([]++rows.drop k),.live))=S.A:=by
    funext t;simp only[aI];split
    ·rename_i e;rw[e,hA];simp
    ·rfl
   rw[this]
  rw[<-this]
  exact .pure h ⟨rows,.live,a,aN,hA,rfl,ha,ho⟩
 ·by_cases a3:k=rows.length
  ·-- at the end
   have⟨ie,zv,bg,bd,bn,af⟩:=R.info
   have be:JX S s z (.own s z rows.length) (.slice z p)=some (.own s z (rows.length+p.length),{S with A:=aI S.A s (some (z,rows++p,.live))}):=by
    simp only[JX,and_self,Gw,hA,V.rowsOf,Option.bind_some];rw[Gt ah]
   have bm:aJ cx w (aQ X M) S β α (.slice a rows.length aN) (.own s z rows.length):=⟨rows,.live,a,aN,hA,rfl,ha,ho⟩
   have⟨q,w',a6,ao⟩:=AP (P:=P) (t':=tS) (ty:=tS) h bm ar R.hS R.hz bg bd bn af R.pos (by simp[JV,R.hS]) be
   obtain⟨vb,vc,rfl⟩:=bb
   subst a3
   refine (R.end_ a rows.length aN p.length vc vb w w' q hpos I.1 N I.2 a6).mono ?_
   rintro e w1 ⟨rfl,rfl⟩
   refine⟨q,rfl,?_⟩
   rw[GB,GQ,GD]
   exact ao
  ·have an:k<rows.length:=by omega
   rcases p1.at_ with⟨h1,Y⟩|⟨b,o,au,c,ak,h1,Y,h3,h4,h5⟩
   ·subst Y;simp at an
   simp only[Value.slice.injEq] at h1
   obtain⟨rfl,-,rfl⟩:=h1
   have hM:M b:=(p2 b (by rw[<-hα];rfl)).2.1 rfl
   rcases JB hy with⟨⟨a0,rfl⟩,rfl⟩|⟨vb,vo,vc,cv,bc,fr,rfl,bk,bj,ba,bl,af,a1⟩
   ·simp at hpos
   have bi:p≠[]:=fun e=>by rw[e] at hpos;simp at hpos
   have a9:=(DR.of_cells af a1 R.pos).resolve_right bi
   have hdr:=DR.seg a9 af a1
   generalize bh:(cv.toList.drop vo).take (p.length*z)=J at hdr
   have a7:vb≠b:=fun e=>bj (.inr (e▸hM))
   have a4:=az b o _ _ c ak rfl Y
   have a2:∀(j:Nat) (v:Value),D[j]?=some v->w.cell? ⟨b,o+j,none⟩=some v:=fun j v hj=>by
    have ae:j<D.length:=by
     rcases GF j D.length with h'|h'
     ·exact h'
     ·rw[List.getElem?_eq_none h'] at hj;simp at hj
    rw[Du Y,a4 j ae,hj]
   have a8:∀(j:Nat) (v:Value),J[j]?=some v->w.cell? ⟨vb,vo+j,none⟩=some v:=fun j v hj=>by
    have ae:j<J.length:=by
     rcases GF j J.length with h'|h'
     ·exact h'
     ·rw[List.getElem?_eq_none h'] at hj;simp at hj
    rw[hdr.1] at ae;rw[Du ba,<-hj,<-bh,List.getElem?_take_of_lt ae,List.getElem?_drop];simp
   have bf:∀j,w.frozen? ⟨b,j,none⟩=false:=fun j=>by simp[World.frozen?,Y]
   have e1:D.length=rows.length*z:=W.1
   have e2:J.length=p.length*z:=hdr.1
   have o1:=W.one R.pos
   have o2:=hdr.one R.pos
   have bq:k*z<=rows.length*z:=GU z (by omega)
   have e3:(D.drop (k*z)).length=rows.length*z-k*z:=by rw[GP,e1]
   have e4:(k+p.length)*z=k*z+p.length*z:=jn ..
   have e5:(rows.length+p.length)*z=rows.length*z+p.length*z:=jn ..
   have e6:(D.take (k*z)).length=k*z:=by rw[GK,e1];omega
   have o3:∀v∈D.drop (k*z),v.oneCell'=true:=fun v hv=>o1 v (tH hv)
   -- the cells of the new jQ
   have L:∀(c3:Array Value) (O:Nat),(∀t,t<k*z->c3[O+t]?=D[t]?)->(∀t,t<J.length->c3[O+k*z+t]?=J[t]?)->(∀t,t<(D.drop (k*z)).length->c3[O+(k+p.length)*z+t]?=(D.drop (k*z))[t]?)->
     ∀t,t<(D.take (k*z)++(J++D.drop (k*z))).length->c3[O+t]?=(D.take (k*z)++(J++D.drop (k*z)))[t]?:=by
    intro c3 O q1 q2 q3 t ht
    rw[Gf,Gf,e6,e2,e3] at ht
    rcases GF t (k*z) with t1|t1
    ·rw[List.getElem?_append_left (by omega),List.getElem?_take_of_lt t1];exact q1 t t1
    ·rw[List.getElem?_append_right (by omega),e6]
     rcases GF (t-k*z) (J.length) with t2|t2
     ·rw[List.getElem?_append_left t2,<-q2 _ t2];congr 1;omega
     ·rw[List.getElem?_append_right t2,<-q3 _ (by omega)];congr 1;omega
   by_cases ad:rows.length+p.length<=aN
   ·-- in place
    have bp:(rows.length+p.length)*z<=aN*z:=GU z ad
    have hc:=R.shift b o rows.length aN k vb vo p.length vc D J w an hpos ad N a7 e1 e2 a2 (fun j hj=>by
     rw[Du Y,Array.getElem?_eq_getElem (by omega)];rfl) bf a8 o1 o2 bc ak cv.size c.size (by simp[World.shape?,ba]) (by simp[World.shape?,Y]) (by
      have:=Nat.le_mul_of_pos_left z hpos;have:=R.pos;omega)
    refine hc.mono ?_
    rintro e w1 ⟨rfl,rfl⟩
    refine⟨_,rfl,?_⟩
    have⟨c2,s1,s2,s3,s4,s5,s6,s7⟩:=cQ P (w:=w.drew) (b:=b) (o:=o+(k+p.length)*z) (vs:=D.drop (k*z)) Y (by rw[e3];omega) o3
    have⟨c3,t1,t2,t3,t4,t5,t6,t7⟩:=cQ P (b:=b) (o:=o+k*z) (vs:=J) s1 (by omega) o2
    generalize (w.drew.setCells b (o+(k+p.length)*z) (D.drop (k*z))).setCells b (o+k*z) J=w2 at t1 t3 t4 ⊢
    generalize w.drew.setCells b (o+(k+p.length)*z) (D.drop (k*z))=w3 at s1 s3 s4 t3 t4 ⊢
    have hT:lI b w w2:=⟨t3.size.trans s3.size,fun b' E=>(t3.block b' E).trans (s3.block b' E)⟩
    have ax:¬B b:=(p2 b (by rw[<-hα];rfl)).1
    have ac:bY B w w2:=by
     have q1:=s4 B ax;have q2:=t4 B ax;exact⟨q2.os.trans q1.os,q2.tape.trans q1.tape,q2.output.trans q1.output,GI q1.size q2.size,fun k Z=>(q2.block k Z).trans (q1.block k Z)⟩
    have hD:∀u x,aC cx w (aQ X M) u x->aC cx w2 (aQ X M) u x:=fun _ _ hr=>vJ hT hM hr
    have aa:DR cx w2 (aQ X M) z (D.take (k*z)++(J++D.drop (k*z))) (rows.take k++(p++rows.drop k)):=((W.take Z).append (hdr.append (W.drop Z))).mono hD
    have y:(rows.take k++(p++rows.drop k)).length=rows.length+p.length:=by simp;omega
    have ab:bH cx w2 (aQ X M) (.slice (some ⟨b,o,none⟩) (rows.length+p.length) aN) z (rows.take k++(p++rows.drop k)):=by
     refine bH.of_DR t1 aa (L c3 o (fun t ht=>?_) (fun t ht=>t6 t ht) (fun t ht=>?_)) (by rw[y];exact ad) (by rw[t2,s2];exact h4) y
     ·rw[t5 _ (by omega),s5 _ (by omega)];exact a4 t (by omega)
     ·rw[t7 _ (by omega)];exact s6 t ht
    have H:(rows.take k++(p++rows.drop k)).length=rows.length->(Value.slice (some ⟨b,o,none⟩) (rows.length+p.length) aN)=α s:=fun e'=>by rw[y] at e';omega
    have⟨ap,am⟩:=h.setArr (M':=M) (rows':=rows.take k++(p++rows.drop k)) (v':=.slice (some ⟨b,o,none⟩) (rows.length+p.length) aN) hA
     (fun b' E _=>hT.block b' (fun e'=>E (by rw[<-hα,e'];rfl))) (by rw[hT.size];exact GC _) (.inl (by rw[<-hα];rfl)) (by rw[y];omega) H
     (fun _ hb=>hb) (fun _ hb=>.inl hb) (fun b' E=>by simp only[Sg.hdr,Gb] at E;subst E;exact hM) ab
    exact⟨β,_,M,ap,fun u' x' aq=>aJ.tr am (xv hA (by rw[y];omega) H) (fun s hs=>⟨hs,rfl⟩) aq,DE y,ac⟩
   ·-- a new jQ
    have hc:=R.grow b o rows.length aN k vb vo p.length vc D J w an hpos h3 (by omega) N e1 e2 (JG Y) bk a2 a8 o1 o2
    refine hc.mono ?_
    rintro e w1 ⟨G,U,d1,g1,g2,g3,g4,rfl,rfl⟩
    refine⟨_,rfl,?_⟩
    have ay:(({w with drawn:=d1}:World).alloc (.cells U el)).heap[w.heap.size]?=some (.cells U el (0,0)):=by simp[World.alloc]
    have Q:ez w (({w with drawn:=d1}:World).alloc (.cells U el)):=⟨by simp[World.alloc],fun b hb=>by simp[World.alloc,Array.getElem?_push,Nat.ne_of_lt hb]⟩
    have ag:(({w with drawn:=d1}:World).alloc (.cells U el)).heap.size=w.heap.size+1:=by simp[World.alloc]
    have T:bY B w (({w with drawn:=d1}:World).alloc (.cells U el)):=⟨rfl,rfl,rfl,Q.size,fun k Z=>Q.block k (h.size k Z)⟩
    generalize (({w with drawn:=d1}:World).alloc (.cells U el))=w0 at ay Q ag T ⊢
    have⟨c2,s1,s2,s3,s4,s5,s6,s7⟩:=cQ P (b:=w.heap.size) (o:=k*z) (vs:=J) ay (by omega) o2
    have⟨c3,t1,t2,t3,t4,t5,t6,t7⟩:=cQ P (b:=w.heap.size) (o:=(k+p.length)*z) (vs:=D.drop (k*z)) s1 (by rw[e3];omega) o3
    generalize (w0.setCells w.heap.size (k*z) J).setCells w.heap.size ((k+p.length)*z) (D.drop (k*z))=w2 at t1 t3 t4 ⊢
    generalize w0.setCells w.heap.size (k*z) J=w3 at s1 s3 s4 t3 t4 ⊢
    have bo:w2.heap.size=w.heap.size+1:=by rw[t3.size,s3.size,ag]
    have hg:ez w w2:=⟨by omega,fun b hb=>by rw[t3.block b (by omega),s3.block b (by omega)];exact Q.block b hb⟩
    have aj:w.heap.size<w2.heap.size:=by omega
    have ac:bY B w w2:=by
     have a5:¬B w.heap.size:=fun hB=>Nat.lt_irrefl _ (h.size _ hB);have q1:=s4 B a5;have q2:=t4 B a5;exact⟨q2.os.trans (q1.os.trans T.os),q2.tape.trans (q1.tape.trans T.tape),q2.output.trans (q1.output.trans T.output),hg.size,fun k Z=>hg.block k (h.size k Z)⟩
    have av:∀b,(M b\/b=w.heap.size)->M b\/(w.heap.size<=b/\b<w2.heap.size):=fun b hb=>by
     rcases hb with hb|hb
     ·exact .inl hb
     ·subst hb;exact .inr ⟨GC _,aj⟩
    have hD:∀u x,aC cx w (aQ X M) u x->aC cx w2 (aQ X (fun b=>M b\/b=w.heap.size)) u x:=fun _ _ hr=>J1 hg (fun b hb=>(av b hb).imp id (·.1)) hr
    have aa:DR cx w2 (aQ X (fun b=>M b\/b=w.heap.size)) z (D.take (k*z)++(J++D.drop (k*z))) (rows.take k++(p++rows.drop k)):=((W.take Z).append (hdr.append (W.drop Z))).mono hD
    have y:(rows.take k++(p++rows.drop k)).length=rows.length+p.length:=by simp;omega
    have ab:bH cx w2 (aQ X (fun b=>M b\/b=w.heap.size)) (.slice (some ⟨w.heap.size,0,none⟩) (rows.length+p.length) G) z (rows.take k++(p++rows.drop k)):=by
     refine bH.of_DR t1 aa (L c3 0 (fun t ht=>?_) (fun t ht=>?_) (fun t ht=>?_)) (by rw[y];exact g1) (by rw[t2,s2,g3];omega) y
     ·rw[j8,t5 _ (by omega),s5 _ (by omega)];have ai:t<D.length:=by omega
      rw[List.getElem?_eq_getElem ai];refine g4 t _ ?_;rw[List.getElem?_take_of_lt ht,List.getElem?_eq_getElem ai]
     ·rw[j8,t5 _ (by omega)];exact s6 t ht
     ·rw[j8];exact t6 t ht
    have H:(rows.take k++(p++rows.drop k)).length=rows.length->(Value.slice (some ⟨w.heap.size,0,none⟩) (rows.length+p.length) G)=α s:=fun e'=>by rw[y] at e';omega
    have⟨ap,am⟩:=h.setArr (M':=fun b=>M b\/b=w.heap.size) (rows':=rows.take k++(p++rows.drop k)) (v':=.slice (some ⟨w.heap.size,0,none⟩) (rows.length+p.length) G) hA
     (fun b' _ E=>hg.block b' E) hg.size (.inr ⟨w.heap.size,rfl,GC _,aj⟩) (by rw[y];omega) H
     (fun _ hb=>.inl hb) av (fun b' E=>by simp only[Sg.hdr,Gb] at E;exact .inr E.symm) ab
    exact⟨β,_,_,ap,fun u' x' aq=>aJ.tr am (xv hA (by rw[y];omega) H) (fun s hs=>⟨hs,rfl⟩) aq,DE y,ac⟩
def M5 {s d z n:Nat} {rows:List (List V)} {v':Value} {b o aN:Nat} (j:v'=.slice (some ⟨b,o,none⟩) n aN) (p:rows.length=n) :
  fo {S with A:=aI (aI S.A s (some (z,[],.dead))) d (some (z,rows,.live))} (aI α d v') v' d z n:=
 ⟨rows,.live,some ⟨b,o,none⟩,aN,by simp[aI],j,fun _=>⟨b,o,rfl⟩,fun _=>⟨by omega,fun _=>by simp[aI]⟩⟩
def SB {f:Nat} {z:Nat} (hI:nE P f z) (h:aW cx B X S w β α M) {s d n k m:Nat} {rows:List (List V)} {v:Value}
  (hA:S.A s=some (z,rows,.live)) (hd:S.A d=none) (hn:rows.length=n) (hk:k<=m) (hm:m<=n) (ai:n<=aU)
  (hx:aJ cx w (aQ X M) S β α v (.own s z n)) :
  Calls P f #[v,.int .i64 k,.int .i64 m] w fun e w1=>∃q,e=.returned q/\
   cz cx B X S w β α M {S with A:=aI (aI S.A s (some (z,[],.dead))) d (some (z,rows.take k++rows.drop m,.live))} (.own d z (rows.take k++rows.drop m).length) q w1:=by
 obtain⟨rows',f',a,aN,T,rfl,ha,ho⟩:=hx
 rw[hA] at T
 simp only[Gb,Gr] at T
 obtain⟨-,rfl,rfl⟩:=T
 have N:=(ho (by simp)).2 hn
 have⟨p1,p2⟩:=h.arr s z rows .live hA (by simp)
 obtain⟨E,L,-,ae⟩:=p1.cells hI.pos
 subst hn
 rw[<-N] at p1 ae
 have p:(rows.take k++rows.drop m).length=rows.length-(m-k):=by simp;omega
 rcases p1.at_ with⟨h1,h2⟩|⟨b,o,a0,c,aa,h1,h2,h3,h4,h5⟩
 ·-- nil
  simp only[Value.slice.injEq] at h1
  obtain⟨rfl,-,rfl⟩:=h1
  subst h2
  have ay:m=0:=by simpa using hm
  have au:k=0:=by omega
  subst ay;subst au
  refine (hI.nothing none 0 0 0 w (by omega) (by omega) (fun _=>rfl)).mono ?_
  rintro e w1 ⟨rfl,rfl⟩
  refine⟨_,rfl,?_⟩
  -- the array under its new name
  have W:dK S {S with A:=aI (aI S.A s (some (z,[],.dead))) d (some (z,List.take 0 []++List.drop 0 [],.live))} α (aI α d (.slice none 0 0)):=fun t O r f ht=>by
   have D:t≠d:=fun e=>by rw[e,hd] at ht;simp at ht
   by_cases e:t=s
   ·subst e;rw[hA] at ht;simp only[Gb,Gr] at ht;obtain⟨rfl,rfl,rfl⟩:=ht;exact⟨[],.dead,by simp[aI,D],fun h=>absurd rfl h⟩
   ·exact⟨r,f,by simp[aI,D,e,ht],fun h=>⟨h,GC _,fun _=>by simp[aI,D]⟩⟩
  have old:∀t O r f,t≠d->(aI (aI S.A s (some (z,[],.dead))) d (some (z,List.take 0 []++List.drop 0 [],.live))) t=some (O,r,f)->f≠.dead->S.A t=some (O,r,f)/\t≠s:=fun t O r f D ht J=>by
   by_cases e:t=s
   ·subst e;simp only[aI,Gn D,Gw,Gb,Gr] at ht;exact absurd ht.2.2.symm J
   ·simp only[aI,Gn D,Gn e] at ht;exact⟨ht,e⟩
  refine⟨β,aI α d (.slice none 0 0),M,⟨h.xb,h.glob,h.size,h.m,fun t ct f ht=>?_,h.varInj,fun t z' r f ht J=>?_,fun t t' O r1 f1 z2 r2 f2 ht J Z ah b hb y=>?_,fun t z' r f t' ht J Z=>?_⟩,
   fun u' x' I=>aJ.tr (fun _ _ hr=>hr) W (fun s hs=>⟨hs,rfl⟩) I,⟨[],.live,none,0,by simp[aI],rfl,fun e=>absurd rfl e,fun _=>⟨by simp,fun _=>by simp[aI]⟩⟩,bY.refl _ _⟩
  ·have⟨a1,a2,a3,c',am,a4,a5,a6⟩:=h.var t ct f ht
   refine⟨a1,a2,a3,c',am,a4,a5,fun i hi=>?_⟩
   have⟨u,b1,b2,b3⟩:=a6 i hi
   exact⟨u,b1,b2,b3.tr (fun _ _ hr=>hr) W⟩
  ·by_cases e:t=d
   ·subst e
    simp only[aI,Gw,Gb,Gr] at ht ⊢
    obtain⟨rfl,rfl,rfl⟩:=ht
    exact⟨⟨fun i hi=>by simp at hi,.inl ⟨rfl,rfl⟩⟩,fun b hb=>by simp[hdr] at hb⟩
   ·have⟨q1,Q⟩:=old t z' r f e ht J
    have:aI α d (Value.slice none 0 0) t=α t:=by simp[aI,e]
    rw[this]
    exact h.arr t z' r f q1 J
  ·by_cases R:t=d
   ·simp[aI,R,hdr] at hb
   ·by_cases e2:t'=d
    ·simp[aI,e2,hdr] at y
    ·have⟨q1,Q⟩:=old t O r1 f1 R ht J
     have⟨q3,q4⟩:=old t' z2 r2 f2 e2 Z ah
     simp only[aI,R,e2,Gv] at hb y
     exact h.arrInj t t' O r1 f1 z2 r2 f2 q1 J q3 ah b hb y
  ·by_cases e:t=d
   ·simp[aI,e,hdr]
   ·have⟨q1,Q⟩:=old t z' r f e ht J
    have:aI α d (Value.slice none 0 0) t=α t:=by simp[aI,e]
    rw[this]
    exact h.arrVar t z' r f t' q1 J Z
 simp only[Value.slice.injEq] at h1
 obtain⟨rfl,-,rfl⟩:=h1
 have hM:M b:=(p2 b (by rw[<-N];rfl)).2.1 rfl
 have ab:¬B b:=(p2 b (by rw[<-N];rfl)).1
 have af:hdr (α s)=some b:=by rw[<-N];rfl
 have aj:=ae b o _ _ c aa rfl h2
 have R:E.length=rows.length*z:=L.1
 have o1:=L.one hI.pos
 by_cases av:k=m
 ·subst av
  refine (hI.nothing (some ⟨b,o,none⟩) rows.length aN k w h3 hm (fun e=>by simp at e)).mono ?_
  rintro e w1 ⟨rfl,rfl⟩
  refine⟨_,rfl,?_⟩
  have az:rows.take k++rows.drop k=rows:=G4 k rows
  rw[az]
  have⟨Y,U,W⟩:=h.delArr (d:=d) (v':=.slice (some ⟨b,o,none⟩) rows.length aN) hA hd (w':=w1) ⟨rfl,fun _ _=>rfl⟩ af rfl p1
  exact⟨β,_,M,Y,fun u' x' I=>aJ.tr U W (fun s hs=>⟨hs,rfl⟩) I,M5 rfl rfl,bY.refl _ _⟩
 ·have ax:k<m:=by omega
  have ap:∀(j:Nat) (v:Value),E[j]?=some v->w.cell? ⟨b,o+j,none⟩=some v:=fun j v hj=>by
   have ar:j<E.length:=by
    rcases GF j E.length with h'|h'
    ·exact h'
    ·rw[List.getElem?_eq_none h'] at hj;simp at hj
   rw[Du h2,aj j ar,hj]
  have aq:∀j,w.frozen? ⟨b,j,none⟩=false:=fun j=>by simp[World.frozen?,h2]
  refine (hI.cut b o rows.length aN k m E w ax hm h3 ai R ap aq o1).mono ?_
  rintro e w1 ⟨rfl,d1,zs,O,z2,rfl⟩
  refine⟨_,rfl,?_⟩
  have a8:k*z<=m*z:=GU z hk
  have a9:m*z<=rows.length*z:=GU z hm
  have a7:rows.length*z<=aN*z:=GU z h3
  have e3:(E.drop (m*z)).length=rows.length*z-m*z:=by rw[GP,R]
  have e4:(m-k)*z=m*z-k*z:=Nat.sub_mul ..
  have e5:(rows.length-(m-k))*z=rows.length*z-(m*z-k*z):=by rw[Nat.sub_mul,Nat.sub_mul]
  have e6:(E.take (k*z)).length=k*z:=by rw[GK,R];omega
  have o3:∀v∈E.drop (m*z),v.oneCell'=true:=fun v hv=>o1 v (tH hv)
  have an:({w with drawn:=d1}:World).heap[b]?=some (.cells c aa (0,0)):=h2
  have⟨c2,s1,s2,s3,s4,s5,s6,s7⟩:=cQ P (b:=b) (o:=o+k*z) (vs:=E.drop (m*z)) an (by rw[e3];omega) o3
  have⟨c3,t1,t2,t3,t4,t5,t6,t7⟩:=cQ P (b:=b) (o:=o+(rows.length-(m-k))*z) (vs:=zs) s1 (by rw[O,e4,e5];omega) z2
  have al:=s3.size
  have ak:=s3.block
  have H:=s4 B ab
  generalize (({w with drawn:=d1}:World).setCells b (o+k*z) (E.drop (m*z))).setCells b (o+(rows.length-(m-k))*z) zs=w2 at t1 t3 t4 ⊢
  generalize ({w with drawn:=d1}:World).setCells b (o+k*z) (E.drop (m*z))=w3 at s1 al ak H t3 t4 ⊢
  have W:lI b w w2:=⟨t3.size.trans al,fun b' y=>(t3.block b' y).trans (ak b' y)⟩
  have ag:bY B w w2:=by
   have Q:=t4 B ab;exact⟨Q.os.trans H.os,Q.tape.trans H.tape,Q.output.trans H.output,GI H.size Q.size,fun k hk=>(Q.block k hk).trans (H.block k hk)⟩
  have hD:∀u x,aC cx w (aQ X M) u x->aC cx w2 (aQ X M) u x:=fun _ _ hr=>vJ W hM hr
  have ac:DR cx w2 (aQ X M) z (E.take (k*z)++E.drop (m*z)) (rows.take k++rows.drop m):=((L.take (by omega)).append (L.drop hm)).mono hD
  have ad:bH cx w2 (aQ X M) (.slice (some ⟨b,o,none⟩) (rows.length-(m-k)) aN) z (rows.take k++rows.drop m):=by
   refine bH.of_DR t1 ac (fun t ht=>?_) (by rw[p];omega) (by rw[t2,s2];exact h4) p;rw[Gf,e6,e3] at ht;rw[t5 _ (by rw[e5];omega)];rcases GF t (k*z) with q|q
   ·rw[List.getElem?_append_left (by omega),List.getElem?_take_of_lt q,s5 _ (by omega)];exact aj t (by omega)
   ·rw[List.getElem?_append_right (by omega),e6,<-s6 _ (by omega)];congr 1;omega
  have⟨Y,U,ao⟩:=h.delArr (d:=d) (v':=.slice (some ⟨b,o,none⟩) (rows.length-(m-k)) aN) hA hd W af rfl ad
  exact⟨β,_,M,Y,fun u' x' I=>aJ.tr U ao (fun s hs=>⟨hs,rfl⟩) I,by rw[p];exact M5 rfl p,ag⟩
end
end Sg
