/- A checked abstract run of translated code is sound: for every program and input that pass its checks. A general part, used by the proofs of this seat. -/
import GoSem.Core.View
import GoSem.Core.Ast
import Derived.Below
import GoSem.Dispatch
import Derived.Calls
import Derived.Laws.Entries
import Derived.Laws.Cells
import Derived.Laws.Strings
import Derived.Laws.CopyRow
import Derived.Laws.MakeOwn
import Derived.WalkKit
import Derived.Shelf.RegionOpenPlain
import Derived.Lib.Walk
import Derived.Lib.SliceRun
import Derived.Lib.JoinLaws
import Derived.Lib.AppendZeros
import Derived.Lib.AppendZerosOnto
import Derived.Lib.Overlaps
import Derived.Laws.Externs
import Derived.Laws.IdiomCopy
import Derived.Laws.NewBlocks
import Derived.Deep.RegionLaw
import Derived.Lib.SlicesDelete
set_option linter.unusedSimpArgs false
set_option linter.unusedVariables false
set_option linter.constructorNameAsVariable false
set_option linter.defProp false
namespace Sg
abbrev Ga:=@Option.some.injEq
abbrev Gb:=@Option.bind_eq_some_iff
abbrev Gc:=@of_decide_eq_false
abbrev Ge:=@of_decide_eq_true
abbrev Gf:=@Prod.mk.injEq
abbrev Gg:=@Bool.and_eq_true
abbrev Gi:=@List.length_map
abbrev Gj:=@if_neg
abbrev Gk:=@List.length_append
abbrev Gl:=@if_pos
abbrev Gm:=@Nat.le_refl
abbrev Gn:=@trivial
abbrev Gp:=@List.map_nil
abbrev Gq:=@Nat.mul_le_mul_right
abbrev Gr:=@Bool.false_eq_true
abbrev Gs:=@List.all_eq_true
abbrev Gt:=@Nat.lt_or_ge
abbrev Gu:=@List.length_drop
abbrev Gv:=@List.map_cons
abbrev Gw:=@Option.isSome_iff_exists
abbrev Gx:=@if_true
abbrev Gy:=@List.length_take
abbrev Gz:=@decide_eq_true_eq
abbrev GA:=@beq_iff_eq
abbrev GB:=@List.eq_nil_of_length_eq_zero
abbrev GC:=@Nat.lt_of_lt_of_le
abbrev GD:=@if_false
abbrev GE:=@decide_eq_false
abbrev GF:=@List.mem_cons_of_mem
abbrev GG:=@List.append_assoc
abbrev GH:=@Bool.not_eq_true'
abbrev GI:=@List.append_nil
abbrev GJ:=@Option.map_eq_some_iff
abbrev GK:=@Nat.le_trans
abbrev GL:=@decide_eq_false_iff_not
abbrev GM:=@List.mem_cons
abbrev GN:=@decide_eq_true
abbrev GO:=@List.mem_range
abbrev GP:=@List.map_congr_left
abbrev GQ:=@List.mem_append
abbrev GR:=@List.drop_eq_getElem_cons
abbrev GT:=@Nat.add_mul
abbrev GU:=@Nat.add_assoc
abbrev GV:=@Nat.le_max_right
abbrev GW:=@List.take_add_one
abbrev GX:=@List.size_toArray
abbrev GY:=@Nat.le_max_left
abbrev GZ:=@List.mem_cons_self
abbrev G0:=@List.take_of_length_le
abbrev G1:=@Nat.zero_le
abbrev G2:=@Option.isNone_iff_eq_none
abbrev G3:=@List.take_append_drop
abbrev G4:=@List.mem_filter
abbrev G5:=@List.mem_flatMap
abbrev G6:=@List.mem_of_mem_drop
abbrev G7:=@Nat.zero_add
abbrev G8:=@decide_eq_decide
abbrev G9:=@List.pairwise_cons
abbrev Gaa:=@Nat.min_eq_left
abbrev Gab:=@List.cons.injEq
abbrev Gac:=@List.length_pos_iff
abbrev Gad:=@List.getD_cons_zero
abbrev Gae:=@List.filter_sublist
abbrev Gaf:=@List.getElem_mem
end Sg
namespace Sg
open Go (IntKind BinOp UnOp)
inductive V where
 |undef
 |bool (b:Bool)
 |int (k:IntKind) (n:Int)
 |str (s:List UInt8)
 |agg (cs:List V)
 |slice (z:Nat) (rows:List (List V))
 |tuple (vs:List V)
 |func (f:Nat) (cap:List V)
 |cptr (cs:List V) (off:Nat)
 |lref (s off:Nat)
 |eref (s i off n:Nat)
 |own (s z n:Nat)
 |iface (t:Nat) (v:V)
 |niface
 /-- exactly nil;not nil -/
 |nslice (z:Nat)
 |xslice (z:Nat) (rows:List (List V))
 deriving Inhabited
abbrev V.i (n:Int):V:=.int .i64 n
inductive Arg where
 |g (t:Nat)
 |l (i:Nat)
 |c (v:V)
 |f (k:Nat)
 deriving Inhabited
inductive Loc where
 |v (s:Nat)
 |e (s:Nat)
 |c
 /-- an element of any owned array -/
 |x
 deriving Inhabited,DecidableEq
inductive Cal where
 |k (f:Nat)
 |v (x:Arg)
 deriving Inhabited
inductive Fz where
 |live|frz|dead
 deriving Inhabited,DecidableEq
inductive Cvm where
 |no|borrow|freeze
 deriving Inhabited,DecidableEq
inductive Sh where
 |b|i|s
 deriving Inhabited,DecidableEq
inductive Cv where
 |int (k:IntKind)
 |same
 deriving Inhabited,DecidableEq
inductive K where
 |mov (x:Arg)
 |pick (c a b:Arg)
 |box (x:Arg)
 |alloc (z:List V)
 |build (z:List V) (ps:List (Nat×Nat×Arg))
 |mks (z n:Nat) (zero:List V) (ps:List (Nat×Arg))
 |mko (z:Nat)
 |mkb (z n:Nat) (zero:List V) (ps:List (Nat×Arg))
 |nilq (x:Arg)
 /-- an owned slice that is written no more,avs data -/
 |frz (s:Nat) (x:Arg)
 |load (l:Loc) (n:Option Nat) (p:Arg)
 |store (l:Loc) (n:Nat) (p x:Arg)
 |bin (o:BinOp) (x y:Arg)
 |eqa (ne:Bool) (sh:List Sh) (x y:Arg)
 |eqb (ne:Bool) (x y:Arg)
 |sh (o:BinOp) (x y:Arg)
 |mm (mx:Bool) (x y:Arg)
 |un (o:UnOp) (x:Arg)
 |conv (c:Cv) (x:Arg)
 |fn (f:Nat) (cap:List Arg) (sites:List Nat)
 |sl (st:Bool) (z:Nat) (x:Arg) (lo hi:Option Arg)
 |fad (x:Arg) (off:Nat)
 |iad (z:Nat) (x i:Arg)
 |iada (z n:Nat) (x i:Arg)
 |idx (x i:Arg)
 |ext (x:Arg) (i:Nat)
 |len (st:Bool) (x:Arg)
 |app (s z:Nat) (x y:Arg)
 /-- appended to,then written no more:data -/
 |apf (s z:Nat) (x y:Arg)
 |ins (f s z:Nat) (x i y:Arg)
 |del (f s z:Nat) (x i j:Arg)
 |call (f:Cal) (cv:Cvm) (own:Option Nat) (xs:List Arg)
 |nilc (x:Arg)
 /-- a struct is read,its owned slices avs data from now on -/
 |ldf (s v n:Nat) (p:Arg)
 /-- a call:argument k points to variable s;what that one owns lies at d+cell afterwards -/
 |rcall (f:Nat) (xs:List Arg) (k s d:Nat)
 /-- a variable whose nil slices are owned:at d+cell -/
 |allo (z:List V) (d:Nat)
 |boxo (x:Arg) (d:Nat)
 /-- appended to whatever array it is -/
 |appd (z:Nat) (x y:Arg)
 /-- a part of an owned slice,data from now on -/
 |slf (z:Nat) (x:Arg) (lo hi:Option Arg)
 |b2s (x:Arg)
 /-- an own slice;array s is data from now on -/
 |mkoz (z s:Nat)
 /-- a part of an owned slice that is data -/
 |slr (s z:Nat) (x:Arg) (lo hi:Option Arg)
 /-- a field of a value -/
 |fld (x:Arg) (off:Nat) (n:Option Nat)
 /-- an interface value of type t -/
 |mif (t:Nat) (x:Arg)
 /-- what an interface value of type t holds;z:what is given for another one,and a flag -/
 |asr (t:Nat) (z:Option (List V)) (x:Arg)
 /-- a method is called through an interface value:types and functions -/
 |inv (l:List (Nat×Nat)) (x:Arg) (xs:List Arg)
 /-- not nil:an interface value -/
 |ifn (x:Arg)
 /-- code that is never run -/
 |bad
 deriving Inhabited
structure Op where
 dst:Option Nat
 gl:Bool
 k:K
 gd:Option (Nat×Bool)
 deriving Inhabited
inductive C where
 |skip
 |region (draw:Bool) (ops:List Op)
 |seq (a b:C)
 |cond (x:Arg) (a b:C)
 |block (id:Nat) (c:C)
 |loop (W L Wv Wa:List Nat) (c:C)
 |exit (id:Nat)
 |ret
 deriving Inhabited
inductive Res where
 |t (t:Nat)
 |cell (a:Nat) (n:Option Nat)
 deriving Inhabited
structure F where
 np:Nat
 /-- the tmps that outlive their regions -/
 gl:List Nat
 res:List Res
 /-- the result that is a slice of its own memory -/
 own:Option Nat
 body:C
 deriving Inhabited
inductive Fn where
 |code (F:F)
 |prim (own:Option Nat) (p:List V→Option V)
 /-- argument k points to a variable -/
 |codeR (F:F) (k:Nat)
def upd {α:Type} (f:Nat→α) (k:Nat) (v:α):Nat→α:=fun i=>if i=k then v else f i
structure St where
 ρ:Nat→V
 μ:Nat→Option (List V×Bool)
 A:Nat→Option (Nat×List (List V)×Fz)
inductive Ex where
 |norm|ret
 |exit (id:Nat)
 deriving DecidableEq
def V.isCell:V→Bool
 |.agg _|.tuple _|.lref ..|.eref ..=>false
 |_=>true
def V.cells:V→Option (List V)
 |.agg cs=>some cs
 |.undef=>none
 |x=>if x.isCell then some [x] else none
def V.datC:V→Bool
 |.agg _|.tuple _|.lref ..|.eref ..|.own ..=>false
 |_=>true
def V.dat:V→Bool
 |.agg cs=>cs.all V.datC
 |x=>x.datC
def V.scalar:V→Bool
 |.bool _|.int ..|.str _=>true
 |.tuple vs=>vs.all fun|.bool _|.int ..|.str _=>true|_=>false
 |_=>false
def J5 (cs:List V) (off:Nat):Option Nat→Option V
 |none=>cs[off]?
 |some n=>if off+n≤cs.length then some (.agg ((cs.drop off).take n)) else none
def JG (cs:List V) (off:Nat) (xs:List V):Option (List V):=
 if off+xs.length≤cs.length then some (cs.take off++(xs++cs.drop (off+xs.length))) else none
def lim:Nat:=1073741824
def argv (e ρ:Nat→V):Arg→V
 |.g t=>ρ t
 |.l i=>e i
 |.c v=>v
 |.f k=>.func k []
def Jh (o:BinOp) (k:IntKind) (a b:Int):Option V:=
 match o with
 |.add=>some (.int k (k.wrap (a+b)))
 |.sub=>some (.int k (k.wrap (a-b)))
 |.mul=>some (.int k (k.wrap (a*b)))
 |.quo=>if b=0 then none else some (.int k (k.wrap (a.tdiv b)))
 |.rem=>if b=0 then none else some (.int k (a.tmod b))
 |.eql=>some (.bool (decide (a=b)))
 |.neq=>some (.bool (!decide (a=b)))
 |.lss=>some (.bool (decide (a<b)))
 |.leq=>some (.bool (decide (a≤b)))
 |.gtr=>some (.bool (decide (b<a)))
 |.geq=>some (.bool (decide (b≤a)))
 |.and=>some (.int k (k.wrap (BitVec.ofInt k.bits a &&& BitVec.ofInt k.bits b).toNat))
 |.or=>some (.int k (k.wrap (BitVec.ofInt k.bits a ||| BitVec.ofInt k.bits b).toNat))
 |.xor=>some (.int k (k.wrap (BitVec.ofInt k.bits a ^^^ BitVec.ofInt k.bits b).toNat))
 |_=>none
def Ja1 (o:BinOp) (a b:List UInt8):Option V:=
 match o with
 |.add=>if a.length+b.length≤4611686018427387904 then some (.str (a++b)) else none
 |.eql=>some (.bool (decide (a=b)))
 |.neq=>some (.bool (!decide (a=b)))
 |_=>none
def Jdf (o:BinOp):V→V→Option V
 |.int k a,.int k' b=>if k=k' then Jh o k a b else none
 |.str a,.str b=>Ja1 o a b
 |_,_=>none
def shV (o:BinOp):V→V→Option V
 |.int k a,.int _ b=>if b<0 then none else match o with
  |.shl=>some (.int k (k.wrap (a*2 ^ (min b.toNat k.bits))))
  |.shr=>some (.int k (a.fdiv (2 ^ (min b.toNat k.bits))))
  |_=>none
 |_,_=>none
def eqV:Sh→V→V→Option Bool
 |.i,.int k a,.int k' b=>if k=k' then some (decide (a=b)) else none
 |.b,.bool a,.bool b=>some (a == b)
 |.s,.str a,.str b=>some (decide (a=b))
 |_,_,_=>none
def JbN:List Sh→List V→List V→Option Bool
 |[],[],[]=>some true
 |h::hs,x::xs,y::ys=>(eqV h x y).bind fun b=>(JbN hs xs ys).bind fun c=>some (b&&c)
 |_,_,_=>none
def unV (o:UnOp):V→Option V
 |.bool b=>match o with|.not=>some (.bool !b)|_=>none
 |.int k n=>match o with
  |.neg=>some (.int k (k.wrap (0-n)))
  |.xor=>some (.int k (k.wrap (BitVec.ofInt k.bits (if k.signed then -1 else k.max) ^^^ BitVec.ofInt k.bits n).toNat))
  |_=>none
 |_=>none
def Jag (cs:List V):List (Nat×Nat×V)→Option (List V)
 |[]=>some cs
 |(off,n,v)::ps=>(v.cells).bind fun xs=>if xs.length=n then (JG cs off xs).bind fun cs'=>Jag cs' ps else none
def Jr (z:Nat) (rows:List (List V)):List (Nat×V)→Option (List (List V))
 |[]=>some rows
 |(i,v)::ps=>(v.cells).bind fun xs=>
   if i<rows.length∧xs.length=z∧xs.all V.datC then Jr z (rows.set i xs) ps else none
def bound:Option V→Nat→Option Nat
 |none,d=>some d
 |some (.int _ n),_=>if 0≤n then some n.toNat else none
 |_,_=>none
def slV (st:Bool) (z:Nat) (x:V) (lo hi:Option V):Option V:=
 match st,x with
 |true,.str s=>(bound hi s.length).bind fun h=>(bound lo 0).bind fun l=>
   if l≤h∧h≤s.length then some (.str ((s.take h).drop l)) else none
 |false,.slice z' rows=>(bound hi rows.length).bind fun h=>(bound lo 0).bind fun l=>
   if z'=z∧l≤h∧h≤rows.length then some (.slice z ((rows.take h).drop l)) else none
 |_,_=>none
def Jdp:Bool→V→Option V
 |false,.slice _ rows=>some (.int .i64 rows.length)
 |true,.str s=>some (.int .i64 s.length)
 |false,.own _ _ n=>some (.int .i64 n)
 |_,_=>none
def Jbc (z:Nat):V→V→Option V
 |.slice z' rows,.int _ n=>if z'=z∧0≤n then (rows[n.toNat]?).map fun r=>.cptr r 0 else none
 |.own s z' m,.int _ n=>if z'=z∧0≤n∧n<m then some (.eref s n.toNat 0 m) else none
 |_,_=>none
def Jbu (z n:Nat):V→V→Option V
 |.lref s off,.int _ i=>if 0≤i∧i<n then some (.lref s (off+i.toNat*z)) else none
 |.cptr cs off,.int _ i=>if 0≤i∧i<n then some (.cptr cs (off+i.toNat*z)) else none
 |_,_=>none
def Jdj (off:Nat):V→Option V
 |.lref s o=>some (.lref s (o+off))
 |.eref s i o n=>some (.eref s i (o+off) n)
 |.cptr cs o=>some (.cptr cs (o+off))
 |_=>none
def Jeg:V→V→Option V
 |.str s,.int _ n=>if 0≤n then (s[n.toNat]?).map fun b=>.int .u8 b.toNat else none
 |_,_=>none
def JeY (i:Nat):V→Option V
 |.tuple vs=>vs[i]?
 |_=>none
def Ja5:Cv→V→Option V
 |.int k,.int _ n=>some (.int k (k.wrap n))
 |.same,.str s=>some (.str s)
 |_,_=>none
def toDC (A:Nat→Option (Nat×List (List V)×Fz)):V→Option V
 |.nslice z=>some (.slice z [])
 |.own s z n=>match A s with
  |some (z',rows,f)=>if z'=z∧rows.length=n∧f≠.dead then some (.slice z rows) else none
  |none=>none
 |x=>if x.datC then some x else none
def Jn {α β:Type} (f:α→Option β):List α→Option (List β)
 |[]=>some []
 |x::xs=>(f x).bind fun y=>(Jn f xs).bind fun ys=>some (y::ys)
def toD (A:Nat→Option (Nat×List (List V)×Fz)):V→Option V
 |.agg cs=>(Jn (toDC A) cs).map .agg
 |x=>toDC A x
def Jc:V→List Nat
 |.own s _ _=>[s]
 |_=>[]
def Je:V→List Nat
 |.agg cs=>cs.flatMap Jc
 |x=>Jc x
def Jt (A:Nat→Option (Nat×List (List V)×Fz)) (l:List Nat):Nat→Option (Nat×List (List V)×Fz):=
 l.foldl (fun A s=>upd A s ((A s).map fun (z,rows,f)=>(z,rows,if f=.live then .frz else f))) A
def Jah (μ:Nat→Option (List V×Bool)) (l:List Nat):Nat→Option (List V×Bool):=
 l.foldl (fun μ s=>upd μ s ((μ s).map fun (cs,_)=>(cs,true))) μ
def JK (μ:Nat→Option (List V×Bool)) (s:Nat):Bool:=
 match μ s with
 |some m=>m.1.all V.datC
 |none=>true
def capV (μ:Nat→Option (List V×Bool)) (sites:List Nat):V→Option V
 |.lref s 0=>match μ s with
  |some (cs,_)=>if sites.contains s∧cs.all V.datC then some (.cptr cs 0) else none
  |none=>none
 |x=>if x.dat then some x else none
def V.rowsOf (z:Nat):V→Option (List (List V))
 |.slice z' rows=>if z'=z then some rows else none
 |.str s=>if z=1 then some (s.map fun b=>[.int .u8 b.toNat]) else none
 |.xslice z' rows=>if z'=z then some rows else none
 |_=>none
def Jz (S:St) (l:Loc) (n:Option Nat) (p:V):Option V:=
 match l,p with
 |.v s,.lref s' off=>if s'=s then (S.μ s).bind fun m=>J5 m.1 off n else none
 |.e s,.eref s' i off m=>if s'=s then match S.A s with
   |some (_,rows,f)=>if rows.length=m∧f≠.dead then (rows[i]?).bind fun r=>J5 r off n else none
   |none=>none
  else none
 |.c,.cptr cs off=>J5 cs off n
 |.x,.eref s' i off m=>match S.A s' with
   |some (_,rows,f)=>if rows.length=m∧f≠.dead then (rows[i]?).bind fun r=>J5 r off n else none
   |none=>none
 |_,_=>none
def JC (S:St) (l:Loc) (n:Nat) (p x:V):Option St:=
 x.cells.bind fun xs=>if xs.length=n then
  match l,p with
  |.v s,.lref s' off=>if s'=s then match S.μ s with
    |some (cs,false)=>(JG cs off xs).bind fun cs'=>some {S with μ:=upd S.μ s (some (cs',false))}
    |_=>none
   else none
  |.e s,.eref s' i off m=>if s'=s∧xs.all V.datC then match S.A s with
    |some (z,rows,.live)=>if rows.length=m then (rows[i]?).bind fun r=>(JG r off xs).bind fun r'=>
      some {S with A:=upd S.A s (some (z,rows.set i r',.live))} else none
    |_=>none
   else none
  |.x,.eref s i off m=>if xs.all V.datC then match S.A s with
    |some (z,rows,.live)=>if rows.length=m then (rows[i]?).bind fun r=>(JG r off xs).bind fun r'=>
      some {S with A:=upd S.A s (some (z,rows.set i r',.live))} else none
    |_=>none
   else none
  |_,_=>none
 else none
def J7 (S:St) (s z:Nat) (x y:V):Option (V×St):=
 match x with
 |.own s' z' n=>if s'=s∧z'=z then match S.A s with
   |some (z'',rows,.live)=>if z''=z∧rows.length=n then (V.rowsOf z y).bind fun ys=>
     if rows.length+ys.length≤lim then some (.own s z (rows.length+ys.length),{S with A:=upd S.A s (some (z,rows++ys,.live))}) else none
    else none
   |_=>none
  else none
 |_=>none
def appN (S:St) (s z:Nat) (x y:V):Option (V×St):=
 match x with
 |.nslice z'=>if z'=z then (match S.A s with
   |none=>(V.rowsOf z y).bind fun ys=>
     if ys.length≤lim then some (.own s z ys.length,{S with A:=upd S.A s (some (z,ys,.live))}) else none
   |some _=>none) else none
 |x=>J7 S s z x y
abbrev AA:Type:=Nat→Option (Nat×List (List V)×Fz)
def handC (A:AA):V→Option (V×AA)
 |.own s z n=>match A s with
  |some (z',rows,.live)=>if z'=z∧rows.length=n then some (.tuple [.slice z rows],upd A s (some (z,[],.dead))) else none
  |_=>none
 |.nslice z=>some (.tuple [.slice z []],A)
 |x=>if x.datC then some (x,A) else none
def Jal:List V→AA→Option (List V×AA)
 |[],A=>some ([],A)
 |x::xs,A=>(handC A x).bind fun r=>(Jal xs r.2).bind fun q=>some (r.1::q.1,q.2)
def takeC (d:Nat) (A:AA):V→Option (V×AA)
 |.tuple [.slice z rows]=>match A d with
  |none=>some (.own d z rows.length,upd A d (some (z,rows,.live)))
  |some _=>none
 |x=>if x.datC then some (x,A) else none
def JS:Nat→List V→AA→Option (List V×AA)
 |_,[],A=>some ([],A)
 |d,x::xs,A=>(takeC d A x).bind fun r=>(JS (d+1) xs r.2).bind fun q=>some (r.1::q.1,q.2)
def nilT:V→V
 |.nslice z=>.tuple [.slice z []]
 |x=>x
def bytesR:List (List V)→Option (List UInt8)
 |[]=>some []
 |[.int .u8 n]::rs=>(bytesR rs).bind fun l=>some (UInt8.ofNat n.toNat::l)
 |_::_=>none
def Jga (A:AA) (x:V):Option V:=
 match toDC A x with
 |some (.slice 1 rows)=>(bytesR rows).bind fun l=>some (.str l)
 |_=>none
def frzD (A:AA) (s:Nat):V→Option V
 |.own s' z n=>if s'=s then match A s with
   |some (z',rows,.frz)=>if z'=z∧rows.length=n then some (.slice z rows) else none
   |_=>none
  else none
 |_=>none
def appW (S:St) (z:Nat) (x y:V):Option (V×St):=
 match x with
 |.own s _ _=>J7 S s z x y
 |_=>none
def rcallA (S:St) (k s:Nat) (avs:List V):Option (List V×AA):=
 match avs[k]? with
 |some (.lref s' 0)=>if s'=s then (Jn (toD S.A) (avs.set k .undef)).bind fun bs=>match S.μ s with
   |some (cs,false)=>(Jal cs (Jt S.A ((avs.set k .undef).flatMap Je))).bind fun h=>some (bs.set k (.tuple (.lref 0 0::h.1)),h.2)
   |_=>none
  else none
 |_=>none
def rcallE (b:Nat) (S:St) (s:Nat) (A:AA):V→Option (V×St)
 |.tuple [r0,.tuple us]=>(JS b us A).bind fun t=>some (r0,{S with μ:=upd S.μ s (some (t.1,false)),A:=t.2})
 |_=>none
section
variable (κ:Nat→List V→Option V)
def JaZ (b:Nat) (S:St) (f k s:Nat) (avs:List V):Option (V×St):=
 (rcallA S k s avs).bind fun q=>(κ f q.1).bind fun r=>rcallE b S s q.2 r
def callee (e ρ:Nat→V):Cal→Option (Nat×List V)
 |.k f=>some (f,[])
 |.v x=>match argv e ρ x with
  |.func f cap=>some (f,cap)
  |_=>none
def adopt (d:Nat) (S:St) (own:Option Nat) (r:V):Option (V×St):=
 match own with
 |none=>some (r,S)
 |some j=>match S.A d with
  |some _=>none
  |none=>match r with
   |.slice z rows=>some (.own d z rows.length,{S with A:=upd S.A d (some (z,rows,.live))})
   |.tuple vs=>match vs[j]? with
    |some (.slice z rows)=>some (.tuple (vs.set j (.own d z rows.length)),{S with A:=upd S.A d (some (z,rows,.live))})
    |_=>none
   |_=>none
def callV (d:Nat) (S:St) (cv:Cvm) (own:Option Nat) (fc:Nat×List V) (avs:List V):Option (V×St):=
 match cv with
 |.no=>if avs.all V.dat then (κ fc.1 (avs++fc.2)).bind fun r=>adopt d S own r else none
 |.borrow=>(Jn (toD S.A) avs).bind fun bs=>(κ fc.1 (bs++fc.2)).bind fun r=>if r.scalar then some (r,S) else none
 |.freeze=>(Jn (toD S.A) avs).bind fun bs=>(κ fc.1 (bs++fc.2)).bind fun r=>adopt d {S with A:=Jt S.A (avs.flatMap Je)} own r
def ev (d:Nat) (e:Nat→V) (S:St):K→Option (V×St)
 |.mov x=>some (argv e S.ρ x,S)
 |.pick c a b=>match argv e S.ρ c with
  |.bool t=>some (bif t then argv e S.ρ a else argv e S.ρ b,S)
  |_=>none
 |.box x=>match S.μ d with
  |some _=>none
  |none=>(argv e S.ρ x).cells.bind fun cs=>some (.lref d 0,{S with μ:=upd S.μ d (some (cs,false))})
 |.alloc z=>match S.μ d with
  |some _=>none
  |none=>some (.lref d 0,{S with μ:=upd S.μ d (some (z,false))})
 |.build z ps=>(Jag z (ps.map fun p=>(p.1,p.2.1,argv e S.ρ p.2.2))).bind fun cs=>some (.agg cs,S)
 |.mks z n zero ps=>(Jr z (List.replicate n zero) (ps.map fun p=>(p.1,argv e S.ρ p.2))).bind fun rows=>some (.slice z rows,S)
 |.mko z=>match S.A d with
  |some _=>none
  |none=>some (.own d z 0,{S with A:=upd S.A d (some (z,[],.live))})
 |.mkb z n zero ps=>(Jr z (List.replicate n zero) (ps.map fun p=>(p.1,argv e S.ρ p.2))).bind fun rows=>adopt d S (some 0) (.slice z rows)
 |.nilq x=>match argv e S.ρ x with
  |.nslice _=>some (.bool true,S)
  |.xslice _ _=>some (.bool false,S)
  |_=>none
 |.load l n p=>(Jz S l n (argv e S.ρ p)).bind fun v=>some (v,S)
 |.store l n p x=>(JC S l n (argv e S.ρ p) (argv e S.ρ x)).bind fun S'=>some (.undef,S')
 |.bin o x y=>(Jdf o (argv e S.ρ x) (argv e S.ρ y)).bind fun v=>some (v,S)
 |.eqa ne sh x y=>match argv e S.ρ x,argv e S.ρ y with
  |.agg xs,.agg ys=>(JbN sh xs ys).bind fun b=>some (.bool (ne ^^ b),S)
  |_,_=>none
 |.eqb ne x y=>match argv e S.ρ x,argv e S.ρ y with
  |.bool a,.bool b=>some (.bool (ne ^^ (a == b)),S)
  |_,_=>none
 |.sh o x y=>(shV o (argv e S.ρ x) (argv e S.ρ y)).bind fun v=>some (v,S)
 |.mm mx x y=>match argv e S.ρ x,argv e S.ρ y with
  |.int k a,.int k' b=>if k=k' then some (.int k (if (if mx then a<b else b<a) then b else a),S) else none
  |_,_=>none
 |.un o x=>(unV o (argv e S.ρ x)).bind fun v=>some (v,S)
 |.conv c x=>(Ja5 c (argv e S.ρ x)).bind fun v=>some (v,S)
 |.fn f cap sites=>if sites.all (JK S.μ) then
   (Jn (capV S.μ sites) (cap.map (argv e S.ρ))).bind fun cs=>some (.func f cs,{S with μ:=Jah S.μ sites})
  else none
 |.sl st z x lo hi=>(slV st z (argv e S.ρ x) (lo.map (argv e S.ρ)) (hi.map (argv e S.ρ))).bind fun v=>some (v,S)
 |.fad x off=>(Jdj off (argv e S.ρ x)).bind fun v=>some (v,S)
 |.iad z x i=>(Jbc z (argv e S.ρ x) (argv e S.ρ i)).bind fun v=>some (v,S)
 |.iada z n x i=>(Jbu z n (argv e S.ρ x) (argv e S.ρ i)).bind fun v=>some (v,S)
 |.idx x i=>(Jeg (argv e S.ρ x) (argv e S.ρ i)).bind fun v=>some (v,S)
 |.ext x i=>(JeY i (argv e S.ρ x)).bind fun v=>some (v,S)
 |.len st x=>(Jdp st (argv e S.ρ x)).bind fun v=>some (v,S)
 |.app s z x y=>appN S s z (argv e S.ρ x) (argv e S.ρ y)
 |.apf s z x y=>(J7 S s z (argv e S.ρ x) (argv e S.ρ y)).bind fun r=>(toDC r.2.A r.1).bind fun v=>some (v,{r.2 with A:=Jt r.2.A [s]})
 |.ins _ s z x i y=>match argv e S.ρ x,argv e S.ρ i,argv e S.ρ y with
  |.own s' z' n,.int .i64 k,.slice z'' ys=>if s'=s∧z'=z∧z''=z then match S.A s with
    |some (z3,rows,.live)=>if z3=z∧rows.length=n∧0≤k∧k≤n∧rows.length+ys.length≤lim then
      some (.own s z (rows.length+ys.length),{S with A:=upd S.A s (some (z,rows.take k.toNat++(ys++rows.drop k.toNat),.live))})
     else none
    |_=>none
   else none
  |_,_,_=>none
 |.del _ s z x i j=>match argv e S.ρ x,argv e S.ρ i,argv e S.ρ j with
  |.own s' z' n,.int .i64 k,.int .i64 m=>if s'=s∧z'=z then match S.A s,S.A d with
    |some (z3,rows,.live),none=>if z3=z∧rows.length=n∧0≤k∧k≤m∧m≤n∧n≤lim then
      some (.own d z (rows.take k.toNat++rows.drop m.toNat).length,
       {S with A:=upd (upd S.A s (some (z,[],.dead))) d (some (z,rows.take k.toNat++rows.drop m.toNat,.live))})
     else none
    |_,_=>none
   else none
  |_,_,_=>none
 |.call f cv own xs=>(callee e S.ρ f).bind fun fc=>callV κ d S cv own fc (xs.map (argv e S.ρ))
 |.frz s x=>match argv e S.ρ x with
  |.own s' z n=>if s'=s then (toDC S.A (.own s z n)).bind fun v=>some (v,{S with A:=Jt S.A [s]}) else none
  |_=>none
 |.nilc x=>match argv e S.ρ x with
  |.lref s o=>some (.lref s o,S)
  |.eref s i o n=>some (.eref s i o n,S)
  |.cptr cs o=>some (.cptr cs o,S)
  |_=>none
 |.ldf s v n p=>(Jz S (.v v) (some n) (argv e S.ρ p)).bind fun x=>if (Je x).all (· == s) then (toD S.A x).bind fun y=>some (y,{S with A:=Jt S.A [s]}) else none
 |.rcall f xs k s b=>JaZ κ b S f k s (xs.map (argv e S.ρ))
 |.allo z b=>match S.μ d with
  |some _=>none
  |none=>(JS b (z.map nilT) S.A).bind fun t=>some (.lref d 0,{S with μ:=upd S.μ d (some (t.1,false)),A:=t.2})
 |.boxo x b=>match S.μ d with
  |some _=>none
  |none=>match argv e S.ρ x with
   |.agg cs=>if cs.all V.datC then (JS b (cs.map nilT) S.A).bind fun t=>some (.lref d 0,{S with μ:=upd S.μ d (some (t.1,false)),A:=t.2}) else none
   |_=>none
 |.appd z x y=>appW S z (argv e S.ρ x) (argv e S.ρ y)
 |.slf z x lo hi=>(toDC S.A (argv e S.ρ x)).bind fun y=>(slV false z y (lo.map (argv e S.ρ)) (hi.map (argv e S.ρ))).bind fun v=>some (v,{S with A:=Jt S.A (Jc (argv e S.ρ x))})
 |.fld x off n=>match argv e S.ρ x with
  |.agg cs=>(J5 cs off n).bind fun v=>some (v,S)
  |_=>none
 |.mkoz z s=>match Jt S.A [s] d with
  |some _=>none
  |none=>some (.own d z 0,{S with A:=upd (Jt S.A [s]) d (some (z,[],.live))})
 |.slr s z x lo hi=>(frzD S.A s (argv e S.ρ x)).bind fun y=>(slV false z y (lo.map (argv e S.ρ)) (hi.map (argv e S.ρ))).bind fun v=>some (v,S)
 |.b2s x=>(Jga S.A (argv e S.ρ x)).bind fun v=>some (v,S)
 |.mif t x=>if (argv e S.ρ x).dat then some (.iface t (argv e S.ρ x),S) else none
 |.asr t z x=>match argv e S.ρ x with
  |.iface t' v=>if t'=t then some (match z with|none=>v|some _=>.tuple [v,.bool true],S) else z.bind fun z=>some (.tuple [.agg z,.bool false],S)
  |.niface=>z.bind fun z=>some (.tuple [.agg z,.bool false],S)
  |_=>none
 |.inv l x xs=>match argv e S.ρ x with
  |.iface t v=>if (v::xs.map (argv e S.ρ)).all V.dat then (l.find? (·.1 == t)).bind fun f=>(κ f.2 (v::xs.map (argv e S.ρ))).bind fun r=>some (r,S) else none
  |_=>none
 |.ifn x=>match argv e S.ρ x with
  |.niface=>some (.bool false,S)
  |.iface _ _=>some (.bool true,S)
  |_=>none
 |.bad=>none
def Jq (e:Nat→V):Option (Nat×Bool)→Option Bool
 |none=>some true
 |some (j,b)=>match e j with
  |.bool t=>some (t == b)
  |.tuple []=>some false
  |_=>none
abbrev V.un:V:=.tuple []
def St.put (S:St) (o:Op) (v:V):St:=
 match o.gl,o.dst with
 |true,some d=>{S with ρ:=upd S.ρ d v}
 |_,_=>S
def step (o:Op) (e:Nat→V) (S:St):Option (V×St):=
 match Jq e o.gd with
 |none=>none
 |some false=>some (.un,S.put o .un)
 |some true=>(ev κ (o.dst.getD 0) e S o.k).bind fun r=>some (r.1,r.2.put o r.1)
def Ju:List Op→Nat→(Nat→V)→St→Option St
 |[],_,_,S=>some S
 |o::os,i,e,S=>(step κ o e S).bind fun r=>Ju os (i+1) (upd e i r.1) r.2
def Jo (Wv Wa:List Nat):V→V
 |.lref s o=>if Wv.contains s then .undef else .lref s o
 |.eref s i o n=>if Wa.contains s then .undef else .eref s i o n
 |.own s z n=>if Wa.contains s then .undef else .own s z n
 |.agg cs=>if Wa.isEmpty then .agg cs else .undef
 |.tuple cs=>if Wa.isEmpty then .tuple cs else .undef
 |v=>v
def JA (Wa:List Nat):V→V
 |.own s z n=>if Wa.contains s then .undef else .own s z n
 |v=>v
def swp (x h t:Nat):Nat:=if t=x then h else if t=h then x else t
def JO (x h:Nat):V→V
 |.own s z n=>.own (swp x h s) z n
 |v=>v
def Jaj (x h:Nat):V→V
 |.own s z n=>.own (swp x h s) z n
 |.eref s i o n=>.eref (swp x h s) i o n
 |.agg cs=>.agg (cs.map (JO x h))
 |.tuple cs=>.tuple (cs.map (JO x h))
 |v=>v
def St.ren (S:St) (x h:Nat):St where
 ρ:=fun t=>Jaj x h (S.ρ t)
 μ:=fun s=>(S.μ s).map fun m=>(m.1.map (JO x h),m.2)
 A:=fun t=>S.A (swp x h t)
def St.swp1 (S:St) (s j h:Nat):St:=
 match S.μ s with
 |some (cs,_)=>match cs[j]? with
  |some (.own x _ _)=>S.ren x h
  |_=>S
 |none=>S
def St.swps (S:St):List Nat→St
 |s::j::h::l=>(S.swp1 s j h).swps l
 |_=>S
def St.scrub (S:St) (W Wv Wa:List Nat):St where
 ρ:=fun t=>if W.contains t then .undef else Jo Wv Wa (S.ρ t)
 μ:=fun s=>if Wv.contains s then none else (S.μ s).map fun m=>(bif Wa.isEmpty then m.1 else m.1.map (JA Wa),m.2)
 A:=fun s=>if Wa.contains s then none else S.A s
def St.head (S:St) (W L Wv Wa:List Nat):St:=(S.swps L).scrub W Wv Wa
def Jd:Nat→C→St→Option (Ex×St)
 |0,_,_=>none
 |m+1,c,S=>match c with
  |.skip=>some (.norm,S)
  |.region _ ops=>(Ju κ ops 0 (fun _=>.undef) S).bind fun S=>some (.norm,S)
  |.seq a b=>(Jd m a S).bind fun r=>match r.1 with
   |.norm=>Jd m b r.2
   |x=>some (x,r.2)
  |.cond x a b=>match argv (fun _=>.undef) S.ρ x with
   |.bool t=>bif t then Jd m a S else Jd m b S
   |_=>none
  |.block id c=>(Jd m c S).bind fun r=>match r.1 with
   |.exit id'=>if id'=id then some (.norm,r.2) else some (.exit id',r.2)
   |x=>some (x,r.2)
  |.loop W L Wv Wa c=>(Jd m c (S.head W L Wv Wa)).bind fun r=>match r.1 with
   |.norm=>Jd m (.loop W L Wv Wa c) r.2
   |x=>some (x,r.2)
  |.exit id=>some (.exit id,S)
  |.ret=>some (.ret,S)
end
def resV (S:St):Res→Option V
 |.t t=>some (S.ρ t)
 |.cell a n=>match S.ρ a with
  |.lref s 0=>match S.μ s with
   |some (cs,_)=>J5 cs 0 n
   |none=>none
  |_=>none
def Jlq:Option (Nat×List (List V)×Fz)→Bool
 |some (_,_,.frz)=>true
 |_=>false
def JcB (A:Nat→Option (Nat×List (List V)×Fz)) (own:Option Nat) (j:Nat) (v:V):Option V:=
 if own=some j then match v with
  |.own s z n=>match A s with
   |some (z',rows,.live)=>if z'=z∧rows.length=n then some (.slice z rows) else none
   |_=>none
  |_=>none
 else if own=none then toD A v
 else if (Je v).all (fun s=>Jlq (A s)) then toD A v else none
def Jap {α β:Type} (f:Nat→α→Option β):Nat→List α→Option (List β)
 |_,[]=>some []
 |i,x::xs=>(f i x).bind fun y=>(Jap f (i+1) xs).bind fun ys=>some (y::ys)
def Jb9:List V→V
 |[v]=>v
 |vs=>.tuple vs
def JbQ (F:F) (S:St):Option V:=
 (Jn (resV S) F.res).bind fun vs=>(Jap (JcB S.A F.own) 0 vs).bind fun vs=>some (Jb9 vs)
def finishP (F:F) (S:St):Option V:=
 match F.res,F.own with
 |[.t t],none=>match S.ρ t with
  |.lref s 0=>match S.μ s with
   |some (cs,_)=>(Jn (toDC S.A) cs).map fun cs=>.cptr cs 0
   |none=>none
  |_=>none
 |_,_=>none
def Jad (F:F) (S:St):Option V:=
 match JbQ F S with
 |some r=>some r
 |none=>finishP F S
def start (args:List V):St where
 ρ:=fun t=>(args[t]?).getD .undef
 μ:=fun _=>none
 A:=fun _=>none
def startR (args:List V) (k:Nat) (cs:List V):Option St:=
 (JS 9000 cs (fun _=>none)).bind fun t=>some ⟨fun i=>if i=k then .lref k 0 else (args[i]?).getD .undef,upd (fun _=>none) k (some (t.1,false)),t.2⟩
def JaM (F:F) (k:Nat) (S:St):Option V:=
 (Jn (resV S) F.res).bind fun vs=>match S.μ k with
  |some (cs,false)=>(Jal cs S.A).bind fun h=>(Jn (toD h.2) vs).bind fun ws=>some (.tuple [Jb9 ws,.tuple h.1])
  |_=>none
def Jw (Pg:Nat→Option Fn):Nat→Nat→List V→Option V
 |0,_,_=>none
 |n+1,f,args=>match Pg f with
  |none=>none
  |some (.prim _ p)=>p args
  |some (.codeR F k)=>
   if args.length=F.np then match args[k]? with
    |some (.tuple (.lref 0 0::cs))=>(startR args k cs).bind fun S=>(Jd (Jw Pg n) n F.body S).bind fun r=>match r.1 with
      |.norm|.ret=>JaM F k r.2
      |.exit _=>none
    |_=>none
   else none
  |some (.code F)=>
   if args.length=F.np then
    (Jd (Jw Pg n) n F.body (start args)).bind fun r=>match r.1 with
     |.norm|.ret=>Jad F r.2
     |.exit _=>none
   else none
end Sg
namespace Sg
open Go Go.RowKit
structure Cx where
 fm:Nat→Nat
 tm:Nat→Nat
 /-- what package variables hold:it lies below block gn -/
 gn:Nat:=0
 G:World→Prop:=fun _=>True
 Gst:∀w w',G w→(∀b,b<gn→w'.heap[b]?=w.heap[b]?)→G w':=by exact fun _ _ _ _=>trivial
 tinj:∀a b,tm a=tm b→a=b:=by exact fun _ _ h=>h
abbrev gv (vs:List V) (i:Nat):V:=vs.getD i .undef
abbrev gr (rows:List (List V)) (i:Nat):List V:=rows.getD i []
section
variable (cx:Cx) (w:World) (X:Nat→Prop)
inductive RelD:Value→V→Prop
 |undef (v):RelD v .undef
 |bool (b):RelD (.bool b) (.bool b)
 |int (k n):RelD (.int k n) (.int k n)
 |str (s:ByteArray):RelD (.string s) (.str s.data.toList)
 |agg (cs:Array Value) (vs:List V) (u:Nat→Value) (hl:cs.size=vs.length)
   (hc:∀i,i<vs.length→cs[i]?=some (u i)∧(u i).oneCell'=true)
   (hr:∀i,i<vs.length→RelD (u i) (gv vs i)):RelD (.agg cs) (.agg vs)
 |nilslice (a:Option Addr) (z):RelD (.slice a 0 0) (.slice z [])
 |slice (b o len cap z rows c e fr) (u:Nat→Nat→Value)
   (hb:b<w.heap.size) (hX:¬X b) (hw:w.heap[b]?=some (.cells c e fr)) (hl:rows.length=len) (hcap:len≤cap)
   (hz:∀i,i<len→(gr rows i).length=z)
   (hc:∀i j,i<len→j<z→c[o+i*z+j]?=some (u i j)∧(u i j).oneCell'=true)
   (hr:∀i j,i<len→j<z→RelD (u i j) (gv (gr rows i) j)):RelD (.slice (some ⟨b,o,none⟩) len cap) (.slice z rows)
 |tuple (cs:Array Value) (vs:List V) (u:Nat→Value) (hl:cs.size=vs.length)
   (hc:∀i,i<vs.length→cs[i]?=some (u i))
   (hr:∀i,i<vs.length→RelD (u i) (gv vs i)):RelD (.tuple cs) (.tuple vs)
 |func (f) (cs:Array Value) (vs:List V) (u:Nat→Value) (hl:cs.size=vs.length)
   (hc:∀i,i<vs.length→cs[i]?=some (u i))
   (hr:∀i,i<vs.length→RelD (u i) (gv vs i)):RelD (.func (.func (cx.fm f)) #[] cs) (.func f vs)
 |cptr (b o cs off c e fr) (u:Nat→Value)
   (hb:b<w.heap.size) (hX:¬X b) (hw:w.heap[b]?=some (.cells c e fr)) (ho:off≤o)
   (hc:∀j,j<cs.length→c[o-off+j]?=some (u j)∧(u j).oneCell'=true)
   (hr:∀j,j<cs.length→RelD (u j) (gv cs j)):RelD (.pointer (some ⟨b,o,none⟩)) (.cptr cs off)
 |iface (t v x) (hr:RelD v x):RelD (.iface (cx.tm t) v) (.iface t x)
 |niface:RelD .nilIface .niface
 |nslice (z):RelD (.slice none 0 0) (.nslice z)
 |xslice (a n c z rows) (h:RelD (.slice (some a) n c) (.slice z rows)):RelD (.slice (some a) n c) (.xslice z rows)
end
theorem RelD.mono {cx:Cx} {w w':World} {X X':Nat→Prop} {v:Value} {x:V} (h:RelD cx w X v x)
  (hs:w.heap.size≤w'.heap.size) (hb:∀b,b<w.heap.size→¬X b→w'.heap[b]?=w.heap[b]?)
  (hX:∀b,b<w.heap.size→¬X b→¬X' b):RelD cx w' X' v x:=by
 induction h with
 |undef v=>exact .undef v
 |bool b=>exact .bool b
 |int k n=>exact .int k n
 |str s=>exact .str s
 |agg cs vs u hl hc _ ih=>exact .agg cs vs u hl hc ih
 |nilslice a z=>exact .nilslice a z
 |slice b o len cap z rows c e fr u h1 h2 h3 h4 h5 h6 h7 _ ih=>
  exact .slice b o len cap z rows c e fr u (GC h1 hs) (hX b h1 h2) ((hb b h1 h2).trans h3) h4 h5 h6 h7 ih
 |tuple cs vs u hl hc _ ih=>exact .tuple cs vs u hl hc ih
 |func f cs vs u hl hc _ ih=>exact .func f cs vs u hl hc ih
 |cptr b o cs off c e fr u h1 h2 h3 h4 h5 _ ih=>
  exact .cptr b o cs off c e fr u (GC h1 hs) (hX b h1 h2) ((hb b h1 h2).trans h3) h4 h5 ih
 |iface t v x _ ih=>exact .iface t v x ih
 |niface=>exact .niface
 |nslice z=>exact .nslice z
 |xslice a n c z rows _ ih=>exact .xslice a n c z rows ih
theorem RelD.grow {cx:Cx} {w w':World} {X:Nat→Prop} {v:Value} {x:V} (h:RelD cx w X v x)
  (hs:w.heap.size≤w'.heap.size) (hb:∀b,b<w.heap.size→w'.heap[b]?=w.heap[b]?):RelD cx w' X v x:=
 h.mono hs (fun b h _=>hb b h) (fun _ _ h=>h)
theorem RelD.cell {cx:Cx} {w:World} {X:Nat→Prop} {v:Value} {x:V} (h:RelD cx w X v x) (h1:v.oneCell'=true):x.datC=true:=by
 cases h<;>simp_all [V.datC,Value.oneCell']
def hdr:Value→Option Nat
 |.slice (some a) _ _=>some a.block
 |_=>none
section
variable (cx:Cx) (w:World) (X:Nat→Prop) (S:St) (β:Nat→Nat) (α:Nat→Value)
def RelO (v:Value) (s z n:Nat):Prop:=
 ∃rows f a cap,S.A s=some (z,rows,f)∧v=.slice a n cap∧(n≠0→∃b o,a=some ⟨b,o,none⟩)∧(f≠.dead→n≤rows.length∧(rows.length=n→v=α s))
def RelC (v:Value):V→Prop
 |.own s z n=>RelO S α v s z n
 |x=>RelD cx w X v x
def RelT (v:Value):V→Prop
 |.own s z n=>RelO S α v s z n
 |.lref s off=>(S.μ s).isSome∧v=.pointer (some ⟨β s,off,none⟩)
 |.eref s i off m=>∃z rows f b o cap,S.A s=some (z,rows,f)∧v=.pointer (some ⟨b,o+i*z+off,none⟩)∧
   (f≠.dead→m≤rows.length∧(rows.length=m→α s=.slice (some ⟨b,o,none⟩) m cap))
 |.agg vs=>∃cs:Array Value,v=.agg cs∧cs.size=vs.length∧
   ∀i,i<vs.length→∃u,cs[i]?=some u∧u.oneCell'=true∧RelC cx w X S α u (gv vs i)
 |.tuple vs=>∃cs:Array Value,v=.tuple cs∧cs.size=vs.length∧
   ∀i,i<vs.length→∃u,cs[i]?=some u∧RelC cx w X S α u (gv vs i)
 |x=>RelD cx w X v x
end
structure ArrOK (cx:Cx) (w:World) (X:Nat→Prop) (v:Value) (z:Nat) (rows:List (List V)):Prop where
 len:∀i,i<rows.length→(gr rows i).length=z
 at_:(v=.slice none 0 0∧rows=[])∨∃b o cap c e,v=.slice (some ⟨b,o,none⟩) rows.length cap∧
  w.heap[b]?=some (.cells c e (0,0))∧rows.length≤cap∧o+cap*z≤c.size∧
  ∀i j,i<rows.length→j<z→∃u,c[o+i*z+j]?=some u∧u.oneCell'=true∧RelD cx w X u (gv (gr rows i) j)
structure Kept (B:Nat→Prop) (w w':World):Prop where
 os:w'.os=w.os
 tape:w'.tape=w.tape
 output:w'.output=w.output
 size:w.heap.size≤w'.heap.size
 block:∀b,B b→w'.heap[b]?=w.heap[b]?
theorem Kept.refl (B:Nat→Prop) (w:World):Kept B w w:=⟨rfl,rfl,rfl,Gm _,fun _ _=>rfl⟩
theorem Kept.trans {B:Nat→Prop} {a b c:World} (h:Kept B a b) (k:Kept B b c):Kept B a c:=
 ⟨k.os.trans h.os,k.tape.trans h.tape,k.output.trans h.output,GK h.size k.size,fun i hi=>(k.block i hi).trans (h.block i hi)⟩
theorem Kept.of {B:Nat→Prop} {n:Nat} {w w':World} (h:Below n w w') (hB:∀b,B b→b<n):Kept B w w':=⟨h.os,h.tape,h.output,h.size,fun b hb=>h.block b (hB b hb)⟩
theorem Kept.below {B:Nat→Prop} {n:Nat} {w w':World} (h:Kept B w w') (hB:∀b,b<n→B b):Below n w w':=⟨h.os,h.tape,h.output,h.size,fun b hb=>h.block b (hB b hb)⟩
theorem Kept.mono {B B':Nat→Prop} {w w':World} (h:Kept B w w') (hB:∀b,B' b→B b):Kept B' w w':=⟨h.os,h.tape,h.output,h.size,fun b hb=>h.block b (hB b hb)⟩
structure RelW (cx:Cx) (B:Nat→Prop) (X:Nat→Prop) (S:St) (w:World) (β:Nat→Nat) (α:Nat→Value) (M:Nat→Prop):Prop where
 xb:∀b,X b→B b
 glob:(∀b,b<cx.gn→B b)∧cx.G w
 size:∀b,B b→b<w.heap.size
 m:∀b,M b→¬B b∧b<w.heap.size
 var:∀s cs f,S.μ s=some (cs,f)→¬B (β s)∧(f=false→M (β s))∧(f=true→¬M (β s)∧cs.all V.datC=true)∧∃c e,w.heap[β s]?=some (.cells c e (0,0))∧c.size=cs.length∧
  ∀i,i<cs.length→∃u,c[i]?=some u∧u.oneCell'=true∧RelC cx w (fun b=>X b∨M b) S α u (gv cs i)
 varInj:∀s s',(S.μ s).isSome→(S.μ s').isSome→β s=β s'→s=s'
 arr:∀s z rows f,S.A s=some (z,rows,f)→f≠.dead→ArrOK cx w (fun b=>X b∨M b) (α s) z rows∧
  ∀b,hdr (α s)=some b→¬B b∧(f=.live→M b)∧(f=.frz→¬M b)
 arrInj:∀s s' z rows f z' rows' f',S.A s=some (z,rows,f)→f≠.dead→S.A s'=some (z',rows',f')→f'≠.dead→∀b,hdr (α s)=some b→hdr (α s')=some b→s=s'
 arrVar:∀s z rows f s',S.A s=some (z,rows,f)→f≠.dead→(S.μ s').isSome→hdr (α s)≠some (β s')
end Sg
namespace Sg
open Go
section
variable (P:Program) (cx:Cx)
def szT (t:TypeId):Option Nat:=(P.info? t).map (·.size)
def JH (t:TypeId):Bool:=
 match P.underlying t with
 |some (.struct _)=>true
 |some (.array ..)=>true
 |_=>false
def arrT (t:TypeId):Bool:=
 match P.underlying t with
 |some (.array _ e)=>(szT P e).isSome
 |_=>false
def Jly (t:TypeId):Bool:=
 match P.underlying t with
 |some (.interface _)=>true
 |_=>false
def JP (t:TypeId):Option TypeId:=
 match P.underlying t with
 |some (.slice e)=>some e
 |_=>none
def JaL:Value→V→Bool
 |.bool a,.bool b=>a == b
 |.int k n,.int k' n'=>k == k'&&n == n'
 |.string s,.str l=>s.data.toList == l
 |.slice none 0 0,.slice _ []=>true
 |.slice none 0 0,.nslice _=>true
 |.nilIface,.niface=>true
 |.pointer none,.undef=>true
 |.nilFunc,.undef=>true
 |_,_=>false
def Jv:List Value→List V→Bool
 |[],[]=>true
 |v::vs,x::xs=>JaL v x&&Jv vs xs
 |_,_=>false
def Jcr:Value→V→Bool
 |.agg cs,.agg vs=>Jv cs.toList vs
 |v,x=>JaL v x
def Ja (ds:List (Option Nat)):Operand→Arg→Bool
 |.tmp t,.g t'=>t == t'
 |.tmp t,.l j=>ds[j]? == some (some t)
 |.const v,.c x=>Jcr v x
 |.func f,.f k=>cx.fm k == f
 |_,_=>false
def Ji (ds:List (Option Nat)):List Operand→List Arg→Bool
 |[],[]=>true
 |o::os,a::avs=>Ja cx ds o a&&Ji ds os avs
 |_,_=>false
def JY (ds:List (Option Nat)):Option Operand→Option Arg→Bool
 |none,none=>true
 |some o,some a=>Ja cx ds o a
 |_,_=>false
def okField (s:TypeId) (i off:Nat):Bool:=
 match P.underlying s with
 |some (.struct fs)=>match fs[i]? with
  |some f=>f.offset == off&&(match szT P f.type with|some n=>n != 0|none=>false)
  |none=>false
 |_=>false
def okParts (ds:List (Option Nat)) (pl:Nat→Option (Nat×Nat)):List (Nat×Operand)→List (Nat×Nat×Arg)→Bool
 |[],[]=>true
 |(i,o)::ps,(off,n,a)::qs=>(pl i == some (off,n))&&Ja cx ds o a&&okParts ds pl ps qs
 |_,_=>false
def Jaq (ds:List (Option Nat)):List (Nat×Operand)→List (Nat×Arg)→Bool
 |[],[]=>true
 |(i,o)::ps,(j,a)::qs=>(i == j)&&Ja cx ds o a&&Jaq ds ps qs
 |_,_=>false
def JI (t:TypeId) (z:List V):Bool:=
 match P.info? t with
 |some i=>match i.zero with
  |some v=>Jv v.cells.toList z
  |none=>false
 |none=>false
def okZeroA (t:TypeId) (z:List V):Bool:=
 match P.info? t with
 |some i=>match i.zero with
  |some (.agg cs)=>Jv cs.toList z
  |_=>false
 |none=>false
def concT (t:TypeId):Bool:=
 match P.underlying t with
 |some (.interface _)=>false
 |some _=>true
 |none=>false
def mthT (t:TypeId) (name:String):Option FuncId:=
 match P.info? t,P.underlying t with
 |some i,some u=>match i.methods.find? (·.name == name),u with
  |_,.pointer _=>none
  |some m,_=>if m.path.isEmpty then match m.func with
   |some (f,false)=>some f
   |_=>none else none
  |none,_=>none
 |_,_=>none
def placesL:List Field→Option (List (Nat×Nat))
 |[]=>some []
 |f::fs=>(szT P f.type).bind fun n=>(placesL fs).bind fun r=>some ((f.offset,n)::r)
def JbC (t:TypeId):Option (List (Nat×Nat)):=
 match P.underlying t with
 |some (.struct fs)=>placesL P fs.toList
 |_=>none
def shapeFs (g:TypeId→Option (List Sh)):List Field→Nat→Option (List Sh)
 |[],_=>some []
 |f::fs,n=>if f.name == "_"||f.offset != n then none else
   (g f.type).bind fun sh=>if szT P f.type == some sh.length then (shapeFs g fs (n+sh.length)).bind fun r=>some (sh++r) else none
def JX:Nat→TypeId→Option (List Sh)
 |0,_=>none
 |d+1,t=>match P.underlying t with
  |some .bool=>some [.b]
  |some (.int _)=>some [.i]
  |some .string=>some [.s]
  |some (.struct fs)=>if P.stoodInHeld t then none else shapeFs P (JX d) fs.toList 0
  |_=>none
def Jbe (st:Bool) (z:Nat) (t:TypeId):Bool:=
 match st,P.underlying t with
 |true,some .string=>true
 |false,some (.slice e)=>szT P e == some z
 |_,_=>false
def JbX (st:Bool) (t:TypeId):Bool:=
 match st,P.underlying t with
 |true,some .string=>true
 |false,some (.slice _)=>true
 |_,_=>false
def Jai (t:TypeId):Bool:=
 match P.underlying t with
 |some (.slice _)=>true
 |some .string=>true
 |_=>false
def okK (ds:List (Option Nat)) (op:Go.Op) (k:K):Bool:=
 match op,k with
 |.move x,.mov a=>Ja cx ds x a
 |.assign x,.mov a=>Ja cx ds x a
 |.assign x,.frz _ a=>Ja cx ds x a
 |.assign (.const (.slice none 0 0)),.mko _=>true
 |.move (.const (.slice none 0 0)),.mko _=>true
 |.assign (.const (.slice none 0 0)),.mkoz _ _=>true
 |.slice t x lo hi none,.slr _ z a lo' hi'=>Ja cx ds x a&&JY cx ds lo lo'&&JY cx ds hi hi'&&Jbe P false z t
 |.pick c x y,.pick c' x' y'=>Ja cx ds c c'&&Ja cx ds x x'&&Ja cx ds y y'
 |.box _ x,.box a=>Ja cx ds x a
 |.alloc t,.alloc z=>JI P t z
 |.build t ps,.build z qs=>JI P t z&&(match JbC P t with|some pl=>okParts cx ds (fun i=>pl[i]?) ps.toList qs|none=>arrT P t&&ps.isEmpty&&qs.isEmpty)
 |.buildSlice t len ps,.mks z n zero qs=>(match JP P t with
   |some e=>szT P e == some z&&JI P e zero&&zero.length == z&&z != 0&&len == n&&decide (len*z≤16777216)&&Jaq cx ds ps.toList qs
   |none=>false)
 |.makeSlice t (.const (.int .i64 len)) (.const (.int .i64 cap)),.mks z n zero qs=>(match JP P t with
   |some e=>szT P e == some z&&JI P e zero&&zero.length == z&&z != 0&&len == (n:Int)&&cap == (n:Int)&&decide (n*z≤16777216)&&qs.isEmpty&&n != 0&&(match P.info? e with|some i=>decide (i.bytes*n≤65536)|none=>false)
   |none=>false)
 |.buildSlice t len ps,.mkb z n zero qs=>(match JP P t with
   |some e=>szT P e == some z&&JI P e zero&&zero.length == z&&z != 0&&len == n&&decide (len*z≤16777216)&&Jaq cx ds ps.toList qs
   |none=>false)
 |.binOp .eql t x (.const (.slice none 0 0)) _,.nilq a=>Ja cx ds x a&&(JP P t).isSome
 |.binOp .neq t x (.const .nilIface) _,.ifn a=>Ja cx ds x a&&Jly P t
 |.load t p,.load _ n a=>Ja cx ds p a&&(P.underlying t).isSome&&(if JH P t then szT P t == n&&n.isSome else n.isNone)
 |.load t p,.ldf _ _ n a=>Ja cx ds p a&&(P.underlying t).isSome&&(JH P t&&szT P t == some n)
 |.store t p x,.store _ n a b=>Ja cx ds p a&&Ja cx ds x b&&szT P t == some n
 |.binOp o _ x y _,.bin o' a b=>o == o'&&Ja cx ds x a&&Ja cx ds y b
 |.binOp o t x y _,.eqb ne a b=>(o == if ne then .neq else .eql)&&Ja cx ds x a&&Ja cx ds y b&&(match P.underlying t with|some .bool=>true|_=>false)
 |.binOp o t x y _,.eqa ne sh a b=>(o == if ne then .neq else .eql)&&Ja cx ds x a&&Ja cx ds y b&&JH P t&&JX P 20 t == some sh&&!P.eqGuardType P.depth t
 |.binOp o _ x y _,.sh o' a b=>o == o'&&Ja cx ds x a&&Ja cx ds y b
 |.unOp o _ x,.un o' a=>o == o'&&Ja cx ds x a
 |.convert s d x,.conv (.int k) a=>Ja cx ds x a&&(match P.underlying s,P.underlying d with|some _,some (.int k')=>k == k'|_,_=>false)
 |.convert s d x,.conv .same a=>Ja cx ds x a&&(match P.underlying s,P.underlying d with|some .string,some .string=>true|_,_=>false)
 |.makeFunc (.func f) first cap,.fn f' cap' _=>first.isEmpty&&cx.fm f' == f&&Ji cx ds cap.toList cap'
 |.slice t x lo hi none,.sl st z a lo' hi'=>Ja cx ds x a&&JY cx ds lo lo'&&JY cx ds hi hi'&&Jbe P st z t
 |.fieldAddr s x i,.fad a off=>Ja cx ds x a&&okField P s i off
 |.indexAddr t x i,.iad z a b=>Ja cx ds x a&&Ja cx ds i b&&(match JP P t with|some e=>szT P e == some z|none=>false)
 |.indexAddr t x i,.iada z n a b=>Ja cx ds x a&&Ja cx ds i b&&(match P.underlying t with|some (.array m e)=>m == n&&szT P e == some z|_=>false)
 |.index t x i,.idx a b=>Ja cx ds x a&&Ja cx ds i b&&(match P.underlying t with|some .string=>true|_=>false)
 |.extract x i,.ext a i'=>Ja cx ds x a&&i == i'
 |.nilCheck x,.nilc a=>Ja cx ds x a
 |.call {callee:=.builtin .len,args:=args,argTypes:=ts},.len st a=>(match args.toList,ts.toList with
   |[x],[t]=>Ja cx ds x a&&JbX P st t
   |_,_=>false)
 |.call {callee:=.builtin .max,args:=args,argTypes:=_},.mm true a b=>Ji cx ds args.toList [a,b]
 |.call {callee:=.builtin .min,args:=args,argTypes:=_},.mm false a b=>Ji cx ds args.toList [a,b]
 |.call {callee:=.builtin .append,args:=args,argTypes:=ts},.app _ z a b=>Ji cx ds args.toList [a,b]&&(match ts.toList with
   |[t,t']=>(match P.underlying t with
    |some (.slice e)=>z != 0&&szT P e == some z&&(match P.info? e with|some i=>decide (0<i.bytes∧i.bytes≤65536)&&(match i.zero with|some v=>v.cells.size == z|none=>false)|none=>false)
    |_=>false)&&Jai P t'
   |_=>false)
 |.call {callee:=.builtin .append,args:=args,argTypes:=ts},.apf _ z a b=>Ji cx ds args.toList [a,b]&&(match ts.toList with
   |[t,t']=>(match P.underlying t with
    |some (.slice e)=>z != 0&&szT P e == some z&&(match P.info? e with|some i=>decide (0<i.bytes∧i.bytes≤65536)&&(match i.zero with|some v=>v.cells.size == z|none=>false)|none=>false)
    |_=>false)&&Jai P t'
   |_=>false)
 |.call {callee:=.value (.func f),args:=args,argTypes:=_},.call (.k f') _ _ avs=>cx.fm f' == f&&Ji cx ds args.toList avs
 |.call {callee:=.value x,args:=args,argTypes:=_},.call (.v a) _ _ avs=>Ja cx ds x a&&Ji cx ds args.toList avs
 |.call {callee:=.value (.func f),args:=args,argTypes:=_},.ins f' _ _ a b c=>cx.fm f' == f&&Ji cx ds args.toList [a,b,c]
 |.call {callee:=.value (.func f),args:=args,argTypes:=_},.del f' _ _ a b c=>cx.fm f' == f&&Ji cx ds args.toList [a,b,c]
 |.call {callee:=.builtin .append,args:=args,argTypes:=ts},.appd z a b=>Ji cx ds args.toList [a,b]&&(match ts.toList with
   |[t,t']=>(match P.underlying t with
    |some (.slice e)=>z != 0&&szT P e == some z&&(match P.info? e with|some i=>decide (0<i.bytes∧i.bytes≤65536)&&(match i.zero with|some v=>v.cells.size == z|none=>false)|none=>false)
    |_=>false)&&Jai P t'
   |_=>false)
 |.call {callee:=.value (.func f),args:=args,argTypes:=_},.rcall f' avs _ _ _=>cx.fm f' == f&&Ji cx ds args.toList avs
 |.alloc t,.allo z _=>JI P t z
 |.box _ x,.boxo a _=>Ja cx ds x a
 |.slice t x lo hi none,.slf z a lo' hi'=>Ja cx ds x a&&JY cx ds lo lo'&&JY cx ds hi hi'&&Jbe P false z t
 |.convert s d x,.b2s a=>Ja cx ds x a&&(match P.underlying s,P.underlying d with|some (.slice e),some .string=>(match P.underlying e with|some (.int .u8)=>true|_=>false)|_,_=>false)
 |.field s x i,.fld a off n=>Ja cx ds x a&&(match P.underlying s with
   |some (.struct fs)=>(match fs[i]? with
    |some f=>f.offset == off&&(P.underlying f.type).isSome&&(if JH P f.type then szT P f.type == n&&n.isSome else n.isNone)
    |none=>false)
   |_=>false)
 |.makeInterface t x,.mif t' a=>Ja cx ds x a&&cx.tm t' == t&&concT P t
 |.typeAssert x _ t ok,.asr t' z a=>Ja cx ds x a&&cx.tm t' == t&&concT P t&&(match ok,z with
   |false,none=>true
   |true,some z=>okZeroA P t z
   |_,_=>false)
 |.call {callee:=.invoke x name,args:=args,argTypes:=_},.inv l a avs=>Ja cx ds x a&&Ji cx ds args.toList avs&&l.all fun q=>mthT P (cx.tm q.1) name == some (cx.fm q.2)
 |_,.bad=>true
 |_,_=>false
end
end Sg
namespace Sg
open Go Go.RowKit
theorem JaD {α:Type} [Inhabited α] {n:Nat} {Q:Nat→α→Prop} (h:∀i,i<n→∃u,Q i u):∃f:Nat→α,∀i,i<n→Q i (f i):=by
 have h':∀i,∃u,i<n→Q i u:=fun i=>by
  by_cases hi:i<n
  ·obtain⟨u,hu⟩:=h i hi;exact⟨u,fun _=>hu⟩
  ·exact⟨default,fun hh=>absurd hh hi⟩
 exact⟨fun i=>Classical.choose (h' i),fun i hi=>Classical.choose_spec (h' i) hi⟩
theorem JjD {α:Type} [Inhabited α] {n m:Nat} {Q:Nat→Nat→α→Prop} (h:∀i j,i<n→j<m→∃u,Q i j u) :
  ∃f:Nat→Nat→α,∀i j,i<n→j<m→Q i j (f i j):=by
 have h':∀i j,∃u,i<n→j<m→Q i j u:=fun i j=>by
  by_cases hi:i<n
  ·by_cases hj:j<m
   ·obtain⟨u,hu⟩:=h i j hi hj;exact⟨u,fun _ _=>hu⟩
   ·exact⟨default,fun _ hh=>absurd hh hj⟩
  ·exact⟨default,fun hh=>absurd hh hi⟩
 exact⟨fun i j=>Classical.choose (h' i j),fun i j hi hj=>Classical.choose_spec (h' i j) hi hj⟩
section
variable {P:Program} {cx:Cx} {w:World} {X:Nat→Prop} {S:St} {β:Nat→Nat} {α:Nat→Value}
theorem Jx {v:Value} {k n} (h:RelT cx w X S β α v (.int k n)):v=.int k n:=by
 simp only[RelT] at h;cases h;rfl
theorem Jab {v:Value} {b} (h:RelT cx w X S β α v (.bool b)):v=.bool b:=by
 simp only[RelT] at h;cases h;rfl
theorem Jar {v:Value} {s} (h:RelT cx w X S β α v (.str s)):∃t:ByteArray,v=.string t∧t.data.toList=s:=by
 simp only[RelT] at h;cases h;exact⟨_,rfl,rfl⟩
theorem Jc0 {v:Value} {s o} (h:RelT cx w X S β α v (.lref s o)):v=.pointer (some ⟨β s,o,none⟩):=h.2
theorem RelT.of_data {v:Value} {x:V} (h:RelD cx w X v x):RelT cx w X S β α v x:=by
 cases x with
 |agg vs=>
  cases h with
  |agg cs vs u hl hc hr=>
   refine⟨cs,rfl,hl,fun i hi=>⟨u i,(hc i hi).1,(hc i hi).2,?_⟩⟩;have h1:=hr i hi;have h2:=h1.cell (hc i hi).2
   revert h1 h2
   generalize gv vs i=y;intro h1 h2;cases y<;>first|exact h1|(simp[V.datC] at h2)
 |tuple vs=>
  cases h with
  |tuple cs vs u hl hc hr=>
   refine⟨cs,rfl,hl,fun i hi=>⟨u i,(hc i hi),?_⟩⟩;have h1:=hr i hi
   revert h1
   generalize gv vs i=y;generalize u i=z;intro h1;cases y<;>first|exact h1|(cases h1)
 |lref s o=>cases h
 |eref s i o n=>cases h
 |own s z n=>cases h
 |_=>exact h
theorem RelC.of_data {v:Value} {x:V} (h:RelD cx w X v x):RelC cx w X S α v x:=by
 cases x<;>first|exact h|(cases h)
theorem RelC.data {v:Value} {x:V} (h:RelC cx w X S α v x) (hd:x.datC=true):RelD cx w X v x:=by
 cases x<;>first|exact h|(simp[V.datC] at hd)
theorem RelT.data {v:Value} {x:V} (h:RelT cx w X S β α v x) (hd:x.dat=true):RelD cx w X v x:=by
 cases x with
 |agg vs=>
  obtain⟨cs,rfl,hl,hc⟩:=h;have hd':∀x∈vs,x.datC=true:=by simpa [V.dat] using hd
  obtain⟨u,hu⟩:=JaD hc;exact .agg cs vs u hl (fun i hi=>⟨(hu i hi).1,(hu i hi).2.1⟩) (fun i hi=>(hu i hi).2.2.data (hd' _ (by simp[gv,hi])))
 |tuple vs=>simp[V.dat,V.datC] at hd
 |lref s o=>simp[V.dat,V.datC] at hd
 |eref s i o n=>simp[V.dat,V.datC] at hd
 |own s z n=>simp[V.dat,V.datC] at hd
 |_=>exact h
theorem Ja6 {v:Value} {cs:List V} {off:Nat} (h:RelD cx w X v (.cptr cs off)) :
  ∃b o c e fr,v=.pointer (some ⟨b,o,none⟩)∧b<w.heap.size∧¬X b∧w.heap[b]?=some (.cells c e fr)∧off≤o∧
   ∀j,j<cs.length→∃u,c[o-off+j]?=some u∧u.oneCell'=true∧RelD cx w X u (gv cs j):=by
 cases h with
 |cptr b o cs off c e fr u hb hX hw ho hc hr=>
  exact⟨b,o,c,e,fr,rfl,hb,hX,hw,ho,fun j hj=>⟨u j,(hc j hj).1,(hc j hj).2,hr j hj⟩⟩
theorem Ja7 {b o off:Nat} {c:Array Value} {e:TypeId} {fr:Nat×Nat} {cs:List V} (hb:b<w.heap.size) (hX:¬X b) (hw:w.heap[b]?=some (.cells c e fr))
  (ho:off≤o) (hc:∀j,j<cs.length→∃u,c[o-off+j]?=some u∧u.oneCell'=true∧RelD cx w X u (gv cs j)) :
  RelD cx w X (.pointer (some ⟨b,o,none⟩)) (.cptr cs off):=by
 obtain⟨u,hu⟩:=JaD hc
 exact .cptr b o cs off c e fr u hb hX hw ho (fun j hj=>⟨(hu j hj).1,(hu j hj).2.1⟩) (fun j hj=>(hu j hj).2.2)
theorem JR {v:Value} {z:Nat} {rows:List (List V)} (h:RelD cx w X v (.slice z rows)):((∃a,v=.slice a 0 0)∧rows=[])∨
  ∃b o cap c e fr,v=.slice (some ⟨b,o,none⟩) rows.length cap∧b<w.heap.size∧¬X b∧w.heap[b]?=some (.cells c e fr)∧rows.length≤cap∧
   (∀i,i<rows.length→(gr rows i).length=z)∧
   ∀i j,i<rows.length→j<z→∃u,c[o+i*z+j]?=some u∧u.oneCell'=true∧RelD cx w X u (gv (gr rows i) j):=by
 cases h with
 |nilslice a=>exact .inl ⟨⟨a,rfl⟩,rfl⟩
 |slice b o len cap z rows c e fr u hb hX hw hl hcap hz hc hr=>
  subst hl
  exact .inr ⟨b,o,cap,c,e,fr,rfl,hb,hX,hw,hcap,hz,fun i j hi hj=>⟨u i j,(hc i j hi hj).1,(hc i j hi hj).2,hr i j hi hj⟩⟩
theorem Jbh {b o cap z:Nat} {c:Array Value} {e:TypeId} {fr:Nat×Nat} {rows:List (List V)} (hb:b<w.heap.size) (hX:¬X b) (hw:w.heap[b]?=some (.cells c e fr))
  (hcap:rows.length≤cap) (hz:∀i,i<rows.length→(gr rows i).length=z)
  (hc:∀i j,i<rows.length→j<z→∃u,c[o+i*z+j]?=some u∧u.oneCell'=true∧RelD cx w X u (gv (gr rows i) j)) {n:Nat} (hn:rows.length=n) :
  RelD cx w X (.slice (some ⟨b,o,none⟩) n cap) (.slice z rows):=by
 obtain⟨u,hu⟩:=JjD hc
 subst hn
 exact .slice b o _ cap z rows c e fr u hb hX hw rfl hcap hz (fun i j hi hj=>⟨(hu i j hi hj).1,(hu i j hi hj).2.1⟩) (fun i j hi hj=>(hu i j hi hj).2.2)
theorem JaV {v:Value} {x:V} (h:JaL v x=true):RelD cx w X v x∧v.oneCell'=true:=by
 unfold JaL at h;split at h
 ·rename_i a b;obtain rfl:a=b:=by simpa using h
  exact⟨.bool _,rfl⟩
 ·rename_i k n k' n';simp only[Gg,GA] at h;obtain⟨rfl,rfl⟩:=h;exact⟨.int _ _,rfl⟩
 ·rename_i s l;obtain rfl:s.data.toList=l:=by simpa using h
  exact⟨.str _,rfl⟩
 ·exact⟨.nilslice _ _,rfl⟩
 ·exact⟨.nslice _,rfl⟩
 ·exact⟨.niface,rfl⟩
 ·exact⟨.undef _,rfl⟩
 ·exact⟨.undef _,rfl⟩
 ·simp at h
theorem J0:∀{l:List Value} {vs:List V},Jv l vs=true→
  l.length=vs.length∧∀i,i<vs.length→∃u,l[i]?=some u∧u.oneCell'=true∧RelD cx w X u (gv vs i)
 |[],[],_=>⟨rfl,fun i hi=>by simp at hi⟩
 |v::l,x::vs,h=>by
  simp only[Jv,Gg] at h;obtain⟨h1,h2⟩:=J0 (l:=l) (vs:=vs) h.2;refine⟨by simp[h1],fun i hi=>?_⟩;cases i with
  |zero=>exact⟨v,rfl,(JaV h.1 (cx:=cx) (w:=w) (X:=X)).2,(JaV h.1).1⟩
  |succ i=>obtain⟨u,a,b,c⟩:=h2 i (by simpa using hi);exact⟨u,by simpa using a,b,by simpa [gv] using c⟩
 |[],_::_,h=>by simp[Jv] at h
 |_::_,[],h=>by simp[Jv] at h
theorem JcL {v:Value} {x:V} (h:Jcr v x=true):RelD cx w X v x:=by
 unfold Jcr at h;split at h
 ·rename_i cs vs;obtain⟨h1,h2⟩:=J0 (cx:=cx) (w:=w) (X:=X) h;obtain⟨u,hu⟩:=JaD h2;exact .agg cs vs u (by simpa using h1) (fun i hi=>⟨by simpa using (hu i hi).1,(hu i hi).2.1⟩) (fun i hi=>(hu i hi).2.2)
 ·exact (JaV h).1
theorem J8 {a:Act} {ds:List (Option Nat)} {e:Nat→V} (hg:∀t,RelT cx w X S β α (a.tmps.getD t undef) (S.ρ t))
  (hl:∀i d,ds[i]?=some (some d)→RelT cx w X S β α (a.tmps.getD d undef) (e i)) {x:Operand} {y:Arg} (h:Ja cx ds x y=true) :
  RelT cx w X S β α (a.eval x) (argv e S.ρ y):=by
 unfold Ja at h
 split at h
 ·rename_i t t';obtain rfl:t=t':=by simpa using h
  exact hg t
 ·rename_i t j;exact hl j t (by simpa using h)
 ·exact .of_data (JcL h)
 ·rename_i f k;obtain rfl:cx.fm k=f:=by simpa using h
  exact RelD.func k #[] [] (fun _=>undef) rfl (fun i hi=>by simp at hi) (fun i hi=>by simp at hi)
 ·simp at h
theorem JgW {o:BinOp} {k:IntKind} {a b:Int} {t:TypeId} {r:V} (h:Jh o k a b=some r) :
  ∃z,(Go.binOp o t (.int k a) (.int k b)).run P w=.ok z w∧RelD cx w X z r:=by
 cases o<;>simp only[Jh,Ga,reduceCtorEq] at h
 case quo=>
  split at h
  ·simp at h
  ·rename_i hb;simp only[Ga] at h;subst h
   exact⟨.int k (k.wrap (a.tdiv b)),by simp[Go.binOp,Op.intDiv,hb],.int _ _⟩
 case rem=>
  split at h
  ·simp at h
  ·rename_i hb;simp only[Ga] at h;subst h
   exact⟨.int k (a.tmod b),by simp[Go.binOp,Op.intDiv,hb],.int _ _⟩
 all_goals subst h
 ·exact⟨.int k (k.wrap (a+b)),by simp[Go.binOp,Op.intArith],.int _ _⟩
 ·exact⟨.int k (k.wrap (a-b)),by simp[Go.binOp,Op.intArith],.int _ _⟩
 ·exact⟨.int k (k.wrap (a*b)),by simp[Go.binOp,Op.intArith],.int _ _⟩
 ·exact⟨.int k (k.wrap (BitVec.ofInt k.bits a &&& BitVec.ofInt k.bits b).toNat),by simp[Go.binOp,Op.intBits],.int _ _⟩
 ·exact⟨.int k (k.wrap (BitVec.ofInt k.bits a ||| BitVec.ofInt k.bits b).toNat),by simp[Go.binOp,Op.intBits],.int _ _⟩
 ·exact⟨.int k (k.wrap (BitVec.ofInt k.bits a ^^^ BitVec.ofInt k.bits b).toNat),by simp[Go.binOp,Op.intBits],.int _ _⟩
 ·exact⟨.bool (decide (a=b)),by simp[Go.binOp,Op.intCmp];rfl,.bool _⟩
 ·exact⟨.bool (!decide (a=b)),by simp[Go.binOp,Op.intCmp];rfl,.bool _⟩
 ·exact⟨.bool (decide (a<b)),by simp[Go.binOp,Op.intCmp],.bool _⟩
 ·exact⟨.bool (decide (a≤b)),by simp[Go.binOp,Op.intCmp],.bool _⟩
 ·exact⟨.bool (decide (b<a)),by simp[Go.binOp,Op.intCmp],.bool _⟩
 ·exact⟨.bool (decide (b≤a)),by simp[Go.binOp,Op.intCmp],.bool _⟩
theorem Jb2 {s s':ByteArray}:(s.toList == s'.toList)=decide (s.data.toList=s'.data.toList):=by
 rw[ByteArray.toList_eq,ByteArray.toList_eq,Bool.eq_iff_iff];simp
theorem JhF {o:BinOp} {s s':ByteArray} {t:TypeId} {r:V} (h:Ja1 o s.data.toList s'.data.toList=some r) :
  ∃z,(Go.binOp o t (.string s) (.string s')).run P w=.ok z w∧RelD cx w X z r:=by
 cases o<;>simp only[Ja1,Ga,reduceCtorEq] at h
 case add=>
  split at h
  ·rename_i hb;simp only[Ga] at h;subst h
   refine⟨.string (s++s'),?_,?_⟩
   ·have h1:s.size=s.data.toList.length:=Array.length_toList.symm
    have h2:s'.size=s'.data.toList.length:=Array.length_toList.symm
    have h3:¬(((s.size+s'.size:Nat):Int)>IntKind.i64.max):=by
     simp only[IntKind.max,IntKind.signed,IntKind.bits,Gx];omega
    simp only[Go.binOp,Op.stringOp]
    rw[Gj h3];rfl
   ·have:=RelD.str (cx:=cx) (w:=w) (X:=X) (s++s')
    simpa using this
  ·simp at h
 all_goals subst h
 ·exact⟨.bool (decide (s.data.toList=s'.data.toList)),by simp only[Go.binOp,Op.stringOp,Jb2];rfl,.bool _⟩
 ·exact⟨.bool (!decide (s.data.toList=s'.data.toList)),by simp only[Go.binOp,Op.stringOp,Jb2];rfl,.bool _⟩
theorem bin_ok {o:BinOp} {x y:V} {u v:Value} {t:TypeId} {p q:Operand} {r:V} (hx:RelT cx w X S β α u x) (hy:RelT cx w X S β α v y) (h:Jdf o x y=some r) :
  ∃z,(do eqGuard o t p q u v;Go.binOp o t u v:Sem Value).run P w=.ok z w∧RelD cx w X z r:=by
 unfold Jdf at h
 split at h
 ·rename_i k a k' b
  obtain rfl:=Jx hx
  obtain rfl:=Jx hy
  have hg:(eqGuard o t p q (.int k a) (.int k' b)).run P w=.ok () w:=by
   unfold eqGuard;cases o<;>rfl
  split at h
  ·rename_i hk;subst hk
   rw[Sem.run_bind,hg]
   exact JgW h
  ·simp at h
 ·rename_i a b
  obtain⟨s,rfl,rfl⟩:=Jar hx
  obtain⟨s',rfl,rfl⟩:=Jar hy
  have hg:(eqGuard o t p q (.string s) (.string s')).run P w=.ok () w:=by
   unfold eqGuard;cases o<;>rfl
  rw[Sem.run_bind,hg]
  exact JhF h
 ·simp at h
theorem JiN {ne a b:Bool} {t:TypeId} {p q:Operand} (ht:P.underlying t=some .bool) :
  (do eqGuard (if ne then .neq else .eql) t p q (.bool a) (.bool b);Go.binOp (if ne then .neq else .eql) t (.bool a) (.bool b):Sem Value).run P w=.ok (.bool (ne ^^ (a == b))) w:=by
 have hg:∀o,(eqGuard o t p q (.bool a) (.bool b)).run P w=.ok () w:=fun o=>by unfold eqGuard;cases o<;>rfl
 rw[Sem.run_bind,hg]
 have he:(Op.equal t (.bool a) (.bool b)).run P w=.ok (a == b) w:=by
  have hm:Op.maxDepth=9999+1:=rfl;unfold Op.equal;rw[hm];unfold Op.equalIn;rw[Sem.run_bind,run_underlying ht w]
  rfl
 cases ne
 ·show (Go.binOp .eql t (.bool a) (.bool b)).run P w=_
  unfold Go.binOp
  simp only[Sem.run_bind,he];simp[Result.andThen]
 ·show (Go.binOp .neq t (.bool a) (.bool b)).run P w=_
  unfold Go.binOp
  simp only[Sem.run_bind,he];simp[Result.andThen]
theorem JlN {o:BinOp} {x y:V} {u v:Value} {t:TypeId} {p q:Operand} {r:V} (hx:RelT cx w X S β α u x) (hy:RelT cx w X S β α v y) (h:shV o x y=some r) :
  ∃z,(do eqGuard o t p q u v;Go.binOp o t u v:Sem Value).run P w=.ok z w∧RelD cx w X z r:=by
 unfold shV at h
 split at h
 ·rename_i k a k' b
  obtain rfl:=Jx hx
  obtain rfl:=Jx hy
  have hg:(eqGuard o t p q (.int k a) (.int k' b)).run P w=.ok () w:=by
   unfold eqGuard;cases o<;>rfl
  rw[Sem.run_bind,hg]
  split at h
  ·simp at h
  ·rename_i hb
   cases o<;>simp only[Ga,reduceCtorEq] at h
   all_goals subst h
   ·exact⟨.int k (k.wrap (a*2 ^ (min b.toNat k.bits))),by simp[Go.binOp,Op.shift,hb,Result.andThen],.int _ _⟩
   ·exact⟨.int k (a.fdiv (2 ^ (min b.toNat k.bits))),by simp[Go.binOp,Op.shift,hb,Result.andThen],.int _ _⟩
 ·simp at h
theorem Jmh {o:UnOp} {x:V} {u:Value} {r:V} (hx:RelT cx w X S β α u x) (h:unV o x=some r) :
  ∃z,(Op.unary o u).run P w=.ok z w∧RelD cx w X z r:=by
 unfold unV at h
 split at h
 ·obtain rfl:=Jab hx
  cases o<;>simp at h
  subst h;exact⟨_,rfl,.bool _⟩
 ·rename_i k n
  obtain rfl:=Jx hx
  cases o<;>simp only[Ga,reduceCtorEq] at h
  ·subst h;exact⟨_,by simp only[Op.unary,Op.intArith];rfl,.int _ _⟩
  ·subst h;exact⟨_,by simp only[Op.unary,Op.intBits];rfl,.int _ _⟩
 ·simp at h
theorem JeO {s d:TypeId} {k:IntKind} {n:Int} {k':IntKind} {dd:TypeDesc} (hs:P.underlying s=some dd) (hd:P.underlying d=some (.int k)) :
  (Go.convert s d (.int k' n)).run P w=.ok (.int k (k.wrap n)) w:=by
 unfold Go.convert
 simp[run_underlying hs,run_underlying hd,Result.andThen,Conv.intToInt]
theorem JeP {s d:TypeId} {n:ByteArray} (hs:P.underlying s=some .string) (hd:P.underlying d=some .string) :
  (Go.convert s d (.string n)).run P w=.ok (.string n) w:=by
 unfold Go.convert
 simp[run_underlying hs,run_underlying hd,Result.andThen]
theorem Jak {t:TypeId} {i:TypeInfo} (h:P.info? t=some i) (w:World):(typeInfo t).run P w=.ok i w:=by
 simp[typeInfo,h]
theorem Jg {t:TypeId} {n:Nat} (h:szT P t=some n) (w:World):(Go.sizeOf t).run P w=.ok n w:=by
 unfold szT at h;cases hi:P.info? t with
 |none=>simp[hi] at h
 |some i=>
  simp only[hi,Option.map_some,Ga] at h;unfold Go.sizeOf;simp[Jak hi,h,Result.andThen]
theorem Ja0 (t:TypeId) {d:TypeDesc} (h:P.underlying t=some d) (w:World):(isAgg t).run P w=.ok (JH P t) w:=by
 unfold isAgg JH;rw[Sem.run_bind,run_underlying h w,h];cases d<;>rfl
theorem JJ (b o n:Nat):(⟨b,o,none⟩:Addr).add n=⟨b,o+n,none⟩:=by
 unfold Addr.add;split
 ·rename_i h;subst h;rfl
 ·rfl
theorem JiV {s:TypeId} {i off:Nat} {x:V} {u:Value} {r:V} (hx:RelT cx w X S β α u x) (hf:okField P s i off=true) (h:Jdj off x=some r) :
  ∃z,(Instr.fieldAt s u i).run P w=.ok z w∧RelT cx w X S β α z r:=by
 unfold okField at hf
 split at hf<;>try (simp at hf;done)
 rename_i fs hu
 split at hf<;>try (simp at hf;done)
 rename_i f hfi
 split at hf<;>try (simp at hf;done)
 rename_i n hn
 simp only[Gg,GA,bne_iff_ne,ne_eq] at hf
 obtain⟨rfl,hn0⟩:=hf
 have key:∀b o,(Instr.fieldAt s (.pointer (some ⟨b,o,none⟩)) i).run P w=.ok (.pointer (some ⟨b,o+f.offset,none⟩)) w:=by
  intro b o;unfold Instr.fieldAt;rw[Sem.run_bind,run_underlying hu w];simp only[Result.andThen,hfi,Instr.sureAddr,Sem.run_bind,Sem.run_pure,fieldPlace,Jg hn w,Gj hn0,JJ]
 unfold Jdj at h
 split at h<;>simp only[Ga,reduceCtorEq] at h<;>subst h
 ·obtain⟨h1,rfl⟩:=hx
  exact⟨_,key _ _,h1,rfl⟩
 ·obtain⟨z,rows,f',b,o,cap,hA,rfl,hx⟩:=hx
  exact⟨_,key _ _,z,rows,f',b,o,cap,hA,by rw[GU],hx⟩
 ·simp only[RelT] at hx
  obtain⟨b,o,c,e,fr,rfl,hb,hX,hw,ho,hc⟩:=Ja6 hx
  refine⟨_,key _ _,Ja7 hb hX hw (by omega) (fun j hj=>?_)⟩
  rw[Nat.add_sub_add_right]
  exact hc j hj
theorem Jbw {t e:TypeId} {z:Nat} (hu:P.underlying t=some (.slice e)) (hz:szT P e=some z) (b o:Nat) (k:IntKind) (n:Int) (len cap:Nat)
  (h0:0≤n) (h1:n<(len:Int)):(Instr.indexAt t (.slice (some ⟨b,o,none⟩) len cap) (.int k n)).run P w=.ok (.pointer (some ⟨b,o+n.toNat*z,none⟩)) w:=by
 unfold Instr.indexAt
 simp only[asIntOf,Sem.run_bind,Result.andThen,run_underlying hu w,pure_bind]
 rw[Gl ⟨h0,h1⟩]
 simp only[Sem.run_bind,Jg hz w,Result.andThen,Sem.run_pure,JJ]
theorem Ji7 {t e:TypeId} {z:Nat} {x i:V} {u v:Value} {r:V} (ht:JP P t=some e) (hz:szT P e=some z)
  (hx:RelT cx w X S β α u x) (hi:RelT cx w X S β α v i) (h:Jbc z x i=some r) :
  ∃q,(Instr.indexAt t u v).run P w=.ok q w∧RelT cx w X S β α q r:=by
 have hu:P.underlying t=some (.slice e):=by
  unfold JP at ht;split at ht<;>simp_all
 unfold Jbc at h
 split at h
 ·rename_i z' rows k n
  obtain rfl:=Jx hi
  split at h
  ·rename_i hc
   obtain⟨rfl,h0⟩:=hc
   cases hr:rows[n.toNat]? with
   |none=>simp[hr] at h
   |some row=>
    simp only[hr,Option.map_some,Ga] at h
    subst h
    simp only[RelT] at hx
    have hlt:n.toNat<rows.length:=by
     rcases Gt n.toNat rows.length with h|h
     ·exact h
     ·simp[List.getElem?_eq_none h] at hr
    have hrow:gr rows n.toNat=row:=by simp[gr,hr]
    rcases JR hx with ⟨⟨a0,rfl⟩,rfl⟩|⟨b,o,cap,c,e',fr,rfl,hb,hX,hw,hcap,hzz,hcc⟩
    ·simp at hlt
    ·refine⟨_,Jbw hu hz b o k n _ _ h0 (by omega),?_⟩
     have hjz:row.length=z':=by have:=hzz n.toNat hlt;rwa [hrow] at this
     refine Ja7 hb hX hw (G1 _) (fun j hj=>?_)
     have:=hcc n.toNat j hlt (by omega)
     rwa [hrow] at this
  ·simp at h
 ·rename_i s z' m k n
  obtain rfl:=Jx hi
  split at h
  ·rename_i hc
   obtain⟨rfl,h0,h1⟩:=hc
   simp only[Ga] at h
   subst h
   obtain⟨rows,f,a,cap,hA,rfl,ha,ho⟩:=hx
   obtain⟨b,o,rfl⟩:=ha (by omega)
   refine⟨_,Jbw hu hz b o k n _ _ h0 h1,z',rows,f,b,o,cap,hA,by simp,fun hf=>⟨(ho hf).1,fun e=>((ho hf).2 e).symm⟩⟩
  ·simp at h
 ·simp at h
theorem JgS {t e:TypeId} {z n:Nat} {x i:V} {u v:Value} {r:V} (hu:P.underlying t=some (.array n e)) (hz:szT P e=some z)
  (hx:RelT cx w X S β α u x) (hi:RelT cx w X S β α v i) (h:Jbu z n x i=some r) :
  ∃q,(Instr.indexAt t u v).run P w=.ok q w∧RelT cx w X S β α q r:=by
 have key:∀b o k (m:Int),0≤m→m<(n:Int)→(Instr.indexAt t (.pointer (some ⟨b,o,none⟩)) (.int k m)).run P w=.ok (.pointer (some ⟨b,o+m.toNat*z,none⟩)) w:=by
  intro b o k m h0 h1;unfold Instr.indexAt;simp only[asIntOf,Sem.run_bind,Result.andThen,run_underlying hu w,pure_bind,Instr.sureAddr];rw[Gl ⟨h0,h1⟩];simp only[Sem.run_bind,Jg hz w,Result.andThen,Sem.run_pure,JJ]
 unfold Jbu at h
 split at h
 ·obtain rfl:=Jx hi
  split at h
  ·rename_i hc
   simp only[Ga] at h
   subst h
   obtain⟨h1,rfl⟩:=hx
   exact⟨_,key _ _ _ _ hc.1 hc.2,h1,rfl⟩
  ·simp at h
 ·obtain rfl:=Jx hi
  split at h
  ·rename_i hc
   simp only[Ga] at h
   subst h
   simp only[RelT] at hx
   obtain⟨b,o,c,e,fr,rfl,hb,hX,hw,ho,hcc⟩:=Ja6 hx
   refine⟨_,key _ _ _ _ hc.1 hc.2,Ja7 hb hX hw (by omega) (fun j hj=>?_)⟩
   rw[Nat.add_sub_add_right]
   exact hcc j hj
  ·simp at h
 ·simp at h
theorem Jje {t:TypeId} {x i:V} {u v:Value} {r:V} (hu:P.underlying t=some .string)
  (hx:RelT cx w X S β α u x) (hi:RelT cx w X S β α v i) (h:Jeg x i=some r) :
  ∃q,(Instr.index t u v).run P w=.ok q w∧RelD cx w X q r:=by
 unfold Jeg at h
 split at h
 ·rename_i l k n
  obtain rfl:=Jx hi
  obtain⟨s,rfl,rfl⟩:=Jar hx
  split at h
  ·rename_i h0
   cases hb:s.data.toList[n.toNat]? with
   |none=>simp[hb] at h
   |some b=>
    simp only[hb,Option.map_some,Ga] at h
    subst h
    refine⟨.int .u8 b.toNat,?_,.int _ _⟩
    have hs:s[n.toNat]?=some b:=by
     have hlt:n.toNat<s.size:=by
      rcases Gt n.toNat s.data.toList.length with h'|h'
      ·rwa [Array.length_toList] at h'
      ·simp[List.getElem?_eq_none h'] at hb
     rw[ByteArray.getElem?_lt' s _ hlt,←hb];have:s.data.toList[n.toNat]?=some (s.data[n.toNat]'hlt):=by simp
     rw[this];rfl
    unfold Instr.index
    simp only[asIntOf,Sem.run_bind,Result.andThen,run_underlying hu w,pure_bind,Gl h0,hs,Sem.run_pure]
  ·simp at h
 ·simp at h
theorem Jjm {st:Bool} {t ty:TypeId} {x:V} {u:Value} {r:V} (hu:JbX P st t=true)
  (hx:RelT cx w X S β α u x) (h:Jdp st x=some r) :
  ∃q,(Builtin.len_ #[t] ty #[u]).run P w=.ok q w∧RelD cx w X q r:=by
 have hsl:∀a n cap,st=false→(Builtin.len_ #[t] ty #[.slice a n cap]).run P w=.ok (.int .i64 n) w:=by
  intro a n cap hne;subst hne;unfold JbX at hu;split at hu<;>simp at hu;rename_i hst hd
  ·simp at hst
  ·rename_i e _ hd;unfold Builtin.len_;simp only[List.getElem?_toArray,List.getElem?_cons_zero,Sem.run_bind,run_underlying hd w,Result.andThen]
   rfl
 unfold Jdp at h
 split at h<;>simp only[Ga,reduceCtorEq] at h<;>subst h
 ·simp only[RelT] at hx
  rcases JR hx with ⟨⟨a0,rfl⟩,rfl⟩|⟨b,o,cap,c,e',fr,rfl,-⟩
  ·exact⟨_,hsl _ _ _ rfl,.int _ _⟩
  ·exact⟨_,hsl _ _ _ rfl,.int _ _⟩
 ·obtain⟨s,rfl,rfl⟩:=Jar hx
  have hd:P.underlying t=some .string:=by
   unfold JbX at hu;split at hu<;>simp_all
  refine⟨.int .i64 s.size,?_,?_⟩
  ·unfold Builtin.len_
   simp only[List.getElem?_toArray,List.getElem?_cons_zero,Sem.run_bind,run_underlying hd w,Result.andThen]
   rfl
  ·have:s.size=s.data.toList.length:=Array.length_toList.symm
   rw[this];exact .int _ _
 ·obtain⟨rows,f,a,cap,hA,rfl,-⟩:=hx
  exact⟨_,hsl _ _ _ rfl,.int _ _⟩
theorem bound_ok {x:Option V} {v:Option Value} {d n:Nat} (h:bound x d=some n)
  (hx:(v=none∧x=none)∨∃a b,v=some a∧x=some b∧RelT cx w X S β α a b) :
  (v=none∧n=d)∨∃k,v=some (.int k n):=by
 rcases hx with ⟨rfl,rfl⟩|⟨a,b,rfl,rfl,hr⟩
 ·simp[bound] at h;exact .inl ⟨rfl,h.symm⟩
 ·unfold bound at h
  split at h
  ·simp at *
  ·rename_i k m hb
   simp only[Ga] at hb
   subst hb
   obtain rfl:=Jx hr
   split at h
   ·rename_i h0
    simp only[Ga] at h
    subst h
    exact .inr ⟨_,by rw[Int.toNat_of_nonneg h0]⟩
   ·simp at h
  ·simp at h
theorem JW {k:IntKind} {n y:Nat} {code:BoundsCode} (h:n≤y):(Instr.sliceBound (.int k n) y code).run P w=.ok n w:=by
 unfold Instr.sliceBound;simp only[asIntOf,pure_bind];rw[Gl ⟨by omega,by omega⟩];simp
theorem J6 {isS:Bool} {len cap h l:Nat} {lo hi:Option Value} (hh:(hi=none∧h=len)∨∃k,hi=some (.int k h)) (hl:(lo=none∧l=0)∨∃k,lo=some (.int k l))
  (h1:l≤h) (h2:h≤cap):(Instr.sliceBounds isS len cap lo hi none).run P w=.ok (l,h,cap) w:=by
 unfold Instr.sliceBounds
 rcases hh with ⟨rfl,rfl⟩|⟨k,rfl⟩<;>rcases hl with ⟨rfl,rfl⟩|⟨k',rfl⟩
 ·simp
 ·simp[JW h1,Result.andThen]
 ·simp[JW h2,Result.andThen]
 ·simp[JW h2,JW h1,Result.andThen]
theorem JfN {st:Bool} {t:TypeId} {z:Nat} {x:V} {u:Value} {lo hi:Option V} {lo' hi':Option Value} {r:V}
  (ht:Jbe P st z t=true)
  (hx:RelT cx w X S β α u x)
  (hlo:(lo'=none∧lo=none)∨∃a b,lo'=some a∧lo=some b∧RelT cx w X S β α a b)
  (hhi:(hi'=none∧hi=none)∨∃a b,hi'=some a∧hi=some b∧RelT cx w X S β α a b)
  (h:slV st z x lo hi=some r):∃q,(Instr.sliceAt t u lo' hi' none).run P w=.ok q w∧RelD cx w X q r:=by
 unfold slV at h
 split at h
 ·rename_i l
  obtain⟨s,rfl,rfl⟩:=Jar hx
  have hd:P.underlying t=some .string:=by
   unfold Jbe at ht;split at ht<;>simp_all
  simp only[Gb] at h
  obtain⟨hn,h1,ln,h2,h3⟩:=h
  split at h3<;>simp only[Ga,reduceCtorEq] at h3
  rename_i hc
  subst h3
  have hsz:s.data.toList.length=s.size:=Array.length_toList
  rw[hsz] at h1 hc
  refine⟨.string (s.extract ln hn),?_,?_⟩
  ·unfold Instr.sliceAt Instr.slice
   simp only[Sem.run_bind,run_underlying hd w,Result.andThen,Option.isSome_none,Gr,GD]
   simp only[J6 (bound_ok h1 hhi) (bound_ok h2 hlo) hc.1 hc.2,Sem.run_pure]
  ·have:=RelD.str (cx:=cx) (w:=w) (X:=X) (s.extract ln hn)
   have e:(s.extract ln hn).data.toList=(s.data.toList.take hn).drop ln:=by
    simp[ByteArray.data_extract,Array.toList_extract,List.extract_eq_take_drop,List.drop_take]
   rwa [e] at this
 ·rename_i z' rows
  have hd:∃e,P.underlying t=some (.slice e)∧szT P e=some z:=by
   unfold Jbe at ht;split at ht<;>simp_all
  obtain⟨e,hd,hz⟩:=hd
  simp only[Gb] at h
  obtain⟨hn,h1,ln,h2,h3⟩:=h
  split at h3<;>simp only[Ga,reduceCtorEq] at h3
  rename_i hc
  obtain⟨rfl,hc1,hc2⟩:=hc
  subst h3
  simp only[RelT] at hx
  rcases JR hx with ⟨⟨a0,rfl⟩,rfl⟩|⟨b,o,cap,c,e',fr,rfl,hb,hX,hw,hcap,hzz,hcc⟩
  ·simp only[List.length_nil,Nat.le_zero] at hc2
   subst hc2
   obtain rfl:ln=0:=by omega
   refine⟨.slice a0 0 0,?_,by simpa using RelD.nilslice _ _⟩
   unfold Instr.sliceAt Instr.slice
   simp only[Sem.run_bind,run_underlying hd w,Result.andThen]
   simp only[J6 (len:=0) (cap:=0) (bound_ok h1 hhi) (bound_ok h2 hlo) hc1 (Gm _),Jg hz w,Sem.run_pure]
   cases a0<;>simp
  ·refine⟨.slice (some ⟨b,if cap=ln then o else o+ln*z',none⟩) (hn-ln) (cap-ln),?_,?_⟩
   ·unfold Instr.sliceAt Instr.slice
    simp only[Sem.run_bind,run_underlying hd w,Result.andThen]
    simp only[J6 (bound_ok h1 hhi) (bound_ok h2 hlo) hc1 (GK hc2 hcap),Jg hz w,Sem.run_pure]
    by_cases hcl:cap=ln
    ·simp[hcl]
    ·simp[hcl,JJ]
   ·have hlen:((rows.take hn).drop ln).length=hn-ln:=by simp;omega
    refine Jbh hb hX hw (by omega) (fun i hi=>?_) (fun i j hi hj=>?_) hlen
    ·have hg:gr ((rows.take hn).drop ln) i=gr rows (ln+i):=by
      simp only[gr,List.getD_eq_getElem?_getD,List.getElem?_drop];rw[List.getElem?_take_of_lt (by omega)]
     rw[hg];exact hzz _ (by omega)
    ·have hg:gr ((rows.take hn).drop ln) i=gr rows (ln+i):=by
      simp only[gr,List.getD_eq_getElem?_getD,List.getElem?_drop];rw[List.getElem?_take_of_lt (by omega)]
     rw[hg]
     have:=hcc (ln+i) j (by omega) hj
     rw[Gj (by omega)]
     rw[show o+ln*z'+i*z'+j=o+(ln+i)*z'+j from by rw[GT];omega]
     exact this
 ·simp at h
theorem JiP {x:V} {u:Value} {i:Nat} {r:V} (hx:RelT cx w X S β α u x) (h:JeY i x=some r) :
  ∃q,(Instr.extract u i).run P w=.ok q w∧RelT cx w X S β α q r:=by
 unfold JeY at h
 split at h
 ·rename_i vs
  obtain⟨cs,rfl,hl,hc⟩:=hx
  have hi:i<vs.length:=by
   rcases Gt i vs.length with h'|h'
   ·exact h'
   ·simp[List.getElem?_eq_none h'] at h
  obtain⟨q,hq,hr⟩:=hc i hi
  have hgv:gv vs i=r:=by simp[gv,h]
  rw[hgv] at hr
  refine⟨q,by simp[Instr.extract,hq],?_⟩
  cases r<;>first|exact hr|exact .of_data hr
 ·simp at h
theorem JlF {mx:Bool} {k:IntKind} {a b:Int} {ts:Array TypeId} {ty:TypeId} :
  ((if mx then Builtin.max_ else Builtin.min_) ts ty #[.int k a,.int k b]).run P w=.ok (.int k (if (if mx then a<b else b<a) then b else a)) w:=by
 cases mx
 ·simp[Builtin.min_,Builtin.min2]
 ·simp[Builtin.max_,Builtin.max2]
end
structure Grow (w w':World):Prop where
 size:w.heap.size≤w'.heap.size
 block:∀b,b<w.heap.size→w'.heap[b]?=w.heap[b]?
theorem Grow.refl (w:World):Grow w w:=⟨Gm _,fun _ _=>rfl⟩
theorem Grow.trans {a b c:World} (h:Grow a b) (k:Grow b c):Grow a c:=
 ⟨GK h.size k.size,fun i hi=>(k.block i (GC hi h.size)).trans (h.block i hi)⟩
theorem Grow.of_below {w w':World} (h:Below w.heap.size w w'):Grow w w':=⟨h.size,h.block⟩
theorem JN {w:World} {b:Nat} {o:Obj} (h:w.heap[b]?=some o):b<w.heap.size:=by
 rcases Gt b w.heap.size with h'|h'
 ·exact h'
 ·simp[Array.getElem?_eq_none h'] at h
abbrev orP (X M:Nat→Prop):Nat→Prop:=fun b=>X b∨M b
section
variable {cx:Cx} {w w':World} {Y Y':Nat→Prop} {S S':St} {β β':Nat→Nat} {α α':Nat→Value}
def ATr (S S':St) (α α':Nat→Value):Prop:=∀s z rows f,S.A s=some (z,rows,f)→
 ∃rows' f',S'.A s=some (z,rows',f')∧(f'≠.dead→f≠.dead∧rows.length≤rows'.length∧(rows'.length=rows.length→α' s=α s))
theorem ATr.refl (S:St) (α:Nat→Value):ATr S S α α:=fun s z rows f h=>⟨rows,f,h,fun h=>⟨h,Gm _,fun _=>rfl⟩⟩
theorem RelO.tr (hA:ATr S S' α α') {v s z n} (h:RelO S α v s z n):RelO S' α' v s z n:=by
 obtain⟨rows,f,a,cap,hs,rfl,ha,ho⟩:=h;obtain⟨rows',f',hs',h'⟩:=hA s z rows f hs;refine⟨rows',f',a,cap,hs',rfl,ha,fun hf=>?_⟩;obtain⟨h1,h2,h3⟩:=h' hf;obtain⟨h4,h5⟩:=ho h1;exact⟨by omega,fun e=>by rw[h3 (by omega)];exact h5 (by omega)⟩
theorem RelC.tr (hD:∀u x,RelD cx w Y u x→RelD cx w' Y' u x) (hA:ATr S S' α α') {v:Value} {x:V} (h:RelC cx w Y S α v x):RelC cx w' Y' S' α' v x:=by
 cases x<;>first|exact hD _ _ h|exact RelO.tr hA h
theorem RelT.tr (hD:∀u x,RelD cx w Y u x→RelD cx w' Y' u x) (hA:ATr S S' α α') (hM:∀s,(S.μ s).isSome→(S'.μ s).isSome∧β' s=β s)
  {v:Value} {x:V} (h:RelT cx w Y S β α v x):RelT cx w' Y' S' β' α' v x:=by
 cases x with
 |own s z n=>exact RelO.tr hA h
 |lref s o=>obtain⟨h1,rfl⟩:=h;obtain⟨h2,h3⟩:=hM s h1;exact⟨h2,by rw[h3]⟩
 |eref s i o m=>
  obtain⟨z,rows,f,b,o',cap,hs,rfl,ho⟩:=h
  obtain⟨rows',f',hs',h'⟩:=hA s z rows f hs
  refine⟨z,rows',f',b,o',cap,hs',rfl,fun hf=>?_⟩
  obtain⟨h1,h2,h3⟩:=h' hf
  obtain⟨h4,h5⟩:=ho h1
  exact⟨by omega,fun e=>by rw[h3 (by omega)];exact h5 (by omega)⟩
 |agg vs=>
  obtain⟨cs,rfl,hl,hc⟩:=h
  refine⟨cs,rfl,hl,fun i hi=>?_⟩
  obtain⟨u,h1,h2,h3⟩:=hc i hi
  exact⟨u,h1,h2,h3.tr hD hA⟩
 |tuple vs=>
  obtain⟨cs,rfl,hl,hc⟩:=h
  refine⟨cs,rfl,hl,fun i hi=>?_⟩
  obtain⟨u,h1,h3⟩:=hc i hi
  exact⟨u,h1,h3.tr hD hA⟩
 |_=>exact hD _ _ h
theorem ArrOK.tr {v:Value} {z:Nat} {rows:List (List V)} (h:ArrOK cx w Y v z rows) (hD:∀u x,RelD cx w Y u x→RelD cx w' Y' u x)
  (hb:∀b,hdr v=some b→w'.heap[b]?=w.heap[b]?):ArrOK cx w' Y' v z rows:=by
 refine⟨h.len,?_⟩
 rcases h.at_ with h|⟨b,o,cap,c,e,rfl,h1,h2,h3,h5⟩
 ·exact .inl h
 ·refine .inr ⟨b,o,cap,c,e,rfl,(hb b rfl).trans h1,h2,h3,fun i j hi hj=>?_⟩
  obtain⟨u,a,a',r⟩:=h5 i j hi hj
  exact⟨u,a,a',hD _ _ r⟩
theorem ArrOK.lt {v:Value} {z:Nat} {rows:List (List V)} (h:ArrOK cx w Y v z rows) {b:Nat} (hb:hdr v=some b):b<w.heap.size:=by
 rcases h.at_ with ⟨rfl,-⟩|⟨b',o,cap,c,e,rfl,h1,-⟩
 ·simp[hdr] at hb
 ·simp only[hdr,Ga] at hb;subst hb;exact JN h1
end
section
variable {cx:Cx} {B:Nat→Prop} {X:Nat→Prop} {S:St} {w w':World} {β:Nat→Nat} {α:Nat→Value} {M M':Nat→Prop}
theorem RelW.varLt (h:RelW cx B X S w β α M) {s:Nat} {cs:List V} {f:Bool} (hs:S.μ s=some (cs,f)):β s<w.heap.size:=by
 obtain⟨_,_,_,c,e,h1,_⟩:=h.var s cs f hs;exact JN h1
theorem Jao (hg:Grow w w') (h2:∀b,M' b→M b∨w.heap.size≤b) {u:Value} {x:V} (h:RelD cx w (orP X M) u x):RelD cx w' (orP X M') u x:=
 h.mono hg.size (fun b hb _=>hg.block b hb) (fun b hb hn=>by
  rintro (hX|hM)
  ·exact hn (.inl hX)
  ·rcases h2 b hM with h|h
   ·exact hn (.inr h)
   ·omega)
theorem RelW.grow (h:RelW cx B X S w β α M) (hg:Grow w w') (h1:∀b,M b→M' b) (h2:∀b,M' b→M b∨(w.heap.size≤b∧b<w'.heap.size)) :
  RelW cx B X S w' β α M':=by
 have hD:∀u x,RelD cx w (orP X M) u x→RelD cx w' (orP X M') u x:=fun u x hr=>Jao hg (fun b hb=>(h2 b hb).imp id (·.1)) hr
 refine⟨h.xb,⟨h.glob.1,cx.Gst w w' h.glob.2 fun b hb=>hg.block b (h.size b (h.glob.1 b hb))⟩,fun b hb=>GC (h.size b hb) hg.size,fun b hb=>?_,fun s cs f hs=>?_,h.varInj,fun s z rows f hs hf=>?_,h.arrInj,h.arrVar⟩
 ·rcases h2 b hb with hb|hb
  ·exact⟨(h.m b hb).1,GC (h.m b hb).2 hg.size⟩
  ·exact⟨fun hB=>by have:=h.size b hB;omega,hb.2⟩
 ·have hlt:=h.varLt hs
  obtain⟨a1,a2,a3,c,e,a4,a5,a6⟩:=h.var s cs f hs
  refine⟨a1,fun hf=>h1 _ (a2 hf),fun hf=>⟨fun hm=>?_,(a3 hf).2⟩,c,e,(hg.block _ hlt).trans a4,a5,fun i hi=>?_⟩
  ·rcases h2 _ hm with h'|h'
   ·exact (a3 hf).1 h'
   ·omega
  ·obtain⟨u,b1,b2,b3⟩:=a6 i hi
   exact⟨u,b1,b2,b3.tr hD (ATr.refl _ _)⟩
 ·obtain⟨a1,a2⟩:=h.arr s z rows f hs hf
  refine⟨a1.tr hD (fun b hb=>hg.block _ (a1.lt hb)),fun b hb=>⟨(a2 b hb).1,fun hl=>h1 _ ((a2 b hb).2.1 hl),fun hl hm=>?_⟩⟩
  rcases h2 _ hm with h'|h'
  ·exact (a2 b hb).2.2 hl h'
  ·have:=a1.lt hb;omega
theorem RelW.addVar (h:RelW cx B X S w β α M) {d b0:Nat} {cs:List V} (hd:S.μ d=none) (hM:M b0)
  {c:Array Value} {e:TypeId} (hw:w.heap[b0]?=some (.cells c e (0,0))) (hc:c.size=cs.length)
  (hcs:∀i,i<cs.length→∃u,c[i]?=some u∧u.oneCell'=true∧RelC cx w (orP X M) S α u (gv cs i))
  (hv:∀s,(S.μ s).isSome→β s≠b0) (ha:∀s z rows f,S.A s=some (z,rows,f)→f≠.dead→hdr (α s)≠some b0) :
  RelW cx B X {S with μ:=upd S.μ d (some (cs,false))} w (upd β d b0) α M:=by
 have hne:∀s,(S.μ s).isSome→s≠d:=fun s hs e=>by rw[e,hd] at hs;simp at hs
 refine⟨h.xb,h.glob,h.size,h.m,fun s cs' f hs=>?_,fun s s' hs hs' he=>?_,h.arr,h.arrInj,fun s z rows f s' hs hf hs'=>?_⟩
 ·by_cases hsd:s=d
  ·subst hsd
   simp only[upd,Gx,Ga,Gf] at hs ⊢
   obtain⟨rfl,rfl⟩:=hs
   exact⟨(h.m b0 hM).1,fun _=>hM,fun hf=>by simp at hf,c,e,hw,hc,hcs⟩
  ·simp only[upd,Gj hsd] at hs ⊢
   exact h.var s cs' f hs
 ·simp only[upd] at hs hs' he
  by_cases h1:s=d<;>by_cases h2:s'=d
  ·rw[h1,h2]
  ·rw[Gl h1,Gj h2] at he;rw[Gj h2] at hs';exact absurd he.symm (hv _ hs')
  ·rw[Gj h1,Gl h2] at he;rw[Gj h1] at hs;exact absurd he (hv _ hs)
  ·rw[Gj h1,Gj h2] at he;rw[Gj h1] at hs;rw[Gj h2] at hs';exact h.varInj _ _ hs hs' he
 ·simp only[upd] at hs' ⊢
  split
  ·exact ha s z rows f hs hf
  ·rename_i hn;rw[Gj hn] at hs';exact h.arrVar s z rows f s' hs hf hs'
theorem RelW.addArr (h:RelW cx B X S w β α M) {d z0:Nat} {rows0:List (List V)} {v0:Value} (hd:S.A d=none)
  (ha:ArrOK cx w (orP X M) v0 z0 rows0) (hM:∀b,hdr v0=some b→M b)
  (hv:∀s b,(S.μ s).isSome→hdr v0=some b→β s≠b) (haa:∀s z rows f,S.A s=some (z,rows,f)→f≠.dead→∀b,hdr v0=some b→hdr (α s)≠some b) :
  RelW cx B X {S with A:=upd S.A d (some (z0,rows0,.live))} w β (upd α d v0) M:=by
 have hT:ATr S {S with A:=upd S.A d (some (z0,rows0,.live))} α (upd α d v0):=fun s z rows f hs=>by
  have:s≠d:=fun e=>by rw[e,hd] at hs;simp at hs
  exact⟨rows,f,by simp[upd,this,hs],fun hf=>⟨hf,Gm _,fun _=>by simp[upd,this]⟩⟩
 refine⟨h.xb,h.glob,h.size,h.m,fun s cs' f hs=>?_,h.varInj,fun s z rows f hs hf=>?_,fun s s' z rows f z' rows' f' hs hf hs' hf' b hb hb'=>?_,fun s z rows f s' hs hf hs'=>?_⟩
 ·obtain⟨a1,a2,a3,c,e,a4,a5,a6⟩:=h.var s cs' f hs
  exact⟨a1,a2,a3,c,e,a4,a5,fun i hi=>by obtain⟨u,b1,b2,b3⟩:=a6 i hi;exact⟨u,b1,b2,b3.tr (fun _ _ h=>h) hT⟩⟩
 ·by_cases hsd:s=d
  ·subst hsd
   simp only[upd,Gx,Ga,Gf] at hs ⊢
   obtain⟨rfl,rfl,rfl⟩:=hs
   exact⟨ha,fun b hb=>⟨(h.m b (hM b hb)).1,fun _=>hM b hb,fun hf=>by simp at hf⟩⟩
  ·simp only[upd,Gj hsd] at hs ⊢
   exact h.arr s z rows f hs hf
 ·simp only[upd] at hs hs' hb hb'
  by_cases h1:s=d<;>by_cases h2:s'=d
  ·rw[h1,h2]
  ·rw[Gl h1] at hb;rw[Gj h2] at hb' hs';exact absurd hb' (haa s' z' rows' f' hs' hf' b hb)
  ·rw[Gj h1] at hb hs;rw[Gl h2] at hb';exact absurd hb (haa s z rows f hs hf b hb')
  ·rw[Gj h1] at hb hs;rw[Gj h2] at hb' hs';exact h.arrInj s s' z rows f z' rows' f' hs hf hs' hf' b hb hb'
 ·simp only[upd] at hs ⊢
  split
  ·intro hb;exact hv s' _ hs' hb rfl
  ·rename_i hn;rw[Gj hn] at hs;exact h.arrVar s z rows f s' hs hf hs'
structure Turn (b0:Nat) (w w':World):Prop where
 size:w'.heap.size=w.heap.size
 block:∀b,b≠b0→w'.heap[b]?=w.heap[b]?
theorem Ja2 {b0:Nat} (hg:Turn b0 w w') (hM:M b0) {u:Value} {x:V} (h:RelD cx w (orP X M) u x):RelD cx w' (orP X M) u x:=
 h.mono (by rw[hg.size];exact Gm _) (fun b hb hn=>hg.block b (fun e=>hn (.inr (e▸hM)))) (fun _ _ h=>h)
theorem RelW.setVar (h:RelW cx B X S w β α M) {s:Nat} {cs cs':List V} (hs:S.μ s=some (cs,false)) (hg:Turn (β s) w w')
  {c:Array Value} {e:TypeId} (hw:w'.heap[β s]?=some (.cells c e (0,0))) (hc:c.size=cs'.length)
  (hcs:∀i,i<cs'.length→∃u,c[i]?=some u∧u.oneCell'=true∧RelC cx w (orP X M) S α u (gv cs' i)) :
  RelW cx B X {S with μ:=upd S.μ s (some (cs',false))} w' β α M:=by
 have hM:M (β s):=(h.var s cs false hs).2.1 rfl
 have hD:∀u x,RelD cx w (orP X M) u x→RelD cx w' (orP X M) u x:=fun u x hr=>Ja2 hg hM hr
 have hT:ATr S {S with μ:=upd S.μ s (some (cs',false))} α α:=ATr.refl S α
 have hi:∀t,((upd S.μ s (some (cs',false))) t).isSome→(S.μ t).isSome:=fun t ht=>by
  by_cases e:t=s
  ·rw[e,hs];rfl
  ·simpa [upd,e] using ht
 refine⟨h.xb,⟨h.glob.1,cx.Gst w w' h.glob.2 fun b hb=>hg.block b (fun e=>(h.m _ hM).1 (e▸h.glob.1 b hb))⟩,by rw[hg.size];exact h.size,fun b hb=>by rw[hg.size];exact h.m b hb,fun t ct f ht=>?_,fun t t' ht ht' he=>h.varInj _ _ (hi _ ht) (hi _ ht') he,fun t z rows f ht hf=>?_,h.arrInj,fun t z rows f t' ht hf ht'=>h.arrVar t z rows f t' ht hf (hi _ ht')⟩
 ·by_cases e':t=s
  ·subst e'
   simp only[upd,Gx,Ga,Gf] at ht
   obtain⟨rfl,rfl⟩:=ht
   refine⟨(h.var t cs false hs).1,fun _=>hM,fun hf=>by simp at hf,c,e,hw,hc,fun i hi=>?_⟩
   obtain⟨u,b1,b2,b3⟩:=hcs i hi
   exact⟨u,b1,b2,b3.tr hD hT⟩
  ·simp only[upd,Gj e'] at ht
   obtain⟨a1,a2,a3,c',e'',a4,a5,a6⟩:=h.var t ct f ht
   refine⟨a1,a2,a3,c',e'',(hg.block _ (fun hb=>e' (h.varInj t s (by simp[ht]) (by simp[hs]) hb))).trans a4,a5,fun i hi=>?_⟩
   obtain⟨u,b1,b2,b3⟩:=a6 i hi
   exact⟨u,b1,b2,b3.tr hD hT⟩
 ·obtain⟨a1,a2⟩:=h.arr t z rows f ht hf
  exact⟨a1.tr hD (fun b hb=>hg.block b (fun e'=>h.arrVar t z rows f s ht hf (by simp[hs]) (e'▸hb))),a2⟩
theorem JaI {s z:Nat} {rows rows':List (List V)} {v':Value} (hs:S.A s=some (z,rows,.live)) (hl:rows.length≤rows'.length)
  (he:rows'.length=rows.length→v'=α s):ATr S {S with A:=upd S.A s (some (z,rows',.live))} α (upd α s v'):=by
 intro t z' r f ht
 by_cases e:t=s
 ·subst e
  rw[hs] at ht
  simp only[Ga,Gf] at ht
  obtain⟨rfl,rfl,rfl⟩:=ht
  exact⟨rows',.live,by simp[upd],fun _=>⟨by simp,hl,fun e'=>by simp[upd,he e']⟩⟩
 ·exact⟨r,f,by simp[upd,e,ht],fun hf=>⟨hf,Gm _,fun _=>by simp[upd,e]⟩⟩
theorem RelW.setArr (h:RelW cx B X S w β α M) {s z:Nat} {rows rows':List (List V)} (hs:S.A s=some (z,rows,.live))
  {v':Value} (hw:(∀b,some b≠hdr (α s)→b<w.heap.size→w'.heap[b]?=w.heap[b]?)) (hsz:w.heap.size≤w'.heap.size)
  (hh:hdr v'=hdr (α s)∨∃b,hdr v'=some b∧w.heap.size≤b∧b<w'.heap.size)
  (hl:rows.length≤rows'.length) (he:rows'.length=rows.length→v'=α s)
  (h1:∀b,M b→M' b) (h2:∀b,M' b→M b∨(w.heap.size≤b∧b<w'.heap.size)) (h3:∀b,hdr v'=some b→M' b)
  (ha:ArrOK cx w' (orP X M') v' z rows') :
  RelW cx B X {S with A:=upd S.A s (some (z,rows',.live))} w' β (upd α s v') M'∧(∀u x,RelD cx w (orP X M) u x→RelD cx w' (orP X M') u x):=by
 obtain⟨p1,p2⟩:=h.arr s z rows .live hs (by simp)
 have hD:∀u x,RelD cx w (orP X M) u x→RelD cx w' (orP X M') u x:=fun u x hr=>
  hr.mono hsz (fun b hb hn=>hw b (fun e=>hn (.inr ((p2 b e.symm).2.1 rfl))) hb) (fun b hb hn=>by
   rintro (hX|hM)
   ·exact hn (.inl hX)
   ·rcases h2 b hM with h|h
    ·exact hn (.inr h)
    ·omega)
 have hT:=JaI (α:=α) (v':=v') hs hl he
 have keep:∀t,(S.μ t).isSome→some (β t)≠hdr (α s):=fun t ht e=>h.arrVar s z rows .live t hs (by simp) ht e.symm
 refine⟨⟨h.xb,⟨h.glob.1,cx.Gst w w' h.glob.2 fun b hb=>hw b (fun e=>(p2 b e.symm).1 (h.glob.1 b hb)) (h.size b (h.glob.1 b hb))⟩,fun b hb=>GC (h.size b hb) hsz,fun b hb=>?_,fun t ct f ht=>?_,h.varInj,fun t z' r f ht hf=>?_,fun t t' z1 r1 f1 z2 r2 f2 ht hf ht' hf' b hb hb'=>?_,fun t z' r f t' ht hf ht'=>?_⟩,hD⟩
 ·rcases h2 b hb with hb|hb
  ·exact⟨(h.m b hb).1,GC (h.m b hb).2 hsz⟩
  ·exact⟨fun hB=>by have:=h.size b hB;omega,hb.2⟩
 ·have hlt:=h.varLt ht
  obtain⟨a1,a2,a3,c',e'',a4,a5,a6⟩:=h.var t ct f ht
  refine⟨a1,fun hf=>h1 _ (a2 hf),fun hf=>⟨fun hm=>?_,(a3 hf).2⟩,c',e'',(hw _ (keep t (Gw.2 ⟨_,ht⟩)) hlt).trans a4,a5,fun i hi=>?_⟩
  ·rcases h2 _ hm with h'|h'
   ·exact (a3 hf).1 h'
   ·omega
  ·obtain⟨u,b1,b2,b3⟩:=a6 i hi
   exact⟨u,b1,b2,b3.tr hD hT⟩
 ·by_cases e:t=s
  ·subst e
   simp only[upd,Gx,Ga,Gf] at ht ⊢
   obtain⟨rfl,rfl,rfl⟩:=ht
   refine⟨ha,fun b hb=>⟨?_,fun _=>h3 b hb,fun hf=>by simp at hf⟩⟩
   rcases hh with hh|⟨b',hb',h4,h5⟩
   ·rw[hh] at hb;exact (p2 b hb).1
   ·rw[hb'] at hb;simp only[Ga] at hb;subst hb;exact fun hB=>by have:=h.size _ hB;omega
  ·simp only[upd,Gj e] at ht ⊢
   obtain⟨a1,a2⟩:=h.arr t z' r f ht hf
   refine⟨a1.tr hD (fun b hb=>hw b (fun e'=>e (h.arrInj t s z' r f z rows .live ht hf hs (by simp) b hb e'.symm)) (a1.lt hb)),
    fun b hb=>⟨(a2 b hb).1,fun hl=>h1 _ ((a2 b hb).2.1 hl),fun hl hm=>?_⟩⟩
   rcases h2 _ hm with h'|h'
   ·exact (a2 b hb).2.2 hl h'
   ·have:=a1.lt hb;omega
 ·simp only[upd] at ht ht' hb hb'
  have other:∀t z1 r1 f1,t≠s→S.A t=some (z1,r1,f1)→f1≠.dead→hdr (α t)=some b→hdr v'=some b→False:=fun t z1 r1 f1 hne ht hf hb hv=>by
   rcases hh with hh|⟨b',hb',h4,h5⟩
   ·rw[hh] at hv;exact hne (h.arrInj t s z1 r1 f1 z rows .live ht hf hs (by simp) b hb hv)
   ·rw[hb'] at hv;simp only[Ga] at hv;subst hv;have:=(h.arr t z1 r1 f1 ht hf).1.lt hb;omega
  by_cases e1:t=s<;>by_cases e2:t'=s
  ·rw[e1,e2]
  ·rw[Gl e1] at hb;rw[Gj e2] at hb' ht';exact (other t' z2 r2 f2 e2 ht' hf' hb' hb).elim
  ·rw[Gj e1] at hb ht;rw[Gl e2] at hb';exact (other t z1 r1 f1 e1 ht hf hb hb').elim
  ·rw[Gj e1] at hb ht;rw[Gj e2] at hb' ht';exact h.arrInj t t' z1 r1 f1 z2 r2 f2 ht hf ht' hf' b hb hb'
 ·simp only[upd] at ht ⊢
  split
  ·intro hb
   rcases hh with hh|⟨b',hb',h4,h5⟩
   ·rw[hh] at hb;exact keep t' ht' hb.symm
   ·rw[hb'] at hb;simp only[Ga] at hb
    obtain⟨x,hx⟩:=Gw.1 ht'
    have:=h.varLt (cs:=x.1) (f:=x.2) hx
    omega
  ·rename_i hn;rw[Gj hn] at ht;exact h.arrVar t z' r f t' ht hf ht'
theorem Jaw (h1:∀b,M' b→M b) {u:Value} {x:V} (h:RelD cx w (orP X M) u x):RelD cx w (orP X M') u x:=
 h.mono (Gm _) (fun _ _ _=>rfl) (fun b _ hn hm=>hn (hm.imp id (h1 b)))
theorem RelW.frzVar (h:RelW cx B X S w β α M) {s:Nat} {cs:List V} {f:Bool} (hs:S.μ s=some (cs,f)) (hd:cs.all V.datC=true) :
  RelW cx B X {S with μ:=upd S.μ s (some (cs,true))} w β α (fun b=>M b∧b≠β s):=by
 have hD:∀u x,RelD cx w (orP X M) u x→RelD cx w (orP X (fun b=>M b∧b≠β s)) u x:=fun u x hr=>Jaw (fun _ hb=>hb.1) hr
 have hT:ATr S {S with μ:=upd S.μ s (some (cs,true))} α α:=ATr.refl S α
 have hi:∀t,((upd S.μ s (some (cs,true))) t).isSome→(S.μ t).isSome:=fun t ht=>by
  by_cases e:t=s
  ·rw[e,hs];rfl
  ·simpa [upd,e] using ht
 refine⟨h.xb,h.glob,h.size,fun b hb=>h.m b hb.1,fun t ct f' ht=>?_,fun t t' ht ht' he=>h.varInj _ _ (hi _ ht) (hi _ ht') he,fun t z rows f' ht hf=>?_,h.arrInj,fun t z rows f t' ht hf ht'=>h.arrVar t z rows f t' ht hf (hi _ ht')⟩
 ·by_cases e':t=s
  ·subst e'
   simp only[upd,Gx,Ga,Gf] at ht
   obtain⟨rfl,rfl⟩:=ht
   obtain⟨a1,a2,a3,c',e'',a4,a5,a6⟩:=h.var t cs f hs
   refine⟨a1,fun hf=>by simp at hf,fun _=>⟨fun hm=>hm.2 rfl,hd⟩,c',e'',a4,a5,fun i hi=>?_⟩
   obtain⟨u,b1,b2,b3⟩:=a6 i hi
   exact⟨u,b1,b2,b3.tr hD hT⟩
  ·simp only[upd,Gj e'] at ht
   obtain⟨a1,a2,a3,c',e'',a4,a5,a6⟩:=h.var t ct f' ht
   refine⟨a1,fun hf=>⟨a2 hf,fun hb=>e' (h.varInj t s (by simp[ht]) (by simp[hs]) hb)⟩,fun hf=>⟨fun hm=>(a3 hf).1 hm.1,(a3 hf).2⟩,c',e'',a4,a5,fun i hi=>?_⟩
   obtain⟨u,b1,b2,b3⟩:=a6 i hi
   exact⟨u,b1,b2,b3.tr hD hT⟩
 ·obtain⟨a1,a2⟩:=h.arr t z rows f' ht hf
  exact⟨a1.tr hD (fun b hb=>rfl),fun b hb=>⟨(a2 b hb).1,fun hl=>⟨(a2 b hb).2.1 hl,fun e'=>h.arrVar t z rows f' s ht hf (by simp[hs]) (e'▸hb)⟩,fun hl hm=>(a2 b hb).2.2 hl hm.1⟩⟩
theorem RelW.frzArr (h:RelW cx B X S w β α M) {s z:Nat} {rows rows':List (List V)} {f f':Fz} (hs:S.A s=some (z,rows,f))
  (hf':(f'=.frz∧f=.live∧rows'=rows)∨f'=.dead) :
  RelW cx B X {S with A:=upd S.A s (some (z,rows',f'))} w β α (fun b=>M b∧(f=.live→hdr (α s)≠some b)):=by
 have hD:∀u x,RelD cx w (orP X M) u x→RelD cx w (orP X (fun b=>M b∧(f=.live→hdr (α s)≠some b))) u x:=fun u x hr=>Jaw (fun _ hb=>hb.1) hr
 have hT:ATr S {S with A:=upd S.A s (some (z,rows',f'))} α α:=by
  intro t z' r f1 ht;by_cases e:t=s
  ·subst e;rw[hs] at ht;simp only[Ga,Gf] at ht;obtain⟨rfl,rfl,rfl⟩:=ht;refine⟨rows',f',by simp[upd],fun hn=>?_⟩;rcases hf' with ⟨h1,h2,h3⟩|h1
   ·exact⟨by simp[h2],by simp[h3],fun _=>rfl⟩
   ·exact absurd h1 hn
  ·exact⟨r,f1,by simp[upd,e,ht],fun hf=>⟨hf,Gm _,fun _=>rfl⟩⟩
 have hi:∀t z' r f1,(upd S.A s (some (z,rows',f'))) t=some (z',r,f1)→f1≠.dead→∃f2,S.A t=some (z',r,f2)∧f2≠.dead∧(t≠s→f2=f1)∧(t=s→f2=.live∧f=.live∧f1=.frz):=by
  intro t z' r f1 ht hn;by_cases e:t=s
  ·subst e;simp only[upd,Gx,Ga,Gf] at ht;obtain⟨rfl,rfl,rfl⟩:=ht;rcases hf' with ⟨h1,h2,h3⟩|h1
   ·subst h3;exact⟨f,hs,by simp[h2],fun h=>absurd rfl h,fun _=>⟨h2,h2,h1⟩⟩
   ·exact absurd h1 hn
  ·exact⟨f1,by simpa [upd,e] using ht,hn,fun _=>rfl,fun h=>absurd h e⟩
 refine⟨h.xb,h.glob,h.size,fun b hb=>h.m b hb.1,fun t ct f1 ht=>?_,h.varInj,fun t z' r f1 ht hf=>?_,fun t t' z1 r1 f1 z2 r2 f2 ht hf ht' hf' b hb hb'=>?_,fun t z' r f1 t' ht hf ht'=>?_⟩
 ·obtain⟨a1,a2,a3,c',e'',a4,a5,a6⟩:=h.var t ct f1 ht
  refine⟨a1,fun hf=>⟨a2 hf,fun hl hb=>h.arrVar s z rows f t hs (by simp[hl]) (Gw.2 ⟨_,ht⟩) hb⟩,fun hf=>⟨fun hm=>(a3 hf).1 hm.1,(a3 hf).2⟩,c',e'',a4,a5,fun i hi=>?_⟩
  obtain⟨u,b1,b2,b3⟩:=a6 i hi
  exact⟨u,b1,b2,b3.tr hD hT⟩
 ·obtain⟨f2,h1,h2,h3,h4⟩:=hi t z' r f1 ht hf
  obtain⟨a1,a2⟩:=h.arr t z' r f2 h1 h2
  refine⟨a1.tr hD (fun _ _=>rfl),fun b hb=>⟨(a2 b hb).1,fun hl=>?_,fun hl hm=>?_⟩⟩
  ·by_cases e:t=s
   ·rw[(h4 e).2.2] at hl;simp at hl
   ·refine⟨(a2 b hb).2.1 ((h3 e).trans hl),fun hl' hb'=>?_⟩
    exact e (h.arrInj t s z' r f2 z rows f h1 h2 hs (by simp[hl']) b hb hb')
  ·by_cases e:t=s
   ·subst e;exact hm.2 (h4 rfl).2.1 hb
   ·exact (a2 b hb).2.2 ((h3 e).trans hl) hm.1
 ·obtain⟨g1,p1,p2,-⟩:=hi t z1 r1 f1 ht hf
  obtain⟨g2,q1,q2,-⟩:=hi t' z2 r2 f2 ht' hf'
  exact h.arrInj t t' z1 r1 g1 z2 r2 g2 p1 p2 q1 q2 b hb hb'
 ·obtain⟨g1,p1,p2,-⟩:=hi t z' r f1 ht hf
  exact h.arrVar t z' r g1 t' p1 p2 ht'
end
end Sg
namespace Sg
open Go Go.RowKit
variable {P : Program} {w : World}
def eqW:Sh→Value→Value→Option Bool
 |.i,.int k a,.int k' b=>if k=k' then some (decide (a=b)) else none
 |.b,.bool a,.bool b=>some (a == b)
 |.s,.string a,.string b=>some (decide (a.data.toList=b.data.toList))
 |_,_,_=>none
def J1:List Sh→List Value→List Value→Option Bool
 |[],[],[]=>some true
 |h::hs,x::xs,y::ys=>(eqW h x y).bind fun b=>(J1 hs xs ys).bind fun c=>some (b&&c)
 |_,_,_=>none
def pv (agg:Bool) (l:List Value):Value:=if agg then .agg l.toArray else l.headD undef
theorem Jbt:∀(s r:List Sh) (l m:List Value) (b:Bool),J1 (s++r) l m=some b→
  ∃b1 b2,J1 s (l.take s.length) (m.take s.length)=some b1∧J1 r (l.drop s.length) (m.drop s.length)=some b2∧b=(b1&&b2)
 |[],r,l,m,b,h=>⟨true,b,by simp[J1],by simpa using h,by simp⟩
 |x::s,r,[],m,b,h=>by simp[J1] at h
 |x::s,r,u::l,[],b,h=>by simp[J1] at h
 |x::s,r,u::l,v::m,b,h=>by
  simp only[List.cons_append,J1,Gb,Ga] at h;obtain⟨b0,h0,c,hc,rfl⟩:=h;obtain⟨b1,b2,h1,h2,rfl⟩:=Jbt s r l m c hc;exact⟨b0&&b1,b2,by simp[J1,h0,h1],by simpa using h2,by simp[Bool.and_assoc]⟩
theorem JcN:∀{s:List Sh} {x y:List Value} {c:Bool},J1 s x y=some c→x.length=s.length∧y.length=s.length:=by
 intro s
 induction s with
 |nil=>intro x y c h;cases x<;>cases y<;>simp[J1] at h ⊢
 |cons a s ih=>
  intro x y c h;cases x with
  |nil=>simp[J1] at h
  |cons u x=>
   cases y with
   |nil=>simp[J1] at h
   |cons v y=>
    simp only[J1,Gb,Ga] at h;obtain⟨_,_,_,hh,_⟩:=h;have:=ih hh;simp[this.1,this.2]
theorem Jc2 {t:TypeId} {d:TypeDesc} {n:Nat} (hu:P.underlying t=some d) (hz:szT P t=some n) (cs:List Value) (off:Nat)
  (hl:off+n≤cs.length) (h1:JH P t=false→n=1):(part t cs.toArray off).run P w=.ok (pv (JH P t) ((cs.drop off).take n)) w:=by
 unfold part
 simp only[Sem.run_bind,Ja0 t hu w,Result.andThen]
 cases hg:JH P t
 ·have:=h1 hg;subst this
  simp only[Gr,GD,pv]
  have hlt:off<cs.length:=by omega
  simp only[List.getElem?_toArray,List.getElem?_eq_getElem hlt]
  rw[GR hlt]
  rfl
 ·simp only[Gx,Sem.run_bind,Jg hz w,Result.andThen,pv]
  simp[List.extract_eq_take_drop]
theorem Jcl {d:Nat} {t:TypeId} {sh:List Sh} (h:JX P d t=some sh) (hz:szT P t=some sh.length) (hg:JH P t=false):sh.length=1:=by
 cases d with
 |zero=>simp[JX] at h
 |succ d=>
  unfold JX at h;unfold JH at hg;split at h<;>simp_all
  all_goals (subst h;rfl)
theorem Jeu {d:Nat} {t:TypeId} {sh:List Sh} (h:JX P d t=some sh):∃dd,P.underlying t=some dd:=by
 cases d with
 |zero=>simp[JX] at h
 |succ d=>
  unfold JX at h;cases hu:P.underlying t with
  |none=>simp[hu] at h
  |some dd=>exact⟨dd,rfl⟩
theorem JeW:∀(d:Nat) (t:TypeId) (sh:List Sh),JX P d t=some sh→∀(D:Nat) (l m:List Value) (b:Bool),J1 sh l m=some b→
  (Op.equalIn (D+d) t (pv (JH P t) l) (pv (JH P t) m)).run P w=.ok b w:=by
 intro d
 induction d with
 |zero=>intro t sh h;simp[JX] at h
 |succ d ih=>
  intro t sh h D l m b hb
  have hsc:∀(s:Sh),sh=[s]→∃u v,l=[u]∧m=[v]∧eqW s u v=some b:=by
   intro s hs;subst hs
   match l,m,hb with
   |[u],[v],hb=>
    simp only[J1,Gb,Ga] at hb;obtain⟨b0,h0,c,rfl,rfl⟩:=hb;exact⟨u,v,rfl,rfl,by simpa using h0⟩
   |[],_,hb=>simp[J1] at hb
   |_::_,[],hb=>simp[J1] at hb
   |[_],_::_::_,hb=>simp[J1] at hb
   |_::_::_,[_],hb=>simp[J1] at hb
   |_::_::_,_::_::_,hb=>simp[J1] at hb
  rw[←GU]
  unfold JX at h
  split at h
  ·rename_i hu
   simp only[Ga] at h
   obtain⟨u,v,rfl,rfl,he⟩:=hsc .b h.symm
   unfold Op.equalIn
   have hg:JH P t=false:=by simp[JH,hu]
   simp only[hg,pv,Gr,GD,List.headD_cons,Sem.run_bind,run_underlying hu w,Result.andThen]
   cases u<;>cases v<;>simp[eqW] at he
   subst he;rfl
  ·rename_i k hu
   simp only[Ga] at h
   obtain⟨u,v,rfl,rfl,he⟩:=hsc .i h.symm
   unfold Op.equalIn
   have hg:JH P t=false:=by simp[JH,hu]
   simp only[hg,pv,Gr,GD,List.headD_cons,Sem.run_bind,run_underlying hu w,Result.andThen]
   cases u<;>cases v<;>simp[eqW] at he
   obtain⟨hk,he⟩:=he
   subst he
   simp[hk]
   rfl
  ·rename_i hu
   simp only[Ga] at h
   obtain⟨u,v,rfl,rfl,he⟩:=hsc .s h.symm
   unfold Op.equalIn
   have hg:JH P t=false:=by simp[JH,hu]
   simp only[hg,pv,Gr,GD,List.headD_cons,Sem.run_bind,run_underlying hu w,Result.andThen]
   cases u<;>cases v<;>simp[eqW] at he
   subst he
   simp only[Sem.run_pure]
   congr 1
   rename_i a b
   rcases a with ⟨a⟩
   rcases b with ⟨b⟩
   show (a == b)=decide (a=b)
   rw[Bool.eq_iff_iff];simp
  ·rename_i fs hu
   split at h
   ·simp at h
   ·rename_i hs
    simp only[Bool.not_eq_true] at hs
    have hg:JH P t=true:=by simp[JH,hu]
    unfold Op.equalIn
    simp only[hg,pv,Gx,Sem.run_bind,run_underlying hu w,Result.andThen,run_program,hs,Gr,GD]
    rw[←Array.forIn_toList]
    have loop:∀(fs:List Field) (n:Nat) (sh:List Sh) (b:Bool),shapeFs P (JX P d) fs n=some sh→n+sh.length=l.length→n+sh.length=m.length→J1 sh (l.drop n) (m.drop n)=some b→
      (forIn fs ((none,()):Option Bool×Unit) fun (f:Field) (__s:Option Bool×Unit)=>
       if f.name≠"_" then do
        let __do_lift ←part f.type l.toArray f.offset
        let __do_lift_1 ←part f.type m.toArray f.offset
        let __do_lift ←Op.equalIn (D+d) f.type __do_lift __do_lift_1
        if (!__do_lift)=true then (pure (ForInStep.done (some false,())):Sem _) else pure (ForInStep.yield (none,()))
       else pure (ForInStep.yield (none,()))).run P w=.ok (if b then (none,()) else (some false,())) w:=by
     intro fs
     induction fs with
     |nil=>
      intro n sh b h hl hm hb
      simp only[shapeFs,Ga] at h
      subst h
      have:b=true:=by
       generalize l.drop n=l' at hb;generalize m.drop n=m' at hb;cases l'<;>cases m'<;>simp[J1] at hb;exact hb
      subst this
      simp
     |cons f fs ihf=>
      intro n sh b h hl hm hb
      simp only[shapeFs] at h
      split at h
      ·simp at h
      ·rename_i hn
       simp only[Bool.or_eq_true,GA,bne_iff_ne,ne_eq,not_or,Decidable.not_not] at hn
       obtain⟨hname,hoff⟩:=hn
       simp only[Gb] at h
       obtain⟨sf,hsf,h⟩:=h
       split at h
       ·rename_i hz
        simp only[GA] at hz
        simp only[Gb,Ga] at h
        obtain⟨r,hr,rfl⟩:=h
        obtain⟨b1,b2,hb1,hb2,rfl⟩:=Jbt sf r _ _ b hb
        obtain⟨dd,hd⟩:=Jeu hsf
        simp only[Gk] at hl hm
        have hpl:n+sf.length≤l.length:=by omega
        have hpm:n+sf.length≤m.length:=by omega
        simp only[List.forIn_cons,Sem.run_bind]
        rw[Gl hname]
        rw[hoff] at *
        simp only[Sem.run_bind,Jc2 hd hz l n hpl (Jcl hsf hz),Jc2 hd hz m n hpm (Jcl hsf hz),Result.andThen]
        rw[ih f.type sf hsf D _ _ b1 hb1]
        cases b1
        ·simp
        ·simp only[Bool.not_true,Gr,GD,Sem.run_pure,Bool.true_and]
         exact ihf (n+sf.length) r b2 hr (by omega) (by omega) (by simpa [List.drop_drop,Nat.add_comm] using hb2)
       ·simp at h
    rw[loop fs.toList 0 sh b h (by simpa using (JcN hb).1.symm) (by simpa using (JcN hb).2.symm) (by simpa using hb)]
    cases b<;>simp
  ·simp at h
section
variable {cx:Cx} {X:Nat→Prop} {S:St} {β:Nat→Nat} {α:Nat→Value}
theorem JkX {h:Sh} {x y:V} {u v:Value} {b:Bool} (hx:RelC cx w X S α u x) (hy:RelC cx w X S α v y) (he:eqV h x y=some b):eqW h u v=some b:=by
 cases h<;>cases x<;>cases y<;>simp only[eqV,reduceCtorEq,Ga] at he<;>simp only[RelC] at hx hy<;>cases hx<;>cases hy
 ·simpa [eqW] using he
 ·simpa [eqW] using he
 ·simpa [eqW] using he
theorem JgB:∀(s:List Sh) (xs ys:List V) (us vs:List Value) (b:Bool),us.length=xs.length→vs.length=ys.length→
  (∀i,i<xs.length→∃u,us[i]?=some u∧RelC cx w X S α u (gv xs i))→(∀i,i<ys.length→∃u,vs[i]?=some u∧RelC cx w X S α u (gv ys i))→
  JbN s xs ys=some b→J1 s us vs=some b:=by
 intro s
 induction s with
 |nil=>
  intro xs ys us vs b h1 h2 _ _ h
  cases xs<;>cases ys<;>simp[JbN] at h
  cases us<;>cases vs<;>simp at h1 h2
  simp[J1,h]
 |cons a s ih=>
  intro xs ys us vs b h1 h2 h3 h4 h
  cases xs with
  |nil=>simp[JbN] at h
  |cons x xs=>
   cases ys with
   |nil=>simp[JbN] at h
   |cons y ys=>
    cases us with
    |nil=>simp at h1
    |cons u us=>
     cases vs with
     |nil=>simp at h2
     |cons v vs=>
      simp only[JbN,Gb,Ga] at h
      obtain⟨b0,h0,c,hc,rfl⟩:=h
      have e1:=h3 0 (by simp)
      have e2:=h4 0 (by simp)
      simp only[List.getElem?_cons_zero,Ga,exists_eq_left',gv,Gad] at e1 e2
      have:=ih xs ys us vs c (by simpa using h1) (by simpa using h2)
       (fun i hi=>by have:=h3 (i+1) (by simpa using hi);simpa [gv] using this)
       (fun i hi=>by have:=h4 (i+1) (by simpa using hi);simpa [gv] using this) hc
      simp[J1,JkX e1 e2 h0,this]
theorem JiM {ne:Bool} {t:TypeId} {p q:Operand} {s:List Sh} {xs ys:List V} {u v:Value} {b:Bool} (hg:JH P t=true) (hs:JX P 20 t=some s) (hq:P.eqGuardType P.depth t=false)
  (hx:RelT cx w X S β α u (.agg xs)) (hy:RelT cx w X S β α v (.agg ys)) (h:JbN s xs ys=some b) :
  (do eqGuard (if ne then .neq else .eql) t p q u v;Go.binOp (if ne then .neq else .eql) t u v:Sem Value).run P w=.ok (.bool (ne ^^ b)) w:=by
 obtain⟨cs,rfl,hl,hc⟩:=hx
 obtain⟨ds,rfl,hl',hc'⟩:=hy
 have hW:=JgB (w:=w) (cx:=cx) (X:=X) (S:=S) (α:=α) s xs ys cs.toList ds.toList b (by simpa using hl) (by simpa using hl')
  (fun i hi=>by obtain⟨u,h1,_,h2⟩:=hc i hi;exact⟨u,by simpa using h1,h2⟩) (fun i hi=>by obtain⟨u,h1,_,h2⟩:=hc' i hi;exact⟨u,by simpa using h1,h2⟩) h
 have hE:=JeW (P:=P) (w:=w) 20 t s hs 9980 _ _ b hW
 simp only[hg,pv,Gx,Array.toArray_toList] at hE
 have he:(Op.equal t (.agg cs) (.agg ds)).run P w=.ok b w:=hE
 have hG:∀o,(eqGuard o t p q (.agg cs) (.agg ds)).run P w=.ok () w:=fun o=>by
  unfold eqGuard;cases o<;>first|rfl|simp[hq,Result.andThen]
 rw[Sem.run_bind,hG]
 cases ne
 ·show (Go.binOp .eql t (.agg cs) (.agg ds)).run P w=_
  unfold Go.binOp
  simp only[Sem.run_bind,he];simp[Result.andThen]
 ·show (Go.binOp .neq t (.agg cs) (.agg ds)).run P w=_
  unfold Go.binOp
  simp only[Sem.run_bind,he];simp[Result.andThen]
end
end Sg
namespace Sg
open Go Go.RowKit
section
variable {P:Program} {cx:Cx} {w:World} {X:Nat→Prop} {S:St} {β:Nat→Nat} {α:Nat→Value}
def CR (cx:Cx) (w:World) (X:Nat→Prop) (S:St) (α:Nat→Value) (l:List Value) (vs:List V):Prop:=
 l.length=vs.length∧∀i,i<vs.length→∃u,l[i]?=some u∧u.oneCell'=true∧RelC cx w X S α u (gv vs i)
theorem CR.nil:CR cx w X S α [] []:=⟨rfl,fun i hi=>by simp at hi⟩
theorem CR.one {u:Value} {x:V} (h1:u.oneCell'=true) (h:RelC cx w X S α u x):CR cx w X S α [u] [x]:=
 ⟨rfl,fun i hi=>by
  have:i=0:=by simpa using hi
  subst this;exact⟨u,rfl,h1,h⟩⟩
theorem CR.append {l m:List Value} {vs ys:List V} (h:CR cx w X S α l vs) (k:CR cx w X S α m ys):CR cx w X S α (l++m) (vs++ys):=by
 refine⟨by simp[h.1,k.1],fun i hi=>?_⟩;rcases Gt i vs.length with hl|hl
 ·obtain⟨u,a,b,c⟩:=h.2 i hl;exact⟨u,by rw[List.getElem?_append_left (by rw[h.1];exact hl)];exact a,b,by simpa [gv,List.getD_eq_getElem?_getD,List.getElem?_append_left hl] using c⟩
 ·obtain⟨u,a,b,c⟩:=k.2 (i-vs.length) (by simp at hi;omega);exact⟨u,by rw[List.getElem?_append_right (by rw[h.1];exact hl),h.1];exact a,b,by simpa [gv,List.getD_eq_getElem?_getD,List.getElem?_append_right hl] using c⟩
theorem CR.take {l:List Value} {vs:List V} (h:CR cx w X S α l vs) (n:Nat):CR cx w X S α (l.take n) (vs.take n):=by
 refine⟨by simp[h.1],fun i hi=>?_⟩;have h1:i<n∧i<vs.length:=by simp at hi;omega
 obtain⟨u,a,b,c⟩:=h.2 i h1.2;exact⟨u,by rw[List.getElem?_take_of_lt h1.1];exact a,b,by simpa [gv,List.getD_eq_getElem?_getD,List.getElem?_take_of_lt h1.1] using c⟩
theorem CR.drop {l:List Value} {vs:List V} (h:CR cx w X S α l vs) (n:Nat):CR cx w X S α (l.drop n) (vs.drop n):=by
 refine⟨by simp[h.1],fun i hi=>?_⟩;obtain⟨u,a,b,c⟩:=h.2 (n+i) (by simp at hi;omega);exact⟨u,by rw[List.getElem?_drop];exact a,b,by simpa [gv,List.getD_eq_getElem?_getD,List.getElem?_drop] using c⟩
theorem CR.put {l m:List Value} {vs ys cs:List V} {off:Nat} (h:CR cx w X S α l vs) (k:CR cx w X S α m ys) (hs:JG vs off ys=some cs) :
  off+m.length≤l.length∧CR cx w X S α (l.take off++(m++l.drop (off+m.length))) cs:=by
 unfold JG at hs
 split at hs<;>simp only[Ga,reduceCtorEq] at hs
 rename_i hle
 subst hs
 refine⟨by rw[h.1,k.1];exact hle,?_⟩
 rw[k.1]
 exact (h.take off).append (k.append (h.drop _))
theorem CR.mono {w':World} {X':Nat→Prop} {S':St} {α':Nat→Value} (hD:∀u x,RelD cx w X u x→RelD cx w' X' u x) (hA:ATr S S' α α') {l:List Value} {vs:List V}
  (h:CR cx w X S α l vs):CR cx w' X' S' α' l vs:=
 ⟨h.1,fun i hi=>by obtain⟨u,a,b,c⟩:=h.2 i hi;exact⟨u,a,b,c.tr hD hA⟩⟩
theorem CR.data {l:List Value} {vs:List V} (h:CR cx w X S α l vs) (hd:vs.all V.datC=true):∀i,i<vs.length→∃u,l[i]?=some u∧u.oneCell'=true∧RelD cx w X u (gv vs i):=
 fun i hi=>by
  obtain⟨u,a,b,c⟩:=h.2 i hi;refine⟨u,a,b,c.data ?_⟩;rw[Gs] at hd;exact hd _ (by simp[gv,hi])
theorem cells_rel {u:Value} {x:V} {cs:List V} (h:RelT cx w X S β α u x) (hc:x.cells=some cs):CR cx w X S α u.cells.toList cs:=by
 cases x<;>simp only[V.cells,V.isCell,Ga,reduceCtorEq,Gx,GD,Gr] at hc<;>subst hc
 case agg vs=>
  obtain⟨cs,rfl,hl,hcs⟩:=h
  exact⟨by simpa [Value.cells] using hl,fun i hi=>by obtain⟨u,a,b⟩:=hcs i hi;exact⟨u,by simpa [Value.cells] using a,b⟩⟩
 case own s z n=>
  obtain⟨rows,f,a,cap,hA,rfl,hh⟩:=h
  exact .one rfl ⟨rows,f,a,cap,hA,rfl,hh⟩
 all_goals
  simp only[RelT] at h
  have h1:u.oneCell'=true:=by cases h<;>rfl
  have h2:u.cells=#[u]:=by cases h<;>rfl
  rw[h2]
  exact .one h1 (by simpa only [RelC] using h)
theorem JbE {l:List Value} {vs:List V} (h:Jv l vs=true):CR cx w X S α l vs:=by
 obtain⟨h1,h2⟩:=J0 (cx:=cx) (w:=w) (X:=X) h;exact⟨h1,fun i hi=>by obtain⟨u,a,b,c⟩:=h2 i hi;exact⟨u,a,b,.of_data c⟩⟩
theorem Jce:∀(m:List Value) (k off:Nat) (cells:Array Value),off+k+m.length≤cells.size→
  ((m.zipIdx k).foldl (fun cs (c,j)=>cs.setIfInBounds (off+j) c) cells).toList=cells.toList.take (off+k)++(m++cells.toList.drop (off+k+m.length))
 |[],k,off,cells,h=>by simp
 |v::m,k,off,cells,h=>by
  simp only[List.zipIdx_cons,List.foldl_cons];rw[Jce m (k+1) off (cells.setIfInBounds (off+k) v) (by simp at h ⊢;omega)];have e:=list_seg_step cells.toList (off+k) v m (by simp at h ⊢;omega);simp only[Array.toList_setIfInBounds];have e1:off+(k+1)=off+k+1:=by omega
  rw[e1];simpa [GG,GU,Nat.add_comm 1] using e
theorem Jed (m:Array Value) (off:Nat) (cells:Array Value) (h:off+m.size≤cells.size) :
  (m.zipIdx.foldl (fun cs (c,j)=>cs.setIfInBounds (off+j) c) cells).toList=cells.toList.take off++(m.toList++cells.toList.drop (off+m.size)):=by
 rw[←Array.foldl_toList,Array.toList_zipIdx,Jce m.toList 0 off cells (by simpa using h)]
 simp
theorem Jcd {place:Nat→Option (Nat×Nat)} {cells:Array Value} {i off n:Nat} {v:Value} {rest:List (Nat×Value)} (hp:place i=some (off,n)) (hn:v.cells.size=n) (hl:off+n≤cells.size) :
  Instr.fill place cells ((i,v)::rest)=Instr.fill place (cells.toList.take off++(v.cells.toList++cells.toList.drop (off+n))).toArray rest:=by
 simp only[Instr.fill,hp]
 rw[Gj (by simp[hn];omega)]
 congr 1
 apply Array.ext'
 rw[Jed v.cells off cells (by omega),hn]
end
section
variable {P:Program} {cx:Cx} {w:World} {X:Nat→Prop} {S:St} {β:Nat→Nat} {α:Nat→Value}
variable {a:Act} {ds:List (Option Nat)} {e:Nat→V}
theorem JdN (hg:∀t,RelT cx w X S β α (a.tmps.getD t undef) (S.ρ t)) (hl:∀i d,ds[i]?=some (some d)→RelT cx w X S β α (a.tmps.getD d undef) (e i)) {pl:Nat→Option (Nat×Nat)} :
  ∀(ps:List (Nat×Operand)) (qs:List (Nat×Nat×Arg)) (cells:Array Value) (z cs:List V),okParts cx ds pl ps qs=true→CR cx w X S α cells.toList z→
   Jag z (qs.map fun p=>(p.1,p.2.1,argv e S.ρ p.2.2))=some cs→
   ∃cells',Instr.fill pl cells (ps.map fun (i,x)=>(i,a.eval x))=some cells'∧CR cx w X S α cells'.toList cs
 |[],[],cells,z,cs,_,hc,h=>by
  simp only[Gp,Jag,Ga] at h;subst h;exact⟨cells,by simp[Instr.fill],hc⟩
 |(i,o)::ps,(off,n,x)::qs,cells,z,cs,hok,hc,h=>by
  simp only[okParts,Gg,GA] at hok;simp only[Gv,Jag,Gb] at h;obtain⟨xs,hxs,h⟩:=h;split at h
  ·rename_i hn;simp only[Gb] at h;obtain⟨cs',hcs',h⟩:=h;have hr:=J8 hg hl hok.1.2;have hcr:=cells_rel hr hxs;obtain⟨h1,h2⟩:=hc.put hcr hcs';have hsz:(a.eval o).cells.size=n:=by
    have:=hcr.1;simp only[Array.length_toList] at this;omega
   simp only[Array.length_toList,hsz] at h1 h2;obtain⟨cells',h3,h4⟩:=JdN hg hl ps qs _ cs' cs hok.2 (by simpa using h2) h;refine⟨cells',?_,h4⟩;rw[Gv,Jcd hok.1.1 hsz h1];exact h3
  ·simp at h
 |[],_::_,cells,z,cs,hok,hc,h=>by simp[okParts] at hok
 |_::_,[],cells,z,cs,hok,hc,h=>by simp[okParts] at hok
end
section
variable {P:Program} {cx:Cx} {w:World} {X:Nat→Prop} {S:St} {β:Nat→Nat} {α:Nat→Value}
def DR (cx:Cx) (w:World) (X:Nat→Prop) (z:Nat) (l:List Value) (rows:List (List V)):Prop:=
 l.length=rows.length*z∧(∀i,i<rows.length→(gr rows i).length=z)∧
 ∀i j,i<rows.length→j<z→∃u,l[i*z+j]?=some u∧u.oneCell'=true∧RelD cx w X u (gv (gr rows i) j)
theorem DR.mono {w':World} {X':Nat→Prop} (hD:∀u x,RelD cx w X u x→RelD cx w' X' u x) {z:Nat} {l:List Value} {rows:List (List V)} (h:DR cx w X z l rows):DR cx w' X' z l rows:=
 ⟨h.1,h.2.1,fun i j hi hj=>by obtain⟨u,a,b,c⟩:=h.2.2 i j hi hj;exact⟨u,a,b,hD _ _ c⟩⟩
theorem JaX {i j z n:Nat} (hi:i<n) (hj:j<z):i*z+j<n*z:=by
 have:(i+1)*z≤n*z:=Gq z hi;rw[GT] at this;omega
theorem DR.set {z:Nat} {l m:List Value} {rows:List (List V)} {xs:List V} {i:Nat} (h:DR cx w X z l rows) (hi:i<rows.length) (hx:xs.length=z) (hm:m.length=z)
  (hc:∀j,j<xs.length→∃u,m[j]?=some u∧u.oneCell'=true∧RelD cx w X u (gv xs j)) :
  i*z+z≤l.length∧DR cx w X z (l.take (i*z)++(m++l.drop (i*z+z))) (rows.set i xs):=by
 have hle:i*z+z≤l.length:=by
  rw[h.1];have:(i+1)*z≤rows.length*z:=Gq z hi;rw[GT] at this;omega
 refine⟨hle,?_,fun k hk=>?_,fun k j hk hj=>?_⟩
 ·rw[Gk,Gk,Gy,Gu,hm,List.length_set]
  have:=h.1
  omega
 ·simp only[List.length_set] at hk
  simp only[gr,List.getD_eq_getElem?_getD,List.getElem?_set]
  by_cases e:i=k
  ·subst e;simp[hk,hx]
  ·rw[Gj e];have:=h.2.1 k hk;simpa [gr,List.getD_eq_getElem?_getD] using this
 ·simp only[List.length_set] at hk
  have hk2:=JaX hk hj
  rcases Nat.lt_trichotomy k i with hlt|heq|hgt
  ·obtain⟨u,a,b,c⟩:=h.2.2 k j hk hj
   have h1:=JaX hlt hj
   refine⟨u,?_,b,?_⟩
   ·rw[List.getElem?_append_left (by simp;omega),List.getElem?_take_of_lt h1];exact a
   ·simpa [gr,List.getD_eq_getElem?_getD,List.getElem?_set,show ¬i=k by omega] using c
  ·subst heq
   obtain⟨u,a,b,c⟩:=hc j (by omega)
   refine⟨u,?_,b,?_⟩
   ·rw[List.getElem?_append_right (by simp;omega)]
    have e1:k*z+j-(List.take (k*z) l).length=j:=by simp;omega
    rw[e1,List.getElem?_append_left (by omega)];exact a
   ·simpa [gr,List.getD_eq_getElem?_getD,List.getElem?_set,hk] using c
  ·obtain⟨u,a,b,c⟩:=h.2.2 k j hk hj
   have h1:i*z+z≤k*z:=by
    have:(i+1)*z≤k*z:=Gq z hgt;rw[GT] at this;omega
   refine⟨u,?_,b,?_⟩
   ·rw[List.getElem?_append_right (by simp;omega),List.getElem?_append_right (by simp;omega),List.getElem?_drop]
    have e1:i*z+z+(k*z+j-(List.take (i*z) l).length-m.length)=k*z+j:=by simp;omega
    rw[e1];exact a
   ·simpa [gr,List.getD_eq_getElem?_getD,List.getElem?_set,show ¬i=k by omega] using c
theorem DR.replicate {z n:Nat} {l:List Value} {xs:List V} (hz:xs.length=z) (hc:∀j,j<z→∃u,l[j]?=some u∧u.oneCell'=true∧RelD cx w X u (gv xs j)) (hl:l.length=z) :
  DR cx w X z ((Array.range (n*z)).map (fun i=>l.toArray[i % l.toArray.size]!)).toList (List.replicate n xs):=by
 refine⟨by simp,fun i hi=>?_,fun i j hi hj=>?_⟩
 ·simp at hi;simp[gr,List.getD_eq_getElem?_getD,hi,hz]
 ·simp only[List.length_replicate] at hi
  have hk:=JaX hi hj
  obtain⟨u,a,b,c⟩:=hc j hj
  refine⟨u,?_,b,?_⟩
  ·have e:(i*z+j) % z=j:=by rw[Nat.add_comm,Nat.add_mul_mod_self_right,Nat.mod_eq_of_lt hj]
   simp[hk,hl,e,a]
  ·simpa [gr,List.getD_eq_getElem?_getD,hi] using c
end
section
variable {P:Program} {cx:Cx} {w:World} {X:Nat→Prop} {S:St} {β:Nat→Nat} {α:Nat→Value}
variable {a:Act} {ds:List (Option Nat)} {e:Nat→V}
theorem JaA (hg:∀t,RelT cx w X S β α (a.tmps.getD t undef) (S.ρ t)) (hl:∀i d,ds[i]?=some (some d)→RelT cx w X S β α (a.tmps.getD d undef) (e i)) {z:Nat} :
  ∀(ps:List (Nat×Operand)) (qs:List (Nat×Arg)) (cells:Array Value) (rows rows':List (List V)),Jaq cx ds ps qs=true→DR cx w X z cells.toList rows→
   Jr z rows (qs.map fun p=>(p.1,argv e S.ρ p.2))=some rows'→
   ∃cells',Instr.fill (fun i=>some (i*z,z)) cells (ps.map fun (i,x)=>(i,a.eval x))=some cells'∧DR cx w X z cells'.toList rows'
 |[],[],cells,rows,rows',_,hc,h=>by
  simp only[Gp,Jr,Ga] at h;subst h;exact⟨cells,by simp[Instr.fill],hc⟩
 |(i,o)::ps,(j,x)::qs,cells,rows,rows',hok,hc,h=>by
  simp only[Jaq,Gg,GA] at hok;obtain⟨⟨rfl,ho⟩,hok⟩:=hok;simp only[Gv,Jr,Gb] at h;obtain⟨xs,hxs,h⟩:=h;split at h
  ·rename_i hn;obtain⟨hi,hz,hd⟩:=hn;have hr:=J8 hg hl ho;have hcr:=cells_rel hr hxs;have hsz:(a.eval o).cells.size=z:=by
    have:=hcr.1;simp only[Array.length_toList] at this;omega
   obtain⟨h1,h2⟩:=hc.set hi hz (by simpa using hsz) (hcr.data hd);obtain⟨cells',h3,h4⟩:=JaA hg hl ps qs _ (rows.set i xs) rows' hok (by simpa using h2) h;refine⟨cells',?_,h4⟩;rw[Gv,Jcd (off:=i*z) (n:=z) rfl hsz (by simpa using h1)];exact h3
  ·simp at h
 |[],_::_,cells,z,cs,hok,hc,h=>by simp[Jaq] at hok
 |_::_,[],cells,z,cs,hok,hc,h=>by simp[Jaq] at hok
theorem Jbf {t:TypeId} {z:List V} (h:JI P t z=true):∃v,(zeroValue t).run P w=.ok v w∧Jv v.cells.toList z=true:=by
 unfold JI at h;split at h
 ·rename_i i hi;split at h
  ·rename_i v hv;exact⟨v,by simp[zeroValue,typeInfo,hi,hv,Result.andThen],h⟩
  ·simp at h
 ·simp at h
theorem mks_ok (hg:∀t,RelT cx w X S β α (a.tmps.getD t undef) (S.ρ t)) (hl:∀i d,ds[i]?=some (some d)→RelT cx w X S β α (a.tmps.getD d undef) (e i))
  {t:TypeId} {len z n:Nat} {zero:List V} {ps:List (Nat×Operand)} {qs:List (Nat×Arg)} {el:TypeId} {rows:List (List V)}
  (ht:JP P t=some el) (hsz:szT P el=some z) (hz:JI P el zero=true) (hzl:zero.length=z) (hz0:z≠0) (hlen:len=n) (hbig:len*z≤16777216)
  (hok:Jaq cx ds ps qs=true) (h:Jr z (List.replicate n zero) (qs.map fun p=>(p.1,argv e S.ρ p.2))=some rows) :
  ∃cells,(Instr.buildSlice t len (ps.map fun (i,x)=>(i,a.eval x)).toArray).run P w=.ok (.slice (some ⟨w.heap.size,0,none⟩) n n) {w with heap:=w.heap.push (.cells cells el)}∧DR cx w X z cells.toList rows∧rows.length=n:=by
 have hu:P.underlying t=some (.slice el):=by
  unfold JP at ht;split at ht<;>simp_all
 subst hlen
 obtain⟨v,hv,hvz⟩:=Jbf (P:=P) (w:=w) hz
 have hvz':=J0 (cx:=cx) (w:=w) (X:=X) hvz
 have hbase:DR cx w X z ((Array.range (len*z)).map (fun i=>v.cells[i % v.cells.size]!)).toList (List.replicate len zero):=by
  have:=DR.replicate (cx:=cx) (w:=w) (X:=X) (n:=len) (l:=v.cells.toList) (xs:=zero) hzl (fun j hj=>hvz'.2 j (by omega)) (by rw[hvz'.1,hzl]);simpa using this
 have hlr:∀(qs:List (Nat×V)) (r r':List (List V)),Jr z r qs=some r'→r'.length=r.length:=by
  intro qs
  induction qs with
  |nil=>intro r r' h;simp[Jr] at h;rw[h]
  |cons q qs ih=>
   intro r r' h;obtain⟨i,x⟩:=q;simp only[Jr,Gb] at h;obtain⟨xs,_,h⟩:=h;split at h
   ·have:=ih _ _ h;simpa using this
   ·simp at h
 by_cases h0:len*z=0
 ·have hl0:len=0:=by rcases Nat.mul_eq_zero.1 h0 with h|h<;>simp_all
  subst hl0
  obtain⟨cells',h3,h4⟩:=JaA hg hl ps qs #[] [] rows hok (by refine⟨by simp,fun i hi=>by simp at hi,fun i j hi=>by simp at hi⟩) (by simpa using h)
  refine⟨cells',?_,h4,by simpa using hlr _ _ _ h⟩
  unfold Instr.buildSlice
  have e1:∀f:Nat→Value,Array.map f (Array.range 0)=#[]:=fun f=>by simp
  simp only[Sem.run_bind,run_underlying hu w,Result.andThen,Jg hsz w,Nat.zero_mul,Sem.run_ite,run_unsupported,Sem.run_pure]
  rw[Gj (by omega)]
  simp only[Sem.run_bind,Gx,Sem.run_pure,e1,h3,newRow,run_newObj,Result.andThen]
 ·obtain⟨cells',h3,h4⟩:=JaA hg hl ps qs _ _ rows hok hbase h
  refine⟨cells',?_,h4,by simpa using hlr _ _ _ h⟩
  unfold Instr.buildSlice
  simp only[Sem.run_bind,run_underlying hu w,Result.andThen,Jg hsz w,Sem.run_ite,run_unsupported,Sem.run_pure]
  rw[Gj (by omega)]
  simp only[Sem.run_bind,Gj h0,Result.andThen,hv,Sem.run_pure,h3,newRow,run_newObj]
theorem make_ok {t el:TypeId} {z n:Nat} {zero:List V} {ie:TypeInfo}
  (ht:JP P t=some el) (hsz:szT P el=some z) (hz:JI P el zero=true) (hzl:zero.length=z) (hz0:z≠0) (hn:n≠0) (hie:P.info? el=some ie) (hb:ie.bytes*n≤65536) (hbig:n*z≤16777216) :
  ∃cells,(Instr.makeSlice t (.int .i64 n) (.int .i64 n)).run P w=.ok (.slice (some ⟨w.heap.size,0,none⟩) n n) {w with heap:=w.heap.push (.cells cells el)}∧DR cx w X z cells.toList (List.replicate n zero):=by
 have hu:P.underlying t=some (.slice el):=by
  unfold JP at ht;split at ht<;>simp_all
 have hs:ie.size=z:=by simpa [szT,hie] using hsz
 unfold JI at hz
 rw[hie] at hz
 simp only at hz
 split at hz
 ·rename_i v hv
  have hvz':=J0 (cx:=cx) (w:=w) (X:=X) hz
  have hnz:n≤n*z:=Nat.le_mul_of_pos_right n (by omega)
  have hb':(ie.bytes:Int)*(n:Int)≤281474976710656:=by
   have h:((ie.bytes*n:Nat):Int)≤281474976710656:=by omega
   rwa [Int.natCast_mul] at h
  have hr:=run_make (P:=P) w t el ie v hu hie hv .i64 .i64 (n:Int) (n:Int) (by omega) (by omega) hb' (by omega)
  simp only[Int.toNat_natCast,hs] at hr
  refine⟨_,hr,?_⟩
  have:=DR.replicate (cx:=cx) (w:=w) (X:=X) (n:=n) (l:=v.cells.toList) (xs:=zero) hzl (fun j hj=>hvz'.2 j (by omega)) (by rw[hvz'.1,hzl])
  simpa [madeCells] using this
 ·simp at hz
end
section
variable {P:Program} {cx:Cx} {w:World} {X:Nat→Prop} {S:St} {β:Nat→Nat} {α:Nat→Value}
theorem CR.agg {l:List Value} {vs:List V} (h:CR cx w X S α l vs):RelT cx w X S β α (.agg l.toArray) (.agg vs):=
 ⟨l.toArray,rfl,by simpa using h.1,fun i hi=>by obtain⟨u,a,b⟩:=h.2 i hi;exact⟨u,by simpa using a,b⟩⟩
theorem RelT.of_C {v:Value} {x:V} (h:RelC cx w X S α v x):RelT cx w X S β α v x:=by
 cases x<;>first|exact h|exact .of_data h
theorem JiX {s:TypeId} {i off:Nat} {fs:Array Field} {f:Field} {cs:List V} {n:Option Nat} {u:Value} {r:V} (hx:RelT cx w X S β α u (.agg cs)) (hs:P.underlying s=some (.struct fs)) (hf:fs[i]?=some f) (ho:f.offset=off)
  (hu:(P.underlying f.type).isSome=true) (hn:(if JH P f.type then szT P f.type == n&&n.isSome else n.isNone)=true) (h:J5 cs off n=some r) :
  ∃v,(Instr.field s u i).run P w=.ok v w∧RelT cx w X S β α v r:=by
 obtain⟨d,hd⟩:=Gw.1 hu
 obtain⟨cells,rfl,hl,hc⟩:=hx
 subst ho
 unfold Instr.field
 rw[Sem.run_bind,run_underlying hs w]
 simp only[Result.andThen,hf,asAgg,part,pure_bind,Sem.run_bind,Ja0 f.type hd w]
 cases hg:JH P f.type
 ·simp only[hg,Gr,GD,G2] at hn
  subst hn
  simp only[J5] at h
  have hlt:f.offset<cs.length:=by
   rcases Gt f.offset cs.length with h'|h'
   ·exact h'
   ·simp[List.getElem?_eq_none h'] at h
  obtain⟨v,a1,a2,a3⟩:=hc f.offset hlt
  have hgv:gv cs f.offset=r:=by simp[gv,h]
  rw[hgv] at a3
  refine⟨v,?_,.of_C a3⟩
  simp[a1]
 ·simp only[hg,Gx,Gg,GA] at hn
  obtain⟨hz,hs'⟩:=hn
  obtain⟨k,rfl⟩:=Gw.1 hs'
  simp only[J5] at h
  split at h<;>simp only[Ga,reduceCtorEq] at h
  rename_i hle
  subst h
  refine⟨.agg (cells.extract f.offset (f.offset+k)),?_,_,rfl,by simp;omega,fun j hj=>?_⟩
  ·simp[Jg hz w,Result.andThen]
  ·have hj':j<k:=by simp at hj;omega
   obtain⟨v,a1,a2,a3⟩:=hc (f.offset+j) (by omega)
   refine⟨v,?_,a2,?_⟩
   ·rw[Array.getElem?_extract]
    rw[Gl (by omega)]
    exact a1
   ·have:gv ((cs.drop f.offset).take k) j=gv cs (f.offset+j):=by
     simp[gv,List.getD_eq_getElem?_getD,hj']
    rw[this];exact a3
theorem JbU {t:TypeId} {b base off:Nat} {c:Array Value} {e:TypeId} {fr:Nat×Nat} {l:List Value} {cs:List V} {n:Option Nat} {r:V}
  (hw:w.heap[b]?=some (.cells c e fr)) (hc:CR cx w X S α l cs) (hb:∀j,j<l.length→c[base+j]?=l[j]?)
  (hu:(P.underlying t).isSome=true) (hn:(if JH P t then szT P t == n&&n.isSome else n.isNone)=true) (h:J5 cs off n=some r) :
  ∃v,(Instr.loadAt t (.pointer (some ⟨b,base+off,none⟩))).run P w=.ok v w∧RelT cx w X S β α v r:=by
 obtain⟨d,hd⟩:=Gw.1 hu
 have hcell:∀j,j<l.length→w.cell? ⟨b,base+j,none⟩=l[j]?:=fun j hj=>by simp[World.cell?,hw,hb j hj]
 unfold Instr.loadAt loadVar
 simp only[Instr.sureAddr,pure_bind,Sem.run_bind,Ja0 t hd w,Result.andThen]
 cases hg:JH P t
 ·simp only[hg,Gr,GD,G2] at hn
  subst hn
  simp only[J5] at h
  have hlt:off<cs.length:=by
   rcases Gt off cs.length with h'|h'
   ·exact h'
   ·simp[List.getElem?_eq_none h'] at h
  obtain⟨u,a1,a2,a3⟩:=hc.2 off hlt
  have hgv:gv cs off=r:=by simp[gv,h]
  rw[hgv] at a3
  refine⟨u,?_,.of_C a3⟩
  simp only[Gr,GD,run_load,hcell off (by rw[hc.1];exact hlt),a1]
 ·simp only[hg,Gx,Gg,GA] at hn
  obtain⟨hz,hs⟩:=hn
  obtain⟨k,rfl⟩:=Gw.1 hs
  simp only[J5] at h
  split at h<;>simp only[Ga,reduceCtorEq] at h
  rename_i hle
  subst h
  have hcr:=(hc.drop off).take k
  have hlen:((l.drop off).take k).length=k:=by rw[hcr.1];simp;omega
  refine⟨.agg ((l.drop off).take k).toArray,?_,hcr.agg⟩
  have hl:=run_loadCells_list (P:=P) w ⟨b,base+off,none⟩ ((l.drop off).take k) (fun j v hj=>by
   have hj':j<k:=by
    rcases Gt j k with h'|h'
    ·exact h'
    ·rw[List.getElem?_eq_none (by omega)] at hj;simp at hj
   rw[List.getElem?_take_of_lt hj',List.getElem?_drop] at hj;rw[JJ,GU,hcell (off+j) (by rw[hc.1];omega)];exact hj)
  rw[hlen] at hl
  simp only[Gx,Sem.run_bind,Jg hz w,Result.andThen,hl,Sem.run_pure]
theorem Jcn {t:TypeId} {b o:Nat} {c:Array Value} {e:TypeId} {v:Value} {n:Nat} {xs:List V}
  (hw:w.heap[b]?=some (.cells c e (0,0))) (hc:CR cx w X S α v.cells.toList xs) (hn:xs.length=n) (hz:szT P t=some n) (hle:o+n≤c.size) :
  (Instr.storeAt t (.pointer (some ⟨b,o,none⟩)) v).run P w=.ok () (w.setRow b (c.toList.take o++(v.cells.toList++c.toList.drop (o+v.cells.toList.length))).toArray):=by
 have hsz:v.cells.size=n:=by have:=hc.1;simp only[Array.length_toList] at this;omega
 unfold Instr.storeAt storeVar
 simp only[Instr.sureAddr,pure_bind,Sem.run_bind,Jg hz w,Result.andThen,hsz,ne_eq,not_true,GD]
 have:=run_storeCells_at P b o e v.cells.toList 0 c w hw (by simp[hsz];exact hle) (fun x hx=>by
  obtain⟨i,hi,rfl⟩:=List.getElem_of_mem hx;obtain⟨u,h1,h2,_⟩:=hc.2 i (by rw[←hc.1];exact hi);rw[List.getElem?_eq_getElem hi] at h1;simp only[Ga] at h1;rw[h1];exact h2)
 rw[this]
 simp
theorem J4 (w:World) (b:Nat) (cs:Array Value):Turn b w (w.setRow b cs):=
 ⟨setRow_size w b cs,fun k hk=>setRow_other w b k cs hk⟩
theorem J9 {B:Nat→Prop} {b:Nat} (w:World) (cs:Array Value) (h:¬B b):Kept B w (w.setRow b cs):=
 ⟨rfl,rfl,rfl,by rw[setRow_size];exact Gm _,fun k hk=>setRow_other w b k cs (fun e=>h (e▸hk))⟩
theorem Jci (w:World) (o:Obj):Grow w {w with heap:=w.heap.push o}:=
 ⟨by simp,fun b hb=>by simp[Array.getElem?_push,Nat.ne_of_lt hb]⟩
theorem JbJ {B:Nat→Prop} (w:World) (o:Obj) (h:∀b,B b→b<w.heap.size):Kept B w {w with heap:=w.heap.push o}:=
 ⟨rfl,rfl,rfl,by simp,fun k hk=>by have:=h k hk;simp[Array.getElem?_push,show ¬k=w.heap.size by omega]⟩
theorem JdW (w:World) (o:Obj):({w with heap:=w.heap.push o}:World).heap[w.heap.size]?=some o:=by simp
end
section
variable {P:Program} {cx:Cx} {B:Nat→Prop} {X:Nat→Prop} {S:St} {w:World} {β:Nat→Nat} {α:Nat→Value} {M:Nat→Prop}
def OpPost (cx:Cx) (B:Nat→Prop) (X:Nat→Prop) (S:St) (w:World) (β:Nat→Nat) (α:Nat→Value) (M:Nat→Prop) (S1:St) (r:V) (v:Value) (w':World):Prop:=
 ∃β' α' M',RelW cx B X S1 w' β' α' M'∧(∀u x,RelT cx w (orP X M) S β α u x→RelT cx w' (orP X M') S1 β' α' u x)∧RelT cx w' (orP X M') S1 β' α' v r∧Kept B w w'
theorem OpPost.pure (h:RelW cx B X S w β α M) {r:V} {v:Value} (hr:RelT cx w (orP X M) S β α v r):OpPost cx B X S w β α M S r v w:=
 ⟨β,α,M,h,fun _ _ h=>h,hr,Kept.refl _ _⟩
theorem CR.undef {Y:Nat→Prop} (v:Value):RelT cx w Y S β α v .undef:=RelD.undef v
theorem Ji1 (h:RelW cx B X S w β α M) {s z:Nat} {rows:List (List V)} {f:Fz} (hs:S.A s=some (z,rows,f)) (hf:f≠.dead):hdr (α s)≠some w.heap.size:=fun hb=>by
 have:=(h.arr s z rows f hs hf).1.lt hb;omega
theorem Jkq (h:RelW cx B X S w β α M) {s:Nat} (hs:(S.μ s).isSome):β s≠w.heap.size:=fun hb=>by
 obtain⟨x,hx⟩:=Gw.1 hs;have:=h.varLt (cs:=x.1) (f:=x.2) hx;omega
theorem newVar_post (h:RelW cx B X S w β α M) {d:Nat} {cs:List V} {l:List Value} {t:TypeId} (hd:S.μ d=none) (hc:CR cx w (orP X M) S α l cs) :
  OpPost cx B X S w β α M {S with μ:=upd S.μ d (some (cs,false))} (.lref d 0) (.pointer (some ⟨w.heap.size,0,none⟩)) {w with heap:=w.heap.push (.cells l.toArray t)}:=by
 have hg:=Jci w (.cells l.toArray t)
 have h2:∀b,(M b∨b=w.heap.size)→M b∨(w.heap.size≤b∧b<({w with heap:=w.heap.push (.cells l.toArray t)}:World).heap.size):=fun b hb=>by
  rcases hb with hb|hb
  ·exact .inl hb
  ·subst hb;exact .inr ⟨Gm _,by simp⟩
 have hr:=h.grow (M':=fun b=>M b∨b=w.heap.size) hg (fun b hb=>.inl hb) h2
 have hD:∀u x,RelD cx w (orP X M) u x→RelD cx {w with heap:=w.heap.push (.cells l.toArray t)} (orP X (fun b=>M b∨b=w.heap.size)) u x:=
  fun u x hu=>Jao hg (fun b hb=>(h2 b hb).imp id (·.1)) hu
 have hcr:=hc.mono hD (ATr.refl S α)
 have hv:=hr.addVar (d:=d) (b0:=w.heap.size) (cs:=cs) hd (.inr rfl) (JdW w _) (by simpa using hcr.1) (fun i hi=>by obtain⟨u,a,b,c⟩:=hcr.2 i hi;exact⟨u,by simpa using a,b,c⟩)
  (fun s hs=>Jkq h hs) (fun s z rows f hs hf=>Ji1 h hs hf)
 refine⟨_,_,_,hv,fun u x hu=>RelT.tr (S':={S with μ:=upd S.μ d (some (cs,false))}) hD (show ATr S _ α α from ATr.refl S α) (fun s hs=>?_) hu,⟨by simp[upd],by simp[upd]⟩,JbJ w _ h.size⟩
 have:s≠d:=fun e=>by rw[e,hd] at hs;simp at hs
 exact⟨by simp[upd,this,hs],by simp[upd,this]⟩
theorem load_ok0 (h:RelW cx B X S w β α M) {t:TypeId} {n:Option Nat} {l:Loc} (hne:l≠.x) {p r:V} {v:Value}
  (hp:RelT cx w (orP X M) S β α v p) (hu:(P.underlying t).isSome=true) (hn:(if JH P t then szT P t == n&&n.isSome else n.isNone)=true)
  (hev:Jz S l n p=some r) :
  ∃q,(Instr.loadAt t v).run P w=.ok q w∧RelT cx w (orP X M) S β α q r:=by
 unfold Jz at hev
 cases l with
 |v s=>
  cases p<;>try (simp at hev;done)
  rename_i s' off
  simp only at hev
  split at hev<;>try (simp at hev;done)
  rename_i e;subst e
  simp only[Gb] at hev
  obtain⟨m,hm,hld⟩:=hev
  obtain⟨_,rfl⟩:=hp
  obtain⟨a1,a2,a3,c,e,a4,a5,a6⟩:=h.var s' m.1 m.2 hm
  have:=JbU (P:=P) (t:=t) (base:=0) (off:=off) (n:=n) (r:=r) (l:=c.toList) (S:=S) (β:=β) (α:=α) a4 ⟨by simpa using a5,fun i hi=>by obtain⟨u,b1,b2,b3⟩:=a6 i hi;exact⟨u,by simpa using b1,b2,b3⟩⟩
   (fun j _=>by simp) hu hn hld
  rw[G7] at this
  exact this
 |e s=>
  cases p<;>try (simp at hev;done)
  rename_i s' i off m
  simp only at hev
  split at hev<;>try (simp at hev;done)
  rename_i e;subst e
  split at hev<;>try (simp at hev;done)
  rename_i z rows f hA
  split at hev<;>try (simp at hev;done)
  rename_i hc
  simp only[Gb] at hev
  obtain⟨row,hrow,hld⟩:=hev
  obtain⟨z',rows',f',b,o,cap,hA',rfl,hv⟩:=hp
  rw[hA] at hA'
  simp only[Ga,Gf] at hA'
  obtain⟨rfl,rfl,rfl⟩:=hA'
  have hα:=(hv hc.2).2 hc.1
  obtain⟨p1,p2⟩:=h.arr s' z rows f hA hc.2
  have hi:i<rows.length:=by
   rcases Gt i rows.length with h'|h'
   ·exact h'
   ·simp[List.getElem?_eq_none h'] at hrow
  have hgr:gr rows i=row:=by simp[gr,hrow]
  have hlen:=p1.len i hi
  rw[hgr] at hlen
  rcases p1.at_ with ⟨h1,rfl⟩|⟨b',o',cap',c,e,h1,h2,h3,h4,h5⟩
  ·simp at hi
  ·rw[hα] at h1
   simp only[Value.slice.injEq,Ga,Addr.mk.injEq] at h1
   obtain⟨⟨rfl,rfl,-⟩,-,rfl⟩:=h1
   have hcr:CR cx w (orP X M) S α ((c.toList.drop (o+i*z)).take z) row:=by
    have hb:o+i*z+z≤c.size:=by
     have e1:(i+1)*z≤rows.length*z:=Gq z hi;have e2:rows.length*z≤cap*z:=Gq z h3;rw[GT] at e1;omega
    refine⟨by simp[hlen];omega,fun j hj=>?_⟩;obtain⟨u,q1,q2,q3⟩:=h5 i j hi (by omega);rw[hgr] at q3;exact⟨u,by rw[List.getElem?_take_of_lt (by omega),List.getElem?_drop];simpa using q1,q2,.of_data q3⟩
   exact JbU (base:=o+i*z) h2 hcr (fun j hj=>by rw[List.getElem?_take_of_lt (by rw[hcr.1] at hj;omega),List.getElem?_drop];simp) hu hn hld
 |c=>
  cases p<;>try (simp at hev;done)
  rename_i cs off
  have hld:J5 cs off n=some r:=hev
  simp only[RelT] at hp
  obtain⟨b,o,c,e,fr,rfl,hb,hX,hw,ho,hc⟩:=Ja6 hp
  obtain⟨u,hu'⟩:=JaD hc
  have hcr:CR cx w (orP X M) S α ((List.range cs.length).map u) cs:=
   ⟨by simp,fun j hj=>⟨u j,by simp[hj],(hu' j hj).2.1,.of_data (hu' j hj).2.2⟩⟩
  have:=JbU (P:=P) (t:=t) (base:=o-off) (off:=off) (n:=n) (r:=r) (β:=β) hw hcr (fun j hj=>by simp at hj;simp[hj,(hu' j hj).1]) hu hn hld
  rw[show o-off+off=o by omega] at this
  exact this
 |x=>exact absurd rfl hne
theorem Jcz (h:RelW cx B X S w β α M) {t:TypeId} {n:Option Nat} {l:Loc} {p r:V} {v:Value}
  (hp:RelT cx w (orP X M) S β α v p) (hu:(P.underlying t).isSome=true) (hn:(if JH P t then szT P t == n&&n.isSome else n.isNone)=true)
  (hev:Jz S l n p=some r) :
  ∃q,(Instr.loadAt t v).run P w=.ok q w∧RelT cx w (orP X M) S β α q r:=by
 cases l with
 |x=>
  cases p<;>try (simp[Jz] at hev;done)
  rename_i s' i off m
  exact load_ok0 (l:=.e s') h (by simp) hp hu hn (by simpa [Jz] using hev)
 |_=>exact load_ok0 h (by simp) hp hu hn hev
theorem Jgv {xs:List V} (h:xs.all V.datC=true) (i:Nat) (hi:i<xs.length):(gv xs i).datC=true:=by
 rw[Gs] at h;exact h _ (by simp[gv,hi])
theorem ArrOK.setRow {cx:Cx} {w:World} {Y:Nat→Prop} {v:Value} {z:Nat} {rows:List (List V)} (h:ArrOK cx w Y v z rows) {i:Nat} {r':List V} (hi:i<rows.length) (hr:r'.length=z)
  {b o cap:Nat} (hv:v=.slice (some ⟨b,o,none⟩) rows.length cap) {c:Array Value} {e:TypeId} (hw:w.heap[b]?=some (.cells c e (0,0))) {w':World} {c':Array Value} (hw':w'.heap[b]?=some (.cells c' e (0,0)))
  (hsz:c'.size=c.size) (hD:∀u x,RelD cx w Y u x→RelD cx w' Y u x)
  (hold:∀j,(j<o+i*z∨o+i*z+z≤j)→c'[j]?=c[j]?)
  (hnew:∀j,j<z→∃u,c'[o+i*z+j]?=some u∧u.oneCell'=true∧RelD cx w' Y u (gv r' j)):ArrOK cx w' Y v z (rows.set i r'):=by
 rcases h.at_ with ⟨h1,h2⟩|⟨b1,o1,cap1,c1,e1,h1,h2,h3,h4,h5⟩
 ·subst h2;simp at hi
 ·rw[hv] at h1
  simp only[Value.slice.injEq,Ga,Addr.mk.injEq] at h1
  obtain⟨⟨rfl,rfl,-⟩,-,rfl⟩:=h1
  rw[hw] at h2
  simp only[Ga,Obj.cells.injEq] at h2
  obtain⟨rfl,rfl,-⟩:=h2
  refine⟨fun k hk=>?_,.inr ⟨b,o,cap,c',e,by simpa using hv,hw',by simpa using h3,by rw[hsz];exact h4,fun k j hk hj=>?_⟩⟩
  ·simp only[List.length_set] at hk
   by_cases e':i=k
   ·subst e';simpa [gr,List.getD_eq_getElem?_getD,List.getElem?_set,hi] using hr
   ·have:=h.len k hk;simpa [gr,List.getD_eq_getElem?_getD,List.getElem?_set,e'] using this
  ·simp only[List.length_set] at hk
   by_cases e':i=k
   ·subst e'
    obtain⟨u,q1,q2,q3⟩:=hnew j hj
    exact⟨u,q1,q2,by simpa [gr,List.getD_eq_getElem?_getD,List.getElem?_set,hi] using q3⟩
   ·obtain⟨u,q1,q2,q3⟩:=h5 k j hk hj
    refine⟨u,?_,q2,hD _ _ (by simpa [gr,List.getD_eq_getElem?_getD,List.getElem?_set,e'] using q3)⟩
    rw[hold]
    ·exact q1
    ·rcases Gt k i with h'|h'
     ·have:(k+1)*z≤i*z:=Gq z h'
      rw[GT] at this;exact .inl (by omega)
     ·have:(i+1)*z≤k*z:=Gq z (by omega)
      rw[GT] at this;exact .inr (by omega)
theorem store_elem {S1:St} (h:RelW cx B X S w β α M) {t:TypeId} {n:Nat} {s' i off m:Nat} {xs:List V} {v u:Value}
  (hp:RelT cx w (orP X M) S β α v (.eref s' i off m)) (hcr:CR cx w (orP X M) S α u.cells.toList xs) (hn:xs.length=n) (husz:u.cells.toList.length=n) (hz:szT P t=some n) (hdat:xs.all V.datC=true)
  (hev:(match S.A s' with
    |some (z,rows,.live)=>if rows.length=m then (rows[i]?).bind fun r=>(JG r off xs).bind fun r'=>
      some {S with A:=upd S.A s' (some (z,rows.set i r',.live))} else none
    |_=>none)=some S1) :
  ∃w',(Instr.storeAt t v u).run P w=.ok () w'∧OpPost cx B X S w β α M S1 .undef undef w':=by
 split at hev<;>try (simp at hev;done)
 rename_i z rows hA
 split at hev<;>try (simp at hev;done)
 rename_i hm
 simp only[Gb,Ga] at hev
 obtain⟨row,hrow,r',hr',rfl⟩:=hev
 obtain⟨z',rows',f',b,o,cap,hA',rfl,hv⟩:=hp
 rw[hA] at hA'
 simp only[Ga,Gf] at hA'
 obtain⟨rfl,rfl,rfl⟩:=hA'
 have hα:=(hv (by simp)).2 hm
 obtain⟨p1,p2⟩:=h.arr s' z rows .live hA (by simp)
 have hi:i<rows.length:=by
  rcases Gt i rows.length with h'|h'
  ·exact h'
  ·simp[List.getElem?_eq_none h'] at hrow
 have hgr:gr rows i=row:=by simp[gr,hrow]
 have hlen:=p1.len i hi
 rw[hgr] at hlen
 have hset:=hr'
 unfold JG at hset
 split at hset<;>simp only[Ga,reduceCtorEq] at hset
 rename_i hoff
 have hr'len:r'.length=z:=by rw[←hset];simp;omega
 rcases p1.at_ with ⟨h1,rfl⟩|⟨b',o',cap',c,e,h1,h2,h3,h4,h5⟩
 ·simp at hi
 ·have h1':=h1
  rw[hα] at h1
  simp only[Value.slice.injEq,Ga,Addr.mk.injEq] at h1
  obtain⟨⟨rfl,rfl,-⟩,-,rfl⟩:=h1
  have hbz:o+i*z+z≤c.size:=by
   have e1:(i+1)*z≤rows.length*z:=Gq z hi;have e2:rows.length*z≤cap*z:=Gq z h3;rw[GT] at e1;omega
  have hrun:=Jcn (P:=P) (t:=t) (o:=o+i*z+off) h2 hcr hn hz (by omega)
  refine⟨_,hrun,?_⟩
  have hM:M b:=(p2 b (by rw[h1'];rfl)).2.1 rfl
  have hT:=J4 w b (c.toList.take (o+i*z+off)++(u.cells.toList++c.toList.drop (o+i*z+off+u.cells.toList.length))).toArray
  have hD:∀u x,RelD cx w (orP X M) u x→RelD cx _ (orP X M) u x:=fun _ _ hr=>Ja2 hT hM hr
  have hw':=setRow_heap w b c (c.toList.take (o+i*z+off)++(u.cells.toList++c.toList.drop (o+i*z+off+u.cells.toList.length))).toArray e (0,0) h2
  have hcsz:(c.toList.take (o+i*z+off)++(u.cells.toList++c.toList.drop (o+i*z+off+u.cells.toList.length))).toArray.size=c.size:=by
   simp only[GX,Gk,Gy,Gu,husz,Array.length_toList];omega
  have hat:∀j,(c.toList.take (o+i*z+off)++(u.cells.toList++c.toList.drop (o+i*z+off+u.cells.toList.length))).toArray[j]?=
    if o+i*z+off≤j∧j<o+i*z+off+n then u.cells.toList[j-(o+i*z+off)]? else c[j]?:=by
   intro j
   simp only[List.getElem?_toArray]
   by_cases hj1:j<o+i*z+off
   ·rw[List.getElem?_append_left (by simp;omega),List.getElem?_take_of_lt hj1,Gj (by omega)];simp
   ·by_cases hj2:j<o+i*z+off+n
    ·rw[List.getElem?_append_right (by simp;omega),List.getElem?_append_left (by simp only[Gy,Array.length_toList] at *;omega),Gl ⟨by omega,hj2⟩]
     congr 1;simp;omega
    ·rw[List.getElem?_append_right (by simp;omega),List.getElem?_append_right (by simp only[Gy,Array.length_toList] at *;omega),List.getElem?_drop,Gj (by omega)]
     simp only[Gy,Array.length_toList,husz]
     rw[show o+i*z+off+n+(j-min (o+i*z+off) c.size-n)=j by omega];simp
  have hcr':CR cx _ (orP X M) S α u.cells.toList xs:=hcr.mono hD (ATr.refl S α)
  have harr:ArrOK cx _ (orP X M) (α s') z (rows.set i r'):=p1.setRow hi hr'len h1' h2 hw' hcsz hD
   (fun j hj=>by
    rw[hat j,Gj (by rcases hj with hj|hj<;>omega)])
   (fun j hj=>by
    rw[hat (o+i*z+j)];have hgvr:gv r' j=if off≤j∧j<off+n then gv xs (j-off) else gv row j:=by
     rw[←hset];simp only[gv,List.getD_eq_getElem?_getD];by_cases hj1:j<off
     ·rw[List.getElem?_append_left (by simp;omega),List.getElem?_take_of_lt hj1,Gj (by omega)]
     ·by_cases hj2:j<off+n
      ·rw[List.getElem?_append_right (by simp;omega),List.getElem?_append_left (by simp;omega),Gl ⟨by omega,hj2⟩]
       congr 2;simp;omega
      ·rw[List.getElem?_append_right (by simp;omega),List.getElem?_append_right (by simp;omega),List.getElem?_drop,Gj (by omega)]
       congr 2;simp;omega
    rw[hgvr];by_cases hj1:off≤j∧j<off+n
    ·rw[Gl hj1,Gl (by omega)];obtain⟨u',q1,q2,q3⟩:=hcr'.data hdat (j-off) (by omega);exact⟨u',by rw[show o+i*z+j-(o+i*z+off)=j-off by omega];exact q1,q2,q3⟩
    ·rw[Gj hj1,Gj (by omega)];obtain⟨u',q1,q2,q3⟩:=h5 i j hi hj;rw[hgr] at q3;exact⟨u',q1,q2,hD _ _ q3⟩)
  obtain⟨hsa,hD'⟩:=h.setArr (M':=M) (rows':=rows.set i r') (v':=α s') hA (fun b' hb' _=>hT.block b' (fun e'=>hb' (by rw[h1',e'];rfl))) (by rw[hT.size];exact Gm _) (.inl rfl) (by simp) (fun _=>rfl)
   (fun _ hb=>hb) (fun _ hb=>.inl hb) (fun b' hb'=>(p2 b' hb').2.1 rfl) harr
  refine⟨β,_,M,hsa,fun u' x' hu'=>RelT.tr hD' (JaI hA (by simp) (fun _=>rfl)) (fun s hs=>⟨hs,rfl⟩) hu',CR.undef _,J9 w _ (p2 b (by rw[h1'];rfl)).1⟩
theorem store_ok {S1:St} (h:RelW cx B X S w β α M) {t:TypeId} {n:Nat} {l:Loc} {p x:V} {v u:Value}
  (hp:RelT cx w (orP X M) S β α v p) (hx:RelT cx w (orP X M) S β α u x) (hz:szT P t=some n)
  (hev:JC S l n p x=some S1) :
  ∃w',(Instr.storeAt t v u).run P w=.ok () w'∧OpPost cx B X S w β α M S1 .undef undef w':=by
 unfold JC at hev
 simp only[Gb] at hev
 obtain⟨xs,hxs,hev⟩:=hev
 have hcr:=cells_rel hx hxs
 split at hev<;>try (simp at hev;done)
 rename_i hn
 have husz:u.cells.toList.length=n:=by rw[hcr.1,hn]
 split at hev
 ·rename_i s s' off
  split at hev<;>try (simp at hev;done)
  rename_i e;subst e
  split at hev<;>try (simp at hev;done)
  rename_i cs hs
  simp only[Gb,Ga] at hev
  obtain⟨cs',hcs',rfl⟩:=hev
  obtain⟨_,rfl⟩:=hp
  obtain⟨a1,a2,a3,c,e,a4,a5,a6⟩:=h.var s' cs false hs
  have hcc:CR cx w (orP X M) S α c.toList cs:=⟨by simpa using a5,fun i hi=>by obtain⟨u,b1,b2,b3⟩:=a6 i hi;exact⟨u,by simpa using b1,b2,b3⟩⟩
  obtain⟨hle,hput⟩:=hcc.put hcr hcs'
  simp only[Array.length_toList,husz] at hle
  have hrun:=Jcn (P:=P) (t:=t) a4 hcr hn hz (by simpa using hle)
  refine⟨_,hrun,?_⟩
  have hM:=a2 rfl
  have hw':=setRow_heap w (β s') c (c.toList.take off++(u.cells.toList++c.toList.drop (off+u.cells.toList.length))).toArray e (0,0) a4
  have hsv:=h.setVar (cs':=cs') hs (J4 w (β s') _) hw' (by simpa using hput.1) (fun i hi=>by obtain⟨u,b1,b2,b3⟩:=hput.2 i hi;exact⟨u,by simpa using b1,b2,b3⟩)
  refine⟨β,α,M,hsv,fun u' x' hu'=>RelT.tr (S':={S with μ:=upd S.μ s' (some (cs',false))}) (fun _ _ hr=>Ja2 (J4 w _ _) hM hr) (show ATr S _ α α from ATr.refl S α) (fun s hs'=>⟨?_,rfl⟩) hu',CR.undef _,J9 w _ a1⟩
  by_cases e':s=s'
  ·simp[upd,e']
  ·simpa [upd,e'] using hs'
 ·rename_i s s' i off m
  split at hev<;>try (simp at hev;done)
  rename_i e
  obtain⟨rfl,hdat⟩:=e
  exact store_elem h hp hcr hn husz hz hdat hev
 ·rename_i s' i off m
  split at hev<;>try (simp at hev;done)
  rename_i hdat
  exact store_elem h hp hcr hn husz hz hdat hev
 ·simp at hev
end
section
variable {P:Program} {cx:Cx} {w:World} {X:Nat→Prop} {S:St} {β:Nat→Nat} {α:Nat→Value}
theorem DR.append {z:Nat} {l m:List Value} {rows ys:List (List V)} (h:DR cx w X z l rows) (k:DR cx w X z m ys):DR cx w X z (l++m) (rows++ys):=by
 refine⟨by simp[h.1,k.1,GT],fun i hi=>?_,fun i j hi hj=>?_⟩
 ·rcases Gt i rows.length with hl|hl
  ·have:=h.2.1 i hl;simpa [gr,List.getD_eq_getElem?_getD,List.getElem?_append_left hl] using this
  ·have:=k.2.1 (i-rows.length) (by simp at hi;omega);simpa [gr,List.getD_eq_getElem?_getD,List.getElem?_append_right hl] using this
 ·rcases Gt i rows.length with hl|hl
  ·obtain⟨u,a,b,c⟩:=h.2.2 i j hl hj;have:=JaX hl hj;exact⟨u,by rw[List.getElem?_append_left (by rw[h.1];exact this)];exact a,b,by simpa [gr,List.getD_eq_getElem?_getD,List.getElem?_append_left hl] using c⟩
  ·obtain⟨u,a,b,c⟩:=k.2.2 (i-rows.length) j (by simp at hi;omega) hj;have e:i*z+j-l.length=(i-rows.length)*z+j:=by
    rw[h.1,Nat.sub_mul];have:rows.length*z≤i*z:=Gq z hl;omega
   have hge:l.length≤i*z+j:=by rw[h.1];have:rows.length*z≤i*z:=Gq z hl;omega
   exact⟨u,by rw[List.getElem?_append_right hge,e];exact a,b,by simpa [gr,List.getD_eq_getElem?_getD,List.getElem?_append_right hl] using c⟩
theorem DR.of_cells {z o:Nat} {c:Array Value} {rows:List (List V)} (hlen:∀i,i<rows.length→(gr rows i).length=z)
  (h:∀i j,i<rows.length→j<z→∃u,c[o+i*z+j]?=some u∧u.oneCell'=true∧RelD cx w X u (gv (gr rows i) j)) (hz:0<z) :
  o+rows.length*z≤c.size∨rows=[]:=by
 rcases Nat.eq_zero_or_pos rows.length with h0|h0
 ·exact .inr (GB h0)
 ·obtain⟨u,a,-⟩:=h (rows.length-1) (z-1) (by omega) (by omega)
  have hlt:o+(rows.length-1)*z+(z-1)<c.size:=by
   rcases Gt (o+(rows.length-1)*z+(z-1)) c.size with h'|h'
   ·exact h'
   ·simp[Array.getElem?_eq_none h'] at a
  rw[Nat.sub_mul] at hlt
  have:z≤rows.length*z:=Nat.le_mul_of_pos_left z h0
  exact .inl (by omega)
theorem DR.seg {z o:Nat} {c:Array Value} {rows:List (List V)} (hsz:o+rows.length*z≤c.size) (hlen:∀i,i<rows.length→(gr rows i).length=z)
  (h:∀i j,i<rows.length→j<z→∃u,c[o+i*z+j]?=some u∧u.oneCell'=true∧RelD cx w X u (gv (gr rows i) j)) :
  DR cx w X z ((c.toList.drop o).take (rows.length*z)) rows:=by
 refine⟨by simp;omega,hlen,fun i j hi hj=>?_⟩
 obtain⟨u,a,b,r⟩:=h i j hi hj
 have:=JaX hi hj
 exact⟨u,by rw[List.getElem?_take_of_lt this,List.getElem?_drop];simpa [GU] using a,b,r⟩
theorem DR.nil {z:Nat}:DR cx w X z [] []:=⟨by simp,fun i hi=>by simp at hi,fun i j hi=>by simp at hi⟩
theorem appended_ok {z n:Nat} {y:V} {u:Value} {ys:List (List V)} (hy:RelT cx w X S β α u y) (h:V.rowsOf z y=some ys) (hz:0<z) :
  ∃l,(Builtin.lenOf u).run P w=.ok ys.length w∧(∀w1:World,w1.heap=w.heap→(Builtin.firstCells z ys.length u).run P w1=.ok l.toArray w1)∧DR cx w X z l ys:=by
 suffices main:∀y,RelT cx w X S β α u y→(match y with|.slice z' rows=>if z'=z then some rows else none|.str s=>if z=1 then some (s.map fun b=>[.int .u8 b.toNat]) else none|_=>none)=some ys→
   ∃l,(Builtin.lenOf u).run P w=.ok ys.length w∧(∀w1:World,w1.heap=w.heap→(Builtin.firstCells z ys.length u).run P w1=.ok l.toArray w1)∧DR cx w X z l ys by
  unfold V.rowsOf at h
  split at h
  ·exact main _ hy h
  ·exact main _ hy h
  ·rename_i z' rows
   simp only[RelT] at hy
   cases hy with
   |xslice a n c z rows hr=>exact main (.slice z' rows) hr h
  ·simp at h
 clear h hy
 intro y hy h
 split at h
 ·rename_i z' rows0
  split at h<;>simp only[Ga,reduceCtorEq] at h
  rename_i e
  obtain rfl:z=z':=e.symm
  subst h
  simp only[RelT] at hy
  rcases JR hy with ⟨⟨a0,rfl⟩,rfl⟩|⟨b,o,cap,c,e',fr,rfl,hb,hX,hw,hcap,hzz,hcc⟩
  ·exact⟨[],rfl,fun w1 _=>by cases a0<;>simp[Builtin.firstCells,loadCells,loadCellsFrom],.nil⟩
  ·generalize rows0=rows at *
   by_cases hr:rows=[]
   ·subst hr
    exact⟨[],rfl,fun w1 _=>by simp[Builtin.firstCells,loadCells,loadCellsFrom],.nil⟩
   ·have hsz:=(DR.of_cells hzz hcc hz).resolve_right hr
    refine⟨(c.toList.drop o).take (rows.length*z),rfl,fun w1 hw1=>?_,.seg hsz hzz hcc⟩
    have hl:=run_loadCells_list (P:=P) w1 ⟨b,o,none⟩ ((c.toList.drop o).take (rows.length*z)) (fun j v hj=>by
     have hj':j<rows.length*z:=by
      rcases Gt j (rows.length*z) with h'|h'
      ·exact h'
      ·rw[List.getElem?_eq_none (by simp;omega)] at hj;simp at hj
     rw[List.getElem?_take_of_lt hj',List.getElem?_drop] at hj;rw[JJ];simp[World.cell?,hw1,hw];simpa using hj)
    have hlen:((c.toList.drop o).take (rows.length*z)).length=rows.length*z:=by simp;omega
    rw[hlen] at hl
    simpa [Builtin.firstCells] using hl
 ·split at h<;>simp only[Ga,reduceCtorEq] at h
  rename_i e;subst e;subst h
  obtain⟨s,rfl,rfl⟩:=Jar hy
  have hs:s.data.toList.length=s.size:=Array.length_toList
  refine⟨s.data.toList.map fun b=>.int .u8 b.toNat,by simp[Builtin.lenOf,hs],fun w1 _=>?_,?_⟩
  ·simp only[Builtin.firstCells,Gi,hs,Sem.run_pure]
   congr 1
   apply Array.ext'
   have:(s.extract 0 s.size).data=s.data:=by
    apply Array.ext';simp
   rw[this];simp
  ·refine⟨by simp,fun i hi=>?_,fun i j hi hj=>?_⟩
   ·simp at hi;simp[gr,List.getD_eq_getElem?_getD,hi]
   ·simp only[Gi] at hi
    obtain rfl:j=0:=by omega
    simp only[Array.length_toList] at hi
    have hd:s.data.toList[i]?=some s.data[i]:=by simp
    refine⟨.int .u8 s.data[i].toNat,by rw[List.getElem?_map];simp[hd],rfl,?_⟩
    have:gv (gr (s.data.toList.map fun b=>[V.int .u8 b.toNat]) i) 0=.int .u8 s.data[i].toNat:=by
     simp only[gr,gv,List.getD_eq_getElem?_getD,List.getElem?_map,hd];rfl
    rw[this];exact .int _ _
 ·simp at h
theorem Jch (n:Nat):∀r c,c≤n+(n+768) / 4→Builtin.growBy n r c≤n+(n+768) / 4
 |0,c,h=>by simpa [Builtin.growBy] using h
 |r+1,c,h=>by
  unfold Builtin.growBy;split
  ·exact h
  ·exact Jch n r _ (by omega)
theorem Jdq {need cap:Nat} (h:cap<need) (hn:need≤1073741824):Builtin.nextslicecap need cap≤2147483648:=by
 unfold Builtin.nextslicecap;split
 ·omega
 ·split
  ·omega
  ·have:=Jch need 4 cap (by omega);omega
end
theorem ArrOK.cells {cx:Cx} {w:World} {Y:Nat→Prop} {v:Value} {z:Nat} {rows:List (List V)} (h:ArrOK cx w Y v z rows) (hz:0<z) :
  ∃l,DR cx w Y z l rows∧(∀(P:Program) (w1:World),w1.heap=w.heap→(Builtin.firstCells z rows.length v).run P w1=.ok l.toArray w1)∧
   ∀b o n cap c e,v=.slice (some ⟨b,o,none⟩) n cap→w.heap[b]?=some (.cells c e (0,0))→∀k,k<l.length→c[o+k]?=l[k]?:=by
 rcases h.at_ with ⟨rfl,rfl⟩|⟨b,o,cap,c,e,rfl,h1,h2,h3,h4⟩
 ·exact⟨[],.nil,fun P w1 _=>by simp[Builtin.firstCells],fun b o n cap c e h=>by simp at h⟩
 ·have hsz:o+rows.length*z≤c.size:=by have:=Gq z h2;omega
  refine⟨(c.toList.drop o).take (rows.length*z),.seg hsz h.len h4,fun P w1 hw1=>?_,fun b' o' n' cap' c' e' hv hw' k hk=>?_⟩
  rotate_left
  ·simp only[Value.slice.injEq,Ga,Addr.mk.injEq] at hv
   obtain⟨⟨rfl,rfl,-⟩,-,-⟩:=hv
   rw[h1] at hw'
   simp only[Ga,Obj.cells.injEq] at hw'
   obtain⟨rfl,-⟩:=hw'
   have hk':k<rows.length*z:=by simp at hk;omega
   rw[List.getElem?_take_of_lt hk',List.getElem?_drop];simp
  have hl:=run_loadCells_list (P:=P) w1 ⟨b,o,none⟩ ((c.toList.drop o).take (rows.length*z)) (fun j v hj=>by
   have hj':j<rows.length*z:=by
    rcases Gt j (rows.length*z) with h'|h'
    ·exact h'
    ·rw[List.getElem?_eq_none (by simp;omega)] at hj;simp at hj
   rw[List.getElem?_take_of_lt hj',List.getElem?_drop] at hj;rw[JJ];simp[World.cell?,hw1,h1];simpa using hj)
  have hlen:((c.toList.drop o).take (rows.length*z)).length=rows.length*z:=by simp;omega
  rw[hlen] at hl
  simpa [Builtin.firstCells] using hl
theorem ArrOK.of_DR {cx:Cx} {w:World} {Y:Nat→Prop} {z b o cap:Nat} {rows:List (List V)} {c:Array Value} {e:TypeId} {l:List Value} (hw:w.heap[b]?=some (.cells c e (0,0)))
  (h:DR cx w Y z l rows) (hl:∀k,k<l.length→c[o+k]?=l[k]?) (h1:rows.length≤cap) (h2:o+cap*z≤c.size) {n:Nat} (hn:rows.length=n):ArrOK cx w Y (.slice (some ⟨b,o,none⟩) n cap) z rows:=by
 subst hn
 refine⟨h.2.1,.inr ⟨b,o,cap,c,e,rfl,hw,h1,h2,fun i j hi hj=>?_⟩⟩
 obtain⟨u,a1,a2,a3⟩:=h.2.2 i j hi hj
 have:=JaX hi hj
 exact⟨u,by rw[GU,hl _ (by rw[h.1];exact this)];exact a1,a2,a3⟩
section
variable {P:Program} {w:World}
theorem run_append_fit {t t' ty e:TypeId} {z n m cap:Nat} {base:Option Addr} {u:Value} {l:Array Value} {w':World} (ht:P.underlying t=some (.slice e)) (hz:szT P e=some z)
  (ht':Jai P t'=true)
  (hn:(Builtin.lenOf u).run P w=.ok m w) (hf:(Builtin.firstCells z m u).run P w=.ok l w) (hfit:n+m≤cap)
  (hst:∀a,base=some a→(storeCells (a.add (n*z)) l.toList).run P w=.ok () w') (hnone:base=none→w'=w) :
  (Builtin.append_ #[t,t'] ty #[.slice base n cap,u]).run P w=.ok (.slice base (n+m) cap) w':=by
 obtain⟨d',hd',hd2⟩:∃d',P.underlying t'=some d'∧((∃x,d'=.slice x)∨d'=.string):=by
  unfold Jai at ht';split at ht'<;>simp_all
 unfold Builtin.append_
 rcases hd2 with ⟨x,rfl⟩|rfl
 all_goals
  simp only[List.getElem?_toArray,List.getElem?_cons_zero,List.getElem?_cons_succ,Sem.run_bind,run_underlying ht w,run_underlying hd' w,Result.andThen,Jg hz w,Sem.run_pure,hn,Gr,GD,Gl hfit,Bool.not_false,Gx,hf]
  cases base with
  |none=>simp[hnone rfl]
  |some a=>simp[hst a rfl,Result.andThen]
theorem run_append_grow {t t' ty e:TypeId} {z n m cap:Nat} {base:Option Addr} {u:Value} {l l0:Array Value} {ie:TypeInfo} {zv:Value} (ht:P.underlying t=some (.slice e)) (hz:szT P e=some z)
  (hie:P.info? e=some ie) (hb2:ie.bytes≤65536) (hzv:ie.zero=some zv)
  (ht':Jai P t'=true)
  (hn:(Builtin.lenOf u).run P w=.ok m w) (hf:∀w1:World,w1.heap=w.heap→(Builtin.firstCells z m u).run P w1=.ok l w1) (hfit:¬n+m≤cap)
  (hold:∀w1:World,w1.heap=w.heap→(Builtin.firstCells z n (.slice base n cap)).run P w1=.ok l0 w1) (hlim:n+m≤1073741824) :
  ∃nc d,n+m≤nc∧(Builtin.append_ #[t,t'] ty #[.slice base n cap,u]).run P w=
   .ok (.slice (some ⟨w.heap.size,0,none⟩) (n+m) nc) {w with drawn:=d,heap:=w.heap.push (.cells (l0++l++Builtin.zeroCells zv.cells (nc-(n+m))) e)}:=by
 obtain⟨d',hd',hd2⟩:∃d',P.underlying t'=some d'∧((∃x,d'=.slice x)∨d'=.string):=by
  unfold Jai at ht';split at ht'<;>simp_all
 have hcap:¬((Builtin.nextslicecap (n+m) cap*ie.bytes:Nat)>2 ^ 48):=by
  have h1:=Jdq (need:=n+m) (cap:=cap) (by omega) hlim;have h2:Builtin.nextslicecap (n+m) cap*ie.bytes≤2147483648*65536:=Nat.mul_le_mul h1 hb2;omega
 have hmax:¬(((n+m:Nat):Int)>IntKind.i64.max∧(False∨ie.bytes=0)):=by
  simp only[IntKind.max,IntKind.signed,IntKind.bits,Gx];omega
 have hti:∀w1:World,(typeInfo e).run P w1=.ok ie w1:=fun w1=>Jak hie w1
 have hzero:∀w1:World,(zeroValue e).run P w1=.ok zv w1:=fun w1=>by simp[zeroValue,hti,hzv,Result.andThen]
 have hq:Question.forced (.appendCap (n+m) cap e)=false:=rfl
 refine⟨Question.cut (.appendCap (n+m) cap e) (w.tape w.drawn (.appendCap (n+m) cap e)),w.drawn+1,by simp only[Question.cut];exact Nat.le_add_right _ _,?_⟩
 unfold Builtin.append_
 rcases hd2 with ⟨x,rfl⟩|rfl
 all_goals
  simp only[List.getElem?_toArray,List.getElem?_cons_zero,List.getElem?_cons_succ,Sem.run_bind,run_underlying ht w,run_underlying hd' w,Result.andThen,Jg hz w,Sem.run_pure,hn,Gr,GD,Sem.run_ite,Gj hfit,hti,Gj hmax]
  rw[Gj hcap]
  simp only[Sem.run_bind,run_choose,hq,Gr,GD,Result.andThen,run_askRoom,hold {w with drawn:=w.drawn+1} rfl,hf {w with drawn:=w.drawn+1} rfl,hzero,Sem.run_pure,newRow,run_newObj,Bool.not_false,Gx]
end
section
variable {P:Program} {cx:Cx} {B:Nat→Prop} {X:Nat→Prop} {S:St} {w:World} {β:Nat→Nat} {α:Nat→Value} {M:Nat→Prop}
theorem DR.one {z:Nat} (hz:0<z) {l:List Value} {rows:List (List V)} {w:World} {X:Nat→Prop} (h:DR cx w X z l rows):∀x∈l,x.oneCell'=true:=fun x hx=>by
 obtain⟨k,hk,rfl⟩:=List.getElem_of_mem hx;have hk':k<rows.length*z:=by rw[←h.1];exact hk
 have hkz:k / z<rows.length:=Nat.div_lt_of_lt_mul (by rw[Nat.mul_comm];exact hk');obtain⟨u',a1,a2,-⟩:=h.2.2 (k / z) (k % z) hkz (Nat.mod_lt _ hz);rw[Nat.mul_comm,Nat.div_add_mod,List.getElem?_eq_getElem hk] at a1;simp only[Ga] at a1;rw[a1];exact a2
theorem JcC {s z n:Nat} {rows:List (List V)} {b o cap:Nat} (hn:rows.length=n) :
  RelO {S with A:=upd S.A s (some (z,rows,.live))} (upd α s (.slice (some ⟨b,o,none⟩) n cap)) (.slice (some ⟨b,o,none⟩) n cap) s z n:=
 ⟨rows,.live,some ⟨b,o,none⟩,cap,by simp[upd],rfl,fun _=>⟨b,o,rfl⟩,fun _=>⟨by omega,fun _=>by simp[upd]⟩⟩
theorem JbI {S1:St} (h:RelW cx B X S w β α M) {t t' ty e:TypeId} {s z n:Nat} {y r:V} {v u:Value} {ie:TypeInfo} {zv:Value}
  (hx:RelT cx w (orP X M) S β α v (.own s z n)) (hy:RelT cx w (orP X M) S β α u y)
  (ht:P.underlying t=some (.slice e)) (hz:szT P e=some z) (hie:P.info? e=some ie) (hb2:ie.bytes≤65536) (hzv:ie.zero=some zv) (hzz:zv.cells.size=z) (hz0:0<z)
  (ht':Jai P t'=true)
  (hev:J7 S s z (.own s z n) y=some (r,S1)) :
  ∃q w',(Builtin.append_ #[t,t'] ty #[v,u]).run P w=.ok q w'∧OpPost cx B X S w β α M S1 r q w':=by
 simp only[J7,and_self,Gx] at hev
 split at hev<;>try (simp at hev;done)
 rename_i z'' rows hA
 split at hev<;>try (simp at hev;done)
 rename_i hc
 obtain⟨rfl,hn⟩:=hc
 simp only[Gb] at hev
 obtain⟨ys,hys,hev⟩:=hev
 split at hev<;>try (simp at hev;done)
 rename_i hlim
 simp only[Ga,Gf] at hev
 obtain⟨rfl,rfl⟩:=hev
 obtain⟨rows',f,a,cap,hA',rfl,ha,ho⟩:=hx
 rw[hA] at hA'
 simp only[Ga,Gf] at hA'
 obtain⟨-,rfl,rfl⟩:=hA'
 have hα:=(ho (by simp)).2 hn
 obtain⟨p1,p2⟩:=h.arr s z'' rows .live hA (by simp)
 obtain⟨ly,hlen,hfirst,hdr⟩:=appended_ok (P:=P) (n:=0) hy hys hz0
 obtain⟨lx,hdx,hfx,hat⟩:=p1.cells hz0
 subst hn
 rw[←hα] at hfx p1 hat
 have hlyn:ly.length=ys.length*z'':=hdr.1
 have hlxn:lx.length=rows.length*z'':=hdx.1
 by_cases hfit:rows.length+ys.length≤cap
 ·-- there is room
  rcases p1.at_ with ⟨h1,h2⟩|⟨b,o,cap',c,el,h1,h2,h3,h4,h5⟩
  ·simp only[Value.slice.injEq] at h1
   obtain⟨rfl,-,rfl⟩:=h1
   subst h2
   have hy0:ys=[]:=GB (by simp only[List.length_nil] at hfit;omega)
   subst hy0
   have hly:ly=[]:=GB (by simpa using hlyn)
   subst hly
   have hrun:=run_append_fit (ty:=ty) (base:=none) (w':=w) ht hz ht' hlen (hfirst w rfl) hfit (fun a ha=>by simp at ha) (fun _=>rfl)
   refine⟨_,w,hrun,?_⟩
   have:S={S with A:=upd S.A s (some (z'',[]++[],.live))}:=by
    have:upd S.A s (some (z'',[]++[],.live))=S.A:=by
     funext k;simp only[upd];split
     ·rename_i e;rw[e,hA];rfl
     ·rfl
    rw[this]
   rw[←this]
   exact .pure h ⟨[],.live,none,0,hA,rfl,by simp,fun _=>⟨by simp,fun _=>by rw[←hα];rfl⟩⟩
  ·simp only[Value.slice.injEq] at h1
   obtain⟨rfl,-,rfl⟩:=h1
   have hM:M b:=(p2 b (by rw[←hα];rfl)).2.1 rfl
   have hle:o+rows.length*z''+ly.length≤c.size:=by
    have:=Gq z'' hfit;rw[GT] at this;omega
   have hst:=run_storeCells_at P b (o+rows.length*z'') el ly 0 c w h2 (by omega) (hdr.one hz0)
   rw[Nat.add_zero] at hst
   have hrun:=run_append_fit (ty:=ty) (base:=some ⟨b,o,none⟩) ht hz ht' hlen (hfirst w rfl) hfit (fun a ha=>by
    simp only[Ga] at ha;subst ha;rw[JJ];exact hst) (fun hn=>by simp at hn)
   have hw':=setRow_heap w b c (c.toList.take (o+rows.length*z'')++ly++c.toList.drop (o+rows.length*z''+ly.length)).toArray el (0,0) h2
   have hT:=J4 w b (c.toList.take (o+rows.length*z'')++ly++c.toList.drop (o+rows.length*z''+ly.length)).toArray
   have hbel:=J9 w (c.toList.take (o+rows.length*z'')++ly++c.toList.drop (o+rows.length*z''+ly.length)).toArray (p2 b (by rw[←hα];rfl)).1
   generalize w.setRow b (c.toList.take (o+rows.length*z'')++ly++c.toList.drop (o+rows.length*z''+ly.length)).toArray=w2 at hrun hw' hT hbel
   refine⟨_,w2,hrun,?_⟩
   have hD:∀u x,RelD cx w (orP X M) u x→RelD cx w2 (orP X M) u x:=fun _ _ hr=>Ja2 hT hM hr
   have hall:DR cx w2 (orP X M) z'' (lx++ly) (rows++ys):=(hdx.mono hD).append (hdr.mono hD)
   have hlx:=hat b o _ _ c el rfl h2
   have hcl:c.toList.length=c.size:=Array.length_toList
   have htk:(c.toList.take (o+rows.length*z'')).length=o+rows.length*z'':=by rw[Gy,hcl];omega
   have harr:ArrOK cx w2 (orP X M) (.slice (some ⟨b,o,none⟩) (rows.length+ys.length) cap) z'' (rows++ys):=by
    refine ArrOK.of_DR hw' hall (fun k hk=>?_) (by simpa using hfit) (by rw[GX,Gk,Gk,Gu,htk,hcl];omega) (by simp);simp only[List.getElem?_toArray];rw[Gk] at hk;rw[GG];by_cases hk1:k<lx.length
    ·rw[List.getElem?_append_left hk1,List.getElem?_append_left (by omega),List.getElem?_take_of_lt (by omega),←hlx k hk1];simp
    ·have e2:(lx++ly)[k]?=ly[k-lx.length]?:=List.getElem?_append_right (by omega);rw[e2,List.getElem?_append_right (by omega),List.getElem?_append_left (by omega)]
     congr 1;omega
   have hsame:(rows++ys).length=rows.length→(Value.slice (some ⟨b,o,none⟩) (rows.length+ys.length) cap)=α s:=fun e'=>by
    have:ys.length=0:=by simp at e';exact List.length_eq_zero_iff.2 e'
    rw[←hα,this];rfl
   obtain⟨hsa,hD'⟩:=h.setArr (M':=M) (rows':=rows++ys) (v':=.slice (some ⟨b,o,none⟩) (rows.length+ys.length) cap) hA
    (fun b' hb' _=>hT.block b' (fun e'=>hb' (by rw[←hα,e'];rfl))) (by rw[hT.size];exact Gm _) (.inl (by rw[←hα];rfl)) (by simp) hsame
    (fun _ hb=>hb) (fun _ hb=>.inl hb) (fun b' hb'=>by simp only[Sg.hdr,Ga] at hb';subst hb';exact hM) harr
   exact⟨β,_,M,hsa,fun u' x' hu'=>RelT.tr hD' (JaI hA (by simp) hsame) (fun s hs=>⟨hs,rfl⟩) hu',JcC (by simp),hbel⟩
 ·-- a new block
  have hlim':rows.length+ys.length≤1073741824:=hlim
  obtain⟨nc,d,hnc,hrun⟩:=run_append_grow (ty:=ty) (P:=P) ht hz hie hb2 hzv ht' hlen hfirst hfit (hfx P) hlim'
  have hg:Grow w {w with drawn:=d,heap:=w.heap.push (.cells (lx.toArray++ly.toArray++Builtin.zeroCells zv.cells (nc-(rows.length+ys.length))) e)}:=
   ⟨by simp,fun b hb=>by simp[Array.getElem?_push,Nat.ne_of_lt hb]⟩
  have hw':({w with drawn:=d,heap:=w.heap.push (.cells (lx.toArray++ly.toArray++Builtin.zeroCells zv.cells (nc-(rows.length+ys.length))) e)}:World).heap[w.heap.size]?=some (.cells (lx.toArray++ly.toArray++Builtin.zeroCells zv.cells (nc-(rows.length+ys.length))) e (0,0)):=by simp
  have hlt:w.heap.size<({w with drawn:=d,heap:=w.heap.push (.cells (lx.toArray++ly.toArray++Builtin.zeroCells zv.cells (nc-(rows.length+ys.length))) e)}:World).heap.size:=by simp
  have hbel:Kept B w {w with drawn:=d,heap:=w.heap.push (.cells (lx.toArray++ly.toArray++Builtin.zeroCells zv.cells (nc-(rows.length+ys.length))) e)}:=⟨rfl,rfl,rfl,hg.size,fun k hk=>hg.block k (h.size k hk)⟩
  generalize ({w with drawn:=d,heap:=w.heap.push (.cells (lx.toArray++ly.toArray++Builtin.zeroCells zv.cells (nc-(rows.length+ys.length))) e)}:World)=w2 at hrun hg hw' hlt hbel
  refine⟨_,w2,hrun,?_⟩
  have h2:∀b,(M b∨b=w.heap.size)→M b∨(w.heap.size≤b∧b<w2.heap.size):=fun b hb=>by
   rcases hb with hb|hb
   ·exact .inl hb
   ·subst hb;exact .inr ⟨Gm _,hlt⟩
  have hD:∀u x,RelD cx w (orP X M) u x→RelD cx w2 (orP X (fun b=>M b∨b=w.heap.size)) u x:=fun _ _ hr=>Jao hg (fun b hb=>(h2 b hb).imp id (·.1)) hr
  have hall:DR cx w2 (orP X (fun b=>M b∨b=w.heap.size)) z'' (lx++ly) (rows++ys):=(hdx.mono hD).append (hdr.mono hD)
  have hys0:0<ys.length:=by
   rcases Nat.eq_zero_or_pos ys.length with h0|h0
   ·exfalso
    rcases p1.at_ with ⟨h1,h2⟩|⟨b,o,cap',c,el,h1,h2,h3,h4,h5⟩
    ·simp only[Value.slice.injEq] at h1;obtain⟨-,h1,rfl⟩:=h1;omega
    ·simp only[Value.slice.injEq] at h1;obtain⟨-,-,rfl⟩:=h1;omega
   ·exact h0
  have hsame:(rows++ys).length=rows.length→(Value.slice (some ⟨w.heap.size,0,none⟩) (rows.length+ys.length) nc)=α s:=fun e'=>by
   simp at e';rw[e'] at hys0;simp at hys0
  have harr:ArrOK cx w2 (orP X (fun b=>M b∨b=w.heap.size)) (.slice (some ⟨w.heap.size,0,none⟩) (rows.length+ys.length) nc) z'' (rows++ys):=by
   refine ArrOK.of_DR hw' hall (fun k hk=>?_) (by simpa using hnc) ?_ (by simp)
   ·rw[G7,Array.getElem?_append_left (by simpa using hk)];simp
   ·have:(Builtin.zeroCells zv.cells (nc-(rows.length+ys.length))).size=(nc-(rows.length+ys.length))*z'':=by simp[Builtin.zeroCells,hzz]
    simp only[Array.size_append,GX,this,hlxn,hlyn,G7,Nat.sub_mul,GT];have:=Gq z'' hnc;rw[GT] at this;omega
  obtain⟨hsa,hD'⟩:=h.setArr (M':=fun b=>M b∨b=w.heap.size) (rows':=rows++ys) (v':=.slice (some ⟨w.heap.size,0,none⟩) (rows.length+ys.length) nc) hA
   (fun b' _ hb'=>hg.block b' hb') hg.size (.inr ⟨w.heap.size,rfl,Gm _,hlt⟩) (by simp) hsame
   (fun _ hb=>.inl hb) h2 (fun b' hb'=>by simp only[Sg.hdr,Ga] at hb';exact .inr hb'.symm) harr
  refine⟨β,_,_,hsa,fun u' x' hu'=>RelT.tr hD' (JaI hA (by simp) hsame) (fun s hs=>⟨hs,rfl⟩) hu',JcC (by simp),hbel⟩
end
def ROut (cx:Cx) (w w':World) (X:Nat→Prop) (own:Option Nat) (v:Value) (r:V):Prop:=
 match own with
 |none=>RelD cx w' X v r
 |some j=>∃hv z rows,∃N:Nat→Prop,(∀b,N b→w.heap.size≤b∧b<w'.heap.size)∧(∀b,hdr hv=some b→N b)∧ArrOK cx w' (orP X N) hv z rows∧
   ((r=.slice z rows∧v=hv)∨∃vs,∃cs:Array Value,r=.tuple vs∧v=.tuple cs∧cs.size=vs.length∧j<vs.length∧vs[j]?=some (.slice z rows)∧cs[j]?=some hv∧
    ∀i,i<vs.length→i≠j→∃u,cs[i]?=some u∧RelD cx w' (orP X N) u (gv vs i))
def Ent (P:Program) (f:FuncId):Prop:=∃fn,P.funcs[f]?=some fn∧(fn.name == "runtime.NumGoroutine")=false∧fn.body.isNone=false
def Ctr (P:Program) (cx:Cx) (own:Option Nat) (f:Nat) (args:List V) (r:V):Prop:=
 Ent P (cx.fm f)∧∀(w:World) (X:Nat→Prop) (vs:Array Value),(∀b,X b→b<w.heap.size)→cx.gn≤w.heap.size→cx.G w→vs.size=args.length→
  (∀i,i<args.length→∃u,vs[i]?=some u∧RelD cx w X u (gv args i))→
  Calls P (cx.fm f) vs w fun e w'=>∃v,e=.returned v∧Below w.heap.size w w'∧ROut cx w w' X own v r
theorem ArrOK.slice {cx:Cx} {w:World} {Y:Nat→Prop} {v:Value} {z:Nat} {rows:List (List V)} (h:ArrOK cx w Y v z rows) (hY:∀b,hdr v=some b→¬Y b):RelD cx w Y v (.slice z rows):=by
 rcases h.at_ with ⟨rfl,rfl⟩|⟨b,o,cap,c,e,rfl,h1,h2,h3,h4⟩
 ·exact .nilslice none z
 ·exact Jbh (JN h1) (hY b rfl) h1 h2 h.len h4 rfl
theorem ROut.data {cx:Cx} {w w':World} {X:Nat→Prop} {own:Option Nat} {v:Value} {r:V} (h:ROut cx w w' X own v r) (hX:∀b,X b→b<w.heap.size):RelD cx w' X v r:=by
 cases own with
 |none=>exact h
 |some j=>
  obtain⟨hv,z,rows,N,hN,hh,ha,hr⟩:=h;have hD:∀u x,RelD cx w' (orP X N) u x→RelD cx w' X u x:=fun u x hr=>hr.mono (Gm _) (fun _ _ _=>rfl) (fun b _ hn hx=>hn (.inl hx));have ha':ArrOK cx w' X hv z rows:=ha.tr hD (fun _ _=>rfl);have hs:RelD cx w' X hv (.slice z rows):=ha'.slice (fun b hb hx=>by have:=(hN b (hh b hb)).1;have:=hX b hx;omega);rcases hr with ⟨rfl,rfl⟩|⟨vs,cs,rfl,rfl,hl,hj,hvj,hcj,hoth⟩
  ·exact hs
  ·have:∀i,i<vs.length→∃u,cs[i]?=some u∧RelD cx w' X u (gv vs i):=fun i hi=>by
    by_cases e:i=j
    ·subst e;exact⟨hv,hcj,by simpa [gv,hvj] using hs⟩
    ·obtain⟨u,a,b⟩:=hoth i hi e;exact⟨u,a,hD _ _ b⟩
   obtain⟨u,hu⟩:=JaD this;exact .tuple cs vs u hl (fun i hi=>(hu i hi).1) (fun i hi=>(hu i hi).2)
section
variable {P:Program} {cx:Cx} {B:Nat→Prop} {X:Nat→Prop} {S:St} {w w':World} {β:Nat→Nat} {α:Nat→Value} {M:Nat→Prop}
theorem Jbb (h:RelW cx B X S w β α M):cx.gn≤w.heap.size:=by
 rcases Nat.eq_zero_or_pos cx.gn with e|e
 ·omega
 ·have:=h.size _ (h.glob.1 (cx.gn-1) (by omega));omega
theorem adopt_ok {S1:St} (h:RelW cx B X S w β α M) {d:Nat} {own own':Option Nat} {v:Value} {r r1:V} (hb:Below w.heap.size w w') (ho:own=none∨own=own')
  (hr:ROut cx w w' (orP X M) own' v r) (hXM:∀b,orP X M b→b<w.heap.size) (had:adopt d S own r=some (r1,S1)):OpPost cx B X S w β α M S1 r1 v w':=by
 have hg:=Grow.of_below hb
 have hbB:Kept B w w':=.of hb h.size
 unfold adopt at had
 cases own with
 |none=>
  simp only[Ga,Gf] at had
  obtain⟨rfl,rfl⟩:=had
  have hw:=h.grow hg (M':=M) (fun _ h=>h) (fun _ h=>.inl h)
  exact⟨β,α,M,hw,fun u x hu=>RelT.tr (fun _ _ hr=>Jao hg (fun _ h=>.inl h) hr) (ATr.refl S α) (fun s hs=>⟨hs,rfl⟩) hu,.of_data (hr.data hXM),hbB⟩
 |some j=>
  obtain rfl:own'=some j:=by rcases ho with h|h<;>simp_all
  obtain⟨hv,z,rows,N,hN,hh,ha,hr⟩:=hr
  simp only at had
  split at had
  ·simp at had
  ·rename_i hA
   have h2:∀b,(M b∨N b)→M b∨(w.heap.size≤b∧b<w'.heap.size):=fun b hb=>hb.imp id (hN b)
   have hw:=h.grow hg (M':=fun b=>M b∨N b) (fun _ h=>.inl h) h2
   have hD:∀u x,RelD cx w (orP X M) u x→RelD cx w' (orP X (fun b=>M b∨N b)) u x:=fun _ _ hr=>Jao hg (fun b hb=>(h2 b hb).imp id (·.1)) hr
   have hE:∀u x,RelD cx w' (orP (orP X M) N) u x→RelD cx w' (orP X (fun b=>M b∨N b)) u x:=fun _ _ hr=>hr.mono (Gm _) (fun _ _ _=>rfl) (fun b _ hn hx=>hn (by
    rcases hx with hx|hx|hx
    ·exact .inl (.inl hx)
    ·exact .inl (.inr hx)
    ·exact .inr hx))
   have ha':ArrOK cx w' (orP X (fun b=>M b∨N b)) hv z rows:=ha.tr hE (fun _ _=>rfl)
   have hadd:=hw.addArr (d:=d) (z0:=z) (rows0:=rows) (v0:=hv) hA ha' (fun b hb=>.inr (hh b hb))
    (fun s b hs hb he=>by
     obtain⟨x,hx⟩:=Gw.1 hs;have:=h.varLt (cs:=x.1) (f:=x.2) hx;have:=(hN b (hh b hb)).1;omega)
    (fun s z' r f hs hf b hb hs'=>by
     have:=(h.arr s z' r f hs hf).1.lt hs';have:=(hN b (hh b hb)).1;omega)
   have hT:ATr S {S with A:=upd S.A d (some (z,rows,.live))} α (upd α d hv):=fun s z' r f hs=>by
    have:s≠d:=fun e=>by rw[e,hA] at hs;simp at hs
    exact⟨r,f,by simp[upd,this,hs],fun hf=>⟨hf,Gm _,fun _=>by simp[upd,this]⟩⟩
   have hO:RelO {S with A:=upd S.A d (some (z,rows,.live))} (upd α d hv) hv d z rows.length:=by
    rcases ha.at_ with ⟨rfl,rfl⟩|⟨b,o,cap,c,e,rfl,h1,h2,h3,h4⟩
    ·exact⟨[],.live,none,0,by simp[upd],rfl,by simp,fun _=>⟨by simp,fun _=>by simp[upd]⟩⟩
    ·exact⟨rows,.live,some ⟨b,o,none⟩,cap,by simp[upd],rfl,fun _=>⟨b,o,rfl⟩,fun _=>⟨Gm _,fun _=>by simp[upd]⟩⟩
   rcases hr with ⟨rfl,rfl⟩|⟨vs,cs,rfl,rfl,hl,hj,hvj,hcj,hoth⟩
   ·simp only[Ga,Gf] at had
    obtain⟨rfl,rfl⟩:=had
    exact⟨β,_,_,hadd,fun u x hu=>RelT.tr hD hT (fun s hs=>⟨hs,rfl⟩) hu,hO,hbB⟩
   ·simp only[hvj,Ga,Gf] at had
    obtain⟨rfl,rfl⟩:=had
    refine⟨β,_,_,hadd,fun u x hu=>RelT.tr hD hT (fun s hs=>⟨hs,rfl⟩) hu,⟨cs,rfl,by simpa using hl,fun i hi=>?_⟩,hbB⟩
    simp only[List.length_set] at hi
    by_cases e:i=j
    ·subst e
     refine⟨hv,hcj,?_⟩
     have:gv (vs.set i (.own d z rows.length)) i=.own d z rows.length:=by simp[gv,List.getD_eq_getElem?_getD,hi]
     rw[this];exact hO
    ·obtain⟨u,a,b⟩:=hoth i hi e
     refine⟨u,a,?_⟩
     have:gv (vs.set j (.own d z rows.length)) i=gv vs i:=by simp[gv,List.getD_eq_getElem?_getD,Ne.symm e]
     rw[this];exact .of_data (hE _ _ b)
theorem toDC_ok (h:RelW cx B X S w β α M) {v:Value} {x y:V} (hx:RelC cx w (orP X M) S α v x) (hy:toDC S.A x=some y) {Y:Nat→Prop}
  (hY:∀b,Y b→X b∨M b) (hs:∀s∈Jc x,∀b,hdr (α s)=some b→(∃z rows f,S.A s=some (z,rows,f)∧f≠.dead)→¬Y b):RelD cx w Y v y:=by
 have hD:∀u x,RelD cx w (orP X M) u x→RelD cx w Y u x:=fun u x hr=>hr.mono (Gm _) (fun _ _ _=>rfl) (fun b _ hn hx=>hn (hY b hx))
 unfold toDC at hy
 split at hy
 ·simp only[Ga] at hy
  subst hy
  have hx:RelD cx w (orP X M) v (.nslice _):=hx
  cases hx
  exact .nilslice _ _
 ·rename_i s z n
  split at hy
  ·rename_i z' rows f hA
   split at hy<;>simp only[Ga,reduceCtorEq] at hy
   rename_i hc
   obtain⟨rfl,hn,hf⟩:=hc
   subst hy
   obtain⟨rows',f',a,cap,hA',rfl,ha,ho⟩:=hx
   rw[hA] at hA'
   simp only[Ga,Gf] at hA'
   obtain⟨-,rfl,rfl⟩:=hA'
   have:=(h.arr s z' rows f hA hf).1.tr hD (fun _ _=>rfl)
   rw[←(ho hf).2 hn] at this
   refine this.slice (fun b hb=>?_)
   rw[(ho hf).2 hn] at hb
   exact hs s (by simp[Jc]) b hb ⟨z',rows,f,hA,hf⟩
  ·simp at hy
 ·split at hy<;>simp only[Ga,reduceCtorEq] at hy
  rename_i hd
  subst hy
  exact hD _ _ (hx.data hd)
theorem JF {α β:Type} {f:α→Option β}:∀{l:List α} {r:List β},Jn f l=some r→r.length=l.length∧∀(i:Nat) (x:α),l[i]?=some x→∃y,r[i]?=some y∧f x=some y
 |[],r,h=>by simp only[Jn,Ga] at h;subst h;exact⟨rfl,fun i x hx=>by simp at hx⟩
 |a::l,r,h=>by
  simp only[Jn,Gb,Ga] at h;obtain⟨y,hy,ys,hys,rfl⟩:=h;obtain⟨h1,h2⟩:=JF hys;refine⟨by simp[h1],fun i x hx=>?_⟩;cases i with
  |zero=>simp at hx;subst hx;exact⟨y,rfl,hy⟩
  |succ i=>simpa using h2 i x (by simpa using hx)
theorem Jbr (h:RelW cx B X S w β α M) {v:Value} {x y:V} (hx:RelT cx w (orP X M) S β α v x) (hy:toD S.A x=some y) {Y:Nat→Prop}
  (hY:∀b,Y b→X b∨M b) (hs:∀s∈Je x,∀b,hdr (α s)=some b→(∃z rows f,S.A s=some (z,rows,f)∧f≠.dead)→¬Y b):RelD cx w Y v y:=by
 cases x with
 |agg vs=>
  simp only[toD,GJ] at hy
  obtain⟨ys,hys,rfl⟩:=hy
  obtain⟨cs,rfl,hl,hc⟩:=hx
  obtain⟨h1,h2⟩:=JF hys
  have:∀i,i<ys.length→∃u,cs[i]?=some u∧u.oneCell'=true∧RelD cx w Y u (gv ys i):=fun i hi=>by
   have hi':i<vs.length:=by omega
   obtain⟨u,a,b,c⟩:=hc i hi';obtain⟨y,hy1,hy2⟩:=h2 i vs[i] (by simp[hi']);have hg:gv vs i=vs[i]:=by simp[gv,hi']
   rw[hg] at c;have hgy:gv ys i=y:=by simp[gv,hy1]
   rw[hgy];refine⟨u,a,b,toDC_ok h c hy2 hY (fun s hs'=>hs s ?_)⟩;simp only[Je,G5];exact⟨vs[i],by simp,hs'⟩
  obtain⟨u,hu⟩:=JaD this
  exact .agg cs ys u (by omega) (fun i hi=>⟨(hu i hi).1,(hu i hi).2.1⟩) (fun i hi=>(hu i hi).2.2)
 |tuple vs=>simp[toD,toDC,V.datC] at hy
 |lref s o=>simp[toD,toDC,V.datC] at hy
 |eref s i o n=>simp[toD,toDC,V.datC] at hy
 |own s z n=>exact toDC_ok (x:=.own s z n) h hx hy hY (fun s' hs'=>hs s' (by simpa [Je] using hs'))
 |undef=>exact toDC_ok (x:=.undef) h hx hy hY (fun s' hs'=>by simp[Jc] at hs')
 |bool b=>exact toDC_ok (x:=.bool b) h hx hy hY (fun s' hs'=>by simp[Jc] at hs')
 |int k n=>exact toDC_ok (x:=.int k n) h hx hy hY (fun s' hs'=>by simp[Jc] at hs')
 |str s=>exact toDC_ok (x:=.str s) h hx hy hY (fun s' hs'=>by simp[Jc] at hs')
 |slice z r=>exact toDC_ok (x:=.slice z r) h hx hy hY (fun s' hs'=>by simp[Jc] at hs')
 |func f c=>exact toDC_ok (x:=.func f c) h hx hy hY (fun s' hs'=>by simp[Jc] at hs')
 |cptr c o=>exact toDC_ok (x:=.cptr c o) h hx hy hY (fun s' hs'=>by simp[Jc] at hs')
 |iface t v=>exact toDC_ok (x:=.iface t v) h hx hy hY (fun s' hs'=>by simp[Jc] at hs')
 |niface=>exact toDC_ok (x:=.niface) h hx hy hY (fun s' hs'=>by simp[Jc] at hs')
 |nslice z=>exact toDC_ok (x:=.nslice z) h hx hy hY (fun s' hs'=>by simp[Jc] at hs')
 |xslice z r=>exact toDC_ok (x:=.xslice z r) h hx hy hY (fun s' hs'=>by simp[Jc] at hs')
theorem Jbk {α:Type} (f:Nat→α) (k:Nat) (v:α) (h:f k=v):upd f k v=f:=by
 funext i;simp only[upd];split
 ·rename_i e;rw[e,h]
 ·rfl
theorem frzA_ok:∀(l:List Nat) {S:St} {M:Nat→Prop},RelW cx B X S w β α M→∃M',RelW cx B X {S with A:=Jt S.A l} w β α M'∧(∀b,M' b→M b)∧ATr S {S with A:=Jt S.A l} α α∧
  ∀s∈l,∀b,hdr (α s)=some b→(∃z rows f,S.A s=some (z,rows,f)∧f≠.dead)→¬M' b
 |[],S,M,h=>⟨M,h,fun _ h=>h,ATr.refl S α,fun s hs=>by simp at hs⟩
 |s::l,S,M,h=>by
  have key:∀(A1:Nat→Option (Nat×List (List V)×Fz)) (M1:Nat→Prop),A1=upd S.A s ((S.A s).map fun (z,rows,f)=>(z,rows,if f=.live then .frz else f))→
    RelW cx B X {S with A:=A1} w β α M1→(∀b,M1 b→M b)→ATr S {S with A:=A1} α α→(∀b,hdr (α s)=some b→(∃z rows f,S.A s=some (z,rows,f)∧f≠.dead)→¬M1 b)→
    ∃M',RelW cx B X {S with A:=Jt S.A (s::l)} w β α M'∧(∀b,M' b→M b)∧ATr S {S with A:=Jt S.A (s::l)} α α∧
     ∀s'∈s::l,∀b,hdr (α s')=some b→(∃z rows f,S.A s'=some (z,rows,f)∧f≠.dead)→¬M' b:=by
   intro A1 M1 hA1 hr hsub hT hs
   have e:Jt S.A (s::l)=Jt A1 l:=by rw[hA1];rfl
   obtain⟨M',h1,h2,h3,h4⟩:=frzA_ok l hr
   rw[e]
   refine⟨M',h1,fun b hb=>hsub b (h2 b hb),fun t z rows f ht=>?_,fun s' hs' b hb hex hm=>?_⟩
   ·obtain⟨r1,f1,a1,a2⟩:=hT t z rows f ht
    obtain⟨r2,f2,b1,b2⟩:=h3 t z r1 f1 a1
    refine⟨r2,f2,b1,fun hf=>?_⟩
    obtain⟨c1,c2,c3⟩:=b2 hf
    obtain⟨d1,d2,d3⟩:=a2 c1
    exact⟨d1,by omega,fun _=>rfl⟩
   ·rcases GM.1 hs' with rfl|hs'
    ·exact hs b hb hex (h2 b hm)
    ·refine h4 s' hs' b hb ?_ hm
     obtain⟨z,rows,f,e1,e2⟩:=hex
     by_cases e':s'=s
     ·subst e'
      refine⟨z,rows,if f=.live then .frz else f,by simp[hA1,upd,e1],?_⟩
      split
      ·simp
      ·exact e2
     ·exact⟨z,rows,f,by simp[hA1,upd,e',e1],e2⟩
  cases hA:S.A s with
  |none=>
   exact key S.A M (by rw[hA,Jbk _ _ _ (by simp[hA])]) h (fun _ h=>h) (ATr.refl S α) (fun b _ hex=>by obtain⟨z,rows,f,e,_⟩:=hex;simp[hA] at e)
  |some x=>
   obtain⟨z,rows,f⟩:=x;by_cases hf:f=.live
   ·subst hf;have hfr:=h.frzArr (f':=.frz) (rows':=rows) hA (.inl ⟨rfl,rfl,rfl⟩);refine key _ _ (by rw[hA];rfl) hfr (fun _ h=>h.1) (fun t z' r f1 ht=>?_) (fun b hb _ hm=>hm.2 rfl hb);by_cases e:t=s
    ·subst e;rw[hA] at ht;simp only[Ga,Gf] at ht;obtain⟨rfl,rfl,rfl⟩:=ht;exact⟨rows,.frz,by simp[upd],fun _=>⟨by simp,Gm _,fun _=>rfl⟩⟩
    ·exact⟨r,f1,by simp[upd,e,ht],fun hf=>⟨hf,Gm _,fun _=>rfl⟩⟩
   ·refine key S.A M (by rw[hA,Jbk _ _ _ (by simp[hA,hf])]) h (fun _ h=>h) (ATr.refl S α) (fun b hb hex hm=>?_);obtain⟨z',rows',f',e1,e2⟩:=hex;rw[hA] at e1;simp only[Ga,Gf] at e1;obtain⟨rfl,rfl,rfl⟩:=e1;have hfz:f=.frz:=by cases f<;>simp_all
    exact ((h.arr s z rows f hA e2).2 b hb).2.2 hfz hm
theorem frzM_ok:∀(l:List Nat) {S:St} {M:Nat→Prop},RelW cx B X S w β α M→l.all (JK S.μ)=true→
  ∃M',RelW cx B X {S with μ:=Jah S.μ l} w β α M'∧(∀b,M' b→M b)∧(∀s,(S.μ s).isSome→(Jah S.μ l s).isSome)∧
  ∀s∈l,(S.μ s).isSome→¬M' (β s)
 |[],S,M,h,_=>⟨M,h,fun _ h=>h,fun _ h=>h,fun s hs=>by simp at hs⟩
 |s::l,S,M,h,hd=>by
  simp only[List.all_cons,Gg] at hd;have key:∀(μ1:Nat→Option (List V×Bool)) (M1:Nat→Prop),μ1=upd S.μ s ((S.μ s).map fun (cs,_)=>(cs,true))→
    RelW cx B X {S with μ:=μ1} w β α M1→(∀b,M1 b→M b)→((S.μ s).isSome→¬M1 (β s))→
    ∃M',RelW cx B X {S with μ:=Jah S.μ (s::l)} w β α M'∧(∀b,M' b→M b)∧(∀t,(S.μ t).isSome→(Jah S.μ (s::l) t).isSome)∧∀t∈s::l,(S.μ t).isSome→¬M' (β t):=by
   intro μ1 M1 hμ hr hsub hs
   have e:Jah S.μ (s::l)=Jah μ1 l:=by rw[hμ];rfl
   have hsame:∀t,(S.μ t).isSome=(μ1 t).isSome:=fun t=>by
    rw[hμ];simp only[upd];split
    ·rename_i e;rw[e];simp
    ·rfl
   obtain⟨M',h1,h2,h3,h4⟩:=frzM_ok l hr (by
    rw[Gs] at hd ⊢;intro t ht;have:=hd.2 t ht;simp only[JK] at this ⊢;simp only[hμ,upd];split
    ·rename_i m hm;split at hm
     ·rename_i e;subst e;cases hx:S.μ t with
      |none=>simp[hx] at hm
      |some x=>simp only[hx,Option.map_some,Ga] at hm;subst hm;simpa [hx] using this
     ·simpa [hm] using this
    ·rfl)
   rw[e]
   refine⟨M',h1,fun b hb=>hsub b (h2 b hb),fun t ht=>h3 t (by rw[←hsame];exact ht),fun t ht hts hm=>?_⟩
   rcases GM.1 ht with rfl|ht
   ·exact hs hts (h2 _ hm)
   ·exact h4 t ht (by rw[←hsame];exact hts) hm
  cases hm:S.μ s with
  |none=>exact key S.μ M (by rw[hm,Jbk _ _ _ (by simp[hm])]) h (fun _ h=>h) (fun h=>by simp[hm] at h)
  |some x=>
   obtain⟨cs,f⟩:=x;have hd1:=hd.1;simp only[JK,hm] at hd1;exact key _ _ (by rw[hm];rfl) (h.frzVar hm hd1) (fun _ h=>h.1) (fun _ hmm=>hmm.2 rfl)
theorem JfH {Y Y':Nat→Prop} {v:Value} {r:V} (h:RelD cx w Y v r) (hs:r.scalar=true):RelD cx w' Y' v r:=by
 have h1:∀{v:Value} {x:V},RelD cx w Y v x→(match x with|.bool _|.int ..|.str _=>true|_=>false)=true→RelD cx w' Y' v x:=by
  intro v x h hx;cases h<;>simp at hx
  ·exact .bool _
  ·exact .int _ _
  ·exact .str _
 cases h with
 |tuple cs vs u hl hc hr=>
  simp only[V.scalar,Gs] at hs;exact .tuple cs vs u hl hc (fun i hi=>h1 (hr i hi) (hs _ (by simp[gv,hi])))
 |bool b=>exact .bool _
 |int k n=>exact .int _ _
 |str s=>exact .str _
 |_=>simp[V.scalar] at hs
end
def Does (P:Program) (o:Oper) (a:Act) (w:World) (post:Value→World→Prop):Prop:=
 (∃v w',(execOp a.eval o).run P w=.ok (.value v) w'∧post v w')∨
 (∃w',(execOp a.eval o).run P w=.ok .skip w'∧post undef w')∨
 ∃f args w',(execOp a.eval o).run P w=.ok (.enter f args) w'∧Calls P f args w' fun e w''=>∃v,e=.returned v∧post v w''
theorem Does.wp {P:Program} {o:Oper} {a:Act} {w:World} {post:Value→World→Prop} (h:Does P o a w post) {K:Act→World→Prop} {Q:Exit→Act→World→Prop}
  (hK:∀v w',post v w'→K (a.put o.dst v) w'):o.wp P a w K Q:=by
 unfold Oper.wp
 rcases h with ⟨v,w',hr,hp⟩|⟨w',hr,hp⟩|⟨f,args,w',hr,hc⟩
 ·rw[hr];exact hK _ _ hp
 ·rw[hr];exact hK _ _ hp
 ·rw[hr]
  refine hc.mono fun e w'' he=>?_
  obtain⟨v,rfl,hp⟩:=he
  exact hK _ _ hp
theorem Does.value {P:Program} {o:Oper} {a:Act} {w:World} {post:Value→World→Prop} {s:Sem Value} {v:Value} {w':World}
  (he:execOp a.eval o=(do pure (.value (←s)):Sem Next)) (hs:s.run P w=.ok v w') (hp:post v w'):Does P o a w post:=
 .inl ⟨v,w',by rw[he];simp[hs,Result.andThen],hp⟩
theorem JZ {cx:Cx} {w:World} {Y:Nat→Prop} {S:St} {β:Nat→Nat} {α:Nat→Value} {a:Act} {ds:List (Option Nat)} {e:Nat→V}
  (hg:∀t,RelT cx w Y S β α (a.tmps.getD t undef) (S.ρ t)) (hl:∀i d,ds[i]?=some (some d)→RelT cx w Y S β α (a.tmps.getD d undef) (e i)) :
  ∀(os:List Operand) (avs:List Arg),Ji cx ds os avs=true→os.length=avs.length∧∀i,i<avs.length→∃u,(os.map a.eval)[i]?=some u∧RelT cx w Y S β α u (gv (avs.map (argv e S.ρ)) i)
 |[],[],_=>⟨rfl,fun i hi=>by simp at hi⟩
 |o::os,x::avs,h=>by
  simp only[Ji,Gg] at h;obtain⟨h1,h2⟩:=JZ hg hl os avs h.2;refine⟨by simp[h1],fun i hi=>?_⟩;cases i with
  |zero=>exact⟨a.eval o,rfl,by simpa [gv] using J8 hg hl h.1⟩
  |succ i=>obtain⟨u,p,q⟩:=h2 i (by simpa using hi);exact⟨u,by simpa using p,by simpa [gv] using q⟩
 |[],_::_,h=>by simp[Ji] at h
 |_::_,[],h=>by simp[Ji] at h
section
variable {P:Program} {cx:Cx} {B:Nat→Prop} {X:Nat→Prop} {S:St} {w:World} {β:Nat→Nat} {α:Nat→Value} {M:Nat→Prop}
variable {a:Act} {ds:List (Option Nat)} {e:Nat→V}
theorem fn_ok {S1:St} (h:RelW cx B X S w β α M) (hg:∀t,RelT cx w (orP X M) S β α (a.tmps.getD t undef) (S.ρ t)) (hl:∀i d,ds[i]?=some (some d)→RelT cx w (orP X M) S β α (a.tmps.getD d undef) (e i))
  {f:Nat} {os:List Operand} {avs:List Arg} {sites:List Nat} {r:V} (hok:Ji cx ds os avs=true)
  (hev:(if sites.all (JK S.μ) then
   (Jn (capV S.μ sites) (avs.map (argv e S.ρ))).bind fun cs=>some (V.func f cs,{S with μ:=Jah S.μ sites})
  else none)=some (r,S1)) :
  OpPost cx B X S w β α M S1 r (.func (.func (cx.fm f)) #[] (os.map a.eval).toArray) w:=by
 split at hev<;>try (simp at hev;done)
 rename_i hall
 simp only[Gb,Ga,Gf] at hev
 obtain⟨cs,hcs,rfl,rfl⟩:=hev
 obtain⟨M',h1,h2,h3,h4⟩:=frzM_ok sites h hall
 obtain⟨hlen,hrel⟩:=JZ hg hl os avs hok
 obtain⟨m1,m2⟩:=JF hcs
 have hD:∀u x,RelD cx w (orP X M) u x→RelD cx w (orP X M') u x:=fun u x hr=>Jaw h2 hr
 have hcap:∀i,i<cs.length→∃u,(os.map a.eval).toArray[i]?=some u∧RelD cx w (orP X M') u (gv cs i):=fun i hi=>by
  have hi':i<avs.length:=by simpa using (by omega:i<(avs.map (argv e S.ρ)).length)
  obtain⟨u,p,q⟩:=hrel i hi';obtain⟨y,y1,y2⟩:=m2 i _ (List.getElem?_eq_getElem (by simpa using hi'));have hgv:gv cs i=y:=by simp[gv,y1]
  have hga:gv (avs.map (argv e S.ρ)) i=(avs.map (argv e S.ρ))[i]'(by simpa using hi'):=by simp[gv,hi']
  rw[hga] at q;rw[hgv];refine⟨u,by simpa using p,?_⟩;generalize (avs.map (argv e S.ρ))[i]'(by simpa using hi')=x at q y2;unfold capV at y2;split at y2
  ·rename_i s;split at y2
   ·rename_i c0 f0 hs;split at y2<;>simp only[Ga,reduceCtorEq] at y2;rename_i hc;subst y2;obtain⟨q1,rfl⟩:=q;obtain⟨a1,a2,a3,c,el,a4,a5,a6⟩:=h.var s c0 f0 hs;have hin:s∈sites:=by simpa using hc.1
    refine Ja7 (JN a4) ?_ a4 (Gm _) (fun j hj=>?_)
    ·rintro (hx|hm)
     ·exact a1 (h.xb _ hx)
     ·exact h4 s hin q1 hm
    ·obtain⟨u,b1,b2,b3⟩:=a6 j hj;exact⟨u,by simpa using b1,b2,hD _ _ (b3.data (Jgv hc.2 j hj))⟩
   ·simp at y2
  ·split at y2<;>simp only[Ga,reduceCtorEq] at y2;rename_i hd;subst y2;exact hD _ _ (q.data hd)
 obtain⟨u,hu⟩:=JaD hcap
 refine⟨β,α,M',h1,fun v x hv=>RelT.tr (S':={S with μ:=Jah S.μ sites}) hD (show ATr S _ α α from ATr.refl S α) (fun s hs=>⟨h3 s hs,rfl⟩) hv,?_,Kept.refl _ _⟩
 exact RelD.func f _ cs u (by simp[hlen] at *;omega) (fun i hi=>(hu i hi).1) (fun i hi=>(hu i hi).2)
theorem Jy {f:FuncId} {args:Array Value} (h:Ent P f):(callFunc f args).run P w=.ok (.enter f args) w:=by
 obtain⟨fn,h1,h2,h3⟩:=h;unfold callFunc;simp only[Sem.run_bind,run_program,Result.andThen,h1,h2,h3,Gr,GD,Sem.run_pure]
variable {κ:Nat→List V→Option V} {ownOf:Nat→Option Nat}
def JdQ (cx:Cx) (ds:List (Option Nat)) (x:Operand):Cal→Prop
 |.k f=>x=.func (cx.fm f)
 |.v y=>Ja cx ds x y=true
theorem callee_ok {x:Operand} {c:Cal} {fc:Nat×List V} {Y:Nat→Prop}
  (hg:∀t,RelT cx w Y S β α (a.tmps.getD t undef) (S.ρ t)) (hl:∀i d,ds[i]?=some (some d)→RelT cx w Y S β α (a.tmps.getD d undef) (e i))
  (hc:callee e S.ρ c=some fc) (hx:JdQ cx ds x c) :
  ∃caps:Array Value,a.eval x=.func (.func (cx.fm fc.1)) #[] caps∧caps.size=fc.2.length∧∀i,i<fc.2.length→∃u,caps[i]?=some u∧RelD cx w Y u (gv fc.2 i):=by
 cases c with
 |k f=>
  simp only[callee,Ga] at hc
  subst hc
  simp only[JdQ] at hx
  subst hx
  exact⟨#[],rfl,rfl,fun i hi=>by simp at hi⟩
 |v y=>
  have hr:=J8 hg hl hx
  simp only[callee] at hc
  split at hc<;>simp only[Ga,reduceCtorEq] at hc
  rename_i f cap hy
  subst hc
  rw[hy] at hr
  simp only[RelT] at hr
  generalize a.eval x=q at hr
  cases hr with
  |func f cs vs u hl hc hr=>exact⟨cs,rfl,hl,fun i hi=>⟨u i,hc i hi,hr i hi⟩⟩
theorem Jgl {S1:St} {o:Oper} {c:Call} {x:Operand} {f:Cal} {cv:Cvm} {own:Option Nat} {avs:List Arg} {r:V} {d:Nat}
  (h:RelW cx B X S w β α M) (hg:∀t,RelT cx w (orP X M) S β α (a.tmps.getD t undef) (S.ρ t)) (hl:∀i d,ds[i]?=some (some d)→RelT cx w (orP X M) S β α (a.tmps.getD d undef) (e i))
  (hκ:∀f args r,κ f args=some r→Ctr P cx (ownOf f) f args r) (hown:own=none∨∃g,f=.k g∧own=ownOf g)
  (ho:o.op=.call c) (hcx:c.callee=.value x) (hx:JdQ cx ds x f) (hok:Ji cx ds c.args.toList avs=true)
  (hev:((callee e S.ρ f).bind fun fc=>callV κ d S cv own fc (avs.map (argv e S.ρ)))=some (r,S1)) :
  Does P o a w (OpPost cx B X S w β α M S1 r):=by
 simp only[Gb] at hev
 obtain⟨fc,hfc,hev⟩:=hev
 unfold callV at hev
 obtain⟨caps,hcv,hcl,hcr⟩:=callee_ok hg hl hfc hx
 obtain⟨hlen,hrel⟩:=JZ hg hl _ avs hok
 have hownf:own=none∨own=ownOf fc.1:=by
  rcases hown with h|⟨g,rfl,h⟩
  ·exact .inl h
  ·simp only[callee,Ga] at hfc;subst hfc;exact .inr h
 have hrun:∀(hE:Ent P (cx.fm fc.1)),(execOp a.eval o).run P w=.ok (.enter (cx.fm fc.1) ((c.args.toList.map a.eval).toArray++caps)) w:=by
  intro hE;have hres:(resolve a.eval c o.type).run P w=.ok {target:=.fn (.func (cx.fm fc.1)) caps,args:=#[]++c.args.map a.eval} w:=by
   unfold resolve;rw[hcx];simp only;rw[hcv]
   rfl
  unfold execOp;simp only[ho,Sem.run_bind,hres,Result.andThen,invoke];rw[Jy hE];have:(c.args.toList.map a.eval).toArray=c.args.map a.eval:=by apply Array.ext';simp
  rw[this];simp
 have hXM:∀b,orP X M b→b<w.heap.size:=fun b hb=>by
  rcases hb with hb|hb
  ·exact h.size b (h.xb b hb)
  ·exact (h.m b hb).2
 have hsize:((c.args.toList.map a.eval).toArray++caps).size=avs.length+fc.2.length:=by rw[Array.size_append,GX,Gi,hlen,hcl]
 -- the arguments,avs data under Y
 have args_ok:∀(Y:Nat→Prop) (bs:List V),bs.length=avs.length→(∀i,i<bs.length→∃u,(c.args.toList.map a.eval)[i]?=some u∧RelD cx w Y u (gv bs i))→(∀b,Y b→orP X M b)→
   ∀i,i<(bs++fc.2).length→∃u,((c.args.toList.map a.eval).toArray++caps)[i]?=some u∧RelD cx w Y u (gv (bs++fc.2) i):=by
  intro Y bs hbl hb hY i hi
  have hal:(c.args.toList.map a.eval).toArray.size=bs.length:=by rw[GX,Gi,hlen,hbl]
  rcases Gt i bs.length with hlt|hge
  ·obtain⟨u,p,q⟩:=hb i hlt
   refine⟨u,?_,?_⟩
   ·rw[Array.getElem?_append_left (by omega)];simpa using p
   ·simpa [gv,List.getD_eq_getElem?_getD,List.getElem?_append_left hlt] using q
  ·obtain⟨u,p,q⟩:=hcr (i-bs.length) (by simp at hi;omega)
   refine⟨u,?_,?_⟩
   ·rw[Array.getElem?_append_right (by omega),hal];exact p
   ·have q':RelD cx w Y u (gv fc.2 (i-bs.length)):=q.mono (Gm _) (fun _ _ _=>rfl) (fun b _ hn hy=>hn (hY b hy))
    simpa [gv,List.getD_eq_getElem?_getD,List.getElem?_append_right hge] using q'
 have conv:∀(Y:Nat→Prop) (bs:List V),Jn (toD S.A) (avs.map (argv e S.ρ))=some bs→(∀b,Y b→X b∨M b)→
   (∀s∈(avs.map (argv e S.ρ)).flatMap Je,∀b,hdr (α s)=some b→(∃z rows f,S.A s=some (z,rows,f)∧f≠.dead)→¬Y b)→
   bs.length=avs.length∧∀i,i<bs.length→∃u,(c.args.toList.map a.eval)[i]?=some u∧RelD cx w Y u (gv bs i):=by
  intro Y bs hbs hY hs
  obtain⟨m1,m2⟩:=JF hbs
  have m1':bs.length=avs.length:=by simpa using m1
  refine⟨m1',fun i hi=>?_⟩
  have hi':i<avs.length:=by omega
  obtain⟨u,p,q⟩:=hrel i hi'
  have hlt:i<(avs.map (argv e S.ρ)).length:=by simpa using hi'
  obtain⟨y,y1,y2⟩:=m2 i _ (List.getElem?_eq_getElem hlt)
  have hgv:gv bs i=y:=by simp[gv,y1]
  have hga:gv (avs.map (argv e S.ρ)) i=(avs.map (argv e S.ρ))[i]'hlt:=by simp[gv,hi']
  rw[hga] at q
  rw[hgv]
  exact⟨u,p,Jbr h q y2 hY (fun s hs'=>hs s (G5.2 ⟨_,Gaf hlt,hs'⟩))⟩
 cases cv with
 |no=>
  simp only at hev
  split at hev<;>try (simp at hev;done)
  rename_i hdat
  simp only[Gb] at hev
  obtain⟨r0,hr0,had⟩:=hev
  obtain⟨hE,hC⟩:=hκ _ _ _ hr0
  refine .inr (.inr ⟨_,_,w,hrun hE,(hC w (orP X M) _ hXM (Jbb h) h.glob.2 (by rw[hsize];simp) ?_).mono ?_⟩)
  ·refine args_ok (orP X M) _ (by simp) (fun i hi=>?_) (fun _ h=>h)
   have hi':i<avs.length:=by simpa using hi
   obtain⟨u,p,q⟩:=hrel i hi'
   refine⟨u,p,q.data ?_⟩
   rw[Gs] at hdat
   exact hdat _ (by simp only[gv,List.getD_eq_getElem?_getD,List.getElem?_eq_getElem hi,Option.getD_some];exact Gaf hi)
  ·rintro en w' ⟨v,rfl,hb,hr⟩
   exact⟨v,rfl,adopt_ok h hb hownf hr hXM had⟩
 |borrow=>
  simp only[Gb] at hev
  obtain⟨bs,hbs,r0,hr0,had⟩:=hev
  split at had<;>simp only[Ga,Gf,reduceCtorEq] at had
  rename_i hsc
  obtain⟨rfl,rfl⟩:=had
  obtain⟨hE,hC⟩:=hκ _ _ _ hr0
  obtain⟨hbl,hb⟩:=conv (fun b=>orP X M b∧∀s∈(avs.map (argv e S.ρ)).flatMap Je,hdr (α s)≠some b) bs hbs (fun b hb=>hb.1) (fun s hs b hb _ hn=>hn.2 s hs hb)
  refine .inr (.inr ⟨_,_,w,hrun hE,(hC w (fun b=>orP X M b∧∀s∈(avs.map (argv e S.ρ)).flatMap Je,hdr (α s)≠some b) _ (fun b hb=>hXM b hb.1) (Jbb h) h.glob.2 (by rw[hsize];simp[hbl]) (args_ok _ bs hbl hb (fun b hb=>hb.1))).mono ?_⟩)
  rintro en w' ⟨v,rfl,hbel,hr⟩
  have hw:=h.grow (Grow.of_below hbel) (M':=M) (fun _ h=>h) (fun _ h=>.inl h)
  refine⟨v,rfl,β,α,M,hw,fun u x hu=>RelT.tr (fun _ _ hr=>Jao (Grow.of_below hbel) (fun _ h=>.inl h) hr) (ATr.refl S α) (fun s hs=>⟨hs,rfl⟩) hu,.of_data (JfH (hr.data (fun b hb=>hXM b hb.1)) hsc),.of hbel h.size⟩
 |freeze=>
  simp only[Gb] at hev
  obtain⟨bs,hbs,r0,hr0,had⟩:=hev
  obtain⟨hE,hC⟩:=hκ _ _ _ hr0
  obtain⟨M',f1,f2,f3,f4⟩:=frzA_ok ((avs.map (argv e S.ρ)).flatMap Je) h
  obtain⟨hbl,hb⟩:=conv (orP X M') bs hbs (fun b hb=>hb.imp id (f2 b)) (fun s hs b hb hex hn=>by
   rcases hn with hx|hm
   ·obtain⟨z,rows,f,e1,e2⟩:=hex;exact ((h.arr s z rows f e1 e2).2 b hb).1 (h.xb b hx)
   ·exact f4 s hs b hb hex hm)
  have hXM':∀b,orP X M' b→b<w.heap.size:=fun b hb=>hXM b (hb.imp id (f2 b))
  refine .inr (.inr ⟨_,_,w,hrun hE,(hC w (orP X M') _ hXM' (Jbb h) h.glob.2 (by rw[hsize];simp[hbl]) (args_ok _ bs hbl hb (fun b hb=>hb.imp id (f2 b)))).mono ?_⟩)
  rintro en w' ⟨v,rfl,hbel,hr⟩
  obtain⟨β',α',M'',q1,q2,q3,q4⟩:=adopt_ok f1 hbel hownf hr hXM' had
  exact⟨v,rfl,β',α',M'',q1,fun u x hu=>q2 u x (RelT.tr (S':={S with A:=Jt S.A ((avs.map (argv e S.ρ)).flatMap Je)}) (fun _ _ hr=>Jaw f2 hr) f3 (fun s hs=>⟨hs,rfl⟩) hu),q3,q4⟩
theorem Ja4 {t:TypeId} (h:concT P t=true):∃u,(underlying t).run P w=.ok u w∧∀ms,u≠.interface ms:=by
 unfold concT at h;split at h
 ·simp at h
 ·rename_i u hu hx;exact⟨u,run_underlying hx w,fun ms e=>hu ms e⟩
 ·simp at h
theorem Jg1 {t:TypeId} {v:Value} (h:concT P t=true):(Instr.makeInterface t v).run P w=.ok (.iface t v) w:=by
 obtain⟨u,h1,h2⟩:=Ja4 (w:=w) h;unfold Instr.makeInterface;simp only[Sem.run_bind,h1,Result.andThen];cases u<;>first|rfl|exact absurd rfl (h2 _)
theorem Jf8 {t xt:TypeId} {v:Value} {ok:Bool} (h:concT P t=true):(Instr.typeAssert (.iface t v) xt t ok).run P w=.ok (if ok then .tuple #[v,.bool true] else v) w:=by
 obtain⟨u,h1,h2⟩:=Ja4 (w:=w) h;unfold Instr.typeAssert;simp only[Sem.run_bind,h1,Result.andThen];cases u<;>first|(simp;done)|exact absurd rfl (h2 _)
theorem JeE {t t' xt:TypeId} {v z:Value} (h:concT P t=true) (ht:t'≠t) (hz:(zeroValue t).run P w=.ok z w):(Instr.typeAssert (.iface t' v) xt t true).run P w=.ok (.tuple #[z,.bool false]) w:=by
 obtain⟨u,h1,h2⟩:=Ja4 (w:=w) h;unfold Instr.typeAssert;simp only[Sem.run_bind,h1,Result.andThen];cases u<;>first|(simp[ht,hz,Result.andThen];done)|exact absurd rfl (h2 _)
theorem Jf9 {t xt:TypeId} {z:Value} (h:concT P t=true) (hz:(zeroValue t).run P w=.ok z w):(Instr.typeAssert .nilIface xt t true).run P w=.ok (.tuple #[z,.bool false]) w:=by
 obtain⟨u,h1,h2⟩:=Ja4 (w:=w) h;unfold Instr.typeAssert;simp only[Sem.run_bind,h1,Result.andThen];cases u<;>first|(simp[hz,Result.andThen];done)|exact absurd rfl (h2 _)
theorem Jg2 {t:TypeId} {name:String} {f:FuncId} {v:Value} {args:Array Value} (h:mthT P t name=some f) (hE:Ent P f):(callMethod (.iface t v) name args).run P w=.ok (.enter f (#[v]++args)) w:=by
 unfold mthT at h;split at h<;>try (simp at h;done)
 rename_i i u hi hu;split at h<;>try (simp at h;done)
 rename_i m hm hp;split at h<;>try (simp at h;done)
 rename_i hpath;split at h<;>simp only[Ga,reduceCtorEq] at h;rename_i f' hf;subst h;have hpath':m.path.toList=[]:=by simpa using hpath
 have hmeth:(method (P.types.size+Made.depth) t v name).run P w=.ok (f',v) w:=by
  obtain⟨n,hn⟩:∃n,P.types.size+Made.depth=n+1:=⟨P.types.size+99,rfl⟩;rw[hn];unfold method;simp only[Sem.run_bind,Jak hi,Result.andThen,hm,Sem.run_pure,hpath',follow,hf];unfold receiverAt;simp only[Sem.run_bind,run_underlying hu,Result.andThen]
  rfl
 unfold callMethod;simp only[Sem.run_bind,run_program,Result.andThen,hmeth];exact Jy hE
theorem Jco {t:TypeId} {z:List V} {Y:Nat→Prop} (h:okZeroA P t z=true):∃v,(zeroValue t).run P w=.ok v w∧RelD cx w Y v (.agg z):=by
 unfold okZeroA at h;split at h
 ·rename_i i hi;split at h
  ·rename_i cs hz;refine⟨.agg cs,by simp[zeroValue,typeInfo,hi,hz,Result.andThen],?_⟩;exact JcL (v:=.agg cs) (x:=.agg z) h
  ·simp at h
 ·simp at h
theorem Jji {S1:St} {o:Oper} {c:Call} {x:Operand} {name:String} {l:List (Nat×Nat)} {y:Arg} {avs:List Arg} {r:V} {d:Nat}
  (h:RelW cx B X S w β α M) (hg:∀t,RelT cx w (orP X M) S β α (a.tmps.getD t undef) (S.ρ t)) (hl:∀i d,ds[i]?=some (some d)→RelT cx w (orP X M) S β α (a.tmps.getD d undef) (e i))
  (hκ:∀f args r,κ f args=some r→Ctr P cx (ownOf f) f args r)
  (ho:o.op=.call c) (hcx:c.callee=.invoke x name) (hx:Ja cx ds x y=true) (hok:Ji cx ds c.args.toList avs=true) (hm:∀q∈l,mthT P (cx.tm q.1) name=some (cx.fm q.2))
  (hev:ev κ d e S (.inv l y avs)=some (r,S1)) :
  Does P o a w (OpPost cx B X S w β α M S1 r):=by
 simp only[ev] at hev
 have hr:=J8 hg hl hx
 split at hev<;>try (simp at hev;done)
 rename_i t v hy
 split at hev<;>try (simp at hev;done)
 rename_i hdat
 simp only[Gb] at hev
 obtain⟨q,hq,r0,hr0,had⟩:=hev
 have hmem:=List.mem_of_find?_eq_some hq
 have hqt:q.1=t:=by simpa using List.find?_some hq
 obtain⟨hE,hC⟩:=hκ _ _ _ hr0
 have hmt:=hm q hmem
 rw[hqt] at hmt
 rw[hy] at hr
 have hr:RelD cx w (orP X M) (a.eval x) (.iface t v):=hr
 obtain⟨u,hu,hru⟩:∃u,a.eval x=.iface (cx.tm t) u∧RelD cx w (orP X M) u v:=by
  generalize a.eval x=p at hr;cases hr with
  |iface t u v hr=>exact⟨u,rfl,hr⟩
 obtain⟨hlen,hrel⟩:=JZ hg hl _ avs hok
 have hrun:(execOp a.eval o).run P w=.ok (.enter (cx.fm q.2) (#[u]++c.args.map a.eval)) w:=by
  have hres:(resolve a.eval c o.type).run P w=.ok {target:=.fn (.method name) #[],args:=#[a.eval x]++c.args.map a.eval} w:=by
   unfold resolve;rw[hcx];rfl
  unfold execOp;simp only[ho,Sem.run_bind,hres,Result.andThen,invoke];have e0:(#[a.eval x]++c.args.map a.eval)[0]?=some (.iface (cx.tm t) u):=by rw[hu,Array.getElem?_append_left (by simp)];rfl
  have e1:(#[a.eval x]++c.args.map a.eval).extract 1 (#[a.eval x]++c.args.map a.eval).size=c.args.map a.eval:=by
   apply Array.ext';simp[G0]
  simp only[e0,e1];exact Jg2 hmt hE
 have hXM:∀b,orP X M b→b<w.heap.size:=fun b hb=>by
  rcases hb with hb|hb
  ·exact h.size b (h.xb b hb)
  ·exact (h.m b hb).2
 have hdat':=hdat
 rw[Gs] at hdat'
 refine .inr (.inr ⟨_,_,w,hrun,(hC w (orP X M) _ hXM (Jbb h) h.glob.2 (by simp only[Array.size_append,Array.size_map,List.length_cons,Gi];simpa [Nat.add_comm] using hlen) ?_).mono ?_⟩)
 ·intro i hi
  cases i with
  |zero=>exact⟨u,by rw[Array.getElem?_append_left (by simp)];rfl,hru⟩
  |succ i=>
   have hi':i<avs.length:=by simpa using hi
   obtain⟨p,p1,p2⟩:=hrel i hi'
   refine⟨p,?_,?_⟩
   ·rw[Array.getElem?_append_right (show (#[u]:Array Value).size≤i+1 by simp)]
    simpa using p1
   ·have hga:gv (v::avs.map (argv e S.ρ)) (i+1)=gv (avs.map (argv e S.ρ)) i:=by simp[gv]
    rw[hga]
    refine p2.data (hdat' _ (GF _ ?_))
    have hlt:i<(avs.map (argv e S.ρ)).length:=by simpa using hi'
    simp only[gv,List.getD_eq_getElem?_getD,List.getElem?_eq_getElem hlt,Option.getD_some]
    exact Gaf hlt
 ·rintro en w' ⟨v',rfl,hb,hr'⟩
  exact⟨v',rfl,adopt_ok (d:=d) (own:=none) h hb (.inl rfl) hr' hXM (by simpa [adopt] using had)⟩
end
section inv
variable {P:Program} {cx:Cx} {ds:List (Option Nat)} {op:Go.Op}
theorem Jhq {y:Arg} (h:okK P cx ds op (.mov y)=true):∃x,(op=.move x∨op=.assign x)∧Ja cx ds x y=true:=by
 cases op<;>simp[okK] at h
 ·exact⟨_,.inl rfl,h⟩
 ·exact⟨_,.inr rfl,h⟩
theorem Jhf {s:Nat} {y:Arg} (h:okK P cx ds op (.frz s y)=true):∃x,op=.assign x∧Ja cx ds x y=true:=by
 cases op<;>simp[okK] at h;exact⟨_,rfl,h⟩
theorem Jfy {c x y:Arg} (h:okK P cx ds op (.pick c x y)=true):∃c' x' y',op=.pick c' x' y'∧Ja cx ds c' c=true∧Ja cx ds x' x=true∧Ja cx ds y' y=true:=by
 cases op<;>simp[okK] at h;exact⟨_,_,_,rfl,h.1.1,h.1.2,h.2⟩
theorem Jg8 {y:Arg} (h:okK P cx ds op (.box y)=true):∃t x,op=.box t x∧Ja cx ds x y=true:=by
 cases op<;>simp[okK] at h;exact⟨_,_,rfl,h⟩
theorem Jei {z:List V} (h:okK P cx ds op (.alloc z)=true):∃t,op=.alloc t∧JI P t z=true:=by
 cases op<;>simp[okK] at h;exact⟨_,rfl,h⟩
theorem Jej {z:List V} {qs} (h:okK P cx ds op (.build z qs)=true):∃t ps,op=.build t ps∧JI P t z=true∧((∃pl,JbC P t=some pl∧okParts cx ds (fun i=>pl[i]?) ps.toList qs=true)∨(arrT P t=true∧ps=#[]∧qs=[])):=by
 cases op<;>simp[okK] at h;obtain⟨h1,h2⟩:=h;split at h2
 ·exact⟨_,_,rfl,h1,.inl ⟨_,by assumption,h2⟩⟩
 ·simp only[Gg,Array.isEmpty_iff,List.isEmpty_iff] at h2;exact⟨_,_,rfl,h1,.inr ⟨h2.1.1,h2.1.2,h2.2⟩⟩
theorem JdS {z n:Nat} {zero:List V} {qs} (h:okK P cx ds op (.mks z n zero qs)=true):(∃t len ps el,op=.buildSlice t len ps∧JP P t=some el∧szT P el=some z∧JI P el zero=true∧zero.length=z∧z≠0∧len=n∧len*z≤16777216∧Jaq cx ds ps.toList qs=true)∨
  (∃t el ie,op=.makeSlice t (.const (.int .i64 n)) (.const (.int .i64 n))∧JP P t=some el∧szT P el=some z∧JI P el zero=true∧zero.length=z∧z≠0∧n*z≤16777216∧qs=[]∧n≠0∧P.info? el=some ie∧ie.bytes*n≤65536):=by
 have hcase:(∃t len ps,op=.buildSlice t len ps)∨(∃t len cap,op=.makeSlice t (.const (.int .i64 len)) (.const (.int .i64 cap))):=by
  unfold okK at h;split at h<;>simp_all
 rcases hcase with ⟨t,len,ps,rfl⟩|⟨t,len,cap,rfl⟩
 rotate_left
 ·refine .inr ?_
  simp only[okK] at h
  split at h
  ·rename_i e he
   simp only[Gg,GA,bne_iff_ne,Gz,List.isEmpty_iff] at h
   obtain⟨⟨⟨⟨⟨⟨⟨⟨⟨h1,h2⟩,h3⟩,h4⟩,h5⟩,h6⟩,h7⟩,h8⟩,h9⟩,h10⟩:=h
   split at h10
   ·rename_i ie hie
    subst h5;subst h6
    exact⟨t,e,ie,rfl,he,h1,h2,h3,h4,h7,h8,h9,hie,Ge h10⟩
   ·simp at h10
  ·simp at h
 refine .inl ?_
 simp[okK] at h
 split at h
 ·simp at h
  obtain⟨⟨⟨⟨⟨⟨h1,h2⟩,h3⟩,h4⟩,h5⟩,h6⟩,h7⟩:=h
  exact⟨_,_,_,_,rfl,by assumption,h1,h2,h3,h4,h5,h6,h7⟩
 ·simp at h
theorem Jhp {z:Nat} (h:okK P cx ds op (.mko z)=true):∃x,(op=.move (.const x)∨op=.assign (.const x))∧x=.slice none 0 0:=by
 unfold okK at h;split at h<;>simp_all
theorem Jho {z n:Nat} {zero:List V} {qs} (h:okK P cx ds op (.mkb z n zero qs)=true):okK P cx ds op (.mks z n zero qs)=true:=by
 cases op<;>simp[okK] at h;simpa [okK] using h
theorem Jfx {y:Arg} (h:okK P cx ds op (.nilq y)=true):∃t x t' e,op=.binOp .eql t x (.const (.slice none 0 0)) t'∧Ja cx ds x y=true∧P.underlying t=some (.slice e):=by
 unfold okK at h;split at h<;>try (simp_all;done)
 simp only[Gg] at h;rename_i t x t' a _ heq;simp only[K.nilq.injEq] at heq;subst heq;obtain⟨h1,h2⟩:=h;unfold JP at h2;split at h2
 ·exact⟨_,_,_,_,rfl,h1,by assumption⟩
 ·simp at h2
theorem Jhi {y:Arg} (h:okK P cx ds op (.ifn y)=true):∃t x t' ms,op=.binOp .neq t x (.const .nilIface) t'∧Ja cx ds x y=true∧P.underlying t=some (.interface ms):=by
 unfold okK at h;split at h<;>try (simp_all;done)
 simp only[Gg] at h;rename_i t x t' a _ heq;simp only[K.ifn.injEq] at heq;subst heq;obtain⟨h1,h2⟩:=h;unfold Jly at h2;split at h2
 ·exact⟨_,_,_,_,rfl,h1,by assumption⟩
 ·simp at h2
theorem Jfu {l:Loc} {n:Option Nat} {y:Arg} (h:okK P cx ds op (.load l n y)=true):∃t p,op=.load t p∧Ja cx ds p y=true∧(P.underlying t).isSome=true∧(if JH P t then szT P t == n&&n.isSome else n.isNone)=true:=by
 cases op<;>simp[okK] at h;exact⟨_,_,rfl,h.1.1,h.1.2,by simpa using h.2⟩
theorem Jhl {s v n:Nat} {y:Arg} (h:okK P cx ds op (.ldf s v n y)=true):∃t p,op=.load t p∧Ja cx ds p y=true∧(P.underlying t).isSome=true∧(if JH P t then szT P t == some n&&(some n).isSome else (some n).isNone)=true:=by
 cases op<;>simp[okK] at h;exact⟨_,_,rfl,h.1.1,h.1.2,by simp[h.2.1,h.2.2]⟩
theorem Jen {l:Loc} {n:Nat} {y z:Arg} (h:okK P cx ds op (.store l n y z)=true):∃t p x,op=.store t p x∧Ja cx ds p y=true∧Ja cx ds x z=true∧szT P t=some n:=by
 cases op<;>simp[okK] at h;exact⟨_,_,_,rfl,h.1.1,h.1.2,h.2⟩
theorem Jg7 {o:BinOp} {y z:Arg} (h:okK P cx ds op (.bin o y z)=true):∃t x x' t',op=.binOp o t x x' t'∧Ja cx ds x y=true∧Ja cx ds x' z=true:=by
 cases op<;>simp[okK] at h;obtain⟨⟨rfl,h1⟩,h2⟩:=h;exact⟨_,_,_,_,rfl,h1,h2⟩
theorem Jhb {ne:Bool} {y z:Arg} (h:okK P cx ds op (.eqb ne y z)=true):∃t x x' t',op=.binOp (if ne then .neq else .eql) t x x' t'∧Ja cx ds x y=true∧Ja cx ds x' z=true∧P.underlying t=some .bool:=by
 cases op<;>simp[okK] at h;obtain⟨⟨⟨rfl,h1⟩,h2⟩,h3⟩:=h;split at h3
 ·exact⟨_,_,_,_,rfl,h1,h2,by assumption⟩
 ·simp at h3
theorem Jha {ne:Bool} {sh:List Sh} {y z:Arg} (h:okK P cx ds op (.eqa ne sh y z)=true):∃t x x' t',op=.binOp (if ne then .neq else .eql) t x x' t'∧Ja cx ds x y=true∧Ja cx ds x' z=true∧JH P t=true∧JX P 20 t=some sh∧P.eqGuardType P.depth t=false:=by
 cases op<;>simp[okK] at h;obtain⟨⟨⟨⟨⟨rfl,h1⟩,h2⟩,h3⟩,h4⟩,h5⟩:=h;exact⟨_,_,_,_,rfl,h1,h2,h3,h4,h5⟩
theorem Jjw {o:BinOp} {y z:Arg} (h:okK P cx ds op (.sh o y z)=true):∃t x x' t',op=.binOp o t x x' t'∧Ja cx ds x y=true∧Ja cx ds x' z=true:=by
 cases op<;>simp[okK] at h;obtain⟨⟨rfl,h1⟩,h2⟩:=h;exact⟨_,_,_,_,rfl,h1,h2⟩
theorem Jjy {o:UnOp} {y:Arg} (h:okK P cx ds op (.un o y)=true):∃t x,op=.unOp o t x∧Ja cx ds x y=true:=by
 cases op<;>simp[okK] at h;obtain⟨rfl,h1⟩:=h;exact⟨_,_,rfl,h1⟩
theorem Jek {k:IntKind} {y:Arg} (h:okK P cx ds op (.conv (.int k) y)=true):∃s d x dd,op=.convert s d x∧Ja cx ds x y=true∧P.underlying s=some dd∧P.underlying d=some (.int k):=by
 cases op<;>simp[okK] at h;obtain⟨h1,h2⟩:=h;split at h2
 ·simp at h2;subst h2;exact⟨_,_,_,_,rfl,h1,by assumption,by assumption⟩
 ·simp at h2
theorem Jel {y:Arg} (h:okK P cx ds op (.conv .same y)=true):∃s d x,op=.convert s d x∧Ja cx ds x y=true∧P.underlying s=some .string∧P.underlying d=some .string:=by
 cases op<;>simp[okK] at h;obtain⟨h1,h2⟩:=h;split at h2
 ·exact⟨_,_,_,rfl,h1,by assumption,by assumption⟩
 ·simp at h2
theorem Jju {f:Nat} {avs:List Arg} {sites:List Nat} (h:okK P cx ds op (.fn f avs sites)=true):∃cap,op=.makeFunc (.func (cx.fm f)) #[] cap∧Ji cx ds cap.toList avs=true:=by
 unfold okK at h;split at h<;>simp_all
theorem Jjx {st:Bool} {z:Nat} {y:Arg} {lo hi:Option Arg} (h:okK P cx ds op (.sl st z y lo hi)=true):∃t x lo' hi',op=.slice t x lo' hi' none∧Ja cx ds x y=true∧JY cx ds lo' lo=true∧JY cx ds hi' hi=true∧Jbe P st z t=true:=by
 cases op
 case slice t x lo' hi' mx=>
  cases mx with
  |some m=>simp[okK] at h
  |none=>
   simp only[okK,Gg] at h
   exact⟨t,x,lo',hi',rfl,h.1.1.1,h.1.1.2,h.1.2,h.2⟩
 all_goals (simp[okK] at h)
theorem Jhd {y:Arg} {off:Nat} (h:okK P cx ds op (.fad y off)=true):∃s x i,op=.fieldAddr s x i∧Ja cx ds x y=true∧okField P s i off=true:=by
 cases op<;>simp[okK] at h;exact⟨_,_,_,rfl,h.1,h.2⟩
theorem Jhg {z:Nat} {y i:Arg} (h:okK P cx ds op (.iad z y i)=true):∃t x x' el,op=.indexAddr t x x'∧Ja cx ds x y=true∧Ja cx ds x' i=true∧JP P t=some el∧szT P el=some z:=by
 cases op<;>simp[okK] at h;obtain⟨⟨h1,h2⟩,h3⟩:=h;split at h3
 ·exact⟨_,_,_,_,rfl,h1,h2,by assumption,by simpa using h3⟩
 ·simp at h3
theorem Jft {z n:Nat} {y i:Arg} (h:okK P cx ds op (.iada z n y i)=true):∃t x x' el,op=.indexAddr t x x'∧Ja cx ds x y=true∧Ja cx ds x' i=true∧P.underlying t=some (.array n el)∧szT P el=some z:=by
 cases op<;>simp[okK] at h;obtain⟨⟨h1,h2⟩,h3⟩:=h;split at h3
 ·simp at h3;obtain⟨rfl,h3⟩:=h3;exact⟨_,_,_,_,rfl,h1,h2,by assumption,h3⟩
 ·simp at h3
theorem Jhh {y i:Arg} (h:okK P cx ds op (.idx y i)=true):∃t x x',op=.index t x x'∧Ja cx ds x y=true∧Ja cx ds x' i=true∧P.underlying t=some .string:=by
 cases op<;>simp[okK] at h;obtain⟨⟨h1,h2⟩,h3⟩:=h;split at h3
 ·exact⟨_,_,_,rfl,h1,h2,by assumption⟩
 ·simp at h3
theorem Jhc {y:Arg} {i:Nat} (h:okK P cx ds op (.ext y i)=true):∃x,op=.extract x i∧Ja cx ds x y=true:=by
 cases op<;>simp[okK] at h;obtain⟨h1,rfl⟩:=h;exact⟨_,rfl,h1⟩
theorem Jfw {y:Arg} (h:okK P cx ds op (.nilc y)=true):∃x,op=.nilCheck x∧Ja cx ds x y=true:=by
 cases op<;>simp[okK] at h;exact⟨_,rfl,h⟩
theorem JkG {α:Type} {a:Array α} {x:α} (h:a.toList=[x]):a=#[x]:=by
 apply Array.ext';simpa using h
theorem Jio {α:Type} {a:Array α} {x y:α} (h:a.toList=[x,y]):a=#[x,y]:=by
 apply Array.ext';simpa using h
theorem Jhm {st:Bool} {y:Arg} (h:okK P cx ds op (.len st y)=true):∃x t,op=.call {callee:=.builtin .len,args:=#[x],argTypes:=#[t]}∧Ja cx ds x y=true∧JbX P st t=true:=by
 unfold okK at h;split at h<;>try (simp_all;done)
 rename_i args ts st' a heq;simp only[K.len.injEq] at heq;obtain⟨rfl,rfl⟩:=heq;split at h
 ·rename_i x t h1 h2;simp only[Gg] at h;rw[JkG h1,JkG h2];exact⟨x,t,rfl,h.1,h.2⟩
 ·simp at h
theorem JdP {os:List Operand} {y z:Arg} (h:Ji cx ds os [y,z]=true):∃x x',os=[x,x']∧Ja cx ds x y=true∧Ja cx ds x' z=true:=by
 match os,h with
 |[x,x'],h=>simp[Ji] at h;exact⟨x,x',rfl,h.1,h.2⟩
 |[],h=>simp[Ji] at h
 |[_],h=>simp[Ji] at h
 |_::_::_::_,h=>simp[Ji] at h
theorem Jjv {mx:Bool} {y z:Arg} (h:okK P cx ds op (.mm mx y z)=true):∃x x' ts,op=.call {callee:=.builtin (if mx then .max else .min),args:=#[x,x'],argTypes:=ts}∧Ja cx ds x y=true∧Ja cx ds x' z=true:=by
 unfold okK at h;split at h<;>try (simp_all;done)
 all_goals
  rename_i args ts a b heq
  simp only[K.mm.injEq] at heq
  obtain⟨rfl,rfl,rfl⟩:=heq
  obtain⟨x,x',h1,h2,h3⟩:=JdP h
  rw[Jio h1]
  exact⟨x,x',ts,rfl,h2,h3⟩
theorem Jfq {s z:Nat} {y y':Arg} (h:okK P cx ds op (.appd z y y')=true):okK P cx ds op (.app s z y y')=true:=by
 unfold okK at h;split at h<;>try (simp_all;done)
 rename_i args ts z' a b heq;simp only[K.appd.injEq] at heq;obtain⟨rfl,rfl,rfl⟩:=heq
 first|exact h|simpa [okK] using h
theorem Jem {f k s d:Nat} {avs:List Arg} (h:okK P cx ds op (.rcall f avs k s d)=true):∃c:Call,op=.call c∧c.callee=.value (.func (cx.fm f))∧Ji cx ds c.args.toList avs=true:=by
 unfold okK at h;split at h<;>first|(simp_all;done)|skip
 all_goals (rename_i f' args ts f'' a' k' s' d' heq;simp only[K.rcall.injEq] at heq;obtain⟨rfl,rfl,rfl,rfl,rfl⟩:=heq;simp only[Bool.and_eq_true,beq_iff_eq] at h;exact⟨_,rfl,by rw[←h.1],h.2⟩)
theorem Jfp {z:List V} {d:Nat} (h:okK P cx ds op (.allo z d)=true):∃t,op=.alloc t∧JI P t z=true:=by
 cases op<;>simp[okK] at h;exact⟨_,rfl,h⟩
theorem Jfr {y:Arg} {d:Nat} (h:okK P cx ds op (.boxo y d)=true):∃t x,op=.box t x∧Ja cx ds x y=true:=by
 cases op<;>simp[okK] at h;exact⟨_,_,rfl,h⟩
theorem Jhr {z:Nat} {y:Arg} {lo hi:Option Arg} (h:okK P cx ds op (.slf z y lo hi)=true):∃t x lo' hi',op=.slice t x lo' hi' none∧Ja cx ds x y=true∧JY cx ds lo' lo=true∧JY cx ds hi' hi=true∧Jbe P false z t=true:=by
 cases op
 case slice t x lo' hi' mx=>
  cases mx with
  |some m=>simp[okK] at h
  |none=>
   simp only[okK,Gg] at h
   exact⟨t,x,lo',hi',rfl,h.1.1.1,h.1.1.2,h.1.2,h.2⟩
 all_goals (simp[okK] at h)
theorem Jhe {y:Arg} {off:Nat} {n:Option Nat} (h:okK P cx ds op (.fld y off n)=true):∃s x i fs f,op=.field s x i∧Ja cx ds x y=true∧P.underlying s=some (.struct fs)∧fs[i]?=some f∧f.offset=off∧
  (P.underlying f.type).isSome=true∧(if JH P f.type then szT P f.type == n&&n.isSome else n.isNone)=true:=by
 cases op<;>simp[okK] at h
 obtain⟨h1,h2⟩:=h
 split at h2<;>try (simp at h2;done)
 split at h2<;>try (simp at h2;done)
 simp only[Gg,GA] at h2
 exact⟨_,_,_,_,_,rfl,h1,by assumption,by assumption,h2.1.1,h2.1.2,by simpa using h2.2⟩
theorem Jhn {t:Nat} {y:Arg} (h:okK P cx ds op (.mif t y)=true):∃x,op=.makeInterface (cx.tm t) x∧Ja cx ds x y=true∧concT P (cx.tm t)=true:=by
 cases op<;>simp[okK] at h;obtain⟨⟨h1,h2⟩,h3⟩:=h;subst h2;exact⟨_,rfl,h1,h3⟩
theorem Jg5 {t:Nat} {z:Option (List V)} {y:Arg} (h:okK P cx ds op (.asr t z y)=true):∃x xt ok,op=.typeAssert x xt (cx.tm t) ok∧Ja cx ds x y=true∧concT P (cx.tm t)=true∧
  ((ok=false∧z=none)∨∃z',ok=true∧z=some z'∧okZeroA P (cx.tm t) z'=true):=by
 cases op<;>simp only[okK,Gg,GA,reduceCtorEq,Gr] at h
 obtain⟨⟨⟨h1,h2⟩,h3⟩,h4⟩:=h
 subst h2
 refine⟨_,_,_,rfl,h1,h3,?_⟩
 split at h4
 ·exact .inl ⟨rfl,rfl⟩
 ·exact .inr ⟨_,rfl,rfl,h4⟩
 ·simp at h4
theorem Jhk {l:List (Nat×Nat)} {y:Arg} {avs:List Arg} (h:okK P cx ds op (.inv l y avs)=true):∃x name,∃c:Call,op=.call c∧c.callee=.invoke x name∧Ja cx ds x y=true∧Ji cx ds c.args.toList avs=true∧
  ∀q∈l,mthT P (cx.tm q.1) name=some (cx.fm q.2):=by
 unfold okK at h
 split at h<;>first|(simp_all;done)|skip
 all_goals (rename_i x name args ts l' a' avs' heq;simp only[K.inv.injEq] at heq;obtain⟨rfl,rfl,rfl⟩:=heq;simp only[Gg,Gs,GA] at h;exact⟨_,_,_,rfl,rfl,h.1.1,h.1.2,h.2⟩)
theorem Jfv {z s:Nat} (h:okK P cx ds op (.mkoz z s)=true):op=.assign (.const (.slice none 0 0)):=by
 unfold okK at h;split at h<;>simp_all
theorem Jhs {s z:Nat} {y:Arg} {lo hi:Option Arg} (h:okK P cx ds op (.slr s z y lo hi)=true):∃t x lo' hi',op=.slice t x lo' hi' none∧Ja cx ds x y=true∧JY cx ds lo' lo=true∧JY cx ds hi' hi=true∧Jbe P false z t=true:=by
 cases op
 case slice t x lo' hi' mx=>
  cases mx with
  |some m=>simp[okK] at h
  |none=>
   simp only[okK,Gg] at h
   exact⟨t,x,lo',hi',rfl,h.1.1.1,h.1.1.2,h.1.2,h.2⟩
 all_goals (simp[okK] at h)
theorem Jg6 {y:Arg} (h:okK P cx ds op (.b2s y)=true):∃s d x e,op=.convert s d x∧Ja cx ds x y=true∧P.underlying s=some (.slice e)∧P.underlying d=some .string∧P.underlying e=some (.int .u8):=by
 cases op<;>simp[okK] at h;obtain⟨h1,h2⟩:=h;split at h2<;>try (simp at h2;done)
 split at h2<;>try (simp at h2;done)
 exact⟨_,_,_,_,rfl,h1,by assumption,by assumption,by assumption⟩
theorem Jg4 {s z:Nat} {y y':Arg} (h:okK P cx ds op (.apf s z y y')=true):okK P cx ds op (.app s z y y')=true:=by
 unfold okK at h;split at h<;>try (simp_all;done)
 rename_i args ts s' z' a b heq;simp only[K.apf.injEq] at heq;obtain⟨rfl,rfl,rfl,rfl⟩:=heq
 first|exact h|simpa [okK] using h
theorem JcA {s z:Nat} {y y':Arg} (h:okK P cx ds op (.app s z y y')=true):∃x x' t t' e ie zv,op=.call {callee:=.builtin .append,args:=#[x,x'],argTypes:=#[t,t']}∧Ja cx ds x y=true∧Ja cx ds x' y'=true∧
  P.underlying t=some (.slice e)∧szT P e=some z∧P.info? e=some ie∧0<ie.bytes∧ie.bytes≤65536∧ie.zero=some zv∧zv.cells.size=z∧Jai P t'=true∧0<z:=by
 unfold okK at h
 split at h<;>try (simp_all;done)
 rename_i args ts s' z' a b heq
 simp only[K.app.injEq] at heq
 obtain⟨rfl,rfl,rfl,rfl⟩:=heq
 simp only[Gg] at h
 obtain⟨h1,h2⟩:=h
 obtain⟨x,x',e1,e2,e3⟩:=JdP h1
 split at h2
 ·rename_i t t' e4
  simp only[Gg] at h2
  obtain⟨h2,h3⟩:=h2
  split at h2
  ·rename_i el hu
   simp only[Gg,GA,bne_iff_ne,ne_eq] at h2
   obtain⟨⟨h0,h4⟩,h5⟩:=h2
   split at h5
   ·rename_i ie hie
    simp only[Gg,Gz] at h5
    obtain⟨h6,h7⟩:=h5
    split at h7
    ·rename_i zv hzv
     rw[Jio e1,Jio e4]
     exact⟨x,x',t,t',el,ie,zv,rfl,e2,e3,hu,h4,hie,h6.1,h6.2,hzv,by simpa using h7,h3,by omega⟩
    ·simp at h7
   ·simp at h5
  ·simp at h2
 ·simp at h2
theorem Jfs {f:Cal} {cv:Cvm} {own:Option Nat} {avs:List Arg} (h:okK P cx ds op (.call f cv own avs)=true):∃(x:Operand) (c:Call),op=.call c∧c.callee=.value x∧JdQ cx ds x f∧Ji cx ds c.args.toList avs=true:=by
 unfold okK at h;split at h<;>try (simp_all;done)
 ·rename_i f' args ts g cv' own' avs' heq;simp only[K.call.injEq] at heq;obtain⟨rfl,rfl,rfl,rfl⟩:=heq;simp only[Gg,GA] at h;exact⟨_,_,rfl,rfl,by rw[←h.1];rfl,h.2⟩
 ·rename_i x args ts a cv' own' avs' _ heq;simp only[K.call.injEq] at heq;obtain⟨rfl,rfl,rfl,rfl⟩:=heq;simp only[Gg] at h;exact⟨_,_,rfl,rfl,h.1,h.2⟩
end inv
def RelTr (cx:Cx) (w:World) (Y N:Nat→Prop) (v:Value) (x:V):Prop:=
 (∃z rows,x=.tuple [.slice z rows]∧ArrOK cx w Y v z rows∧∀b,hdr v=some b→N b)∨(x.datC=true∧RelD cx w Y v x)
def TrL (cx:Cx) (w:World) (Y N:Nat→Prop):List Value→List V→Prop
 |[],[]=>True
 |v::l,x::xs=>v.oneCell'=true∧RelTr cx w Y N v x∧TrL cx w Y N l xs
 |_,_=>False
def hdrC (v:Value):V→List Nat
 |.tuple _=>(hdr v).toList
 |_=>[]
def JB:List Value→List V→List Nat
 |v::l,x::xs=>hdrC v x++JB l xs
 |_,_=>[]
def RefOK (cx:Cx) (w:World) (Y N:Nat→Prop) (b:Nat) (cs:List V):Prop:=
 N b∧∃l e,w.heap[b]?=some (.cells (List.toArray l) e (0,0))∧TrL cx w Y N l cs∧(b::JB l cs).Nodup
def CtrR (P:Program) (cx:Cx) (k f:Nat) (args:List V) (r:V):Prop:=
 Ent P (cx.fm f)∧∀(w:World) (X N:Nat→Prop) (b:Nat) (vs:Array Value) (cs:List V),(∀b,X b→b<w.heap.size)→(∀b,N b→b<w.heap.size∧¬X b∧cx.gn≤b)→
  cx.gn≤w.heap.size→cx.G w→vs.size=args.length→args[k]?=some (.tuple (.lref 0 0::cs))→vs[k]?=some (.pointer (some ⟨b,0,none⟩))→RefOK cx w (orP X N) N b cs→
  (∀i,i<args.length→i≠k→∃u,vs[i]?=some u∧RelD cx w (orP X N) u (gv args i))→
  Calls P (cx.fm f) vs w fun e w'=>∃v r0 cs' N',e=.returned v∧r=.tuple [r0,.tuple cs']∧Kept (fun b=>b<w.heap.size∧¬N b) w w'∧
   (∀b,N' b→N b∨(w.heap.size≤b∧b<w'.heap.size))∧RefOK cx w' (orP X N') N' b cs'∧RelD cx w' (orP X N') v r0
section
variable {cx:Cx} {w w':World} {Y Y' N N':Nat→Prop}
theorem RelTr.mono {v:Value} {x:V} (h:RelTr cx w Y N v x) (hD:∀u x,RelD cx w Y u x→RelD cx w Y' u x) (hN:∀b,b∈hdrC v x→N' b):RelTr cx w Y' N' v x:=by
 rcases h with ⟨z,rows,rfl,h1,h2⟩|⟨h1,h2⟩
 ·exact .inl ⟨z,rows,rfl,h1.tr hD (fun _ _=>rfl),fun b hb=>hN b (by simp[hdrC,hb])⟩
 ·exact .inr ⟨h1,hD _ _ h2⟩
theorem TrL.mono (hD:∀u x,RelD cx w Y u x→RelD cx w Y' u x):∀{l:List Value} {cs:List V},TrL cx w Y N l cs→(∀b,b∈JB l cs→N' b)→TrL cx w Y' N' l cs
 |[],[],_,_=>Gn
 |v::l,x::xs,h,hN=>⟨h.1,h.2.1.mono hD (fun b hb=>hN b (by simp[JB,hb])),TrL.mono hD h.2.2 (fun b hb=>hN b (by simp[JB,hb]))⟩
 |[],_::_,h,_=>h.elim
 |_::_,[],h,_=>h.elim
theorem TrL.len:∀{l:List Value} {cs:List V},TrL cx w Y N l cs→l.length=cs.length
 |[],[],_=>rfl
 |v::l,x::xs,h=>by simp[TrL.len h.2.2]
 |[],_::_,h=>h.elim
 |_::_,[],h=>h.elim
theorem TrL.hdr:∀{l:List Value} {cs:List V},TrL cx w Y N l cs→∀b,b∈JB l cs→N b∧b<w.heap.size
 |[],[],_,b,hb=>by simp[JB] at hb
 |v::l,x::xs,h,b,hb=>by
  simp only[JB,GQ] at hb;rcases hb with hb|hb
  ·rcases h.2.1 with ⟨z,rows,rfl,h1,h2⟩|⟨h1,h2⟩
   ·simp only[hdrC,Option.mem_toList] at hb;exact⟨h2 b hb,h1.lt hb⟩
   ·exfalso;cases x<;>simp[hdrC,V.datC] at hb h1
  ·exact TrL.hdr h.2.2 b hb
 |[],_::_,h,_,_=>h.elim
 |_::_,[],h,_,_=>h.elim
end
section
variable {cx:Cx} {B:Nat→Prop} {X:Nat→Prop} {w:World} {β:Nat→Nat} {M:Nat→Prop}
theorem CR.cons {Y:Nat→Prop} {S:St} {α:Nat→Value} {v:Value} {x:V} {l:List Value} {xs:List V} (h1:v.oneCell'=true) (h2:RelC cx w Y S α v x) (h:CR cx w Y S α l xs):CR cx w Y S α (v::l) (x::xs):=
 CR.append (CR.one h1 h2) h
theorem CR.inv {Y:Nat→Prop} {S:St} {α:Nat→Value} {v:Value} {x:V} {l:List Value} {xs:List V} (h:CR cx w Y S α (v::l) (x::xs)):v.oneCell'=true∧RelC cx w Y S α v x∧CR cx w Y S α l xs:=by
 obtain⟨u,p,q,r⟩:=h.2 0 (by simp);simp at p;subst p;refine⟨q,r,by have:=h.1;simpa using this,fun i hi=>?_⟩;obtain⟨u,p,q,r⟩:=h.2 (i+1) (by simpa using hi);exact⟨u,by simpa using p,q,by simpa [gv] using r⟩
theorem take_ok:∀(us:List V) (d:Nat) (S:St) (α:Nat→Value) (A':AA) (cs':List V) (l:List Value),RelW cx B X S w β α M→JS d us S.A=some (cs',A')→TrL cx w (orP X M) M l us→
  (JB l us).Nodup→(∀h∈JB l us,(∀s,(S.μ s).isSome→β s≠h)∧∀s z rows f,S.A s=some (z,rows,f)→f≠.dead→hdr (α s)≠some h)→
  ∃α',RelW cx B X {S with A:=A'} w β α' M∧CR cx w (orP X M) {S with A:=A'} α' l cs'∧ATr S {S with A:=A'} α α'∧
   ∀s z rows f,A' s=some (z,rows,f)→f≠.dead→∀h,hdr (α' s)=some h→h∈JB l us∨∃z rows f,S.A s=some (z,rows,f)∧f≠.dead∧hdr (α s)=some h
 |[],d,S,α,A',cs',[],hW,ht,_,_,_=>by
  simp only[JS,Ga,Gf] at ht;obtain⟨rfl,rfl⟩:=ht;exact⟨α,hW,CR.nil,ATr.refl _ _,fun s z rows f hs hf h hh=>.inr ⟨z,rows,f,hs,hf,hh⟩⟩
 |[],_,_,_,_,_,_::_,_,_,h,_,_=>h.elim
 |_::_,_,_,_,_,_,[],_,_,h,_,_=>h.elim
 |x::xs,d,S,α,A',cs',v::l,hW,ht,hl,hnd,hdis=>by
  simp only[JS,Gb,Ga,Gf] at ht;obtain⟨⟨y,A1⟩,h1,⟨ys,A2⟩,h2,rfl,rfl⟩:=ht;obtain⟨l1,l2,l3⟩:=hl;simp only[JB] at hnd hdis;have hnd2:=(List.nodup_append.1 hnd).2.1;have hnd3:=(List.nodup_append.1 hnd).2.2;rcases l2 with ⟨z,rows,rfl,p1,p2⟩|⟨p1,p2⟩
  ·simp only[takeC] at h1;split at h1<;>simp only[Ga,Gf,reduceCtorEq] at h1;rename_i hd;obtain⟨rfl,rfl⟩:=h1;have hhv:∀b,hdr v=some b→b∈hdrC v (V.tuple [.slice z rows]):=fun b hb=>by simp[hdrC,hb]
   have hadd:=hW.addArr (d:=d) (z0:=z) (rows0:=rows) (v0:=v) hd p1 p2
    (fun s b hs hb=>(hdis b (GQ.2 (.inl (hhv b hb)))).1 s hs)
    (fun s z' r f hs hf b hb=>(hdis b (GQ.2 (.inl (hhv b hb)))).2 s z' r f hs hf)
   have hT:ATr S {S with A:=upd S.A d (some (z,rows,.live))} α (upd α d v):=fun s z' r f hs=>by
    have:s≠d:=fun e=>by rw[e,hd] at hs;simp at hs
    exact⟨r,f,by simp[upd,this,hs],fun hf=>⟨hf,Gm _,fun _=>by simp[upd,this]⟩⟩
   have hO:RelO {S with A:=upd S.A d (some (z,rows,.live))} (upd α d v) v d z rows.length:=by
    rcases p1.at_ with ⟨rfl,rfl⟩|⟨b,o,cap,c,e,rfl,h1,h2,h3,h4⟩
    ·exact⟨[],.live,none,0,by simp[upd],rfl,by simp,fun _=>⟨by simp,fun _=>by simp[upd]⟩⟩
    ·exact⟨rows,.live,some ⟨b,o,none⟩,cap,by simp[upd],rfl,fun _=>⟨b,o,rfl⟩,fun _=>⟨Gm _,fun _=>by simp[upd]⟩⟩
   obtain⟨α',r1,r2,r3,r4⟩:=take_ok xs (d+1) {S with A:=upd S.A d (some (z,rows,.live))} (upd α d v) A2 ys l hadd h2 l3 hnd2 (fun h hh=>by
    refine⟨(hdis h (GQ.2 (.inr hh))).1,fun s z' r f hs hf hb=>?_⟩;simp only[upd] at hs hb;split at hs
    ·rename_i e;rw[Gl e] at hb;exact hnd3 h (hhv h hb) h hh rfl
    ·rename_i e;rw[Gj e] at hb;exact (hdis h (GQ.2 (.inr hh))).2 s z' r f hs hf hb)
   refine⟨α',r1,CR.cons l1 (RelC.tr (S:={S with A:=upd S.A d (some (z,rows,.live))}) (fun _ _ h=>h) r3 hO) r2,fun s z' r f hs=>?_,fun s z' r f hs hf h hh=>?_⟩
   ·obtain⟨r',f',a1,a2⟩:=hT s z' r f hs;obtain⟨r'',f'',b1,b2⟩:=r3 s z' r' f' a1;refine⟨r'',f'',b1,fun hf=>?_⟩;obtain⟨c1,c2,c3⟩:=b2 hf;obtain⟨d1,d2,d3⟩:=a2 c1;exact⟨d1,by omega,fun e=>by rw[c3 (by omega),d3 (by omega)]⟩
   ·rcases r4 s z' r f hs hf h hh with h'|⟨z1,r1',f1,a1,a2,a3⟩
    ·exact .inl (by simp[JB,h'])
    ·simp only[upd] at a1 a3;split at a1
     ·rename_i e;rw[Gl e] at a3;exact .inl (by simp only[JB];exact GQ.2 (.inl (hhv h a3)))
     ·rename_i e;rw[Gj e] at a3;exact .inr ⟨z1,r1',f1,a1,a2,a3⟩
  ·have h1':y=x∧A1=S.A:=by
    cases x<;>simp[takeC,V.datC] at h1 p1<;>exact⟨h1.1.symm,h1.2.symm⟩
   obtain⟨rfl,rfl⟩:=h1';obtain⟨α',r1,r2,r3,r4⟩:=take_ok xs (d+1) S α A2 ys l hW h2 l3 hnd2 (fun h hh=>hdis h (GQ.2 (.inr hh)));refine⟨α',r1,CR.cons l1 (.of_data p2) r2,r3,fun s z' r f hs hf h hh=>?_⟩;rcases r4 s z' r f hs hf h hh with h'|h'
   ·exact .inl (by simp[JB,h'])
   ·exact .inr h'
def Dies (A A':AA):Prop:=∀s,A' s=A s∨∃z rows,A s=some (z,rows,.live)∧A' s=some (z,[],.dead)
theorem Dies.atr {S:St} {A':AA} (h:Dies S.A A') (α:Nat→Value):ATr S {S with A:=A'} α α:=fun s z rows f hs=>by
 rcases h s with h|⟨z',rows',h1,h2⟩
 ·exact⟨rows,f,by simp only[];rw[h];exact hs,fun hf=>⟨hf,Gm _,fun _=>rfl⟩⟩
 ·rw[hs] at h1;simp only[Ga,Gf] at h1;obtain⟨rfl,rfl,rfl⟩:=h1;exact⟨[],.dead,h2,fun hf=>absurd rfl hf⟩
theorem Dies.keep {A A':AA} (h:Dies A A') {s z rows f} (hs:A' s=some (z,rows,f)) (hf:f≠.dead):A s=some (z,rows,f):=by
 rcases h s with h|⟨z',rows',h1,h2⟩
 ·rw[←h];exact hs
 ·rw[hs] at h2;simp only[Ga,Gf] at h2;exact absurd h2.2.2 hf
theorem Dies.trans {A A' A'':AA} (h:Dies A A') (k:Dies A' A''):Dies A A'':=fun s=>by
 rcases k s with k|⟨z,rows,k1,k2⟩
 ·rcases h s with h|⟨z',rows',h1,h2⟩
  ·exact .inl (k.trans h)
  ·exact .inr ⟨z',rows',h1,k.trans h2⟩
 ·rcases h s with h|⟨z',rows',h1,h2⟩
  ·exact .inr ⟨z,rows,h▸k1,k2⟩
  ·rw[h2] at k1;simp at k1
theorem hand_ok {α:Nat→Value}:∀(cs:List V) (S:St) (l:List Value) (ts:List V) (A':AA),(∀s z rows f,S.A s=some (z,rows,f)→f≠.dead→ArrOK cx w (orP X M) (α s) z rows∧∀b,hdr (α s)=some b→f=.live→M b)→
  (∀s s' z rows f z' rows' f',S.A s=some (z,rows,f)→f≠.dead→S.A s'=some (z',rows',f')→f'≠.dead→∀b,hdr (α s)=some b→hdr (α s')=some b→s=s')→
  CR cx w (orP X M) S α l cs→Jal cs S.A=some (ts,A')→
  TrL cx w (orP X M) M l ts∧Dies S.A A'∧(JB l ts).Nodup∧(∀h∈JB l ts,∃s z rows,S.A s=some (z,rows,.live)∧A' s=some (z,[],.dead)∧hdr (α s)=some h)
 |[],S,l,ts,A',_,_,hc,hh=>by
  simp only[Jal,Ga,Gf] at hh;obtain⟨rfl,rfl⟩:=hh;have:l=[]:=GB (by simpa using hc.1);subst this;exact⟨Gn,fun s=>.inl rfl,by simp[JB],fun h hh=>by simp[JB] at hh⟩
 |x::xs,S,[],ts,A',_,_,hc,_=>by have:=hc.1;simp at this
 |x::xs,S,v::l,ts,A',ha,hi,hc,hh=>by
  simp only[Jal,Gb,Ga,Gf] at hh;obtain⟨⟨y,A1⟩,h1,⟨ys,A2⟩,h2,rfl,rfl⟩:=hh;obtain⟨c1,c2,c3⟩:=hc.inv;have key:RelTr cx w (orP X M) M v y∧Dies S.A A1∧(hdrC v y).Nodup∧∀h∈hdrC v y,∃s z rows,S.A s=some (z,rows,.live)∧A1 s=some (z,[],.dead)∧hdr (α s)=some h:=by
   have dat:∀x:V,x.datC=true→RelC cx w (orP X M) S α v x→y=x→A1=S.A→RelTr cx w (orP X M) M v y∧Dies S.A A1∧(hdrC v y).Nodup∧∀h∈hdrC v y,∃s z rows,S.A s=some (z,rows,.live)∧A1 s=some (z,[],.dead)∧hdr (α s)=some h:=by
    intro x hx hr e1 e2;subst e1;subst e2;have hn:hdrC v y=[]:=by cases y<;>simp[hdrC,V.datC] at hx ⊢
    rw[hn];exact⟨.inr ⟨hx,hr.data hx⟩,fun s=>.inl rfl,List.nodup_nil,fun h hh=>by simp at hh⟩
   cases x with
   |own s z n=>
    simp only[handC] at h1;split at h1<;>try (simp at h1;done)
    rename_i z' rows hA;split at h1<;>simp only[Ga,Gf,reduceCtorEq] at h1;rename_i hcond;obtain⟨rfl,hn⟩:=hcond;obtain⟨rfl,rfl⟩:=h1;obtain⟨rows',f',a,cap,hA',rfl,_,ho⟩:=c2;rw[hA] at hA';simp only[Ga,Gf] at hA';obtain⟨-,rfl,rfl⟩:=hA';have hα:=(ho (by simp)).2 hn;obtain⟨a1,a2⟩:=ha s z' rows .live hA (by simp);rw[←hα] at a1 a2;refine⟨.inl ⟨z',rows,rfl,a1,fun b hb=>a2 b hb rfl⟩,fun t=>?_,?_,fun h hh=>⟨s,z',rows,hA,by simp[upd],?_⟩⟩
    ·by_cases e:t=s
     ·subst e;exact .inr ⟨z',rows,hA,by simp[upd]⟩
     ·exact .inl (by simp[upd,e])
    ·simp only[hdrC];cases hdr (Value.slice a n cap)<;>simp
    ·rw[←hα];simpa [hdrC] using hh
   |nslice z=>
    simp only[handC,Ga,Gf] at h1;obtain⟨rfl,rfl⟩:=h1;have c2':RelD cx w (orP X M) v (.nslice z):=c2;cases c2';refine⟨.inl ⟨z,[],rfl,⟨fun i hi=>by simp at hi,.inl ⟨rfl,rfl⟩⟩,fun b hb=>by simp[Sg.hdr] at hb⟩,fun s=>.inl rfl,by simp[hdrC,Sg.hdr],fun h hh=>by simp[hdrC,Sg.hdr] at hh⟩
   |undef=>simp[handC,V.datC] at h1;exact dat .undef rfl c2 h1.1.symm h1.2.symm
   |bool b=>simp[handC,V.datC] at h1;exact dat (.bool b) rfl c2 h1.1.symm h1.2.symm
   |int k n=>simp[handC,V.datC] at h1;exact dat (.int k n) rfl c2 h1.1.symm h1.2.symm
   |str s=>simp[handC,V.datC] at h1;exact dat (.str s) rfl c2 h1.1.symm h1.2.symm
   |slice z r=>simp[handC,V.datC] at h1;exact dat (.slice z r) rfl c2 h1.1.symm h1.2.symm
   |func f c=>simp[handC,V.datC] at h1;exact dat (.func f c) rfl c2 h1.1.symm h1.2.symm
   |cptr c o=>simp[handC,V.datC] at h1;exact dat (.cptr c o) rfl c2 h1.1.symm h1.2.symm
   |iface t v=>simp[handC,V.datC] at h1;exact dat (.iface t v) rfl c2 h1.1.symm h1.2.symm
   |niface=>simp[handC,V.datC] at h1;exact dat .niface rfl c2 h1.1.symm h1.2.symm
   |xslice z r=>simp[handC,V.datC] at h1;exact dat (.xslice z r) rfl c2 h1.1.symm h1.2.symm
   |agg cs=>simp[handC,V.datC] at h1
   |tuple cs=>simp[handC,V.datC] at h1
   |lref s o=>simp[handC,V.datC] at h1
   |eref s i o n=>simp[handC,V.datC] at h1
  obtain⟨k1,k2,k3,k4⟩:=key;obtain⟨q1,q2,q3,q4⟩:=hand_ok xs {S with A:=A1} l ys A2 (fun s z rows f hs hf=>ha s z rows f (k2.keep hs hf) hf)
   (fun s s' z rows f z' rows' f' hs hf hs' hf'=>hi s s' z rows f z' rows' f' (k2.keep hs hf) hf (k2.keep hs' hf') hf')
   ⟨c3.1,fun i hi=>by obtain⟨u,p,q,r⟩:=c3.2 i hi;exact⟨u,p,q,r.tr (fun _ _ h=>h) (k2.atr α)⟩⟩ h2
  refine⟨⟨c1,k1,q1⟩,k2.trans q2,?_,fun h hh=>?_⟩
  ·simp only[JB];refine List.nodup_append.2 ⟨k3,q3,fun a ha1 b hb1 e=>?_⟩;subst e;obtain⟨s,z,rows,e1,e2,e3⟩:=k4 a ha1;obtain⟨s',z',rows',f1,f2,f3⟩:=q4 a hb1;have f1':=k2.keep f1 (by simp);have:=hi s s' z rows .live z' rows' .live e1 (by simp) f1' (by simp) a e3 f3;subst this;simp only at f1;rw[e2] at f1;simp at f1
  ·simp only[JB,GQ] at hh;rcases hh with hh|hh
   ·obtain⟨s,z,rows,e1,e2,e3⟩:=k4 h hh;refine⟨s,z,rows,e1,?_,e3⟩;rcases q2 s with e|⟨z',rows',e,_⟩
    ·exact e.trans e2
    ·simp only at e;rw[e2] at e;simp at e
   ·obtain⟨s,z,rows,e1,e2,e3⟩:=q4 h hh;exact⟨s,z,rows,k2.keep e1 (by simp),e2,e3⟩
theorem nilT_tr {Y N:Nat→Prop} {S:St} {α:Nat→Value}:∀{l:List Value} {cs:List V},CR cx w Y S α l cs→(∀x∈cs,x.datC=true)→TrL cx w Y N l (cs.map nilT)∧JB l (cs.map nilT)=[]
 |[],[],_,_=>⟨Gn,rfl⟩
 |v::l,x::xs,h,hd=>by
  obtain⟨c1,c2,c3⟩:=h.inv;obtain⟨i1,i2⟩:=nilT_tr (N:=N) c3 (fun y hy=>hd y (by simp[hy]));have hx:=hd x (by simp);have c2':=c2.data hx;have key:RelTr cx w Y N v (nilT x)∧hdrC v (nilT x)=[]:=by
   cases x with
   |nslice z=>cases c2';exact⟨.inl ⟨z,[],rfl,⟨fun i hi=>by simp at hi,.inl ⟨rfl,rfl⟩⟩,fun b hb=>by simp[Sg.hdr] at hb⟩,by simp[nilT,hdrC,Sg.hdr]⟩
   |_=>first|exact⟨.inr ⟨hx,c2'⟩,rfl⟩|(simp[V.datC] at hx)
  refine⟨⟨c1,key.1,i1⟩,?_⟩
  show hdrC v (nilT x)++JB l (xs.map nilT)=[]
  rw[key.2,i2];rfl
 |[],_::_,h,_=>by have:=h.1;simp at this
 |_::_,[],h,_=>by have:=h.1;simp at this
theorem newVarO_post {S:St} {α:Nat→Value} (h:RelW cx B X S w β α M) {d b0:Nat} {cs cells:List V} {A':AA} {l:List Value} {t:TypeId} (hd:S.μ d=none) (hc:CR cx w (orP X M) S α l cs)
  (ht:JS b0 (cs.map nilT) S.A=some (cells,A')) :
  OpPost cx B X S w β α M {S with μ:=upd S.μ d (some (cells,false)),A:=A'} (.lref d 0) (.pointer (some ⟨w.heap.size,0,none⟩)) {w with heap:=w.heap.push (.cells l.toArray t)}:=by
 have hdat:∀(cs:List V) (d:Nat) (A:AA) (r:List V×AA),JS d (cs.map nilT) A=some r→∀x∈cs,x.datC=true∨∃z rows,x=.tuple [.slice z rows]:=by
  intro cs
  induction cs with
  |nil=>intro d A r _ x hx;simp at hx
  |cons y ys ih=>
   intro d A r hr x hx;simp only[Gv,JS,Gb] at hr;obtain⟨q,h1,q2,h2,-⟩:=hr;rcases GM.1 hx with rfl|hx
   ·cases x<;>first|exact .inl rfl|(simp[nilT,takeC,V.datC] at h1;done)|skip
    rename_i vs;refine .inr ?_;simp only[nilT] at h1;unfold takeC at h1;split at h1
    ·rename_i z rows heq;exact⟨z,rows,heq⟩
    ·simp[V.datC] at h1
   ·exact ih _ _ _ h2 x hx
 have hdc:∀x∈cs,x.datC=true:=fun x hx=>by
  rcases hdat cs b0 S.A _ ht x hx with h'|⟨z,rows,rfl⟩
  ·exact h'
  ·exfalso
   obtain⟨i,hi,he⟩:=List.getElem_of_mem hx;obtain⟨u,p,q,r⟩:=hc.2 i hi;have hg:gv cs i=.tuple [.slice z rows]:=by simp[gv,hi,he]
   rw[hg] at r;have r':RelD cx w (orP X M) u (.tuple [.slice z rows]):=r;cases r';simp[Value.oneCell'] at q
 obtain⟨k1,k2⟩:=nilT_tr (N:=M) hc hdc
 obtain⟨α',t1,t2,t3,t4⟩:=take_ok (cs.map nilT) b0 S α A' cells l h ht k1 (by rw[k2];exact List.nodup_nil) (fun x hx=>by rw[k2] at hx;simp at hx)
 have hpost:=newVar_post (t:=t) t1 (d:=d) hd t2
 obtain⟨β2,α2,M2,p1,p2,p3,p4⟩:=hpost
 exact⟨β2,α2,M2,p1,fun u x hu=>p2 u x (RelT.tr (fun _ _ h=>h) t3 (fun s hs=>⟨hs,rfl⟩) hu),p3,p4⟩
end
theorem ATr.trans {S S' S'':St} {α α' α'':Nat→Value} (h:ATr S S' α α') (k:ATr S' S'' α' α''):ATr S S'' α α'':=fun s z rows f hs=>by
 obtain⟨r1,f1,a1,a2⟩:=h s z rows f hs;obtain⟨r2,f2,b1,b2⟩:=k s z r1 f1 a1;refine⟨r2,f2,b1,fun hf=>?_⟩;obtain⟨c1,c2,c3⟩:=b2 hf;obtain⟨d1,d2,d3⟩:=a2 c1;exact⟨d1,by omega,fun e=>by rw[c3 (by omega),d3 (by omega)]⟩
theorem JhU {α:Type} (f:Nat→α) (k:Nat) (v w:α):upd (upd f k v) k w=upd f k w:=by
 funext i;simp only[upd];split<;>rfl
section
variable {P:Program} {cx:Cx} {B:Nat→Prop} {X:Nat→Prop} {S:St} {w w':World} {β:Nat→Nat} {α:Nat→Value} {M:Nat→Prop}
theorem RelW.lend (h:RelW cx B X S w β α M) {s:Nat} {cs:List V} (hs:S.μ s=some (cs,false)) {A':AA} (hd:Dies S.A A') {N N':Nat→Prop}
  (hN:∀b,N b→M b) (hNs:N (β s)) (hNv:∀t,t≠s→(S.μ t).isSome→¬N (β t)) (hNa:∀t z rows f,A' t=some (z,rows,f)→f≠.dead→∀b,hdr (α t)=some b→¬N b)
  (hk:Kept (fun b=>b<w.heap.size∧¬N b) w w') (hN':∀b,N' b→N b∨(w.heap.size≤b∧b<w'.heap.size)) :
  RelW cx B X ⟨S.ρ,upd S.μ s none,A'⟩ w' β α (fun b=>(M b∧¬N b)∨N' b)∧
   (∀u x,RelD cx w (orP X M) u x→RelD cx w' (orP X (fun b=>(M b∧¬N b)∨N' b)) u x):=by
 have hD:∀u x,RelD cx w (orP X M) u x→RelD cx w' (orP X (fun b=>(M b∧¬N b)∨N' b)) u x:=fun u x hr=>
  hr.mono hk.size (fun b hb hn=>hk.block b ⟨hb,fun hh=>hn (.inr (hN b hh))⟩) (fun b hb hn hx=>by
   rcases hx with hx|hx|hx
   ·exact hn (.inl hx)
   ·exact hn (.inr hx.1)
   ·rcases hN' b hx with h'|h'
    ·exact hn (.inr (hN b h'))
    ·omega)
 have hmu:∀t x,(upd S.μ s none) t=some x→t≠s∧S.μ t=some x:=fun t x hx=>by
  simp only[upd] at hx;split at hx
  ·simp at hx
  ·rename_i e;exact⟨e,hx⟩
 have hmi:∀t,((upd S.μ s none) t).isSome→t≠s∧(S.μ t).isSome:=fun t ht=>by
  obtain⟨x,hx⟩:=Gw.1 ht;obtain⟨e1,e2⟩:=hmu t x hx;exact⟨e1,by simp[e2]⟩
 refine⟨⟨h.xb,⟨h.glob.1,cx.Gst w w' h.glob.2 fun b hb=>hk.block b ⟨h.size b (h.glob.1 b hb),fun hh=>(h.m b (hN b hh)).1 (h.glob.1 b hb)⟩⟩,fun b hb=>GC (h.size b hb) hk.size,fun b hb=>?_,
  fun t ct f ht=>?_,fun t t' ht ht' he=>h.varInj t t' (hmi t ht).2 (hmi t' ht').2 he,fun t z rows f ht hf=>?_,
  fun t t' z1 r1 f1 z2 r2 f2 ht hf ht' hf'=>h.arrInj t t' z1 r1 f1 z2 r2 f2 (hd.keep ht hf) hf (hd.keep ht' hf') hf',
  fun t z rows f t' ht hf ht'=>h.arrVar t z rows f t' (hd.keep ht hf) hf (hmi t' ht').2⟩,hD⟩
 ·rcases hb with hb|hb
  ·exact⟨(h.m b hb.1).1,GC (h.m b hb.1).2 hk.size⟩
  ·rcases hN' b hb with hb|hb
   ·exact⟨(h.m b (hN b hb)).1,GC (h.m b (hN b hb)).2 hk.size⟩
   ·exact⟨fun hB=>by have:=h.size b hB;omega,hb.2⟩
 ·obtain⟨e1,e2⟩:=hmu t _ ht
  have hn:=hNv t e1 (by simp[e2])
  have hlt:=h.varLt e2
  obtain⟨a1,a2,a3,c,e,a4,a5,a6⟩:=h.var t ct f e2
  refine⟨a1,fun hf=>.inl ⟨a2 hf,hn⟩,fun hf=>⟨fun hm=>?_,(a3 hf).2⟩,c,e,(hk.block _ ⟨hlt,hn⟩).trans a4,a5,fun i hi=>?_⟩
  ·rcases hm with hm|hm
   ·exact (a3 hf).1 hm.1
   ·rcases hN' _ hm with h'|h'
    ·exact hn h'
    ·omega
  ·obtain⟨u,b1,b2,b3⟩:=a6 i hi
   exact⟨u,b1,b2,b3.tr hD (hd.atr α)⟩
 ·have hk':=hd.keep ht hf
  obtain⟨a1,a2⟩:=h.arr t z rows f hk' hf
  refine⟨a1.tr hD (fun b hb=>hk.block b ⟨a1.lt hb,hNa t z rows f ht hf b hb⟩),fun b hb=>⟨(a2 b hb).1,fun hl=>.inl ⟨(a2 b hb).2.1 hl,hNa t z rows f ht hf b hb⟩,fun hl hm=>?_⟩⟩
  rcases hm with hm|hm
  ·exact (a2 b hb).2.2 hl hm.1
  ·rcases hN' _ hm with h'|h'
   ·exact hNa t z rows f ht hf b hb h'
   ·have:=a1.lt hb;omega
theorem Jeb {a:Act} {o:Oper} {c:Call} {f:FuncId} (ho:o.op=.call c) (hc:c.callee=.value (.func f)) (hE:Ent P f):(execOp a.eval o).run P w=.ok (.enter f (c.args.map a.eval)) w:=by
 have hres:(resolve a.eval c o.type).run P w=.ok {target:=.fn (.func f) #[],args:=#[]++c.args.map a.eval} w:=by
  unfold resolve;rw[hc];rfl
 unfold execOp;simp only[ho,Sem.run_bind,hres,Result.andThen,invoke];rw[Jy hE];simp
theorem JfC {κ:Nat→List V→Option V} {ds:List (Option Nat)} {e:Nat→V} {a:Act} {S1:St} {o:Oper} {c:Call} {f k s b0:Nat} {avs:List Arg} {r:V}
  (h:RelW cx B X S w β α M) (hg:∀t,RelT cx w (orP X M) S β α (a.tmps.getD t undef) (S.ρ t)) (hl:∀i d,ds[i]?=some (some d)→RelT cx w (orP X M) S β α (a.tmps.getD d undef) (e i))
  (hκ:∀args r,κ f args=some r→CtrR P cx k f args r)
  (ho:o.op=.call c) (hcx:c.callee=.value (.func (cx.fm f))) (hok:Ji cx ds c.args.toList avs=true)
  (hev:JaZ κ b0 S f k s (avs.map (argv e S.ρ))=some (r,S1)) :
  Does P o a w (OpPost cx B X S w β α M S1 r):=by
 obtain⟨hlen,hrel⟩:=JZ hg hl _ avs hok
 have hml:(avs.map (argv e S.ρ)).length=avs.length:=by simp
 generalize avs.map (argv e S.ρ)=vv at hrel hev hml
 simp only[JaZ,Gb] at hev
 obtain⟨q,hA,r',hκr,hE⟩:=hev
 unfold rcallA at hA
 split at hA<;>try (simp at hA;done)
 rename_i s' hvk
 split at hA<;>try (simp at hA;done)
 rename_i e0;subst e0
 simp only[Gb] at hA
 obtain⟨bs,hbs,hA⟩:=hA
 split at hA<;>try (simp at hA;done)
 rename_i cs hm
 simp only[Gb,Ga] at hA
 obtain⟨⟨ts,A2⟩,hh,rfl⟩:=hA
 simp only at hκr hE
 obtain⟨hEnt,hC⟩:=hκ _ _ hκr
 have hkv:k<vv.length:=by
  rcases Gt k vv.length with h'|h'
  ·exact h'
  ·rw[List.getElem?_eq_none h'] at hvk;simp at hvk
 obtain⟨m1,m2⟩:=JF hbs
 have hbl:bs.length=vv.length:=by simpa using m1
 obtain⟨M0,f1,f2,f3,f4⟩:=frzA_ok ((vv.set k .undef).flatMap Je) h
 have hm':({S with A:=Jt S.A ((vv.set k .undef).flatMap Je)}:St).μ s'=some (cs,false):=hm
 obtain⟨a1,a2,a3,cb,el,a4,a5,a6⟩:=f1.var s' cs false hm'
 have hcr:CR cx w (orP X M0) {S with A:=Jt S.A ((vv.set k .undef).flatMap Je)} α cb.toList cs:=⟨by simpa using a5,fun i hi=>by obtain⟨u,p,q,r⟩:=a6 i hi;exact⟨u,by simpa using p,q,r⟩⟩
 obtain⟨k1,k2,k3,k4⟩:=hand_ok cs _ cb.toList ts A2 (fun s z rows f hs hf=>⟨(f1.arr s z rows f hs hf).1,fun b hb hl=>((f1.arr s z rows f hs hf).2 b hb).2.1 hl⟩)
  (fun s s' z rows f z' rows' f' hs hf hs' hf' b hb hb'=>f1.arrInj s s' z rows f z' rows' f' hs hf hs' hf' b hb hb') hcr hh
 generalize hH:JB cb.toList ts=H at k3 k4
 have hHM:∀b∈H,M0 b:=fun b hb=>(k1.hdr b (hH▸hb)).1
 have hHs:β s'∉H:=fun hb=>by
  obtain⟨t,z,rows,e1,e2,e3⟩:=k4 _ hb;exact f1.arrVar t z rows .live s' e1 (by simp) (by simp[hm]) e3
 have hNM:∀b,(b=β s'∨b∈H)→M0 b:=fun b hb=>by
  rcases hb with rfl|hb
  ·exact a2 rfl
  ·exact hHM b hb
 have hXlt:∀b,orP X M0 b→b<w.heap.size:=fun b hb=>by
  rcases hb with hb|hb
  ·exact h.size b (h.xb b hb)
  ·exact (f1.m b hb).2
 have hsub:∀{u x},RelD cx w (orP X M0) u x→RelD cx w (orP (fun b=>orP X M0 b∧¬(b=β s'∨b∈H)) (fun b=>b=β s'∨b∈H)) u x:=fun hr=>
  hr.mono (Gm _) (fun _ _ _=>rfl) (fun b _ hn hx=>by
   rcases hx with hx|hx
   ·exact hn hx.1
   ·exact hn (.inr (hNM b hx)))
 have hvs:(c.args.map a.eval).size=vv.length:=by
  have:(c.args.map a.eval).size=c.args.toList.length:=by simp
  omega
 have hbl':∀{x},(bs.set k x)[k]?=some x:=fun {x}=>by simp[hbl,hkv]
 refine .inr (.inr ⟨_,_,w,Jeb ho hcx hEnt,(hC w (fun b=>orP X M0 b∧¬(b=β s'∨b∈H)) (fun b=>b=β s'∨b∈H) (β s') (c.args.map a.eval) ts (fun b hb=>hXlt b hb.1)
  (fun b hb=>⟨(f1.m b (hNM b hb)).2,fun hx=>hx.2 hb,?_⟩) (Jbb h) h.glob.2 (by rw[hvs];simp[hbl]) hbl' ?_ ?_ ?_).mono ?_⟩)
 ·rcases Gt b cx.gn with h'|h'
  ·exact absurd (h.glob.1 b h') (f1.m b (hNM b hb)).1
  ·exact h'
 ·obtain⟨u,p,q⟩:=hrel k (by omega)
  have hgk:gv vv k=.lref s' 0:=by simp[gv,hvk]
  rw[hgk] at q
  have:=Jc0 q
  subst this
  simpa using p
 ·refine⟨.inl rfl,cb.toList,el,by simpa using a4,k1.mono (fun _ _ hr=>hsub hr) (fun b hb=>.inr (hH▸hb)),?_⟩
  rw[hH];exact List.nodup_cons.2 ⟨hHs,k3⟩
 ·intro i hi hik
  have hi':i<vv.length:=by simp at hi;omega
  obtain⟨u,p,q⟩:=hrel i (by omega)
  refine⟨u,by simpa using p,?_⟩
  have hlt:i<(vv.set k .undef).length:=by simpa using hi'
  obtain⟨y,y1,y2⟩:=m2 i _ (List.getElem?_eq_getElem hlt)
  have e1:(vv.set k V.undef)[i]'hlt=vv[i]:=by simp[Ne.symm hik]
  have e2:gv (bs.set k (.tuple (.lref 0 0::ts))) i=y:=by simp[gv,List.getD_eq_getElem?_getD,Ne.symm hik,y1]
  have e3:gv vv i=vv[i]:=by simp[gv,hi']
  rw[e2]
  rw[e3] at q
  have y2':=y2
  rw[e1] at y2
  refine hsub (Jbr h q y2 (fun b hb=>hb.imp id (f2 b)) (fun s hs b hb hex hn=>?_))
  rcases hn with hx|hx
  ·obtain⟨z,rows,f,e1,e2⟩:=hex
   exact ((h.arr s z rows f e1 e2).2 b hb).1 (h.xb b hx)
  ·exact f4 s (G5.2 ⟨_,Gaf hlt,by rw[e1];exact hs⟩) b hb hex hx
 ·rintro en w' ⟨v,r0,cs',N',rfl,rfl,hkept,hN',⟨n1,l',el',n2,n3,n4⟩,hres⟩
  simp only[rcallE] at hE
  simp only[Gb,Ga,Gf] at hE
  obtain⟨⟨cells,A3⟩,ht,rfl,rfl⟩:=hE
  have hNv:∀t,t≠s'→(S.μ t).isSome→¬(β t=β s'∨β t∈H):=fun t hne ht hx=>by
   rcases hx with hx|hx
   ·exact hne (f1.varInj t s' ht (by simp[hm]) hx)
   ·obtain⟨t',z,rows,e1,e2,e3⟩:=k4 _ hx;exact f1.arrVar t' z rows .live t e1 (by simp) ht e3
  have hNa:∀t z rows f,A2 t=some (z,rows,f)→f≠.dead→∀b,hdr (α t)=some b→¬(b=β s'∨b∈H):=fun t z rows f ht hf b hb hx=>by
   have hk':=k2.keep ht hf;rcases hx with rfl|hx
   ·exact f1.arrVar t z rows f s' hk' hf (by simp[hm]) hb
   ·obtain⟨t',z',rows',e1,e2,e3⟩:=k4 _ hx;have:=f1.arrInj t t' z rows f z' rows' .live hk' hf e1 (by simp) b hb e3;subst this;rw[ht] at e2;simp only[Ga,Gf] at e2;exact hf e2.2.2
  obtain⟨hW1,hD1⟩:=f1.lend hm' k2 hNM (.inl rfl) hNv hNa hkept hN'
  have hsub':∀u x,RelD cx w' (orP (fun b=>orP X M0 b∧¬(b=β s'∨b∈H)) N') u x→RelD cx w' (orP X fun b=>(M0 b∧¬(b=β s'∨b∈H))∨N' b) u x:=fun u x hr=>
   hr.mono (Gm _) (fun _ _ _=>rfl) (fun b _ hn hx=>hn (by
    rcases hx with hx|hx|hx
    ·exact .inl ⟨.inl hx,fun hh=>(f1.m b (hNM b hh)).1 (h.xb b hx)⟩
    ·exact .inl ⟨.inr hx.1,hx.2⟩
    ·exact .inr hx))
  obtain⟨n4a,n4b⟩:=List.nodup_cons.1 n4
  have hnew:∀hb∈JB l' cs',(hb=β s'∨hb∈H)∨w.heap.size≤hb:=fun hb hh=>(hN' hb (n3.hdr hb hh).1).imp id (·.1)
  obtain⟨α',t1,t2,t3,t4⟩:=take_ok cs' b0 _ α A3 cells l' hW1 ht (n3.mono hsub' (fun b hb=>.inr (n3.hdr b hb).1)) n4b (fun hb hh=>by
   refine⟨fun t ht he=>?_,fun t z rows f ht hf hx=>?_⟩
   ·have ht':t≠s'∧(S.μ t).isSome:=by
     simp only[upd] at ht;split at ht
     ·simp at ht
     ·rename_i e1;exact⟨e1,ht⟩
    rcases hnew hb hh with h'|h'
    ·exact hNv t ht'.1 ht'.2 (he▸h')
    ·obtain⟨x,hx⟩:=Gw.1 ht'.2;have:=h.varLt (cs:=x.1) (f:=x.2) hx;omega
   ·rcases hnew hb hh with h'|h'
    ·exact hNa t z rows f ht hf hb hx h'
    ·have:=(f1.arr t z rows f (k2.keep ht hf) hf).1.lt hx;omega)
  have hadd:=t1.addVar (d:=s') (b0:=β s') (cs:=cells) (by simp[upd]) (.inr n1) n2 (by simpa using t2.1) (fun i hi=>by obtain⟨u,p,q,r⟩:=t2.2 i hi;exact⟨u,by simpa using p,q,r⟩)
   (fun t ht he=>by
    have ht':t≠s'∧(S.μ t).isSome:=by
     simp only[upd] at ht;split at ht
     ·simp at ht
     ·rename_i e1;exact⟨e1,ht⟩
    exact ht'.1 (h.varInj t s' ht'.2 (by simp[hm]) he))
   (fun t z rows f ht hf hx=>by
    rcases t4 t z rows f ht hf _ hx with h'|⟨z1,r1,f1',b1,b2,b3⟩
    ·exact n4a h'
    ·exact hNa t z1 r1 f1' b1 b2 _ b3 (.inl rfl))
  have e1:upd β s' (β s')=β:=Jbk _ _ _ rfl
  rw[e1] at hadd
  simp only[JhU] at hadd
  refine⟨v,rfl,β,α',_,hadd,fun u x hu=>RelT.tr (S:=S) (fun u x hr=>hD1 u x (Jaw f2 hr)) ?_ (fun t ht=>⟨?_,rfl⟩) hu,.of_data (hsub' _ _ hres),hkept.mono fun b hb=>⟨h.size b hb,fun hh=>(f1.m b (hNM b hh)).1 hb⟩⟩
  ·exact (f3.trans (k2.atr α)).trans (S'':=⟨S.ρ,upd S.μ s' (some (cells,false)),A3⟩) t3
  ·simp only[upd]
   split
   ·rfl
   ·exact ht
end
end Sg
namespace Sg
open Go Go.RowKit Go.Lib
variable {P : Program}
theorem Jas (z:Nat) (w:World) (dT sT ty elem:TypeId) (b o dLen dCap:Nat) (a:Addr) (sLen sCap:Nat) (cs:List Value) (k:Nat)
  (hu:P.underlying dT=some (.slice elem)) (hs:(P.info? elem).map (·.size)=some z) (hk:k=Nat.min sLen dLen) (hn:cs.length=k*z)
  (hsrc:∀j v,cs[j]?=some v→w.cell? (a.add j)=some v) (hc:∀j,j<cs.length→(w.cell? ⟨b,o+j,none⟩).isSome=true) (hf:∀j,j<cs.length→w.frozen? ⟨b,o+j,none⟩=false) (h1:∀v∈cs,v.oneCell'=true) :
  (Builtin.copy_ #[dT,sT] ty #[.slice (some ⟨b,o,none⟩) dLen dCap,.slice (some a) sLen sCap]).run P w=.ok (goInt k) (w.setCells b o cs):=by
 have hl:=run_loadCells_list (P:=P) w a cs hsrc
 have hst:=run_storeCells_cells (P:=P) b o cs 0 w (by simpa using hc) (by simpa using hf) h1
 cases hq:P.info? elem with
 |none=>simp[hq] at hs
 |some i=>
  have hi:i.size=z:=by simpa [hq] using hs
  rw[hn] at hl
  simp[Builtin.copy_,run_underlying hu,Builtin.lenOf,Builtin.firstCells,Go.sizeOf,typeInfo,hq,hi,←hk,hl,hst]
theorem run_overlaps_k (w:World) (tS tR e:TypeId) (ht:P.underlying tS=some (.slice e)) (size:Nat) (hz:∀w,(Go.sizeOf e).run P w=.ok size w)
  (a b:Addr) (la ca lb cb:Nat) (hne:a.block≠b.block) (tA tB:TypeId) (kA kB:Nat)
  (hsa:w.shape? a.block=some (tA,kA)) (hsb:w.shape? b.block=some (tB,kB)) (hkA:kA≠0)
  (hfb:w.frozen? b=false) (hfe:w.frozen? {block:=b.block,off:=kB}=false) :
  (Extern.SlicesOverlaps.overlaps #[tS,tS] #[tR] #[.slice (some a) la ca,.slice (some b) lb cb]).run P w=.ok (.bool false) w:=by
 have hnb:(a.block != b.block)=true:=by simpa using hne
 have hnb':(a.block == b.block)=false:=by simpa using hne
 change Sem.run P (α:=Value) (do
  let some t:=(#[tS,tS]:Array TypeId)[0]?|stuck "slices.overlaps: no parameter types"
  let .slice elem ←underlying t|stuck "slices.overlaps: slice type expected"
  let size ←sizeOf elem
  match (some a:Option Addr),(some b:Option Addr) with
  |some a,some b=>
   if la=0∨lb=0∨size=0 then pure (Value.bool false)
   else if a.block != b.block&&(←frozen a)&&(←frozen b) then unsupported .addressObserved
   else do
    if a.block != b.block then do
     noView a;noView b
     if ←mayBeOne a b then return Value.bool ((←choose (.extern "sameAddr.stringBytes" 2)) == 1)
    pure (Value.bool (a.block == b.block&&a.off<b.off+lb*size&&b.off<a.off+la*size))
  |_,_=>pure (Value.bool false)) w=_
 by_cases h0:la=0∨lb=0∨size=0
 ·simp[run_underlying ht,hz,h0]
 ·cases kA with
  |zero=>exact absurd rfl hkA
  |succ kA=>
   cases hfa:w.frozen? a with
   |true=>simp[run_underlying ht,hz,h0,hnb,hnb',frozen,noView,viewAt,mayBeOne,stringish,shape,Sem.run,hsa,hsb,hfa,hfb,hfe]
   |false=>
    cases hfk:w.frozen? {block:=a.block,off:=kA+1}<;>simp[run_underlying ht,hz,h0,hnb,hnb',frozen,noView,viewAt,mayBeOne,stringish,shape,Sem.run,hsa,hsb,hfa,hfb,hfe,hfk]
theorem wp_copy_k (w:World) {o:Oper} {a:Act} {K:Act→World→Prop} {Q:Exit→Act→World→Prop} (d s:Operand) (t t':TypeId)
  (ho:o.op=.call {callee:=.builtin .copy,args:=#[d,s],argTypes:=#[t,t']}) (v u:Value) (hd:a.eval d=v) (hs:a.eval s=u) {v':Value} {w':World}
  (hr:(Builtin.copy_ #[t,t'] o.type #[v,u]).run P w=.ok v' w') (h:K (a.put o.dst v') w'):o.wp P a w K Q:=by
 unfold Oper.wp execOp
 simp only[ho,resolve,invoke,builtin,Sem.run_bind,Sem.run_pure,Result.andThen_ok,List.map_toArray,Gv,Gp,hd,hs,hr]
 exact h
theorem wpList_copy_k (w:World) {ops:Array Oper} {rest:List Oper} {o:Oper} {a:Act} {Q:Exit→Act→World→Prop} (hgd:o.guard=none) (d s:Operand) (t t':TypeId)
  (ho:o.op=.call {callee:=.builtin .copy,args:=#[d,s],argTypes:=#[t,t']}) (v u:Value) (hd:a.eval d=v) (hs:a.eval s=u) {v':Value} {w':World}
  (hr:(Builtin.copy_ #[t,t'] o.type #[v,u]).run P w=.ok v' w') (h:wpList P ops Q rest (a.put o.dst v') w'):wpList P ops Q (o::rest) a w:=
 wpList_plain hgd fun _ hK=>wp_copy_k w d s t t' ho v u hd hs hr (hK _ _ h)
theorem step_copy_k {ops:Array Oper} {o:Oper} {a:Act} {w:World} {K:Act→World→Prop} {Q:Exit→Act→World→Prop} {E:Prop}
  (hg:o.guard=none) (d x:Operand) (dT sT:TypeId) (hop:o.op=Op.call {callee:=Callee.builtin Builtin.copy,args:=#[d,x],argTypes:=#[dT,sT]})
  (v u:Value) (hd:a.eval d=v) (hx:a.eval x=u) {v':Value} {w':World} (hr:(Builtin.copy_ #[dT,sT] o.type #[v,u]).run P w=.ok v' w') (hK:K (a.put o.dst v') w') :
  if Region.wanted o (yielded ops a.tmps)=true then Oper.wp P o a w K Q else E:=by
 have hw:Region.wanted o (yielded ops a.tmps)=true:=by simp[Region.wanted,hg]
 rw[Gl hw]
 unfold Oper.wp
 simp[execOp,hop,resolve,invoke,builtin,hd,hx,hr,Result.andThen]
 exact hK
theorem isSome_setK (b:Nat) (vs:List Value) (o:Nat) (w:World) (h:∀j,j<vs.length→(w.cell? ⟨b,o+j,none⟩).isSome=true) (k:Nat) (hk:(w.cell? ⟨b,k,none⟩).isSome=true):((w.setCells b o vs).cell? ⟨b,k,none⟩).isSome=true:=by
 by_cases hin:o≤k∧k<o+vs.length
 ·have:=World.cell?_setCells_in b vs o w h (k-o) (by omega);rw[show o+(k-o)=k by omega] at this;rw[this];rfl
 ·rw[World.cell?_setCells_out b vs o w ⟨b,k,none⟩ (fun _ _=>by show k<o∨o+vs.length≤k;omega)];exact hk
theorem drew_setK (b:Nat):∀(vs:List Value) (o:Nat) (w:World),(w.setCells b o vs).drew=w.drew.setCells b o vs
 |[],_,_=>rfl
 |v::r,o,w=>by rw[World.setCells,World.setCells,drew_setK b r];rfl
theorem run_clear_k (w:World) (t e ty:TypeId) (zv:Value) (ht:P.underlying t=some (.slice e)) (hv:∀w,(zeroValue e).run P w=.ok zv w) (b o n c:Nat) (hn:0<n) (h1:∀v∈(Builtin.zeroCells zv.cells n).toList,v.oneCell'=true)
  (hc:∀j,j<(Builtin.zeroCells zv.cells n).toList.length→(w.cell? ⟨b,o+j,none⟩).isSome=true) (hf:∀j,w.frozen? ⟨b,j,none⟩=false) :
  (Builtin.clear_ #[t] ty #[.slice (some ⟨b,o,none⟩) n c]).run P w=.ok (.tuple #[]) (w.setCells b o (Builtin.zeroCells zv.cells n).toList):=by
 have hst:=run_storeCells_cells (P:=P) b o (Builtin.zeroCells zv.cells n).toList 0 w (by simpa using hc) (fun j _=>hf _) h1
 simp only[Nat.add_zero] at hst
 obtain⟨m,rfl⟩:∃m,n=m+1:=⟨n-1,by omega⟩
 simp only[Builtin.clear_]
 simp[run_underlying ht,hv,hst]
theorem zero_one {zs:Array Value} {k:Nat} {v:Value} (h:∀u∈zs.toList,u.oneCell'=true) (hv:v∈(Builtin.zeroCells zs k).toList):v.oneCell'=true:=by
 simp only[Builtin.zeroCells,Array.toList_map,List.mem_map] at hv;obtain⟨i,hi,rfl⟩:=hv;simp only[Array.toList_range,GO] at hi;have hz:0<zs.size:=Nat.pos_of_ne_zero fun e=>by rw[e] at hi;simp at hi
 have hlt:=Nat.mod_lt i hz;rw[getElem!_pos zs (i % zs.size) hlt];exact h _ (by simp)
end Sg
namespace Sg
open Go Go.RowKit
structure InsC (P:Program) (f:FuncId) (z:Nat) (tS el:TypeId):Prop where
 ent:Ent P f
 hS:P.underlying tS=some (.slice el)
 hz:szT P el=some z
 pos:0<z
 info:∃ie zv,P.info? el=some ie∧ie.bytes≤65536∧ie.zero=some zv∧zv.cells.size=z
 nothing:∀(base:Option Addr) (n c i vc:Nat) (vb:Option Addr) (w:World),n≤c→i≤n→(base=none→n=0)→
  Calls P f #[.slice base n c,.int .i64 i,.slice vb 0 vc] w fun e w1=>e=.returned (.slice base n c)∧w1=w
 end_:∀(base:Option Addr) (n c m vc:Nat) (vb:Option Addr) (w w':World) (q:Value),0<m→n≤c→n+m≤1073741824→(base=none→n=0)→
  (Builtin.append_ #[tS,tS] tS #[.slice base n c,.slice vb m vc]).run P w=.ok q w'→
  Calls P f #[.slice base n c,.int .i64 n,.slice vb m vc] w fun e w1=>e=.returned q∧w1=w'
 shift:∀(b off n c i vb voff m vc:Nat) (cs vs:List Value) (w:World),i<n→0<m→n+m≤c→n+m≤1073741824→vb≠b→cs.length=n*z→vs.length=m*z→
  (∀(j:Nat) (v:Value),cs[j]?=some v→w.cell? ⟨b,off+j,none⟩=some v)→(∀j,j<(n+m)*z→(w.cell? ⟨b,off+j,none⟩).isSome=true)→(∀j,w.frozen? ⟨b,j,none⟩=false)→
  (∀(j:Nat) (v:Value),vs[j]?=some v→w.cell? ⟨vb,voff+j,none⟩=some v)→(∀v∈cs,v.oneCell'=true)→(∀v∈vs,v.oneCell'=true)→
  ∀(tA tB:TypeId) (kA kB:Nat),w.shape? vb=some (tA,kA)→w.shape? b=some (tB,kB)→kA≠0→
  Calls P f #[.slice (some ⟨b,off,none⟩) n c,.int .i64 i,.slice (some ⟨vb,voff,none⟩) m vc] w fun e w'=>
   e=.returned (.slice (some ⟨b,off,none⟩) (n+m) c)∧w'=(w.drew.setCells b (off+(i+m)*z) (cs.drop (i*z))).setCells b (off+i*z) vs
 grow:∀(b off n c i vb voff m vc:Nat) (cs vs:List Value) (w:World),i<n→0<m→n≤c→c<n+m→n+m≤1073741824→cs.length=n*z→vs.length=m*z→b<w.heap.size→vb<w.heap.size→
  (∀(j:Nat) (v:Value),cs[j]?=some v→w.cell? ⟨b,off+j,none⟩=some v)→
  (∀(j:Nat) (v:Value),vs[j]?=some v→w.cell? ⟨vb,voff+j,none⟩=some v)→(∀v∈cs,v.oneCell'=true)→(∀v∈vs,v.oneCell'=true)→
  Calls P f #[.slice (some ⟨b,off,none⟩) n c,.int .i64 i,.slice (some ⟨vb,voff,none⟩) m vc] w fun e w'=>
   ∃(G:Nat) (ROW:Array Value) (d1:Nat),n+m≤G∧(n+m)*z≤ROW.size∧ROW.size=G*z∧(∀(j:Nat) (v:Value),(cs.take (i*z))[j]?=some v→ROW[j]?=some v)∧e=.returned (.slice (some ⟨w.heap.size,0,none⟩) (n+m) G)∧
   w'=((({w with drawn:=d1}:World).alloc (.cells ROW el)).setCells w.heap.size (i*z) vs).setCells w.heap.size ((i+m)*z) (cs.drop (i*z))
structure DelC (P:Program) (f:FuncId) (z:Nat):Prop where
 ent:Ent P f
 pos:0<z
 nothing:∀(base:Option Addr) (n c i:Nat) (w:World),n≤c→i≤n→(base=none→n=0)→
  Calls P f #[.slice base n c,.int .i64 i,.int .i64 i] w fun e w1=>e=.returned (.slice base n c)∧w1=w
 cut:∀(b off n c i j:Nat) (cs:List Value) (w:World),i<j→j≤n→n≤c→n≤1073741824→cs.length=n*z→
  (∀(j:Nat) (v:Value),cs[j]?=some v→w.cell? ⟨b,off+j,none⟩=some v)→(∀j,w.frozen? ⟨b,j,none⟩=false)→(∀v∈cs,v.oneCell'=true)→
  Calls P f #[.slice (some ⟨b,off,none⟩) n c,.int .i64 i,.int .i64 j] w fun e w'=>
   e=.returned (.slice (some ⟨b,off,none⟩) (n-(j-i)) c)∧∃(d1:Nat) (zs:List Value),zs.length=(j-i)*z∧(∀v∈zs,v.oneCell'=true)∧
   w'=((({w with drawn:=d1}:World)).setCells b (off+i*z) (cs.drop (j*z))).setCells b (off+(n-(j-i))*z) zs
theorem setCells_at (P:Program) {w:World} {b o:Nat} {c:Array Value} {e:TypeId} {vs:List Value} (h:w.heap[b]?=some (.cells c e (0,0))) (hsz:o+vs.length≤c.size) (h1:∀v∈vs,v.oneCell'=true) :
  ∃c2,(w.setCells b o vs).heap[b]?=some (.cells c2 e (0,0))∧c2.size=c.size∧Turn b w (w.setCells b o vs)∧(∀B:Nat→Prop,¬B b→Kept B w (w.setCells b o vs))∧
   (∀k,k<o→c2[k]?=c[k]?)∧(∀k,k<vs.length→c2[o+k]?=vs[k]?)∧∀k,o+vs.length≤k→c2[k]?=c[k]?:=by
 have a:=run_storeCells_at P b o e vs 0 c w h (by omega) h1
 have hcell:∀j,j<vs.length→(w.cell? ⟨b,o+0+j,none⟩).isSome=true:=fun j hj=>by
  simp[World.cell?,h];omega
 have hfz:∀j,j<vs.length→w.frozen? ⟨b,o+0+j,none⟩=false:=fun j hj=>by simp[World.frozen?,h]
 have b':=run_storeCells_cells (P:=P) b o vs 0 w hcell hfz h1
 rw[a] at b'
 have e1:w.setCells b o vs=w.setRow b (c.toList.take o++vs++c.toList.drop (o+vs.length)).toArray:=by
  simpa using b'.symm
 rw[e1]
 have hcl:c.toList.length=c.size:=Array.length_toList
 have htk:(c.toList.take o).length=o:=by rw[Gy,hcl];omega
 refine⟨_,setRow_heap w b c _ e (0,0) h,by rw[GX,Gk,Gk,htk,Gu,hcl];omega,J4 w b _,fun B hB=>J9 w _ hB,fun k hk=>?_,fun k hk=>?_,fun k hk=>?_⟩
 ·simp only[List.getElem?_toArray]
  rw[GG,List.getElem?_append_left (by omega),List.getElem?_take_of_lt hk];simp
 ·simp only[List.getElem?_toArray]
  rw[GG,List.getElem?_append_right (by omega),htk,Nat.add_sub_cancel_left,List.getElem?_append_left hk]
 ·simp only[List.getElem?_toArray]
  rw[List.getElem?_append_right (by rw[Gk,htk];omega),Gk,htk,List.getElem?_drop]
  have:o+vs.length+(k-(o+vs.length))=k:=by omega
  rw[this];simp
section
variable {P:Program} {cx:Cx} {B:Nat→Prop} {X:Nat→Prop} {S:St} {w:World} {β:Nat→Nat} {α:Nat→Value} {M:Nat→Prop}
theorem DR.take {z i:Nat} {l:List Value} {rows:List (List V)} (h:DR cx w X z l rows) (hi:i≤rows.length):DR cx w X z (l.take (i*z)) (rows.take i):=by
 have hle:i*z≤rows.length*z:=Gq z hi;refine⟨by rw[Gy,h.1,Gy,Gaa hle,Gaa hi],fun k hk=>?_,fun k j hk hj=>?_⟩
 ·have hk':k<i:=by simp at hk;omega
  have:=h.2.1 k (by omega);simpa [gr,List.getD_eq_getElem?_getD,List.getElem?_take_of_lt hk'] using this
 ·have hk':k<i:=by simp at hk;omega
  obtain⟨u,a,b,c⟩:=h.2.2 k j (by omega) hj;exact⟨u,by rw[List.getElem?_take_of_lt (JaX hk' hj)];exact a,b,by simpa [gr,List.getD_eq_getElem?_getD,List.getElem?_take_of_lt hk'] using c⟩
theorem DR.drop {z i:Nat} {l:List Value} {rows:List (List V)} (h:DR cx w X z l rows) (hi:i≤rows.length):DR cx w X z (l.drop (i*z)) (rows.drop i):=by
 refine⟨by rw[Gu,h.1,Gu,Nat.sub_mul],fun k hk=>?_,fun k j hk hj=>?_⟩
 ·have:=h.2.1 (i+k) (by simp at hk;omega);simpa [gr,List.getD_eq_getElem?_getD,List.getElem?_drop] using this
 ·obtain⟨u,a,b,c⟩:=h.2.2 (i+k) j (by simp at hk;omega) hj;refine⟨u,?_,b,by simpa [gr,List.getD_eq_getElem?_getD,List.getElem?_drop] using c⟩;rw[List.getElem?_drop,←a];congr 1;rw[GT];omega
theorem RelW.delArr (h:RelW cx B X S w β α M) {s d z b0:Nat} {rows rows':List (List V)} {v':Value} {w':World} (hs:S.A s=some (z,rows,.live)) (hd:S.A d=none)
  (hg:Turn b0 w w') (hb0:hdr (α s)=some b0) (hv:hdr v'=some b0) (ha:ArrOK cx w' (orP X M) v' z rows') :
  RelW cx B X {S with A:=upd (upd S.A s (some (z,[],.dead))) d (some (z,rows',.live))} w' β (upd α d v') M∧(∀u x,RelD cx w (orP X M) u x→RelD cx w' (orP X M) u x)∧
   ATr S {S with A:=upd (upd S.A s (some (z,[],.dead))) d (some (z,rows',.live))} α (upd α d v'):=by
 obtain⟨p1,p2⟩:=h.arr s z rows .live hs (by simp)
 have hM:M b0:=(p2 b0 hb0).2.1 rfl
 have hsd:s≠d:=fun e=>by rw[e,hd] at hs;simp at hs
 have hD:∀u x,RelD cx w (orP X M) u x→RelD cx w' (orP X M) u x:=fun _ _ hr=>Ja2 hg hM hr
 have hT:ATr S {S with A:=upd (upd S.A s (some (z,[],.dead))) d (some (z,rows',.live))} α (upd α d v'):=fun t z1 r f ht=>by
  have htd:t≠d:=fun e=>by rw[e,hd] at ht;simp at ht
  by_cases e:t=s
  ·subst e;rw[hs] at ht;simp only[Ga,Gf] at ht;obtain⟨rfl,rfl,rfl⟩:=ht;exact⟨[],.dead,by simp[upd,htd],fun h=>absurd rfl h⟩
  ·exact⟨r,f,by simp[upd,htd,e,ht],fun h=>⟨h,Gm _,fun _=>by simp[upd,htd]⟩⟩
 have keep:∀t,(S.μ t).isSome→β t≠b0:=fun t ht e=>h.arrVar s z rows .live t hs (by simp) ht (by rw[hb0,e])
 have old:∀t z1 r f,t≠d→(upd (upd S.A s (some (z,[],.dead))) d (some (z,rows',.live))) t=some (z1,r,f)→f≠.dead→S.A t=some (z1,r,f)∧t≠s:=fun t z1 r f htd ht hf=>by
  by_cases e:t=s
  ·subst e;simp only[upd,Gj htd,Gx,Ga,Gf] at ht;exact absurd ht.2.2.symm hf
  ·simp only[upd,Gj htd,Gj e] at ht;exact⟨ht,e⟩
 refine⟨⟨h.xb,⟨h.glob.1,cx.Gst w w' h.glob.2 fun b hb=>hg.block b (fun e=>(h.m _ hM).1 (e▸h.glob.1 b hb))⟩,by rw[hg.size];exact h.size,fun b hb=>by rw[hg.size];exact h.m b hb,fun t ct f ht=>?_,h.varInj,fun t z' r f ht hf=>?_,fun t t' z1 r1 f1 z2 r2 f2 ht hf ht' hf' b hb hb'=>?_,fun t z' r f t' ht hf ht'=>?_⟩,hD,hT⟩
 ·obtain⟨a1,a2,a3,c',e'',a4,a5,a6⟩:=h.var t ct f ht
  refine⟨a1,a2,a3,c',e'',(hg.block _ (keep t (Gw.2 ⟨_,ht⟩))).trans a4,a5,fun i hi=>?_⟩
  obtain⟨u,b1,b2,b3⟩:=a6 i hi
  exact⟨u,b1,b2,b3.tr hD hT⟩
 ·by_cases e:t=d
  ·subst e
   simp only[upd,Gx,Ga,Gf] at ht ⊢
   obtain⟨rfl,rfl,rfl⟩:=ht
   refine⟨ha,fun b hb=>?_⟩
   rw[hv] at hb
   simp only[Ga] at hb
   subst hb
   exact⟨(p2 b0 hb0).1,fun _=>hM,fun hf=>by simp at hf⟩
  ·obtain⟨ht,es⟩:=old t z' r f e ht hf
   obtain⟨a1,a2⟩:=h.arr t z' r f ht hf
   have:upd α d v' t=α t:=by simp[upd,e]
   rw[this]
   exact⟨a1.tr hD (fun b hb=>hg.block b (fun e'=>es (h.arrInj t s z' r f z rows .live ht hf hs (by simp) b hb (by rw[hb0,e'])))),a2⟩
 ·have other:∀t z1 r1 f1,t≠d→S.A t=some (z1,r1,f1)→t≠s→f1≠.dead→hdr (α t)=some b→hdr v'=some b→False:=fun t z1 r1 f1 hne ht hs' hf hb hv'=>by
   rw[hv] at hv';simp only[Ga] at hv';subst hv';exact hs' (h.arrInj t s z1 r1 f1 z rows .live ht hf hs (by simp) b0 hb hb0)
  by_cases e1:t=d<;>by_cases e2:t'=d
  ·rw[e1,e2]
  ·obtain⟨q1,q2⟩:=old t' z2 r2 f2 e2 ht' hf'
   simp only[upd,e1,Gx] at hb
   simp only[upd,e2,GD] at hb'
   exact (other t' z2 r2 f2 e2 q1 q2 hf' hb' hb).elim
  ·obtain⟨q1,q2⟩:=old t z1 r1 f1 e1 ht hf
   simp only[upd,e2,Gx] at hb'
   simp only[upd,e1,GD] at hb
   exact (other t z1 r1 f1 e1 q1 q2 hf hb hb').elim
  ·obtain⟨q1,q2⟩:=old t z1 r1 f1 e1 ht hf
   obtain⟨q3,q4⟩:=old t' z2 r2 f2 e2 ht' hf'
   simp only[upd,e1,e2,GD] at hb hb'
   exact h.arrInj t t' z1 r1 f1 z2 r2 f2 q1 hf q3 hf' b hb hb'
 ·by_cases e:t=d
  ·subst e
   simp only[upd,Gx]
   rw[hv]
   intro hb
   simp only[Ga] at hb
   exact keep t' ht' hb.symm
  ·obtain⟨q1,q2⟩:=old t z' r f e ht hf
   have:upd α d v' t=α t:=by simp[upd,e]
   rw[this]
   exact h.arrVar t z' r f t' q1 hf ht'
end
section
variable {P:Program} {cx:Cx} {B:Nat→Prop} {X:Nat→Prop} {S:St} {w:World} {β:Nat→Nat} {α:Nat→Value} {M:Nat→Prop}
theorem Jbz {w:World} {b:Nat} {c:Array Value} {e:TypeId} {fr:Nat×Nat} (h:w.heap[b]?=some (.cells c e fr)) (k:Nat):w.cell? ⟨b,k,none⟩=c[k]?:=by
 simp[World.cell?,h]
theorem Jjf {f tS el:Nat} {z:Nat} (hI:InsC P f z tS el) (h:RelW cx B X S w β α M) {s n k:Nat} {rows ys:List (List V)} {v u:Value}
  (hA:S.A s=some (z,rows,.live)) (hn:rows.length=n) (hk:k≤n) (hlim:rows.length+ys.length≤lim)
  (hx:RelT cx w (orP X M) S β α v (.own s z n)) (hy:RelT cx w (orP X M) S β α u (.slice z ys)) :
  Calls P f #[v,.int .i64 k,u] w fun e w1=>∃q,e=.returned q∧
   OpPost cx B X S w β α M {S with A:=upd S.A s (some (z,rows.take k++(ys++rows.drop k),.live))} (.own s z (rows.length+ys.length)) q w1:=by
 have hy0:=hy
 obtain⟨rows',f',a,cap,hA',rfl,ha,ho⟩:=hx
 rw[hA] at hA'
 simp only[Ga,Gf] at hA'
 obtain⟨-,rfl,rfl⟩:=hA'
 have hα:=(ho (by simp)).2 hn
 obtain⟨p1,p2⟩:=h.arr s z rows .live hA (by simp)
 obtain⟨lx,hdx,-,hat⟩:=p1.cells hI.pos
 subst hn
 rw[←hα] at p1 hat
 have hcapn:rows.length≤cap∧(a=none→rows.length=0):=by
  rcases p1.at_ with ⟨h1,h2⟩|⟨b,o,cap',c,el',h1,h2,h3,h4,h5⟩
  ·simp only[Value.slice.injEq] at h1;subst h2;exact⟨by simp,fun _=>rfl⟩
  ·simp only[Value.slice.injEq] at h1;obtain⟨rfl,-,rfl⟩:=h1;exact⟨h3,fun e=>by simp at e⟩
 have hlim':rows.length+ys.length≤1073741824:=hlim
 simp only[RelT] at hy
 have hyl:∃vb vc,u=.slice vb ys.length vc:=by
  rcases JR hy with ⟨⟨a0,rfl⟩,rfl⟩|⟨b,o,vc,c,e',fr,rfl,-⟩
  ·exact⟨a0,0,rfl⟩
  ·exact⟨_,_,rfl⟩
 rcases Nat.eq_zero_or_pos ys.length with hz|hpos
 ·-- nothing
  have hy0:ys=[]:=GB hz
  subst hy0
  obtain⟨vb,vc,rfl⟩:=hyl
  refine (hI.nothing a rows.length cap k vc vb w hcapn.1 hk hcapn.2).mono ?_
  rintro e w1 ⟨rfl,rfl⟩
  refine⟨_,rfl,?_⟩
  have:S={S with A:=upd S.A s (some (z,rows.take k++([]++rows.drop k),.live))}:=by
   have:upd S.A s (some (z,rows.take k++([]++rows.drop k),.live))=S.A:=by
    funext t;simp only[upd];split
    ·rename_i e;rw[e,hA];simp
    ·rfl
   rw[this]
  rw[←this]
  exact .pure h ⟨rows,.live,a,cap,hA,rfl,ha,ho⟩
 ·by_cases hend:k=rows.length
  ·-- at the end
   obtain⟨ie,zv,hie,hb2,hzv,hzz⟩:=hI.info
   have hev:J7 S s z (.own s z rows.length) (.slice z ys)=some (.own s z (rows.length+ys.length),{S with A:=upd S.A s (some (z,rows++ys,.live))}):=by
    simp only[J7,and_self,Gx,hA,V.rowsOf,Option.bind_some];rw[Gl hlim]
   have hxx:RelT cx w (orP X M) S β α (.slice a rows.length cap) (.own s z rows.length):=⟨rows,.live,a,cap,hA,rfl,ha,ho⟩
   obtain⟨q,w',hrun,hpost⟩:=JbI (P:=P) (t':=tS) (ty:=tS) h hxx hy0 hI.hS hI.hz hie hb2 hzv hzz hI.pos (by simp[Jai,hI.hS]) hev
   obtain⟨vb,vc,rfl⟩:=hyl
   subst hend
   refine (hI.end_ a rows.length cap ys.length vc vb w w' q hpos hcapn.1 hlim' hcapn.2 hrun).mono ?_
   rintro e w1 ⟨rfl,rfl⟩
   refine⟨q,rfl,?_⟩
   rw[List.take_length,List.drop_length,GI]
   exact hpost
  ·have hlt:k<rows.length:=by omega
   rcases p1.at_ with ⟨h1,h2⟩|⟨b,o,cap',c,el',h1,h2,h3,h4,h5⟩
   ·subst h2;simp at hlt
   simp only[Value.slice.injEq] at h1
   obtain⟨rfl,-,rfl⟩:=h1
   have hM:M b:=(p2 b (by rw[←hα];rfl)).2.1 rfl
   rcases JR hy with ⟨⟨a0,rfl⟩,rfl⟩|⟨vb,vo,vc,cv,ev',fr,rfl,hvb,hvX,hvw,hvcap,hzz,hcc⟩
   ·simp at hpos
   have hne:ys≠[]:=fun e=>by rw[e] at hpos;simp at hpos
   have hvsz:=(DR.of_cells hzz hcc hI.pos).resolve_right hne
   have hdr:=DR.seg hvsz hzz hcc
   generalize hly:(cv.toList.drop vo).take (ys.length*z)=ly at hdr
   have hvb':vb≠b:=fun e=>hvX (.inr (e▸hM))
   have hlx:=hat b o _ _ c el' rfl h2
   have hcs:∀(j:Nat) (v:Value),lx[j]?=some v→w.cell? ⟨b,o+j,none⟩=some v:=fun j v hj=>by
    have hjl:j<lx.length:=by
     rcases Gt j lx.length with h'|h'
     ·exact h'
     ·rw[List.getElem?_eq_none h'] at hj;simp at hj
    rw[Jbz h2,hlx j hjl,hj]
   have hvs:∀(j:Nat) (v:Value),ly[j]?=some v→w.cell? ⟨vb,vo+j,none⟩=some v:=fun j v hj=>by
    have hjl:j<ly.length:=by
     rcases Gt j ly.length with h'|h'
     ·exact h'
     ·rw[List.getElem?_eq_none h'] at hj;simp at hj
    rw[hdr.1] at hjl;rw[Jbz hvw,←hj,←hly,List.getElem?_take_of_lt hjl,List.getElem?_drop];simp
   have hfz:∀j,w.frozen? ⟨b,j,none⟩=false:=fun j=>by simp[World.frozen?,h2]
   have e1:lx.length=rows.length*z:=hdx.1
   have e2:ly.length=ys.length*z:=hdr.1
   have o1:=hdx.one hI.pos
   have o2:=hdr.one hI.pos
   have hkz:k*z≤rows.length*z:=Gq z (by omega)
   have e3:(lx.drop (k*z)).length=rows.length*z-k*z:=by rw[Gu,e1]
   have e4:(k+ys.length)*z=k*z+ys.length*z:=GT ..
   have e5:(rows.length+ys.length)*z=rows.length*z+ys.length*z:=GT ..
   have e6:(lx.take (k*z)).length=k*z:=by rw[Gy,e1];omega
   have o3:∀v∈lx.drop (k*z),v.oneCell'=true:=fun v hv=>o1 v (G6 hv)
   -- the cells of the new row
   have content:∀(c3:Array Value) (O:Nat),(∀t,t<k*z→c3[O+t]?=lx[t]?)→(∀t,t<ly.length→c3[O+k*z+t]?=ly[t]?)→(∀t,t<(lx.drop (k*z)).length→c3[O+(k+ys.length)*z+t]?=(lx.drop (k*z))[t]?)→
     ∀t,t<(lx.take (k*z)++(ly++lx.drop (k*z))).length→c3[O+t]?=(lx.take (k*z)++(ly++lx.drop (k*z)))[t]?:=by
    intro c3 O q1 q2 q3 t ht
    rw[Gk,Gk,e6,e2,e3] at ht
    rcases Gt t (k*z) with t1|t1
    ·rw[List.getElem?_append_left (by omega),List.getElem?_take_of_lt t1];exact q1 t t1
    ·rw[List.getElem?_append_right (by omega),e6]
     rcases Gt (t-k*z) (ly.length) with t2|t2
     ·rw[List.getElem?_append_left t2,←q2 _ t2];congr 1;omega
     ·rw[List.getElem?_append_right t2,←q3 _ (by omega)];congr 1;omega
   by_cases hfit:rows.length+ys.length≤cap
   ·-- in place
    have hcz:(rows.length+ys.length)*z≤cap*z:=Gq z hfit
    have hc:=hI.shift b o rows.length cap k vb vo ys.length vc lx ly w hlt hpos hfit hlim' hvb' e1 e2 hcs (fun j hj=>by
     rw[Jbz h2,Array.getElem?_eq_getElem (by omega)];rfl) hfz hvs o1 o2 ev' el' cv.size c.size (by simp[World.shape?,hvw]) (by simp[World.shape?,h2]) (by
      have:=Nat.le_mul_of_pos_left z hpos;have:=hI.pos;omega)
    refine hc.mono ?_
    rintro e w1 ⟨rfl,rfl⟩
    refine⟨_,rfl,?_⟩
    obtain⟨c2,s1,s2,s3,s4,s5,s6,s7⟩:=setCells_at P (w:=w.drew) (b:=b) (o:=o+(k+ys.length)*z) (vs:=lx.drop (k*z)) h2 (by rw[e3];omega) o3
    obtain⟨c3,t1,t2,t3,t4,t5,t6,t7⟩:=setCells_at P (b:=b) (o:=o+k*z) (vs:=ly) s1 (by omega) o2
    generalize (w.drew.setCells b (o+(k+ys.length)*z) (lx.drop (k*z))).setCells b (o+k*z) ly=w2 at t1 t3 t4 ⊢
    generalize w.drew.setCells b (o+(k+ys.length)*z) (lx.drop (k*z))=w3 at s1 s3 s4 t3 t4 ⊢
    have hT:Turn b w w2:=⟨t3.size.trans s3.size,fun b' hb'=>(t3.block b' hb').trans (s3.block b' hb')⟩
    have hBb:¬B b:=(p2 b (by rw[←hα];rfl)).1
    have hbel:Kept B w w2:=by
     have q1:=s4 B hBb;have q2:=t4 B hBb;exact⟨q2.os.trans q1.os,q2.tape.trans q1.tape,q2.output.trans q1.output,GK q1.size q2.size,fun k hk=>(q2.block k hk).trans (q1.block k hk)⟩
    have hD:∀u x,RelD cx w (orP X M) u x→RelD cx w2 (orP X M) u x:=fun _ _ hr=>Ja2 hT hM hr
    have hall:DR cx w2 (orP X M) z (lx.take (k*z)++(ly++lx.drop (k*z))) (rows.take k++(ys++rows.drop k)):=((hdx.take hk).append (hdr.append (hdx.drop hk))).mono hD
    have hlen:(rows.take k++(ys++rows.drop k)).length=rows.length+ys.length:=by simp;omega
    have harr:ArrOK cx w2 (orP X M) (.slice (some ⟨b,o,none⟩) (rows.length+ys.length) cap) z (rows.take k++(ys++rows.drop k)):=by
     refine ArrOK.of_DR t1 hall (content c3 o (fun t ht=>?_) (fun t ht=>t6 t ht) (fun t ht=>?_)) (by rw[hlen];exact hfit) (by rw[t2,s2];exact h4) hlen
     ·rw[t5 _ (by omega),s5 _ (by omega)];exact hlx t (by omega)
     ·rw[t7 _ (by omega)];exact s6 t ht
    have hsame:(rows.take k++(ys++rows.drop k)).length=rows.length→(Value.slice (some ⟨b,o,none⟩) (rows.length+ys.length) cap)=α s:=fun e'=>by rw[hlen] at e';omega
    obtain⟨hsa,hD'⟩:=h.setArr (M':=M) (rows':=rows.take k++(ys++rows.drop k)) (v':=.slice (some ⟨b,o,none⟩) (rows.length+ys.length) cap) hA
     (fun b' hb' _=>hT.block b' (fun e'=>hb' (by rw[←hα,e'];rfl))) (by rw[hT.size];exact Gm _) (.inl (by rw[←hα];rfl)) (by rw[hlen];omega) hsame
     (fun _ hb=>hb) (fun _ hb=>.inl hb) (fun b' hb'=>by simp only[Sg.hdr,Ga] at hb';subst hb';exact hM) harr
    exact⟨β,_,M,hsa,fun u' x' hu'=>RelT.tr hD' (JaI hA (by rw[hlen];omega) hsame) (fun s hs=>⟨hs,rfl⟩) hu',JcC hlen,hbel⟩
   ·-- a new row
    have hc:=hI.grow b o rows.length cap k vb vo ys.length vc lx ly w hlt hpos h3 (by omega) hlim' e1 e2 (JN h2) hvb hcs hvs o1 o2
    refine hc.mono ?_
    rintro e w1 ⟨G,ROW,d1,g1,g2,g3,g4,rfl,rfl⟩
    refine⟨_,rfl,?_⟩
    have hW0:(({w with drawn:=d1}:World).alloc (.cells ROW el)).heap[w.heap.size]?=some (.cells ROW el (0,0)):=by simp[World.alloc]
    have hGr0:Grow w (({w with drawn:=d1}:World).alloc (.cells ROW el)):=⟨by simp[World.alloc],fun b hb=>by simp[World.alloc,Array.getElem?_push,Nat.ne_of_lt hb]⟩
    have hW0s:(({w with drawn:=d1}:World).alloc (.cells ROW el)).heap.size=w.heap.size+1:=by simp[World.alloc]
    have hW0b:Kept B w (({w with drawn:=d1}:World).alloc (.cells ROW el)):=⟨rfl,rfl,rfl,hGr0.size,fun k hk=>hGr0.block k (h.size k hk)⟩
    generalize (({w with drawn:=d1}:World).alloc (.cells ROW el))=w0 at hW0 hGr0 hW0s hW0b ⊢
    obtain⟨c2,s1,s2,s3,s4,s5,s6,s7⟩:=setCells_at P (b:=w.heap.size) (o:=k*z) (vs:=ly) hW0 (by omega) o2
    obtain⟨c3,t1,t2,t3,t4,t5,t6,t7⟩:=setCells_at P (b:=w.heap.size) (o:=(k+ys.length)*z) (vs:=lx.drop (k*z)) s1 (by rw[e3];omega) o3
    generalize (w0.setCells w.heap.size (k*z) ly).setCells w.heap.size ((k+ys.length)*z) (lx.drop (k*z))=w2 at t1 t3 t4 ⊢
    generalize w0.setCells w.heap.size (k*z) ly=w3 at s1 s3 s4 t3 t4 ⊢
    have hsz2:w2.heap.size=w.heap.size+1:=by rw[t3.size,s3.size,hW0s]
    have hg:Grow w w2:=⟨by omega,fun b hb=>by rw[t3.block b (by omega),s3.block b (by omega)];exact hGr0.block b hb⟩
    have hlt2:w.heap.size<w2.heap.size:=by omega
    have hbel:Kept B w w2:=by
     have hnB:¬B w.heap.size:=fun hB=>Nat.lt_irrefl _ (h.size _ hB);have q1:=s4 B hnB;have q2:=t4 B hnB;exact⟨q2.os.trans (q1.os.trans hW0b.os),q2.tape.trans (q1.tape.trans hW0b.tape),q2.output.trans (q1.output.trans hW0b.output),hg.size,fun k hk=>hg.block k (h.size k hk)⟩
    have h2':∀b,(M b∨b=w.heap.size)→M b∨(w.heap.size≤b∧b<w2.heap.size):=fun b hb=>by
     rcases hb with hb|hb
     ·exact .inl hb
     ·subst hb;exact .inr ⟨Gm _,hlt2⟩
    have hD:∀u x,RelD cx w (orP X M) u x→RelD cx w2 (orP X (fun b=>M b∨b=w.heap.size)) u x:=fun _ _ hr=>Jao hg (fun b hb=>(h2' b hb).imp id (·.1)) hr
    have hall:DR cx w2 (orP X (fun b=>M b∨b=w.heap.size)) z (lx.take (k*z)++(ly++lx.drop (k*z))) (rows.take k++(ys++rows.drop k)):=((hdx.take hk).append (hdr.append (hdx.drop hk))).mono hD
    have hlen:(rows.take k++(ys++rows.drop k)).length=rows.length+ys.length:=by simp;omega
    have harr:ArrOK cx w2 (orP X (fun b=>M b∨b=w.heap.size)) (.slice (some ⟨w.heap.size,0,none⟩) (rows.length+ys.length) G) z (rows.take k++(ys++rows.drop k)):=by
     refine ArrOK.of_DR t1 hall (content c3 0 (fun t ht=>?_) (fun t ht=>?_) (fun t ht=>?_)) (by rw[hlen];exact g1) (by rw[t2,s2,g3];omega) hlen
     ·rw[G7,t5 _ (by omega),s5 _ (by omega)];have hlt':t<lx.length:=by omega
      rw[List.getElem?_eq_getElem hlt'];refine g4 t _ ?_;rw[List.getElem?_take_of_lt ht,List.getElem?_eq_getElem hlt']
     ·rw[G7,t5 _ (by omega)];exact s6 t ht
     ·rw[G7];exact t6 t ht
    have hsame:(rows.take k++(ys++rows.drop k)).length=rows.length→(Value.slice (some ⟨w.heap.size,0,none⟩) (rows.length+ys.length) G)=α s:=fun e'=>by rw[hlen] at e';omega
    obtain⟨hsa,hD'⟩:=h.setArr (M':=fun b=>M b∨b=w.heap.size) (rows':=rows.take k++(ys++rows.drop k)) (v':=.slice (some ⟨w.heap.size,0,none⟩) (rows.length+ys.length) G) hA
     (fun b' _ hb'=>hg.block b' hb') hg.size (.inr ⟨w.heap.size,rfl,Gm _,hlt2⟩) (by rw[hlen];omega) hsame
     (fun _ hb=>.inl hb) h2' (fun b' hb'=>by simp only[Sg.hdr,Ga] at hb';exact .inr hb'.symm) harr
    exact⟨β,_,_,hsa,fun u' x' hu'=>RelT.tr hD' (JaI hA (by rw[hlen];omega) hsame) (fun s hs=>⟨hs,rfl⟩) hu',JcC hlen,hbel⟩
theorem JdV {s d z n:Nat} {rows:List (List V)} {v':Value} {b o cap:Nat} (hv:v'=.slice (some ⟨b,o,none⟩) n cap) (hn:rows.length=n) :
  RelO {S with A:=upd (upd S.A s (some (z,[],.dead))) d (some (z,rows,.live))} (upd α d v') v' d z n:=
 ⟨rows,.live,some ⟨b,o,none⟩,cap,by simp[upd],hv,fun _=>⟨b,o,rfl⟩,fun _=>⟨by omega,fun _=>by simp[upd]⟩⟩
theorem JiJ {f:Nat} {z:Nat} (hI:DelC P f z) (h:RelW cx B X S w β α M) {s d n k m:Nat} {rows:List (List V)} {v:Value}
  (hA:S.A s=some (z,rows,.live)) (hd:S.A d=none) (hn:rows.length=n) (hk:k≤m) (hm:m≤n) (hlim:n≤lim)
  (hx:RelT cx w (orP X M) S β α v (.own s z n)) :
  Calls P f #[v,.int .i64 k,.int .i64 m] w fun e w1=>∃q,e=.returned q∧
   OpPost cx B X S w β α M {S with A:=upd (upd S.A s (some (z,[],.dead))) d (some (z,rows.take k++rows.drop m,.live))} (.own d z (rows.take k++rows.drop m).length) q w1:=by
 obtain⟨rows',f',a,cap,hA',rfl,ha,ho⟩:=hx
 rw[hA] at hA'
 simp only[Ga,Gf] at hA'
 obtain⟨-,rfl,rfl⟩:=hA'
 have hα:=(ho (by simp)).2 hn
 obtain⟨p1,p2⟩:=h.arr s z rows .live hA (by simp)
 obtain⟨lx,hdx,-,hat⟩:=p1.cells hI.pos
 subst hn
 rw[←hα] at p1 hat
 have hlen:(rows.take k++rows.drop m).length=rows.length-(m-k):=by simp;omega
 rcases p1.at_ with ⟨h1,h2⟩|⟨b,o,cap',c,el',h1,h2,h3,h4,h5⟩
 ·-- nil
  simp only[Value.slice.injEq] at h1
  obtain⟨rfl,-,rfl⟩:=h1
  subst h2
  have hm0:m=0:=by simpa using hm
  have hk0:k=0:=by omega
  subst hm0;subst hk0
  refine (hI.nothing none 0 0 0 w (by omega) (by omega) (fun _=>rfl)).mono ?_
  rintro e w1 ⟨rfl,rfl⟩
  refine⟨_,rfl,?_⟩
  -- the array under its new name
  have hT:ATr S {S with A:=upd (upd S.A s (some (z,[],.dead))) d (some (z,List.take 0 []++List.drop 0 [],.live))} α (upd α d (.slice none 0 0)):=fun t z1 r f ht=>by
   have htd:t≠d:=fun e=>by rw[e,hd] at ht;simp at ht
   by_cases e:t=s
   ·subst e;rw[hA] at ht;simp only[Ga,Gf] at ht;obtain⟨rfl,rfl,rfl⟩:=ht;exact⟨[],.dead,by simp[upd,htd],fun h=>absurd rfl h⟩
   ·exact⟨r,f,by simp[upd,htd,e,ht],fun h=>⟨h,Gm _,fun _=>by simp[upd,htd]⟩⟩
  have old:∀t z1 r f,t≠d→(upd (upd S.A s (some (z,[],.dead))) d (some (z,List.take 0 []++List.drop 0 [],.live))) t=some (z1,r,f)→f≠.dead→S.A t=some (z1,r,f)∧t≠s:=fun t z1 r f htd ht hf=>by
   by_cases e:t=s
   ·subst e;simp only[upd,Gj htd,Gx,Ga,Gf] at ht;exact absurd ht.2.2.symm hf
   ·simp only[upd,Gj htd,Gj e] at ht;exact⟨ht,e⟩
  refine⟨β,upd α d (.slice none 0 0),M,⟨h.xb,h.glob,h.size,h.m,fun t ct f ht=>?_,h.varInj,fun t z' r f ht hf=>?_,fun t t' z1 r1 f1 z2 r2 f2 ht hf ht' hf' b hb hb'=>?_,fun t z' r f t' ht hf ht'=>?_⟩,
   fun u' x' hu'=>RelT.tr (fun _ _ hr=>hr) hT (fun s hs=>⟨hs,rfl⟩) hu',⟨[],.live,none,0,by simp[upd],rfl,fun e=>absurd rfl e,fun _=>⟨by simp,fun _=>by simp[upd]⟩⟩,Kept.refl _ _⟩
  ·obtain⟨a1,a2,a3,c',e'',a4,a5,a6⟩:=h.var t ct f ht
   refine⟨a1,a2,a3,c',e'',a4,a5,fun i hi=>?_⟩
   obtain⟨u,b1,b2,b3⟩:=a6 i hi
   exact⟨u,b1,b2,b3.tr (fun _ _ hr=>hr) hT⟩
  ·by_cases e:t=d
   ·subst e
    simp only[upd,Gx,Ga,Gf] at ht ⊢
    obtain⟨rfl,rfl,rfl⟩:=ht
    exact⟨⟨fun i hi=>by simp at hi,.inl ⟨rfl,rfl⟩⟩,fun b hb=>by simp[hdr] at hb⟩
   ·obtain⟨q1,q2⟩:=old t z' r f e ht hf
    have:upd α d (Value.slice none 0 0) t=α t:=by simp[upd,e]
    rw[this]
    exact h.arr t z' r f q1 hf
  ·by_cases e1:t=d
   ·simp[upd,e1,hdr] at hb
   ·by_cases e2:t'=d
    ·simp[upd,e2,hdr] at hb'
    ·obtain⟨q1,q2⟩:=old t z1 r1 f1 e1 ht hf
     obtain⟨q3,q4⟩:=old t' z2 r2 f2 e2 ht' hf'
     simp only[upd,e1,e2,GD] at hb hb'
     exact h.arrInj t t' z1 r1 f1 z2 r2 f2 q1 hf q3 hf' b hb hb'
  ·by_cases e:t=d
   ·simp[upd,e,hdr]
   ·obtain⟨q1,q2⟩:=old t z' r f e ht hf
    have:upd α d (Value.slice none 0 0) t=α t:=by simp[upd,e]
    rw[this]
    exact h.arrVar t z' r f t' q1 hf ht'
 simp only[Value.slice.injEq] at h1
 obtain⟨rfl,-,rfl⟩:=h1
 have hM:M b:=(p2 b (by rw[←hα];rfl)).2.1 rfl
 have hBb:¬B b:=(p2 b (by rw[←hα];rfl)).1
 have hb0:hdr (α s)=some b:=by rw[←hα];rfl
 have hlx:=hat b o _ _ c el' rfl h2
 have e1:lx.length=rows.length*z:=hdx.1
 have o1:=hdx.one hI.pos
 by_cases hkm:k=m
 ·subst hkm
  refine (hI.nothing (some ⟨b,o,none⟩) rows.length cap k w h3 hm (fun e=>by simp at e)).mono ?_
  rintro e w1 ⟨rfl,rfl⟩
  refine⟨_,rfl,?_⟩
  have hrr:rows.take k++rows.drop k=rows:=G3 k rows
  rw[hrr]
  obtain⟨hsa,hD',hT⟩:=h.delArr (d:=d) (v':=.slice (some ⟨b,o,none⟩) rows.length cap) hA hd (w':=w1) ⟨rfl,fun _ _=>rfl⟩ hb0 rfl p1
  exact⟨β,_,M,hsa,fun u' x' hu'=>RelT.tr hD' hT (fun s hs=>⟨hs,rfl⟩) hu',JdV rfl rfl,Kept.refl _ _⟩
 ·have hlt:k<m:=by omega
  have hcs:∀(j:Nat) (v:Value),lx[j]?=some v→w.cell? ⟨b,o+j,none⟩=some v:=fun j v hj=>by
   have hjl:j<lx.length:=by
    rcases Gt j lx.length with h'|h'
    ·exact h'
    ·rw[List.getElem?_eq_none h'] at hj;simp at hj
   rw[Jbz h2,hlx j hjl,hj]
  have hfz:∀j,w.frozen? ⟨b,j,none⟩=false:=fun j=>by simp[World.frozen?,h2]
  refine (hI.cut b o rows.length cap k m lx w hlt hm h3 hlim e1 hcs hfz o1).mono ?_
  rintro e w1 ⟨rfl,d1,zs,z1,z2,rfl⟩
  refine⟨_,rfl,?_⟩
  have hkz:k*z≤m*z:=Gq z hk
  have hmz:m*z≤rows.length*z:=Gq z hm
  have hcz:rows.length*z≤cap*z:=Gq z h3
  have e3:(lx.drop (m*z)).length=rows.length*z-m*z:=by rw[Gu,e1]
  have e4:(m-k)*z=m*z-k*z:=Nat.sub_mul ..
  have e5:(rows.length-(m-k))*z=rows.length*z-(m*z-k*z):=by rw[Nat.sub_mul,Nat.sub_mul]
  have e6:(lx.take (k*z)).length=k*z:=by rw[Gy,e1];omega
  have o3:∀v∈lx.drop (m*z),v.oneCell'=true:=fun v hv=>o1 v (G6 hv)
  have h2':({w with drawn:=d1}:World).heap[b]?=some (.cells c el' (0,0)):=h2
  obtain⟨c2,s1,s2,s3,s4,s5,s6,s7⟩:=setCells_at P (b:=b) (o:=o+k*z) (vs:=lx.drop (m*z)) h2' (by rw[e3];omega) o3
  obtain⟨c3,t1,t2,t3,t4,t5,t6,t7⟩:=setCells_at P (b:=b) (o:=o+(rows.length-(m-k))*z) (vs:=zs) s1 (by rw[z1,e4,e5];omega) z2
  have s3s:=s3.size
  have s3b:=s3.block
  have s4':=s4 B hBb
  generalize (({w with drawn:=d1}:World).setCells b (o+k*z) (lx.drop (m*z))).setCells b (o+(rows.length-(m-k))*z) zs=w2 at t1 t3 t4 ⊢
  generalize ({w with drawn:=d1}:World).setCells b (o+k*z) (lx.drop (m*z))=w3 at s1 s3s s3b s4' t3 t4 ⊢
  have hT:Turn b w w2:=⟨t3.size.trans s3s,fun b' hb'=>(t3.block b' hb').trans (s3b b' hb')⟩
  have hbel:Kept B w w2:=by
   have q2:=t4 B hBb;exact⟨q2.os.trans s4'.os,q2.tape.trans s4'.tape,q2.output.trans s4'.output,GK s4'.size q2.size,fun k hk=>(q2.block k hk).trans (s4'.block k hk)⟩
  have hD:∀u x,RelD cx w (orP X M) u x→RelD cx w2 (orP X M) u x:=fun _ _ hr=>Ja2 hT hM hr
  have hall:DR cx w2 (orP X M) z (lx.take (k*z)++lx.drop (m*z)) (rows.take k++rows.drop m):=((hdx.take (by omega)).append (hdx.drop hm)).mono hD
  have harr:ArrOK cx w2 (orP X M) (.slice (some ⟨b,o,none⟩) (rows.length-(m-k)) cap) z (rows.take k++rows.drop m):=by
   refine ArrOK.of_DR t1 hall (fun t ht=>?_) (by rw[hlen];omega) (by rw[t2,s2];exact h4) hlen;rw[Gk,e6,e3] at ht;rw[t5 _ (by rw[e5];omega)];rcases Gt t (k*z) with q|q
   ·rw[List.getElem?_append_left (by omega),List.getElem?_take_of_lt q,s5 _ (by omega)];exact hlx t (by omega)
   ·rw[List.getElem?_append_right (by omega),e6,←s6 _ (by omega)];congr 1;omega
  obtain⟨hsa,hD',hTr⟩:=h.delArr (d:=d) (v':=.slice (some ⟨b,o,none⟩) (rows.length-(m-k)) cap) hA hd hT hb0 rfl harr
  exact⟨β,_,M,hsa,fun u' x' hu'=>RelT.tr hD' hTr (fun s hs=>⟨hs,rfl⟩) hu',by rw[hlen];exact JdV rfl hlen,hbel⟩
end
end Sg
