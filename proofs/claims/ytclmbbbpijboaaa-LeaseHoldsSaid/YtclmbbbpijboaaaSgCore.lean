/- The abstract values, the compact code and its meaning: an interpreter without a heap. Plain definitions, no program in sight. -/
import GoSem.Core.View
import GoSem.Core.Ast
namespace Sg
open Go (IntKind BinOp UnOp)

/-- abstract values -/
inductive V where
  | undef
  | bool (b : Bool)
  | int (k : IntKind) (n : Int)
  | str (s : List UInt8)
  | agg (cs : List V)
  | slice (z : Nat) (rows : List (List V))
  | tuple (vs : List V)
  | func (f : Nat) (cap : List V)
  | cptr (cs : List V) (off : Nat)
  | lref (s off : Nat)
  | eref (s i off n : Nat)
  | own (s z n : Nat)
  | iface (t : Nat) (v : V)
  | niface
  /-- exactly nil; not nil -/
  | nslice (z : Nat)
  | xslice (z : Nat) (rows : List (List V))
  deriving Inhabited

abbrev V.i (n : Int) : V := .int .i64 n

/-- operands: a tmp that outlives its region, a result of this region, a constant, a function -/
inductive Arg where
  | g (t : Nat)
  | l (i : Nat)
  | c (v : V)
  | f (k : Nat)
  deriving Inhabited

/-- where a pointer points: a variable's site, an array's site, memory that nobody writes -/
inductive Loc where
  | v (s : Nat)
  | e (s : Nat)
  | c
  deriving Inhabited, DecidableEq

inductive Cal where
  | k (f : Nat)
  | v (x : Arg)
  deriving Inhabited

/-- an owned array: it may be written, nobody writes it any more, its slice is of no use any more -/
inductive Fz where
  | live | frz | dead
  deriving Inhabited, DecidableEq

/-- how arguments that are owned slices are handed to a call -/
inductive Cvm where
  | no | borrow | freeze
  deriving Inhabited, DecidableEq

/-- what a cell of a struct that is compared holds -/
inductive Sh where
  | b | i | s
  deriving Inhabited, DecidableEq

inductive Cv where
  | int (k : IntKind)
  | same
  deriving Inhabited, DecidableEq

inductive K where
  | mov (x : Arg)
  | pick (c a b : Arg)
  | box (x : Arg)
  | alloc (z : List V)
  | build (z : List V) (ps : List (Nat × Nat × Arg))
  | mks (z n : Nat) (zero : List V) (ps : List (Nat × Arg))
  | mko (z : Nat)
  | mkb (z n : Nat) (zero : List V) (ps : List (Nat × Arg))
  | nilq (x : Arg)
  /-- an owned slice that is written no more, as data -/
  | frz (s : Nat) (x : Arg)
  | load (l : Loc) (n : Option Nat) (p : Arg)
  | store (l : Loc) (n : Nat) (p x : Arg)
  | bin (o : BinOp) (x y : Arg)
  | eqa (ne : Bool) (sh : List Sh) (x y : Arg)
  | eqb (ne : Bool) (x y : Arg)
  | sh (o : BinOp) (x y : Arg)
  | mm (mx : Bool) (x y : Arg)
  | un (o : UnOp) (x : Arg)
  | conv (c : Cv) (x : Arg)
  | fn (f : Nat) (cap : List Arg) (sites : List Nat)
  | sl (st : Bool) (z : Nat) (x : Arg) (lo hi : Option Arg)
  | fad (x : Arg) (off : Nat)
  | iad (z : Nat) (x i : Arg)
  | iada (z n : Nat) (x i : Arg)
  | idx (x i : Arg)
  | ext (x : Arg) (i : Nat)
  | len (st : Bool) (x : Arg)
  | app (s z : Nat) (x y : Arg)
  | ins (f s z : Nat) (x i y : Arg)
  | del (f s z : Nat) (x i j : Arg)
  | call (f : Cal) (cv : Cvm) (own : Option Nat) (xs : List Arg)
  | nilc (x : Arg)
  /-- code that is never run -/
  | bad
  deriving Inhabited

/-- an operation: the tmp that it writes, whether that one outlives the region, its guard -/
structure Op where
  dst : Option Nat
  gl : Bool
  k : K
  gd : Option (Nat × Bool)
  deriving Inhabited

inductive C where
  | skip
  | region (draw : Bool) (ops : List Op)
  | seq (a b : C)
  | cond (x : Arg) (a b : C)
  | block (id : Nat) (c : C)
  | loop (W L Wv Wa : List Nat) (c : C)
  | exit (id : Nat)
  | ret
  deriving Inhabited

inductive Res where
  | t (t : Nat)
  | cell (a : Nat) (n : Option Nat)
  deriving Inhabited

structure F where
  np : Nat
  /-- the tmps that outlive their regions -/
  gl : List Nat
  res : List Res
  /-- the result that is a slice of its own memory -/
  own : Option Nat
  body : C
  deriving Inhabited

inductive Fn where
  | code (F : F)
  | prim (own : Option Nat) (p : List V → Option V)

def upd {α : Type} (f : Nat → α) (k : Nat) (v : α) : Nat → α := fun i => if i = k then v else f i

structure St where
  ρ : Nat → V
  μ : Nat → Option (List V × Bool)
  A : Nat → Option (Nat × List (List V) × Fz)

inductive Ex where
  | norm | ret
  | exit (id : Nat)
  deriving DecidableEq

def V.isCell : V → Bool
  | .agg _ | .tuple _ | .lref .. | .eref .. => false
  | _ => true

def V.cells : V → Option (List V)
  | .agg cs => some cs
  | .undef => none
  | x => if x.isCell then some [x] else none

/-- a cell of data: no owned slice -/
def V.datC : V → Bool
  | .agg _ | .tuple _ | .lref .. | .eref .. | .own .. => false
  | _ => true

def V.dat : V → Bool
  | .agg cs => cs.all V.datC
  | x => x.datC

def V.scalar : V → Bool
  | .bool _ | .int .. | .str _ => true
  | .tuple vs => vs.all fun | .bool _ | .int .. | .str _ => true | _ => false
  | _ => false

def ldAt (cs : List V) (off : Nat) : Option Nat → Option V
  | none => cs[off]?
  | some n => if off + n ≤ cs.length then some (.agg ((cs.drop off).take n)) else none

def setAt (cs : List V) (off : Nat) (xs : List V) : Option (List V) :=
  if off + xs.length ≤ cs.length then some (cs.take off ++ (xs ++ cs.drop (off + xs.length))) else none

def lim : Nat := 1073741824

def argv (e ρ : Nat → V) : Arg → V
  | .g t => ρ t
  | .l i => e i
  | .c v => v
  | .f k => .func k []

def intBin (o : BinOp) (k : IntKind) (a b : Int) : Option V :=
  match o with
  | .add => some (.int k (k.wrap (a + b)))
  | .sub => some (.int k (k.wrap (a - b)))
  | .mul => some (.int k (k.wrap (a * b)))
  | .quo => if b = 0 then none else some (.int k (k.wrap (a.tdiv b)))
  | .rem => if b = 0 then none else some (.int k (a.tmod b))
  | .eql => some (.bool (decide (a = b)))
  | .neq => some (.bool (!decide (a = b)))
  | .lss => some (.bool (decide (a < b)))
  | .leq => some (.bool (decide (a ≤ b)))
  | .gtr => some (.bool (decide (b < a)))
  | .geq => some (.bool (decide (b ≤ a)))
  | _ => none

def strBin (o : BinOp) (a b : List UInt8) : Option V :=
  match o with
  | .add => if a.length + b.length ≤ 4611686018427387904 then some (.str (a ++ b)) else none
  | .eql => some (.bool (decide (a = b)))
  | .neq => some (.bool (!decide (a = b)))
  | _ => none

def binV (o : BinOp) : V → V → Option V
  | .int k a, .int k' b => if k = k' then intBin o k a b else none
  | .str a, .str b => strBin o a b
  | _, _ => none

def shV (o : BinOp) : V → V → Option V
  | .int k a, .int _ b => if b < 0 then none else match o with
    | .shl => some (.int k (k.wrap (a * 2 ^ (min b.toNat k.bits))))
    | .shr => some (.int k (a.fdiv (2 ^ (min b.toNat k.bits))))
    | _ => none
  | _, _ => none

def eqV : Sh → V → V → Option Bool
  | .i, .int k a, .int k' b => if k = k' then some (decide (a = b)) else none
  | .b, .bool a, .bool b => some (a == b)
  | .s, .str a, .str b => some (decide (a = b))
  | _, _, _ => none

def eqVs : List Sh → List V → List V → Option Bool
  | [], [], [] => some true
  | h :: hs, x :: xs, y :: ys => (eqV h x y).bind fun b => (eqVs hs xs ys).bind fun c => some (b && c)
  | _, _, _ => none

def unV (o : UnOp) : V → Option V
  | .bool b => match o with | .not => some (.bool !b) | _ => none
  | .int k n => match o with | .neg => some (.int k (k.wrap (0 - n))) | _ => none
  | _ => none

def fillAt (cs : List V) : List (Nat × Nat × V) → Option (List V)
  | [] => some cs
  | (off, n, v) :: ps => (v.cells).bind fun xs => if xs.length = n then (setAt cs off xs).bind fun cs' => fillAt cs' ps else none

def fillRows (z : Nat) (rows : List (List V)) : List (Nat × V) → Option (List (List V))
  | [] => some rows
  | (i, v) :: ps => (v.cells).bind fun xs =>
      if i < rows.length ∧ xs.length = z ∧ xs.all V.datC then fillRows z (rows.set i xs) ps else none

def bound : Option V → Nat → Option Nat
  | none, d => some d
  | some (.int _ n), _ => if 0 ≤ n then some n.toNat else none
  | _, _ => none

def slV (st : Bool) (z : Nat) (x : V) (lo hi : Option V) : Option V :=
  match st, x with
  | true, .str s => (bound hi s.length).bind fun h => (bound lo 0).bind fun l =>
      if l ≤ h ∧ h ≤ s.length then some (.str ((s.take h).drop l)) else none
  | false, .slice z' rows => (bound hi rows.length).bind fun h => (bound lo 0).bind fun l =>
      if z' = z ∧ l ≤ h ∧ h ≤ rows.length then some (.slice z ((rows.take h).drop l)) else none
  | _, _ => none

def lenV : Bool → V → Option V
  | false, .slice _ rows => some (.int .i64 rows.length)
  | true, .str s => some (.int .i64 s.length)
  | false, .own _ _ n => some (.int .i64 n)
  | _, _ => none

def iadV (z : Nat) : V → V → Option V
  | .slice z' rows, .int _ n => if z' = z ∧ 0 ≤ n then (rows[n.toNat]?).map fun r => .cptr r 0 else none
  | .own s z' m, .int _ n => if z' = z ∧ 0 ≤ n ∧ n < m then some (.eref s n.toNat 0 m) else none
  | _, _ => none

def iadaV (z n : Nat) : V → V → Option V
  | .lref s off, .int _ i => if 0 ≤ i ∧ i < n then some (.lref s (off + i.toNat * z)) else none
  | .cptr cs off, .int _ i => if 0 ≤ i ∧ i < n then some (.cptr cs (off + i.toNat * z)) else none
  | _, _ => none

def fadV (off : Nat) : V → Option V
  | .lref s o => some (.lref s (o + off))
  | .eref s i o n => some (.eref s i (o + off) n)
  | .cptr cs o => some (.cptr cs (o + off))
  | _ => none

def idxV : V → V → Option V
  | .str s, .int _ n => if 0 ≤ n then (s[n.toNat]?).map fun b => .int .u8 b.toNat else none
  | _, _ => none

def extV (i : Nat) : V → Option V
  | .tuple vs => vs[i]?
  | _ => none

def convV : Cv → V → Option V
  | .int k, .int _ n => some (.int k (k.wrap n))
  | .same, .str s => some (.str s)
  | _, _ => none

/-- an argument as data: what an owned slice holds -/
def toDC (A : Nat → Option (Nat × List (List V) × Fz)) : V → Option V
  | .own s z n => match A s with
    | some (z', rows, f) => if z' = z ∧ rows.length = n ∧ f ≠ .dead then some (.slice z rows) else none
    | none => none
  | x => if x.datC then some x else none

def mapO {α β : Type} (f : α → Option β) : List α → Option (List β)
  | [] => some []
  | x :: xs => (f x).bind fun y => (mapO f xs).bind fun ys => some (y :: ys)

def toD (A : Nat → Option (Nat × List (List V) × Fz)) : V → Option V
  | .agg cs => (mapO (toDC A) cs).map .agg
  | x => toDC A x

def sitesC : V → List Nat
  | .own s _ _ => [s]
  | _ => []

def sitesV : V → List Nat
  | .agg cs => cs.flatMap sitesC
  | x => sitesC x

def frzA (A : Nat → Option (Nat × List (List V) × Fz)) (l : List Nat) : Nat → Option (Nat × List (List V) × Fz) :=
  l.foldl (fun A s => upd A s ((A s).map fun (z, rows, f) => (z, rows, if f = .live then .frz else f))) A

def frzM (μ : Nat → Option (List V × Bool)) (l : List Nat) : Nat → Option (List V × Bool) :=
  l.foldl (fun μ s => upd μ s ((μ s).map fun (cs, _) => (cs, true))) μ

def datSite (μ : Nat → Option (List V × Bool)) (s : Nat) : Bool :=
  match μ s with
  | some m => m.1.all V.datC
  | none => true

/-- what a closure captures: a variable's content, or data -/
def capV (μ : Nat → Option (List V × Bool)) (sites : List Nat) : V → Option V
  | .lref s 0 => match μ s with
    | some (cs, _) => if sites.contains s ∧ cs.all V.datC then some (.cptr cs 0) else none
    | none => none
  | x => if x.dat then some x else none

def V.rowsOf (z : Nat) : V → Option (List (List V))
  | .slice z' rows => if z' = z then some rows else none
  | .str s => if z = 1 then some (s.map fun b => [.int .u8 b.toNat]) else none
  | .xslice z' rows => if z' = z then some rows else none
  | _ => none

def loadV (S : St) (l : Loc) (n : Option Nat) (p : V) : Option V :=
  match l, p with
  | .v s, .lref s' off => if s' = s then (S.μ s).bind fun m => ldAt m.1 off n else none
  | .e s, .eref s' i off m => if s' = s then match S.A s with
      | some (_, rows, f) => if rows.length = m ∧ f ≠ .dead then (rows[i]?).bind fun r => ldAt r off n else none
      | none => none
    else none
  | .c, .cptr cs off => ldAt cs off n
  | _, _ => none

def storeV (S : St) (l : Loc) (n : Nat) (p x : V) : Option St :=
  x.cells.bind fun xs => if xs.length = n then
    match l, p with
    | .v s, .lref s' off => if s' = s then match S.μ s with
        | some (cs, false) => (setAt cs off xs).bind fun cs' => some { S with μ := upd S.μ s (some (cs', false)) }
        | _ => none
      else none
    | .e s, .eref s' i off m => if s' = s ∧ xs.all V.datC then match S.A s with
        | some (z, rows, .live) => if rows.length = m then (rows[i]?).bind fun r => (setAt r off xs).bind fun r' =>
            some { S with A := upd S.A s (some (z, rows.set i r', .live)) } else none
        | _ => none
      else none
    | _, _ => none
  else none

def appV (S : St) (s z : Nat) (x y : V) : Option (V × St) :=
  match x with
  | .own s' z' n => if s' = s ∧ z' = z then match S.A s with
      | some (z'', rows, .live) => if z'' = z ∧ rows.length = n then (V.rowsOf z y).bind fun ys =>
          if rows.length + ys.length ≤ lim then some (.own s z (rows.length + ys.length), { S with A := upd S.A s (some (z, rows ++ ys, .live)) }) else none
        else none
      | _ => none
    else none
  | _ => none

section
variable (κ : Nat → List V → Option V)

def callee (e ρ : Nat → V) : Cal → Option (Nat × List V)
  | .k f => some (f, [])
  | .v x => match argv e ρ x with
    | .func f cap => some (f, cap)
    | _ => none

/-- the result of a call, a part of it (or all) as an owned slice -/
def adopt (d : Nat) (S : St) (own : Option Nat) (r : V) : Option (V × St) :=
  match own with
  | none => some (r, S)
  | some j => match S.A d with
    | some _ => none
    | none => match r with
      | .slice z rows => some (.own d z rows.length, { S with A := upd S.A d (some (z, rows, .live)) })
      | .tuple vs => match vs[j]? with
        | some (.slice z rows) => some (.tuple (vs.set j (.own d z rows.length)), { S with A := upd S.A d (some (z, rows, .live)) })
        | _ => none
      | _ => none

/-- a call: its arguments are data, or are made so -/
def callV (d : Nat) (S : St) (cv : Cvm) (own : Option Nat) (fc : Nat × List V) (as : List V) : Option (V × St) :=
  match cv with
  | .no => if as.all V.dat then (κ fc.1 (as ++ fc.2)).bind fun r => adopt d S own r else none
  | .borrow => (mapO (toD S.A) as).bind fun bs => (κ fc.1 (bs ++ fc.2)).bind fun r => if r.scalar then some (r, S) else none
  | .freeze => (mapO (toD S.A) as).bind fun bs => (κ fc.1 (bs ++ fc.2)).bind fun r => adopt d { S with A := frzA S.A (as.flatMap sitesV) } own r

def ev (d : Nat) (e : Nat → V) (S : St) : K → Option (V × St)
  | .mov x => some (argv e S.ρ x, S)
  | .pick c a b => match argv e S.ρ c with
    | .bool t => some (bif t then argv e S.ρ a else argv e S.ρ b, S)
    | _ => none
  | .box x => match S.μ d with
    | some _ => none
    | none => (argv e S.ρ x).cells.bind fun cs => some (.lref d 0, { S with μ := upd S.μ d (some (cs, false)) })
  | .alloc z => match S.μ d with
    | some _ => none
    | none => some (.lref d 0, { S with μ := upd S.μ d (some (z, false)) })
  | .build z ps => (fillAt z (ps.map fun p => (p.1, p.2.1, argv e S.ρ p.2.2))).bind fun cs => some (.agg cs, S)
  | .mks z n zero ps => (fillRows z (List.replicate n zero) (ps.map fun p => (p.1, argv e S.ρ p.2))).bind fun rows => some (.slice z rows, S)
  | .mko z => match S.A d with
    | some _ => none
    | none => some (.own d z 0, { S with A := upd S.A d (some (z, [], .live)) })
  | .mkb z n zero ps => (fillRows z (List.replicate n zero) (ps.map fun p => (p.1, argv e S.ρ p.2))).bind fun rows => adopt d S (some 0) (.slice z rows)
  | .nilq x => match argv e S.ρ x with
    | .nslice _ => some (.bool true, S)
    | .xslice _ _ => some (.bool false, S)
    | _ => none
  | .load l n p => (loadV S l n (argv e S.ρ p)).bind fun v => some (v, S)
  | .store l n p x => (storeV S l n (argv e S.ρ p) (argv e S.ρ x)).bind fun S' => some (.undef, S')
  | .bin o x y => (binV o (argv e S.ρ x) (argv e S.ρ y)).bind fun v => some (v, S)
  | .eqa ne sh x y => match argv e S.ρ x, argv e S.ρ y with
    | .agg xs, .agg ys => (eqVs sh xs ys).bind fun b => some (.bool (ne ^^ b), S)
    | _, _ => none
  | .eqb ne x y => match argv e S.ρ x, argv e S.ρ y with
    | .bool a, .bool b => some (.bool (ne ^^ (a == b)), S)
    | _, _ => none
  | .sh o x y => (shV o (argv e S.ρ x) (argv e S.ρ y)).bind fun v => some (v, S)
  | .mm mx x y => match argv e S.ρ x, argv e S.ρ y with
    | .int k a, .int k' b => if k = k' then some (.int k (if (if mx then a < b else b < a) then b else a), S) else none
    | _, _ => none
  | .un o x => (unV o (argv e S.ρ x)).bind fun v => some (v, S)
  | .conv c x => (convV c (argv e S.ρ x)).bind fun v => some (v, S)
  | .fn f cap sites => if sites.all (datSite S.μ) then
      (mapO (capV S.μ sites) (cap.map (argv e S.ρ))).bind fun cs => some (.func f cs, { S with μ := frzM S.μ sites })
    else none
  | .sl st z x lo hi => (slV st z (argv e S.ρ x) (lo.map (argv e S.ρ)) (hi.map (argv e S.ρ))).bind fun v => some (v, S)
  | .fad x off => (fadV off (argv e S.ρ x)).bind fun v => some (v, S)
  | .iad z x i => (iadV z (argv e S.ρ x) (argv e S.ρ i)).bind fun v => some (v, S)
  | .iada z n x i => (iadaV z n (argv e S.ρ x) (argv e S.ρ i)).bind fun v => some (v, S)
  | .idx x i => (idxV (argv e S.ρ x) (argv e S.ρ i)).bind fun v => some (v, S)
  | .ext x i => (extV i (argv e S.ρ x)).bind fun v => some (v, S)
  | .len st x => (lenV st (argv e S.ρ x)).bind fun v => some (v, S)
  | .app s z x y => appV S s z (argv e S.ρ x) (argv e S.ρ y)
  | .ins _ s z x i y => match argv e S.ρ x, argv e S.ρ i, argv e S.ρ y with
    | .own s' z' n, .int .i64 k, .slice z'' ys => if s' = s ∧ z' = z ∧ z'' = z then match S.A s with
        | some (z3, rows, .live) => if z3 = z ∧ rows.length = n ∧ 0 ≤ k ∧ k ≤ n ∧ rows.length + ys.length ≤ lim then
            some (.own s z (rows.length + ys.length), { S with A := upd S.A s (some (z, rows.take k.toNat ++ (ys ++ rows.drop k.toNat), .live)) })
          else none
        | _ => none
      else none
    | _, _, _ => none
  | .del _ s z x i j => match argv e S.ρ x, argv e S.ρ i, argv e S.ρ j with
    | .own s' z' n, .int .i64 k, .int .i64 m => if s' = s ∧ z' = z then match S.A s, S.A d with
        | some (z3, rows, .live), none => if z3 = z ∧ rows.length = n ∧ 0 ≤ k ∧ k ≤ m ∧ m ≤ n ∧ n ≤ lim then
            some (.own d z (rows.take k.toNat ++ rows.drop m.toNat).length,
              { S with A := upd (upd S.A s (some (z, [], .dead))) d (some (z, rows.take k.toNat ++ rows.drop m.toNat, .live)) })
          else none
        | _, _ => none
      else none
    | _, _, _ => none
  | .call f cv own xs => (callee e S.ρ f).bind fun fc => callV κ d S cv own fc (xs.map (argv e S.ρ))
  | .frz s x => match argv e S.ρ x with
    | .own s' z n => if s' = s then (toDC S.A (.own s z n)).bind fun v => some (v, { S with A := frzA S.A [s] }) else none
    | _ => none
  | .nilc x => match argv e S.ρ x with
    | .lref s o => some (.lref s o, S)
    | .eref s i o n => some (.eref s i o n, S)
    | .cptr cs o => some (.cptr cs o, S)
    | _ => none
  | .bad => none

def wantedV (e : Nat → V) : Option (Nat × Bool) → Option Bool
  | none => some true
  | some (j, b) => match e j with
    | .bool t => some (t == b)
    | .tuple [] => some false
    | _ => none

/-- what an operation that is not run leaves -/
abbrev V.un : V := .tuple []

def St.put (S : St) (o : Op) (v : V) : St :=
  match o.gl, o.dst with
  | true, some d => { S with ρ := upd S.ρ d v }
  | _, _ => S

def step (o : Op) (e : Nat → V) (S : St) : Option (V × St) :=
  match wantedV e o.gd with
  | none => none
  | some false => some (.un, S.put o .un)
  | some true => (ev κ (o.dst.getD 0) e S o.k).bind fun r => some (r.1, r.2.put o r.1)

def runOps : List Op → Nat → (Nat → V) → St → Option St
  | [], _, _, S => some S
  | o :: os, i, e, S => (step κ o e S).bind fun r => runOps os (i + 1) (upd e i r.1) r.2

def scrubV (Wv Wa : List Nat) : V → V
  | .lref s o => if Wv.contains s then .undef else .lref s o
  | .eref s i o n => if Wa.contains s then .undef else .eref s i o n
  | .own s z n => if Wa.contains s then .undef else .own s z n
  | .agg cs => if Wa.isEmpty then .agg cs else .undef
  | .tuple cs => if Wa.isEmpty then .tuple cs else .undef
  | v => v

def scrubC (Wa : List Nat) : V → V
  | .own s z n => if Wa.contains s then .undef else .own s z n
  | v => v

def St.head (S : St) (W L Wv Wa : List Nat) : St where
  ρ := fun t => if W.contains t && !L.contains t then .undef else scrubV Wv Wa (S.ρ t)
  μ := fun s => if Wv.contains s then none else (S.μ s).map fun m => (bif Wa.isEmpty then m.1 else m.1.map (scrubC Wa), m.2)
  A := fun s => if Wa.contains s then none else S.A s

def exec : Nat → C → St → Option (Ex × St)
  | 0, _, _ => none
  | m + 1, c, S => match c with
    | .skip => some (.norm, S)
    | .region _ ops => (runOps κ ops 0 (fun _ => .undef) S).bind fun S => some (.norm, S)
    | .seq a b => (exec m a S).bind fun r => match r.1 with
      | .norm => exec m b r.2
      | x => some (x, r.2)
    | .cond x a b => match argv (fun _ => .undef) S.ρ x with
      | .bool t => bif t then exec m a S else exec m b S
      | _ => none
    | .block id c => (exec m c S).bind fun r => match r.1 with
      | .exit id' => if id' = id then some (.norm, r.2) else some (.exit id', r.2)
      | x => some (x, r.2)
    | .loop W L Wv Wa c => (exec m c (S.head W L Wv Wa)).bind fun r => match r.1 with
      | .norm => exec m (.loop W L Wv Wa c) r.2
      | x => some (x, r.2)
    | .exit id => some (.exit id, S)
    | .ret => some (.ret, S)

end

/-- results as data -/
def resV (S : St) : Res → Option V
  | .t t => some (S.ρ t)
  | .cell a n => match S.ρ a with
    | .lref s 0 => match S.μ s with
      | some (cs, _) => ldAt cs 0 n
      | none => none
    | _ => none

def outV (A : Nat → Option (Nat × List (List V) × Fz)) (own : Option Nat) (j : Nat) (v : V) : Option V :=
  if own = some j then match v with
    | .own s z n => match A s with
      | some (z', rows, .live) => if z' = z ∧ rows.length = n then some (.slice z rows) else none
      | _ => none
    | _ => none
  else if own = none then toD A v
  else if v.dat then some v else none

def mapIdxO {α β : Type} (f : Nat → α → Option β) : Nat → List α → Option (List β)
  | _, [] => some []
  | i, x :: xs => (f i x).bind fun y => (mapIdxO f (i + 1) xs).bind fun ys => some (y :: ys)

def shut : List V → V
  | [v] => v
  | vs => .tuple vs

def finish (F : F) (S : St) : Option V :=
  (mapO (resV S) F.res).bind fun vs => (mapIdxO (outV S.A F.own) 0 vs).bind fun vs => some (shut vs)

def start (args : List V) : St where
  ρ := fun t => (args[t]?).getD .undef
  μ := fun _ => none
  A := fun _ => none

def callN (Pg : Nat → Option Fn) : Nat → Nat → List V → Option V
  | 0, _, _ => none
  | n + 1, f, args => match Pg f with
    | none => none
    | some (.prim _ p) => p args
    | some (.code F) =>
      if args.length = F.np then
        (exec (callN Pg n) n F.body (start args)).bind fun r => match r.1 with
          | .norm | .ret => finish F r.2
          | .exit _ => none
      else none

end Sg
