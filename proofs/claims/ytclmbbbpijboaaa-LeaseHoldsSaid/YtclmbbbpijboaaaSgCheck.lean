/- Does a compact function say what the model's function says? A closed question, answered by the kernel. -/
import Derived.Test.YtclmbbbpijboaaaSgRel
import GoSem.Dispatch
namespace Sg
open Go

section
variable (P : Program) (cx : Cx)

def szT (t : TypeId) : Option Nat := (P.info? t).map (·.size)
def aggT (t : TypeId) : Bool :=
  match P.underlying t with
  | some (.struct _) => true
  | some (.array ..) => true
  | _ => false
def sliceT (t : TypeId) : Option TypeId :=
  match P.underlying t with
  | some (.slice e) => some e
  | _ => none

def constCell : Value → V → Bool
  | .bool a, .bool b => a == b
  | .int k n, .int k' n' => k == k' && n == n'
  | .string s, .str l => s.data.toList == l
  | .slice none 0 0, .slice _ [] => true
  | .nilIface, .niface => true
  | .pointer none, .undef => true
  | .nilFunc, .undef => true
  | _, _ => false

def constCells : List Value → List V → Bool
  | [], [] => true
  | v :: vs, x :: xs => constCell v x && constCells vs xs
  | _, _ => false

def constOK : Value → V → Bool
  | .agg cs, .agg vs => constCells cs.toList vs
  | v, x => constCell v x

def okArg (ds : List (Option Nat)) : Operand → Arg → Bool
  | .tmp t, .g t' => t == t'
  | .tmp t, .l j => ds[j]? == some (some t)
  | .const v, .c x => constOK v x
  | .func f, .f k => cx.fm k == f
  | _, _ => false

def okArgs (ds : List (Option Nat)) : List Operand → List Arg → Bool
  | [], [] => true
  | o :: os, a :: as => okArg cx ds o a && okArgs ds os as
  | _, _ => false

def okOpt (ds : List (Option Nat)) : Option Operand → Option Arg → Bool
  | none, none => true
  | some o, some a => okArg cx ds o a
  | _, _ => false

/-- a struct's field: its place, and that it has cells -/
def okField (s : TypeId) (i off : Nat) : Bool :=
  match P.underlying s with
  | some (.struct fs) => match fs[i]? with
    | some f => f.offset == off && (match szT P f.type with | some n => n != 0 | none => false)
    | none => false
  | _ => false

/-- the parts of a composite value: the field's number against its place and size -/
def okParts (ds : List (Option Nat)) (pl : Nat → Option (Nat × Nat)) : List (Nat × Operand) → List (Nat × Nat × Arg) → Bool
  | [], [] => true
  | (i, o) :: ps, (off, n, a) :: qs => (pl i == some (off, n)) && okArg cx ds o a && okParts ds pl ps qs
  | _, _ => false

def okRows (ds : List (Option Nat)) : List (Nat × Operand) → List (Nat × Arg) → Bool
  | [], [] => true
  | (i, o) :: ps, (j, a) :: qs => (i == j) && okArg cx ds o a && okRows ds ps qs
  | _, _ => false

def okZero (t : TypeId) (z : List V) : Bool :=
  match P.info? t with
  | some i => match i.zero with
    | some v => constCells v.cells.toList z
    | none => false
  | none => false

/-- the places of a struct's fields -/
def placesL : List Field → Option (List (Nat × Nat))
  | [] => some []
  | f :: fs => (szT P f.type).bind fun n => (placesL fs).bind fun r => some ((f.offset, n) :: r)

def placesT (t : TypeId) : Option (List (Nat × Nat)) :=
  match P.underlying t with
  | some (.struct fs) => placesL P fs.toList
  | _ => none

/-- the cells that decide equality: numbers, flags, texts, in the order of the fields -/
def shapeFs (g : TypeId → Option (List Sh)) : List Field → Nat → Option (List Sh)
  | [], _ => some []
  | f :: fs, n => if f.name == "_" || f.offset != n then none else
      (g f.type).bind fun sh => if szT P f.type == some sh.length then (shapeFs g fs (n + sh.length)).bind fun r => some (sh ++ r) else none

def shapeT : Nat → TypeId → Option (List Sh)
  | 0, _ => none
  | d + 1, t => match P.underlying t with
    | some .bool => some [.b]
    | some (.int _) => some [.i]
    | some .string => some [.s]
    | some (.struct fs) => if P.stoodInHeld t then none else shapeFs P (shapeT d) fs.toList 0
    | _ => none

def okSlT (st : Bool) (z : Nat) (t : TypeId) : Bool :=
  match st, P.underlying t with
  | true, some .string => true
  | false, some (.slice e) => szT P e == some z
  | _, _ => false

def okLenT (st : Bool) (t : TypeId) : Bool :=
  match st, P.underlying t with
  | true, some .string => true
  | false, some (.slice _) => true
  | _, _ => false

def okAppT (t : TypeId) : Bool :=
  match P.underlying t with
  | some (.slice _) => true
  | some .string => true
  | _ => false

def okK (ds : List (Option Nat)) (op : Go.Op) (k : K) : Bool :=
  match op, k with
  | .move x, .mov a => okArg cx ds x a
  | .assign x, .mov a => okArg cx ds x a
  | .assign x, .frz _ a => okArg cx ds x a
  | .assign (.const (.slice none 0 0)), .mko _ => true
  | .move (.const (.slice none 0 0)), .mko _ => true
  | .pick c x y, .pick c' x' y' => okArg cx ds c c' && okArg cx ds x x' && okArg cx ds y y'
  | .box _ x, .box a => okArg cx ds x a
  | .alloc t, .alloc z => okZero P t z
  | .build t ps, .build z qs => okZero P t z && (match placesT P t with | some pl => okParts cx ds (fun i => pl[i]?) ps.toList qs | none => false)
  | .buildSlice t len ps, .mks z n zero qs => (match sliceT P t with
      | some e => szT P e == some z && okZero P e zero && zero.length == z && z != 0 && len == n && decide (len * z ≤ 16777216) && okRows cx ds ps.toList qs
      | none => false)
  | .buildSlice t len ps, .mkb z n zero qs => (match sliceT P t with
      | some e => szT P e == some z && okZero P e zero && zero.length == z && z != 0 && len == n && decide (len * z ≤ 16777216) && okRows cx ds ps.toList qs
      | none => false)
  | .binOp .eql t x (.const (.slice none 0 0)) _, .nilq a => okArg cx ds x a && (sliceT P t).isSome
  | .load t p, .load _ n a => okArg cx ds p a && (P.underlying t).isSome && (if aggT P t then szT P t == n && n.isSome else n.isNone)
  | .store t p x, .store _ n a b => okArg cx ds p a && okArg cx ds x b && szT P t == some n
  | .binOp o _ x y _, .bin o' a b => o == o' && okArg cx ds x a && okArg cx ds y b
  | .binOp o t x y _, .eqb ne a b => (o == if ne then .neq else .eql) && okArg cx ds x a && okArg cx ds y b && (match P.underlying t with | some .bool => true | _ => false)
  | .binOp o t x y _, .eqa ne sh a b => (o == if ne then .neq else .eql) && okArg cx ds x a && okArg cx ds y b && aggT P t && shapeT P 20 t == some sh && !P.eqGuardType P.depth t
  | .binOp o _ x y _, .sh o' a b => o == o' && okArg cx ds x a && okArg cx ds y b
  | .unOp o _ x, .un o' a => o == o' && okArg cx ds x a
  | .convert s d x, .conv (.int k) a => okArg cx ds x a && (match P.underlying s, P.underlying d with | some _, some (.int k') => k == k' | _, _ => false)
  | .convert s d x, .conv .same a => okArg cx ds x a && (match P.underlying s, P.underlying d with | some .string, some .string => true | _, _ => false)
  | .makeFunc (.func f) first cap, .fn f' cap' _ => first.isEmpty && cx.fm f' == f && okArgs cx ds cap.toList cap'
  | .slice t x lo hi none, .sl st z a lo' hi' => okArg cx ds x a && okOpt cx ds lo lo' && okOpt cx ds hi hi' && okSlT P st z t
  | .fieldAddr s x i, .fad a off => okArg cx ds x a && okField P s i off
  | .indexAddr t x i, .iad z a b => okArg cx ds x a && okArg cx ds i b && (match sliceT P t with | some e => szT P e == some z | none => false)
  | .indexAddr t x i, .iada z n a b => okArg cx ds x a && okArg cx ds i b && (match P.underlying t with | some (.array m e) => m == n && szT P e == some z | _ => false)
  | .index t x i, .idx a b => okArg cx ds x a && okArg cx ds i b && (match P.underlying t with | some .string => true | _ => false)
  | .extract x i, .ext a i' => okArg cx ds x a && i == i'
  | .nilCheck x, .nilc a => okArg cx ds x a
  | .call { callee := .builtin .len, args := args, argTypes := ts }, .len st a => (match args.toList, ts.toList with
      | [x], [t] => okArg cx ds x a && okLenT P st t
      | _, _ => false)
  | .call { callee := .builtin .max, args := args, argTypes := _ }, .mm true a b => okArgs cx ds args.toList [a, b]
  | .call { callee := .builtin .min, args := args, argTypes := _ }, .mm false a b => okArgs cx ds args.toList [a, b]
  | .call { callee := .builtin .append, args := args, argTypes := ts }, .app _ z a b => okArgs cx ds args.toList [a, b] && (match ts.toList with
      | [t, t'] => (match P.underlying t with
        | some (.slice e) => z != 0 && szT P e == some z && (match P.info? e with | some i => decide (0 < i.bytes ∧ i.bytes ≤ 65536) && (match i.zero with | some v => v.cells.size == z | none => false) | none => false)
        | _ => false) && okAppT P t'
      | _ => false)
  | .call { callee := .value (.func f), args := args, argTypes := _ }, .call (.k f') _ _ as => cx.fm f' == f && okArgs cx ds args.toList as
  | .call { callee := .value x, args := args, argTypes := _ }, .call (.v a) _ _ as => okArg cx ds x a && okArgs cx ds args.toList as
  | .call { callee := .value (.func f), args := args, argTypes := _ }, .ins f' _ _ a b c => cx.fm f' == f && okArgs cx ds args.toList [a, b, c]
  | .call { callee := .value (.func f), args := args, argTypes := _ }, .del f' _ _ a b c => cx.fm f' == f && okArgs cx ds args.toList [a, b, c]
  | _, .bad => true
  | _, _ => false

end
end Sg
