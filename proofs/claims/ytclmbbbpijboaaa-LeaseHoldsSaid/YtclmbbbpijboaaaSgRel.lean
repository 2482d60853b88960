/- How abstract values stand to the model's values and memory, and that this stays as memory grows. -/
import Derived.Test.YtclmbbbpijboaaaSgCore
import Derived.Below
namespace Sg
open Go Go.RowKit

/-- the numbers of functions and of types in a translation -/
structure Cx where
  fm : Nat → Nat
  tm : Nat → Nat

abbrev gv (vs : List V) (i : Nat) : V := vs.getD i .undef
abbrev gr (rows : List (List V)) (i : Nat) : List V := rows.getD i []

section
variable (cx : Cx) (w : World) (X : Nat → Prop)

/-- data: what it reaches lies in blocks that are there and that X does not forbid -/
inductive RelD : Value → V → Prop
  | undef (v) : RelD v .undef
  | bool (b) : RelD (.bool b) (.bool b)
  | int (k n) : RelD (.int k n) (.int k n)
  | str (s : ByteArray) : RelD (.string s) (.str s.data.toList)
  | agg (cs : Array Value) (vs : List V) (u : Nat → Value) (hl : cs.size = vs.length)
      (hc : ∀ i, i < vs.length → cs[i]? = some (u i) ∧ (u i).oneCell' = true)
      (hr : ∀ i, i < vs.length → RelD (u i) (gv vs i)) : RelD (.agg cs) (.agg vs)
  | nilslice (a : Option Addr) (z) : RelD (.slice a 0 0) (.slice z [])
  | slice (b o len cap z rows c e fr) (u : Nat → Nat → Value)
      (hb : b < w.heap.size) (hX : ¬ X b) (hw : w.heap[b]? = some (.cells c e fr)) (hl : rows.length = len) (hcap : len ≤ cap)
      (hz : ∀ i, i < len → (gr rows i).length = z)
      (hc : ∀ i j, i < len → j < z → c[o + i * z + j]? = some (u i j) ∧ (u i j).oneCell' = true)
      (hr : ∀ i j, i < len → j < z → RelD (u i j) (gv (gr rows i) j)) : RelD (.slice (some ⟨b, o, none⟩) len cap) (.slice z rows)
  | tuple (cs : Array Value) (vs : List V) (u : Nat → Value) (hl : cs.size = vs.length)
      (hc : ∀ i, i < vs.length → cs[i]? = some (u i))
      (hr : ∀ i, i < vs.length → RelD (u i) (gv vs i)) : RelD (.tuple cs) (.tuple vs)
  | func (f) (cs : Array Value) (vs : List V) (u : Nat → Value) (hl : cs.size = vs.length)
      (hc : ∀ i, i < vs.length → cs[i]? = some (u i))
      (hr : ∀ i, i < vs.length → RelD (u i) (gv vs i)) : RelD (.func (.func (cx.fm f)) #[] cs) (.func f vs)
  | cptr (b o cs off c e fr) (u : Nat → Value)
      (hb : b < w.heap.size) (hX : ¬ X b) (hw : w.heap[b]? = some (.cells c e fr)) (ho : off ≤ o)
      (hc : ∀ j, j < cs.length → c[o - off + j]? = some (u j) ∧ (u j).oneCell' = true)
      (hr : ∀ j, j < cs.length → RelD (u j) (gv cs j)) : RelD (.pointer (some ⟨b, o, none⟩)) (.cptr cs off)
  | iface (t v x) (hr : RelD v x) : RelD (.iface (cx.tm t) v) (.iface t x)
  | niface : RelD .nilIface .niface
  | nslice (z) : RelD (.slice none 0 0) (.nslice z)
  | xslice (a n c z rows) (h : RelD (.slice (some a) n c) (.slice z rows)) : RelD (.slice (some a) n c) (.xslice z rows)

end

theorem RelD.mono {cx : Cx} {w w' : World} {X X' : Nat → Prop} {v : Value} {x : V} (h : RelD cx w X v x)
    (hs : w.heap.size ≤ w'.heap.size) (hb : ∀ b, b < w.heap.size → ¬ X b → w'.heap[b]? = w.heap[b]?)
    (hX : ∀ b, b < w.heap.size → ¬ X b → ¬ X' b) : RelD cx w' X' v x := by
  induction h with
  | undef v => exact .undef v
  | bool b => exact .bool b
  | int k n => exact .int k n
  | str s => exact .str s
  | agg cs vs u hl hc _ ih => exact .agg cs vs u hl hc ih
  | nilslice a z => exact .nilslice a z
  | slice b o len cap z rows c e fr u h1 h2 h3 h4 h5 h6 h7 _ ih =>
    exact .slice b o len cap z rows c e fr u (Nat.lt_of_lt_of_le h1 hs) (hX b h1 h2) ((hb b h1 h2).trans h3) h4 h5 h6 h7 ih
  | tuple cs vs u hl hc _ ih => exact .tuple cs vs u hl hc ih
  | func f cs vs u hl hc _ ih => exact .func f cs vs u hl hc ih
  | cptr b o cs off c e fr u h1 h2 h3 h4 h5 _ ih =>
    exact .cptr b o cs off c e fr u (Nat.lt_of_lt_of_le h1 hs) (hX b h1 h2) ((hb b h1 h2).trans h3) h4 h5 ih
  | iface t v x _ ih => exact .iface t v x ih
  | niface => exact .niface
  | nslice z => exact .nslice z
  | xslice a n c z rows _ ih => exact .xslice a n c z rows ih

/-- a world that has grown: old blocks as they were -/
theorem RelD.grow {cx : Cx} {w w' : World} {X : Nat → Prop} {v : Value} {x : V} (h : RelD cx w X v x)
    (hs : w.heap.size ≤ w'.heap.size) (hb : ∀ b, b < w.heap.size → w'.heap[b]? = w.heap[b]?) : RelD cx w' X v x :=
  h.mono hs (fun b h _ => hb b h) (fun _ _ h => h)

/-- a cell's value is no struct and no tuple -/
theorem RelD.cell {cx : Cx} {w : World} {X : Nat → Prop} {v : Value} {x : V} (h : RelD cx w X v x) (h1 : v.oneCell' = true) : x.datC = true := by
  cases h <;> simp_all [V.datC, Value.oneCell']

theorem RelD.dat {cx : Cx} {w : World} {X : Nat → Prop} {v : Value} {vs : List V} (h : RelD cx w X v (.agg vs)) : vs.all V.datC = true := by
  cases h with
  | agg cs vs u hl hc hr =>
    rw [List.all_eq_true]
    intro x hx
    obtain ⟨i, hi, rfl⟩ := List.getElem_of_mem hx
    have := (hr i hi).cell (hc i hi).2
    simpa [gv, hi] using this

/-- where an owned array's slice lies -/
def hdr : Value → Option Nat
  | .slice (some a) _ _ => some a.block
  | _ => none

section
variable (cx : Cx) (w : World) (X : Nat → Prop) (S : St) (β : Nat → Nat) (α : Nat → Value)

/-- an owned slice's value -/
def RelO (v : Value) (s z n : Nat) : Prop :=
  ∃ rows f a cap, S.A s = some (z, rows, f) ∧ v = .slice a n cap ∧ (n ≠ 0 → ∃ b o, a = some ⟨b, o, none⟩) ∧ (f ≠ .dead → n ≤ rows.length ∧ (rows.length = n → v = α s))

/-- a cell -/
def RelC (v : Value) : V → Prop
  | .own s z n => RelO S α v s z n
  | x => RelD cx w X v x

def RelT (v : Value) : V → Prop
  | .own s z n => RelO S α v s z n
  | .lref s off => (S.μ s).isSome ∧ v = .pointer (some ⟨β s, off, none⟩)
  | .eref s i off m => ∃ z rows f b o cap, S.A s = some (z, rows, f) ∧ v = .pointer (some ⟨b, o + i * z + off, none⟩) ∧
      (f ≠ .dead → m ≤ rows.length ∧ (rows.length = m → α s = .slice (some ⟨b, o, none⟩) m cap))
  | .agg vs => ∃ cs : Array Value, v = .agg cs ∧ cs.size = vs.length ∧
      ∀ i, i < vs.length → ∃ u, cs[i]? = some u ∧ u.oneCell' = true ∧ RelC cx w X S α u (gv vs i)
  | .tuple vs => ∃ cs : Array Value, v = .tuple cs ∧ cs.size = vs.length ∧
      ∀ i, i < vs.length → ∃ u, cs[i]? = some u ∧ RelC cx w X S α u (gv vs i)
  | x => RelD cx w X v x

end

/-- a block of cells that an array owns -/
structure ArrOK (cx : Cx) (w : World) (X : Nat → Prop) (v : Value) (z : Nat) (rows : List (List V)) : Prop where
  len : ∀ i, i < rows.length → (gr rows i).length = z
  at_ : (v = .slice none 0 0 ∧ rows = []) ∨ ∃ b o cap c e, v = .slice (some ⟨b, o, none⟩) rows.length cap ∧
    w.heap[b]? = some (.cells c e (0, 0)) ∧ rows.length ≤ cap ∧ o + cap * z ≤ c.size ∧
    ∀ i j, i < rows.length → j < z → ∃ u, c[o + i * z + j]? = some u ∧ u.oneCell' = true ∧ RelD cx w X u (gv (gr rows i) j)

/-- the frame's memory: variables, owned arrays, what nobody may write beside them (M) -/
structure RelW (cx : Cx) (B : Nat) (X : Nat → Prop) (S : St) (w : World) (β : Nat → Nat) (α : Nat → Value) (M : Nat → Prop) : Prop where
  xb : ∀ b, X b → b < B
  size : B ≤ w.heap.size
  m : ∀ b, M b → B ≤ b ∧ b < w.heap.size
  var : ∀ s cs f, S.μ s = some (cs, f) → B ≤ β s ∧ (f = false → M (β s)) ∧ (f = true → ¬ M (β s) ∧ cs.all V.datC = true) ∧ ∃ c e, w.heap[β s]? = some (.cells c e (0, 0)) ∧ c.size = cs.length ∧
    ∀ i, i < cs.length → ∃ u, c[i]? = some u ∧ u.oneCell' = true ∧ RelC cx w (fun b => X b ∨ M b) S α u (gv cs i)
  varInj : ∀ s s', (S.μ s).isSome → (S.μ s').isSome → β s = β s' → s = s'
  arr : ∀ s z rows f, S.A s = some (z, rows, f) → f ≠ .dead → ArrOK cx w (fun b => X b ∨ M b) (α s) z rows ∧
    ∀ b, hdr (α s) = some b → B ≤ b ∧ (f = .live → M b) ∧ (f = .frz → ¬ M b)
  arrInj : ∀ s s' z rows f z' rows' f', S.A s = some (z, rows, f) → f ≠ .dead → S.A s' = some (z', rows', f') → f' ≠ .dead → ∀ b, hdr (α s) = some b → hdr (α s') = some b → s = s'
  arrVar : ∀ s z rows f s', S.A s = some (z, rows, f) → f ≠ .dead → (S.μ s').isSome → hdr (α s) ≠ some (β s')

end Sg
