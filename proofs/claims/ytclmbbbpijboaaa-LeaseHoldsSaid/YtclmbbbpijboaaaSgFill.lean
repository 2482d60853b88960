/- Rows of cells, side by side: the model's and the interpreter's. Composite values. -/
import Derived.Test.YtclmbbbpijboaaaSgEq
namespace Sg
open Go Go.RowKit
set_option linter.unusedSimpArgs false
set_option linter.unusedVariables false

section
variable {P : Program} {cx : Cx} {w : World} {X : Nat → Prop} {S : St} {β : Nat → Nat} {α : Nat → Value}

/-- cells against cells -/
def CR (cx : Cx) (w : World) (X : Nat → Prop) (S : St) (α : Nat → Value) (l : List Value) (vs : List V) : Prop :=
  l.length = vs.length ∧ ∀ i, i < vs.length → ∃ u, l[i]? = some u ∧ u.oneCell' = true ∧ RelC cx w X S α u (gv vs i)

theorem CR.nil : CR cx w X S α [] [] := ⟨rfl, fun i hi => by simp at hi⟩

theorem CR.one {u : Value} {x : V} (h1 : u.oneCell' = true) (h : RelC cx w X S α u x) : CR cx w X S α [u] [x] :=
  ⟨rfl, fun i hi => by have : i = 0 := by simpa using hi
                       subst this; exact ⟨u, rfl, h1, h⟩⟩

theorem CR.append {l m : List Value} {vs ys : List V} (h : CR cx w X S α l vs) (k : CR cx w X S α m ys) : CR cx w X S α (l ++ m) (vs ++ ys) := by
  refine ⟨by simp [h.1, k.1], fun i hi => ?_⟩
  rcases Nat.lt_or_ge i vs.length with hl | hl
  · obtain ⟨u, a, b, c⟩ := h.2 i hl
    exact ⟨u, by rw [List.getElem?_append_left (by rw [h.1]; exact hl)]; exact a, b, by simpa [gv, List.getD_eq_getElem?_getD, List.getElem?_append_left hl] using c⟩
  · obtain ⟨u, a, b, c⟩ := k.2 (i - vs.length) (by simp at hi; omega)
    exact ⟨u, by rw [List.getElem?_append_right (by rw [h.1]; exact hl), h.1]; exact a, b, by simpa [gv, List.getD_eq_getElem?_getD, List.getElem?_append_right hl] using c⟩

theorem CR.take {l : List Value} {vs : List V} (h : CR cx w X S α l vs) (n : Nat) : CR cx w X S α (l.take n) (vs.take n) := by
  refine ⟨by simp [h.1], fun i hi => ?_⟩
  have h1 : i < n ∧ i < vs.length := by simp at hi; omega
  obtain ⟨u, a, b, c⟩ := h.2 i h1.2
  exact ⟨u, by rw [List.getElem?_take_of_lt h1.1]; exact a, b, by simpa [gv, List.getD_eq_getElem?_getD, List.getElem?_take_of_lt h1.1] using c⟩

theorem CR.drop {l : List Value} {vs : List V} (h : CR cx w X S α l vs) (n : Nat) : CR cx w X S α (l.drop n) (vs.drop n) := by
  refine ⟨by simp [h.1], fun i hi => ?_⟩
  obtain ⟨u, a, b, c⟩ := h.2 (n + i) (by simp at hi; omega)
  exact ⟨u, by rw [List.getElem?_drop]; exact a, b, by simpa [gv, List.getD_eq_getElem?_getD, List.getElem?_drop] using c⟩

theorem CR.put {l m : List Value} {vs ys cs : List V} {off : Nat} (h : CR cx w X S α l vs) (k : CR cx w X S α m ys) (hs : setAt vs off ys = some cs) :
    off + m.length ≤ l.length ∧ CR cx w X S α (l.take off ++ (m ++ l.drop (off + m.length))) cs := by
  unfold setAt at hs
  split at hs <;> simp only [Option.some.injEq, reduceCtorEq] at hs
  rename_i hle
  subst hs
  refine ⟨by rw [h.1, k.1]; exact hle, ?_⟩
  rw [k.1]
  exact (h.take off).append (k.append (h.drop _))

theorem CR.mono {w' : World} {X' : Nat → Prop} {S' : St} {α' : Nat → Value} (hD : ∀ u x, RelD cx w X u x → RelD cx w' X' u x) (hA : ATr S S' α α') {l : List Value} {vs : List V}
    (h : CR cx w X S α l vs) : CR cx w' X' S' α' l vs :=
  ⟨h.1, fun i hi => by obtain ⟨u, a, b, c⟩ := h.2 i hi; exact ⟨u, a, b, c.tr hD hA⟩⟩

theorem CR.data {l : List Value} {vs : List V} (h : CR cx w X S α l vs) (hd : vs.all V.datC = true) : ∀ i, i < vs.length → ∃ u, l[i]? = some u ∧ u.oneCell' = true ∧ RelD cx w X u (gv vs i) :=
  fun i hi => by
    obtain ⟨u, a, b, c⟩ := h.2 i hi
    refine ⟨u, a, b, c.data ?_⟩
    rw [List.all_eq_true] at hd
    exact hd _ (by simp [gv, hi])

/-- the cells of a value -/
theorem cells_rel {u : Value} {x : V} {cs : List V} (h : RelT cx w X S β α u x) (hc : x.cells = some cs) : CR cx w X S α u.cells.toList cs := by
  cases x <;> simp only [V.cells, V.isCell, Option.some.injEq, reduceCtorEq, if_true, if_false, Bool.false_eq_true] at hc <;> subst hc
  case agg vs =>
    obtain ⟨cs, rfl, hl, hcs⟩ := h
    exact ⟨by simpa [Value.cells] using hl, fun i hi => by obtain ⟨u, a, b⟩ := hcs i hi; exact ⟨u, by simpa [Value.cells] using a, b⟩⟩
  case own s z n =>
    obtain ⟨rows, f, a, cap, hA, rfl, hh⟩ := h
    exact .one rfl ⟨rows, f, a, cap, hA, rfl, hh⟩
  all_goals
    simp only [RelT] at h
    have h1 : u.oneCell' = true := by cases h <;> rfl
    have h2 : u.cells = #[u] := by cases h <;> rfl
    rw [h2]
    exact .one h1 (by simpa only [RelC] using h)

theorem zero_CR {l : List Value} {vs : List V} (h : constCells l vs = true) : CR cx w X S α l vs := by
  obtain ⟨h1, h2⟩ := const_cells (cx := cx) (w := w) (X := X) h
  exact ⟨h1, fun i hi => by obtain ⟨u, a, b, c⟩ := h2 i hi; exact ⟨u, a, b, .of_data c⟩⟩

theorem foldl_set : ∀ (m : List Value) (k off : Nat) (cells : Array Value), off + k + m.length ≤ cells.size →
    ((m.zipIdx k).foldl (fun cs (c, j) => cs.setIfInBounds (off + j) c) cells).toList = cells.toList.take (off + k) ++ (m ++ cells.toList.drop (off + k + m.length))
  | [], k, off, cells, h => by simp
  | v :: m, k, off, cells, h => by
    simp only [List.zipIdx_cons, List.foldl_cons]
    rw [foldl_set m (k + 1) off (cells.setIfInBounds (off + k) v) (by simp at h ⊢; omega)]
    have e := list_seg_step cells.toList (off + k) v m (by simp at h ⊢; omega)
    simp only [Array.toList_setIfInBounds]
    have e1 : off + (k + 1) = off + k + 1 := by omega
    rw [e1]
    simpa [List.append_assoc, Nat.add_assoc, Nat.add_comm 1] using e

theorem foldl_zip (m : Array Value) (off : Nat) (cells : Array Value) (h : off + m.size ≤ cells.size) :
    (m.zipIdx.foldl (fun cs (c, j) => cs.setIfInBounds (off + j) c) cells).toList = cells.toList.take off ++ (m.toList ++ cells.toList.drop (off + m.size)) := by
  rw [← Array.foldl_toList, Array.toList_zipIdx, foldl_set m.toList 0 off cells (by simpa using h)]
  simp

theorem fill_step {place : Nat → Option (Nat × Nat)} {cells : Array Value} {i off n : Nat} {v : Value} {rest : List (Nat × Value)} (hp : place i = some (off, n)) (hn : v.cells.size = n) (hl : off + n ≤ cells.size) :
    Instr.fill place cells ((i, v) :: rest) = Instr.fill place (cells.toList.take off ++ (v.cells.toList ++ cells.toList.drop (off + n))).toArray rest := by
  simp only [Instr.fill, hp]
  rw [if_neg (by simp [hn]; omega)]
  congr 1
  apply Array.ext'
  rw [foldl_zip v.cells off cells (by omega), hn]

end

section
variable {P : Program} {cx : Cx} {w : World} {X : Nat → Prop} {S : St} {β : Nat → Nat} {α : Nat → Value}
variable {a : Act} {ds : List (Option Nat)} {e : Nat → V}

theorem fill_ok (hg : ∀ t, RelT cx w X S β α (a.tmps.getD t undef) (S.ρ t)) (hl : ∀ i d, ds[i]? = some (some d) → RelT cx w X S β α (a.tmps.getD d undef) (e i)) {pl : Nat → Option (Nat × Nat)} :
    ∀ (ps : List (Nat × Operand)) (qs : List (Nat × Nat × Arg)) (cells : Array Value) (z cs : List V), okParts cx ds pl ps qs = true → CR cx w X S α cells.toList z →
      fillAt z (qs.map fun p => (p.1, p.2.1, argv e S.ρ p.2.2)) = some cs →
      ∃ cells', Instr.fill pl cells (ps.map fun (i, x) => (i, a.eval x)) = some cells' ∧ CR cx w X S α cells'.toList cs
  | [], [], cells, z, cs, _, hc, h => by
    simp only [List.map_nil, fillAt, Option.some.injEq] at h
    subst h
    exact ⟨cells, by simp [Instr.fill], hc⟩
  | (i, o) :: ps, (off, n, x) :: qs, cells, z, cs, hok, hc, h => by
    simp only [okParts, Bool.and_eq_true, beq_iff_eq] at hok
    simp only [List.map_cons, fillAt, Option.bind_eq_some_iff] at h
    obtain ⟨xs, hxs, h⟩ := h
    split at h
    · rename_i hn
      simp only [Option.bind_eq_some_iff] at h
      obtain ⟨cs', hcs', h⟩ := h
      have hr := arg_rel hg hl hok.1.2
      have hcr := cells_rel hr hxs
      obtain ⟨h1, h2⟩ := hc.put hcr hcs'
      have hsz : (a.eval o).cells.size = n := by
        have := hcr.1; simp only [Array.length_toList] at this; omega
      simp only [Array.length_toList, hsz] at h1 h2
      obtain ⟨cells', h3, h4⟩ := fill_ok hg hl ps qs _ cs' cs hok.2 (by simpa using h2) h
      refine ⟨cells', ?_, h4⟩
      rw [List.map_cons, fill_step hok.1.1 hsz h1]
      exact h3
    · simp at h
  | [], _ :: _, cells, z, cs, hok, hc, h => by simp [okParts] at hok
  | _ :: _, [], cells, z, cs, hok, hc, h => by simp [okParts] at hok

end
end Sg
