/- Rows of data, side by side; slices that are written out. -/
import Derived.Test.YtclmbbbpijboaaaSgFill
namespace Sg
open Go Go.RowKit
set_option linter.unusedSimpArgs false
set_option linter.unusedVariables false

section
variable {P : Program} {cx : Cx} {w : World} {X : Nat → Prop} {S : St} {β : Nat → Nat} {α : Nat → Value}

/-- rows of z cells of data -/
def DR (cx : Cx) (w : World) (X : Nat → Prop) (z : Nat) (l : List Value) (rows : List (List V)) : Prop :=
  l.length = rows.length * z ∧ (∀ i, i < rows.length → (gr rows i).length = z) ∧
  ∀ i j, i < rows.length → j < z → ∃ u, l[i * z + j]? = some u ∧ u.oneCell' = true ∧ RelD cx w X u (gv (gr rows i) j)

theorem DR.mono {w' : World} {X' : Nat → Prop} (hD : ∀ u x, RelD cx w X u x → RelD cx w' X' u x) {z : Nat} {l : List Value} {rows : List (List V)} (h : DR cx w X z l rows) : DR cx w' X' z l rows :=
  ⟨h.1, h.2.1, fun i j hi hj => by obtain ⟨u, a, b, c⟩ := h.2.2 i j hi hj; exact ⟨u, a, b, hD _ _ c⟩⟩

theorem idx_lt {i j z n : Nat} (hi : i < n) (hj : j < z) : i * z + j < n * z := by
  have : (i + 1) * z ≤ n * z := Nat.mul_le_mul_right z hi
  rw [Nat.add_mul] at this; omega

theorem DR.set {z : Nat} {l m : List Value} {rows : List (List V)} {xs : List V} {i : Nat} (h : DR cx w X z l rows) (hi : i < rows.length) (hx : xs.length = z) (hm : m.length = z)
    (hc : ∀ j, j < xs.length → ∃ u, m[j]? = some u ∧ u.oneCell' = true ∧ RelD cx w X u (gv xs j)) :
    i * z + z ≤ l.length ∧ DR cx w X z (l.take (i * z) ++ (m ++ l.drop (i * z + z))) (rows.set i xs) := by
  have hle : i * z + z ≤ l.length := by
    rw [h.1]; have : (i + 1) * z ≤ rows.length * z := Nat.mul_le_mul_right z hi
    rw [Nat.add_mul] at this; omega
  refine ⟨hle, ?_, fun k hk => ?_, fun k j hk hj => ?_⟩
  · rw [List.length_append, List.length_append, List.length_take, List.length_drop, hm, List.length_set]
    have := h.1
    omega
  · simp only [List.length_set] at hk
    simp only [gr, List.getD_eq_getElem?_getD, List.getElem?_set]
    by_cases e : i = k
    · subst e; simp [hk, hx]
    · rw [if_neg e]; have := h.2.1 k hk; simpa [gr, List.getD_eq_getElem?_getD] using this
  · simp only [List.length_set] at hk
    have hk2 := idx_lt hk hj
    rcases Nat.lt_trichotomy k i with hlt | heq | hgt
    · obtain ⟨u, a, b, c⟩ := h.2.2 k j hk hj
      have h1 := idx_lt hlt hj
      refine ⟨u, ?_, b, ?_⟩
      · rw [List.getElem?_append_left (by simp; omega), List.getElem?_take_of_lt h1]; exact a
      · simpa [gr, List.getD_eq_getElem?_getD, List.getElem?_set, show ¬ i = k by omega] using c
    · subst heq
      obtain ⟨u, a, b, c⟩ := hc j (by omega)
      refine ⟨u, ?_, b, ?_⟩
      · rw [List.getElem?_append_right (by simp; omega)]
        have e1 : k * z + j - (List.take (k * z) l).length = j := by simp; omega
        rw [e1, List.getElem?_append_left (by omega)]; exact a
      · simpa [gr, List.getD_eq_getElem?_getD, List.getElem?_set, hk] using c
    · obtain ⟨u, a, b, c⟩ := h.2.2 k j hk hj
      have h1 : i * z + z ≤ k * z := by
        have : (i + 1) * z ≤ k * z := Nat.mul_le_mul_right z hgt
        rw [Nat.add_mul] at this; omega
      refine ⟨u, ?_, b, ?_⟩
      · rw [List.getElem?_append_right (by simp; omega), List.getElem?_append_right (by simp; omega), List.getElem?_drop]
        have e1 : i * z + z + (k * z + j - (List.take (i * z) l).length - m.length) = k * z + j := by simp; omega
        rw [e1]; exact a
      · simpa [gr, List.getD_eq_getElem?_getD, List.getElem?_set, show ¬ i = k by omega] using c

theorem DR.replicate {z n : Nat} {l : List Value} {xs : List V} (hz : xs.length = z) (hc : ∀ j, j < z → ∃ u, l[j]? = some u ∧ u.oneCell' = true ∧ RelD cx w X u (gv xs j)) (hl : l.length = z) :
    DR cx w X z ((Array.range (n * z)).map (fun i => l.toArray[i % l.toArray.size]!)).toList (List.replicate n xs) := by
  refine ⟨by simp, fun i hi => ?_, fun i j hi hj => ?_⟩
  · simp at hi; simp [gr, List.getD_eq_getElem?_getD, hi, hz]
  · simp only [List.length_replicate] at hi
    have hk := idx_lt hi hj
    obtain ⟨u, a, b, c⟩ := hc j hj
    refine ⟨u, ?_, b, ?_⟩
    · have e : (i * z + j) % z = j := by rw [Nat.add_comm, Nat.add_mul_mod_self_right, Nat.mod_eq_of_lt hj]
      simp [hk, hl, e, a]
    · simpa [gr, List.getD_eq_getElem?_getD, hi] using c

end

section
variable {P : Program} {cx : Cx} {w : World} {X : Nat → Prop} {S : St} {β : Nat → Nat} {α : Nat → Value}
variable {a : Act} {ds : List (Option Nat)} {e : Nat → V}

theorem fillRows_ok (hg : ∀ t, RelT cx w X S β α (a.tmps.getD t undef) (S.ρ t)) (hl : ∀ i d, ds[i]? = some (some d) → RelT cx w X S β α (a.tmps.getD d undef) (e i)) {z : Nat} :
    ∀ (ps : List (Nat × Operand)) (qs : List (Nat × Arg)) (cells : Array Value) (rows rows' : List (List V)), okRows cx ds ps qs = true → DR cx w X z cells.toList rows →
      fillRows z rows (qs.map fun p => (p.1, argv e S.ρ p.2)) = some rows' →
      ∃ cells', Instr.fill (fun i => some (i * z, z)) cells (ps.map fun (i, x) => (i, a.eval x)) = some cells' ∧ DR cx w X z cells'.toList rows'
  | [], [], cells, rows, rows', _, hc, h => by
    simp only [List.map_nil, fillRows, Option.some.injEq] at h
    subst h
    exact ⟨cells, by simp [Instr.fill], hc⟩
  | (i, o) :: ps, (j, x) :: qs, cells, rows, rows', hok, hc, h => by
    simp only [okRows, Bool.and_eq_true, beq_iff_eq] at hok
    obtain ⟨⟨rfl, ho⟩, hok⟩ := hok
    simp only [List.map_cons, fillRows, Option.bind_eq_some_iff] at h
    obtain ⟨xs, hxs, h⟩ := h
    split at h
    · rename_i hn
      obtain ⟨hi, hz, hd⟩ := hn
      have hr := arg_rel hg hl ho
      have hcr := cells_rel hr hxs
      have hsz : (a.eval o).cells.size = z := by
        have := hcr.1; simp only [Array.length_toList] at this; omega
      obtain ⟨h1, h2⟩ := hc.set hi hz (by simpa using hsz) (hcr.data hd)
      obtain ⟨cells', h3, h4⟩ := fillRows_ok hg hl ps qs _ (rows.set i xs) rows' hok (by simpa using h2) h
      refine ⟨cells', ?_, h4⟩
      rw [List.map_cons, fill_step (off := i * z) (n := z) rfl hsz (by simpa using h1)]
      exact h3
    · simp at h
  | [], _ :: _, cells, z, cs, hok, hc, h => by simp [okRows] at hok
  | _ :: _, [], cells, z, cs, hok, hc, h => by simp [okRows] at hok

theorem run_zero {t : TypeId} {z : List V} (h : okZero P t z = true) : ∃ v, (zeroValue t).run P w = .ok v w ∧ constCells v.cells.toList z = true := by
  unfold okZero at h
  split at h
  · rename_i i hi
    split at h
    · rename_i v hv
      exact ⟨v, by simp [zeroValue, typeInfo, hi, hv, Result.andThen], h⟩
    · simp at h
  · simp at h

/-- a slice that is written out: in a new block -/
theorem mks_ok (hg : ∀ t, RelT cx w X S β α (a.tmps.getD t undef) (S.ρ t)) (hl : ∀ i d, ds[i]? = some (some d) → RelT cx w X S β α (a.tmps.getD d undef) (e i))
    {t : TypeId} {len z n : Nat} {zero : List V} {ps : List (Nat × Operand)} {qs : List (Nat × Arg)} {el : TypeId} {rows : List (List V)}
    (ht : sliceT P t = some el) (hsz : szT P el = some z) (hz : okZero P el zero = true) (hzl : zero.length = z) (hz0 : z ≠ 0) (hlen : len = n) (hbig : len * z ≤ 16777216)
    (hok : okRows cx ds ps qs = true) (h : fillRows z (List.replicate n zero) (qs.map fun p => (p.1, argv e S.ρ p.2)) = some rows) :
    ∃ cells, (Instr.buildSlice t len (ps.map fun (i, x) => (i, a.eval x)).toArray).run P w = .ok (.slice (some ⟨w.heap.size, 0, none⟩) n n) { w with heap := w.heap.push (.cells cells el) } ∧ DR cx w X z cells.toList rows ∧ rows.length = n := by
  have hu : P.underlying t = some (.slice el) := by
    unfold sliceT at ht
    split at ht <;> simp_all
  subst hlen
  obtain ⟨v, hv, hvz⟩ := run_zero (P := P) (w := w) hz
  have hvz' := const_cells (cx := cx) (w := w) (X := X) hvz
  have hbase : DR cx w X z ((Array.range (len * z)).map (fun i => v.cells[i % v.cells.size]!)).toList (List.replicate len zero) := by
    have := DR.replicate (cx := cx) (w := w) (X := X) (n := len) (l := v.cells.toList) (xs := zero) hzl (fun j hj => hvz'.2 j (by omega)) (by rw [hvz'.1, hzl])
    simpa using this
  have hlr : ∀ (qs : List (Nat × V)) (r r' : List (List V)), fillRows z r qs = some r' → r'.length = r.length := by
    intro qs
    induction qs with
    | nil => intro r r' h; simp [fillRows] at h; rw [h]
    | cons q qs ih =>
      intro r r' h
      obtain ⟨i, x⟩ := q
      simp only [fillRows, Option.bind_eq_some_iff] at h
      obtain ⟨xs, _, h⟩ := h
      split at h
      · have := ih _ _ h; simpa using this
      · simp at h
  by_cases h0 : len * z = 0
  · have hl0 : len = 0 := by rcases Nat.mul_eq_zero.1 h0 with h | h <;> simp_all
    subst hl0
    obtain ⟨cells', h3, h4⟩ := fillRows_ok hg hl ps qs #[] [] rows hok (by refine ⟨by simp, fun i hi => by simp at hi, fun i j hi => by simp at hi⟩) (by simpa using h)
    refine ⟨cells', ?_, h4, by simpa using hlr _ _ _ h⟩
    unfold Instr.buildSlice
    have e1 : ∀ f : Nat → Value, Array.map f (Array.range 0) = #[] := fun f => by simp
    simp only [Sem.run_bind, run_underlying hu w, Result.andThen, run_sizeOf' hsz w, Nat.zero_mul, Sem.run_ite, run_unsupported, Sem.run_pure]
    rw [if_neg (by omega)]
    simp only [Sem.run_bind, if_true, Sem.run_pure, e1, h3, newRow, run_newObj, Result.andThen]
  · obtain ⟨cells', h3, h4⟩ := fillRows_ok hg hl ps qs _ _ rows hok hbase h
    refine ⟨cells', ?_, h4, by simpa using hlr _ _ _ h⟩
    unfold Instr.buildSlice
    simp only [Sem.run_bind, run_underlying hu w, Result.andThen, run_sizeOf' hsz w, Sem.run_ite, run_unsupported, Sem.run_pure]
    rw [if_neg (by omega)]
    simp only [Sem.run_bind, if_neg h0, Result.andThen, hv, Sem.run_pure, h3, newRow, run_newObj]

end
end Sg
