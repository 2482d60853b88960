/- slices.Insert and slices.Delete of owned arrays: what is asked of their code, and that this serves. -/
import Derived.Test.YtclmbbbpijboaaaSgCall
import Derived.Test.YtclmbbbpijboaaaSgCopyK
namespace Sg
open Go Go.RowKit
set_option linter.unusedSimpArgs false
set_option linter.unusedVariables false

/-- what the code of slices.Insert does, for rows of z cells -/
structure InsC (P : Program) (f : FuncId) (z : Nat) (tS el : TypeId) : Prop where
  ent : Ent P f
  hS : P.underlying tS = some (.slice el)
  hz : szT P el = some z
  pos : 0 < z
  info : ∃ ie zv, P.info? el = some ie ∧ ie.bytes ≤ 65536 ∧ ie.zero = some zv ∧ zv.cells.size = z
  nothing : ∀ (base : Option Addr) (n c i vc : Nat) (vb : Option Addr) (w : World), n ≤ c → i ≤ n → (base = none → n = 0) →
    Calls P f #[.slice base n c, .int .i64 i, .slice vb 0 vc] w fun e w1 => e = .returned (.slice base n c) ∧ w1 = w
  end_ : ∀ (base : Option Addr) (n c m vc : Nat) (vb : Option Addr) (w w' : World) (q : Value), 0 < m → n ≤ c → n + m ≤ 1073741824 → (base = none → n = 0) →
    (Builtin.append_ #[tS, tS] tS #[.slice base n c, .slice vb m vc]).run P w = .ok q w' →
    Calls P f #[.slice base n c, .int .i64 n, .slice vb m vc] w fun e w1 => e = .returned q ∧ w1 = w'
  shift : ∀ (b off n c i vb voff m vc : Nat) (cs vs : List Value) (w : World), i < n → 0 < m → n + m ≤ c → n + m ≤ 1073741824 → vb ≠ b → cs.length = n * z → vs.length = m * z →
    (∀ (j : Nat) (v : Value), cs[j]? = some v → w.cell? ⟨b, off + j, none⟩ = some v) → (∀ j, j < (n + m) * z → (w.cell? ⟨b, off + j, none⟩).isSome = true) → (∀ j, w.frozen? ⟨b, j, none⟩ = false) →
    (∀ (j : Nat) (v : Value), vs[j]? = some v → w.cell? ⟨vb, voff + j, none⟩ = some v) → (∀ v ∈ cs, v.oneCell' = true) → (∀ v ∈ vs, v.oneCell' = true) →
    ∀ (tA tB : TypeId) (kA kB : Nat), w.shape? vb = some (tA, kA) → w.shape? b = some (tB, kB) → kA ≠ 0 →
    Calls P f #[.slice (some ⟨b, off, none⟩) n c, .int .i64 i, .slice (some ⟨vb, voff, none⟩) m vc] w fun e w' =>
      e = .returned (.slice (some ⟨b, off, none⟩) (n + m) c) ∧ w' = (w.drew.setCells b (off + (i + m) * z) (cs.drop (i * z))).setCells b (off + i * z) vs
  grow : ∀ (b off n c i vb voff m vc : Nat) (cs vs : List Value) (w : World), i < n → 0 < m → n ≤ c → c < n + m → n + m ≤ 1073741824 → cs.length = n * z → vs.length = m * z → b < w.heap.size → vb < w.heap.size →
    (∀ (j : Nat) (v : Value), cs[j]? = some v → w.cell? ⟨b, off + j, none⟩ = some v) →
    (∀ (j : Nat) (v : Value), vs[j]? = some v → w.cell? ⟨vb, voff + j, none⟩ = some v) → (∀ v ∈ cs, v.oneCell' = true) → (∀ v ∈ vs, v.oneCell' = true) →
    Calls P f #[.slice (some ⟨b, off, none⟩) n c, .int .i64 i, .slice (some ⟨vb, voff, none⟩) m vc] w fun e w' =>
      ∃ (G : Nat) (ROW : Array Value) (d1 : Nat), n + m ≤ G ∧ (n + m) * z ≤ ROW.size ∧ ROW.size = G * z ∧ (∀ (j : Nat) (v : Value), (cs.take (i * z))[j]? = some v → ROW[j]? = some v) ∧ e = .returned (.slice (some ⟨w.heap.size, 0, none⟩) (n + m) G) ∧
      w' = ((({ w with drawn := d1 } : World).alloc (.cells ROW el)).setCells w.heap.size (i * z) vs).setCells w.heap.size ((i + m) * z) (cs.drop (i * z))

/-- what the code of slices.Delete does -/
structure DelC (P : Program) (f : FuncId) (z : Nat) : Prop where
  ent : Ent P f
  pos : 0 < z
  nothing : ∀ (base : Option Addr) (n c i : Nat) (w : World), n ≤ c → i ≤ n → (base = none → n = 0) →
    Calls P f #[.slice base n c, .int .i64 i, .int .i64 i] w fun e w1 => e = .returned (.slice base n c) ∧ w1 = w
  cut : ∀ (b off n c i j : Nat) (cs : List Value) (w : World), i < j → j ≤ n → n ≤ c → n ≤ 1073741824 → cs.length = n * z →
    (∀ (j : Nat) (v : Value), cs[j]? = some v → w.cell? ⟨b, off + j, none⟩ = some v) → (∀ j, w.frozen? ⟨b, j, none⟩ = false) → (∀ v ∈ cs, v.oneCell' = true) →
    Calls P f #[.slice (some ⟨b, off, none⟩) n c, .int .i64 i, .int .i64 j] w fun e w' =>
      e = .returned (.slice (some ⟨b, off, none⟩) (n - (j - i)) c) ∧ ∃ (d1 : Nat) (zs : List Value), zs.length = (j - i) * z ∧ (∀ v ∈ zs, v.oneCell' = true) ∧
      w' = ((({ w with drawn := d1 } : World)).setCells b (off + i * z) (cs.drop (j * z))).setCells b (off + (n - (j - i)) * z) zs

/-- the cells of a block, set one by one -/
theorem setCells_at (P : Program) {w : World} {b o : Nat} {c : Array Value} {e : TypeId} {vs : List Value} (h : w.heap[b]? = some (.cells c e (0, 0))) (hsz : o + vs.length ≤ c.size) (h1 : ∀ v ∈ vs, v.oneCell' = true) :
    ∃ c2, (w.setCells b o vs).heap[b]? = some (.cells c2 e (0, 0)) ∧ c2.size = c.size ∧ Turn b w (w.setCells b o vs) ∧ (∀ B, B ≤ b → Below B w (w.setCells b o vs)) ∧
      (∀ k, k < o → c2[k]? = c[k]?) ∧ (∀ k, k < vs.length → c2[o + k]? = vs[k]?) ∧ ∀ k, o + vs.length ≤ k → c2[k]? = c[k]? := by
  have a := run_storeCells_at P b o e vs 0 c w h (by omega) h1
  have hcell : ∀ j, j < vs.length → (w.cell? ⟨b, o + 0 + j, none⟩).isSome = true := fun j hj => by
    simp [World.cell?, h]; omega
  have hfz : ∀ j, j < vs.length → w.frozen? ⟨b, o + 0 + j, none⟩ = false := fun j hj => by simp [World.frozen?, h]
  have b' := run_storeCells_cells (P := P) b o vs 0 w hcell hfz h1
  rw [a] at b'
  have e1 : w.setCells b o vs = w.setRow b (c.toList.take o ++ vs ++ c.toList.drop (o + vs.length)).toArray := by
    simpa using b'.symm
  rw [e1]
  have hcl : c.toList.length = c.size := Array.length_toList
  have htk : (c.toList.take o).length = o := by rw [List.length_take, hcl]; omega
  refine ⟨_, setRow_heap w b c _ e (0, 0) h, by rw [List.size_toArray, List.length_append, List.length_append, htk, List.length_drop, hcl]; omega, turn_setRow w b _, fun B hB => below_setRow w _ hB, fun k hk => ?_, fun k hk => ?_, fun k hk => ?_⟩
  · simp only [List.getElem?_toArray]
    rw [List.append_assoc, List.getElem?_append_left (by omega), List.getElem?_take_of_lt hk]; simp
  · simp only [List.getElem?_toArray]
    rw [List.append_assoc, List.getElem?_append_right (by omega), htk, Nat.add_sub_cancel_left, List.getElem?_append_left hk]
  · simp only [List.getElem?_toArray]
    rw [List.getElem?_append_right (by rw [List.length_append, htk]; omega), List.length_append, htk, List.getElem?_drop]
    have : o + vs.length + (k - (o + vs.length)) = k := by omega
    rw [this]; simp

section
variable {P : Program} {cx : Cx} {B : Nat} {X : Nat → Prop} {S : St} {w : World} {β : Nat → Nat} {α : Nat → Value} {M : Nat → Prop}

theorem DR.take {z i : Nat} {l : List Value} {rows : List (List V)} (h : DR cx w X z l rows) (hi : i ≤ rows.length) : DR cx w X z (l.take (i * z)) (rows.take i) := by
  have hle : i * z ≤ rows.length * z := Nat.mul_le_mul_right z hi
  refine ⟨by rw [List.length_take, h.1, List.length_take, Nat.min_eq_left hle, Nat.min_eq_left hi], fun k hk => ?_, fun k j hk hj => ?_⟩
  · have hk' : k < i := by simp at hk; omega
    have := h.2.1 k (by omega)
    simpa [gr, List.getD_eq_getElem?_getD, List.getElem?_take_of_lt hk'] using this
  · have hk' : k < i := by simp at hk; omega
    obtain ⟨u, a, b, c⟩ := h.2.2 k j (by omega) hj
    exact ⟨u, by rw [List.getElem?_take_of_lt (idx_lt hk' hj)]; exact a, b, by simpa [gr, List.getD_eq_getElem?_getD, List.getElem?_take_of_lt hk'] using c⟩

theorem DR.drop {z i : Nat} {l : List Value} {rows : List (List V)} (h : DR cx w X z l rows) (hi : i ≤ rows.length) : DR cx w X z (l.drop (i * z)) (rows.drop i) := by
  refine ⟨by rw [List.length_drop, h.1, List.length_drop, Nat.sub_mul], fun k hk => ?_, fun k j hk hj => ?_⟩
  · have := h.2.1 (i + k) (by simp at hk; omega)
    simpa [gr, List.getD_eq_getElem?_getD, List.getElem?_drop] using this
  · obtain ⟨u, a, b, c⟩ := h.2.2 (i + k) j (by simp at hk; omega) hj
    refine ⟨u, ?_, b, by simpa [gr, List.getD_eq_getElem?_getD, List.getElem?_drop] using c⟩
    rw [List.getElem?_drop, ← a]; congr 1; rw [Nat.add_mul]; omega

/-- the same, under another name: an array is cut -/
theorem RelW.delArr (h : RelW cx B X S w β α M) {s d z b0 : Nat} {rows rows' : List (List V)} {v' : Value} {w' : World} (hs : S.A s = some (z, rows, .live)) (hd : S.A d = none)
    (hg : Turn b0 w w') (hb0 : hdr (α s) = some b0) (hv : hdr v' = some b0) (ha : ArrOK cx w' (orP X M) v' z rows') :
    RelW cx B X { S with A := upd (upd S.A s (some (z, [], .dead))) d (some (z, rows', .live)) } w' β (upd α d v') M ∧ (∀ u x, RelD cx w (orP X M) u x → RelD cx w' (orP X M) u x) ∧
      ATr S { S with A := upd (upd S.A s (some (z, [], .dead))) d (some (z, rows', .live)) } α (upd α d v') := by
  obtain ⟨p1, p2⟩ := h.arr s z rows .live hs (by simp)
  have hM : M b0 := (p2 b0 hb0).2.1 rfl
  have hsd : s ≠ d := fun e => by rw [e, hd] at hs; simp at hs
  have hD : ∀ u x, RelD cx w (orP X M) u x → RelD cx w' (orP X M) u x := fun _ _ hr => turn_D hg hM hr
  have hT : ATr S { S with A := upd (upd S.A s (some (z, [], .dead))) d (some (z, rows', .live)) } α (upd α d v') := fun t z1 r f ht => by
    have htd : t ≠ d := fun e => by rw [e, hd] at ht; simp at ht
    by_cases e : t = s
    · subst e
      rw [hs] at ht
      simp only [Option.some.injEq, Prod.mk.injEq] at ht
      obtain ⟨rfl, rfl, rfl⟩ := ht
      exact ⟨[], .dead, by simp [upd, htd], fun h => absurd rfl h⟩
    · exact ⟨r, f, by simp [upd, htd, e, ht], fun h => ⟨h, Nat.le_refl _, fun _ => by simp [upd, htd]⟩⟩
  have keep : ∀ t, (S.μ t).isSome → β t ≠ b0 := fun t ht e => h.arrVar s z rows .live t hs (by simp) ht (by rw [hb0, e])
  have old : ∀ t z1 r f, t ≠ d → (upd (upd S.A s (some (z, [], .dead))) d (some (z, rows', .live))) t = some (z1, r, f) → f ≠ .dead → S.A t = some (z1, r, f) ∧ t ≠ s := fun t z1 r f htd ht hf => by
    by_cases e : t = s
    · subst e
      simp only [upd, if_neg htd, if_true, Option.some.injEq, Prod.mk.injEq] at ht
      exact absurd ht.2.2.symm hf
    · simp only [upd, if_neg htd, if_neg e] at ht
      exact ⟨ht, e⟩
  refine ⟨⟨h.xb, by rw [hg.size]; exact h.size, fun b hb => by rw [hg.size]; exact h.m b hb, fun t ct f ht => ?_, h.varInj, fun t z' r f ht hf => ?_, fun t t' z1 r1 f1 z2 r2 f2 ht hf ht' hf' b hb hb' => ?_, fun t z' r f t' ht hf ht' => ?_⟩, hD, hT⟩
  · obtain ⟨a1, a2, a3, c', e'', a4, a5, a6⟩ := h.var t ct f ht
    refine ⟨a1, a2, a3, c', e'', (hg.block _ (keep t (Option.isSome_iff_exists.2 ⟨_, ht⟩))).trans a4, a5, fun i hi => ?_⟩
    obtain ⟨u, b1, b2, b3⟩ := a6 i hi
    exact ⟨u, b1, b2, b3.tr hD hT⟩
  · by_cases e : t = d
    · subst e
      simp only [upd, if_true, Option.some.injEq, Prod.mk.injEq] at ht ⊢
      obtain ⟨rfl, rfl, rfl⟩ := ht
      refine ⟨ha, fun b hb => ?_⟩
      rw [hv] at hb
      simp only [Option.some.injEq] at hb
      subst hb
      exact ⟨(p2 b0 hb0).1, fun _ => hM, fun hf => by simp at hf⟩
    · obtain ⟨ht, es⟩ := old t z' r f e ht hf
      obtain ⟨a1, a2⟩ := h.arr t z' r f ht hf
      have : upd α d v' t = α t := by simp [upd, e]
      rw [this]
      exact ⟨a1.tr hD (fun b hb => hg.block b (fun e' => es (h.arrInj t s z' r f z rows .live ht hf hs (by simp) b hb (by rw [hb0, e'])))), a2⟩
  · have other : ∀ t z1 r1 f1, t ≠ d → S.A t = some (z1, r1, f1) → t ≠ s → f1 ≠ .dead → hdr (α t) = some b → hdr v' = some b → False := fun t z1 r1 f1 hne ht hs' hf hb hv' => by
      rw [hv] at hv'
      simp only [Option.some.injEq] at hv'
      subst hv'
      exact hs' (h.arrInj t s z1 r1 f1 z rows .live ht hf hs (by simp) b0 hb hb0)
    by_cases e1 : t = d <;> by_cases e2 : t' = d
    · rw [e1, e2]
    · obtain ⟨q1, q2⟩ := old t' z2 r2 f2 e2 ht' hf'
      simp only [upd, e1, if_true] at hb
      simp only [upd, e2, if_false] at hb'
      exact (other t' z2 r2 f2 e2 q1 q2 hf' hb' hb).elim
    · obtain ⟨q1, q2⟩ := old t z1 r1 f1 e1 ht hf
      simp only [upd, e2, if_true] at hb'
      simp only [upd, e1, if_false] at hb
      exact (other t z1 r1 f1 e1 q1 q2 hf hb hb').elim
    · obtain ⟨q1, q2⟩ := old t z1 r1 f1 e1 ht hf
      obtain ⟨q3, q4⟩ := old t' z2 r2 f2 e2 ht' hf'
      simp only [upd, e1, e2, if_false] at hb hb'
      exact h.arrInj t t' z1 r1 f1 z2 r2 f2 q1 hf q3 hf' b hb hb'
  · by_cases e : t = d
    · subst e
      simp only [upd, if_true]
      rw [hv]
      intro hb
      simp only [Option.some.injEq] at hb
      exact keep t' ht' hb.symm
    · obtain ⟨q1, q2⟩ := old t z' r f e ht hf
      have : upd α d v' t = α t := by simp [upd, e]
      rw [this]
      exact h.arrVar t z' r f t' q1 hf ht'
end
end Sg
