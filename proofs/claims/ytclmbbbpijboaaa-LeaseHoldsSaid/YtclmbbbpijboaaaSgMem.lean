/- The frame's memory, step by step: memory grows, a variable or an array comes, is written, is let go. -/
import Derived.Test.YtclmbbbpijboaaaSgPure
import Derived.Laws.CopyRow
namespace Sg
open Go Go.RowKit
set_option linter.unusedSimpArgs false
set_option linter.unusedVariables false

/-- old blocks are as they were -/
structure Grow (w w' : World) : Prop where
  size : w.heap.size ≤ w'.heap.size
  block : ∀ b, b < w.heap.size → w'.heap[b]? = w.heap[b]?

theorem Grow.refl (w : World) : Grow w w := ⟨Nat.le_refl _, fun _ _ => rfl⟩
theorem Grow.trans {a b c : World} (h : Grow a b) (k : Grow b c) : Grow a c :=
  ⟨Nat.le_trans h.size k.size, fun i hi => (k.block i (Nat.lt_of_lt_of_le hi h.size)).trans (h.block i hi)⟩
theorem Grow.of_below {w w' : World} (h : Below w.heap.size w w') : Grow w w' := ⟨h.size, h.block⟩

theorem lt_of_some {w : World} {b : Nat} {o : Obj} (h : w.heap[b]? = some o) : b < w.heap.size := by
  rcases Nat.lt_or_ge b w.heap.size with h' | h'
  · exact h'
  · simp [Array.getElem?_eq_none h'] at h

abbrev orP (X M : Nat → Prop) : Nat → Prop := fun b => X b ∨ M b

section
variable {cx : Cx} {w w' : World} {Y Y' : Nat → Prop} {S S' : St} {β β' : Nat → Nat} {α α' : Nat → Value}

/-- how owned slices pass from state to state -/
def ATr (S S' : St) (α α' : Nat → Value) : Prop := ∀ s z rows f, S.A s = some (z, rows, f) →
  ∃ rows' f', S'.A s = some (z, rows', f') ∧ (f' ≠ .dead → f ≠ .dead ∧ rows.length ≤ rows'.length ∧ (rows'.length = rows.length → α' s = α s))

theorem ATr.refl (S : St) (α : Nat → Value) : ATr S S α α := fun s z rows f h => ⟨rows, f, h, fun h => ⟨h, Nat.le_refl _, fun _ => rfl⟩⟩

theorem RelO.tr (hA : ATr S S' α α') {v s z n} (h : RelO S α v s z n) : RelO S' α' v s z n := by
  obtain ⟨rows, f, a, cap, hs, rfl, ha, ho⟩ := h
  obtain ⟨rows', f', hs', h'⟩ := hA s z rows f hs
  refine ⟨rows', f', a, cap, hs', rfl, ha, fun hf => ?_⟩
  obtain ⟨h1, h2, h3⟩ := h' hf
  obtain ⟨h4, h5⟩ := ho h1
  exact ⟨by omega, fun e => by rw [h3 (by omega)]; exact h5 (by omega)⟩

theorem RelC.tr (hD : ∀ u x, RelD cx w Y u x → RelD cx w' Y' u x) (hA : ATr S S' α α') {v : Value} {x : V} (h : RelC cx w Y S α v x) : RelC cx w' Y' S' α' v x := by
  cases x <;> first | exact hD _ _ h | exact RelO.tr hA h

/-- values stay what they are -/
theorem RelT.tr (hD : ∀ u x, RelD cx w Y u x → RelD cx w' Y' u x) (hA : ATr S S' α α') (hM : ∀ s, (S.μ s).isSome → (S'.μ s).isSome ∧ β' s = β s)
    {v : Value} {x : V} (h : RelT cx w Y S β α v x) : RelT cx w' Y' S' β' α' v x := by
  cases x with
  | own s z n => exact RelO.tr hA h
  | lref s o => obtain ⟨h1, rfl⟩ := h; obtain ⟨h2, h3⟩ := hM s h1; exact ⟨h2, by rw [h3]⟩
  | eref s i o m =>
    obtain ⟨z, rows, f, b, o', cap, hs, rfl, ho⟩ := h
    obtain ⟨rows', f', hs', h'⟩ := hA s z rows f hs
    refine ⟨z, rows', f', b, o', cap, hs', rfl, fun hf => ?_⟩
    obtain ⟨h1, h2, h3⟩ := h' hf
    obtain ⟨h4, h5⟩ := ho h1
    exact ⟨by omega, fun e => by rw [h3 (by omega)]; exact h5 (by omega)⟩
  | agg vs =>
    obtain ⟨cs, rfl, hl, hc⟩ := h
    refine ⟨cs, rfl, hl, fun i hi => ?_⟩
    obtain ⟨u, h1, h2, h3⟩ := hc i hi
    exact ⟨u, h1, h2, h3.tr hD hA⟩
  | tuple vs =>
    obtain ⟨cs, rfl, hl, hc⟩ := h
    refine ⟨cs, rfl, hl, fun i hi => ?_⟩
    obtain ⟨u, h1, h3⟩ := hc i hi
    exact ⟨u, h1, h3.tr hD hA⟩
  | _ => exact hD _ _ h

theorem ArrOK.tr {v : Value} {z : Nat} {rows : List (List V)} (h : ArrOK cx w Y v z rows) (hD : ∀ u x, RelD cx w Y u x → RelD cx w' Y' u x)
    (hb : ∀ b, hdr v = some b → w'.heap[b]? = w.heap[b]?) : ArrOK cx w' Y' v z rows := by
  refine ⟨h.len, ?_⟩
  rcases h.at_ with h | ⟨b, o, cap, c, e, rfl, h1, h2, h3, h5⟩
  · exact .inl h
  · refine .inr ⟨b, o, cap, c, e, rfl, (hb b rfl).trans h1, h2, h3, fun i j hi hj => ?_⟩
    obtain ⟨u, a, a', r⟩ := h5 i j hi hj
    exact ⟨u, a, a', hD _ _ r⟩

theorem ArrOK.lt {v : Value} {z : Nat} {rows : List (List V)} (h : ArrOK cx w Y v z rows) {b : Nat} (hb : hdr v = some b) : b < w.heap.size := by
  rcases h.at_ with ⟨rfl, -⟩ | ⟨b', o, cap, c, e, rfl, h1, -⟩
  · simp [hdr] at hb
  · simp only [hdr, Option.some.injEq] at hb; subst hb; exact lt_of_some h1
end

section
variable {cx : Cx} {B : Nat} {X : Nat → Prop} {S : St} {w w' : World} {β : Nat → Nat} {α : Nat → Value} {M M' : Nat → Prop}

theorem RelW.varLt (h : RelW cx B X S w β α M) {s : Nat} {cs : List V} {f : Bool} (hs : S.μ s = some (cs, f)) : β s < w.heap.size := by
  obtain ⟨_, _, _, c, e, h1, _⟩ := h.var s cs f hs
  exact lt_of_some h1

theorem grow_D (hg : Grow w w') (h2 : ∀ b, M' b → M b ∨ w.heap.size ≤ b) {u : Value} {x : V} (h : RelD cx w (orP X M) u x) : RelD cx w' (orP X M') u x :=
  h.mono hg.size (fun b hb _ => hg.block b hb) (fun b hb hn => by
    rintro (hX | hM)
    · exact hn (.inl hX)
    · rcases h2 b hM with h | h
      · exact hn (.inr h)
      · omega)

/-- memory grows -/
theorem RelW.grow (h : RelW cx B X S w β α M) (hg : Grow w w') (h1 : ∀ b, M b → M' b) (h2 : ∀ b, M' b → M b ∨ (w.heap.size ≤ b ∧ b < w'.heap.size)) :
    RelW cx B X S w' β α M' := by
  have hD : ∀ u x, RelD cx w (orP X M) u x → RelD cx w' (orP X M') u x := fun u x hr => grow_D hg (fun b hb => (h2 b hb).imp id (·.1)) hr
  refine ⟨h.xb, Nat.le_trans h.size hg.size, fun b hb => ?_, fun s cs f hs => ?_, h.varInj, fun s z rows f hs hf => ?_, h.arrInj, h.arrVar⟩
  · rcases h2 b hb with hb | hb
    · exact ⟨(h.m b hb).1, Nat.lt_of_lt_of_le (h.m b hb).2 hg.size⟩
    · exact ⟨Nat.le_trans h.size hb.1, hb.2⟩
  · have hlt := h.varLt hs
    obtain ⟨a1, a2, a3, c, e, a4, a5, a6⟩ := h.var s cs f hs
    refine ⟨a1, fun hf => h1 _ (a2 hf), fun hf => ⟨fun hm => ?_, (a3 hf).2⟩, c, e, (hg.block _ hlt).trans a4, a5, fun i hi => ?_⟩
    · rcases h2 _ hm with h' | h'
      · exact (a3 hf).1 h'
      · omega
    · obtain ⟨u, b1, b2, b3⟩ := a6 i hi
      exact ⟨u, b1, b2, b3.tr hD (ATr.refl _ _)⟩
  · obtain ⟨a1, a2⟩ := h.arr s z rows f hs hf
    refine ⟨a1.tr hD (fun b hb => hg.block _ (a1.lt hb)), fun b hb => ⟨(a2 b hb).1, fun hl => h1 _ ((a2 b hb).2.1 hl), fun hl hm => ?_⟩⟩
    rcases h2 _ hm with h' | h'
    · exact (a2 b hb).2.2 hl h'
    · have := a1.lt hb; omega

/-- a variable comes -/
theorem RelW.addVar (h : RelW cx B X S w β α M) {d b0 : Nat} {cs : List V} (hd : S.μ d = none) (hM : M b0)
    {c : Array Value} {e : TypeId} (hw : w.heap[b0]? = some (.cells c e (0, 0))) (hc : c.size = cs.length)
    (hcs : ∀ i, i < cs.length → ∃ u, c[i]? = some u ∧ u.oneCell' = true ∧ RelC cx w (orP X M) S α u (gv cs i))
    (hv : ∀ s, (S.μ s).isSome → β s ≠ b0) (ha : ∀ s z rows f, S.A s = some (z, rows, f) → f ≠ .dead → hdr (α s) ≠ some b0) :
    RelW cx B X { S with μ := upd S.μ d (some (cs, false)) } w (upd β d b0) α M := by
  have hne : ∀ s, (S.μ s).isSome → s ≠ d := fun s hs e => by rw [e, hd] at hs; simp at hs
  refine ⟨h.xb, h.size, h.m, fun s cs' f hs => ?_, fun s s' hs hs' he => ?_, h.arr, h.arrInj, fun s z rows f s' hs hf hs' => ?_⟩
  · by_cases hsd : s = d
    · subst hsd
      simp only [upd, if_true, Option.some.injEq, Prod.mk.injEq] at hs ⊢
      obtain ⟨rfl, rfl⟩ := hs
      exact ⟨(h.m b0 hM).1, fun _ => hM, fun hf => by simp at hf, c, e, hw, hc, hcs⟩
    · simp only [upd, if_neg hsd] at hs ⊢
      exact h.var s cs' f hs
  · simp only [upd] at hs hs' he
    by_cases h1 : s = d <;> by_cases h2 : s' = d
    · rw [h1, h2]
    · rw [if_pos h1, if_neg h2] at he; rw [if_neg h2] at hs'; exact absurd he.symm (hv _ hs')
    · rw [if_neg h1, if_pos h2] at he; rw [if_neg h1] at hs; exact absurd he (hv _ hs)
    · rw [if_neg h1, if_neg h2] at he; rw [if_neg h1] at hs; rw [if_neg h2] at hs'; exact h.varInj _ _ hs hs' he
  · simp only [upd] at hs' ⊢
    split
    · exact ha s z rows f hs hf
    · rename_i hn; rw [if_neg hn] at hs'; exact h.arrVar s z rows f s' hs hf hs'

/-- an owned array comes -/
theorem RelW.addArr (h : RelW cx B X S w β α M) {d z0 : Nat} {rows0 : List (List V)} {v0 : Value} (hd : S.A d = none)
    (ha : ArrOK cx w (orP X M) v0 z0 rows0) (hM : ∀ b, hdr v0 = some b → M b)
    (hv : ∀ s b, (S.μ s).isSome → hdr v0 = some b → β s ≠ b) (haa : ∀ s z rows f, S.A s = some (z, rows, f) → f ≠ .dead → ∀ b, hdr v0 = some b → hdr (α s) ≠ some b) :
    RelW cx B X { S with A := upd S.A d (some (z0, rows0, .live)) } w β (upd α d v0) M := by
  have hT : ATr S { S with A := upd S.A d (some (z0, rows0, .live)) } α (upd α d v0) := fun s z rows f hs => by
    have : s ≠ d := fun e => by rw [e, hd] at hs; simp at hs
    exact ⟨rows, f, by simp [upd, this, hs], fun hf => ⟨hf, Nat.le_refl _, fun _ => by simp [upd, this]⟩⟩
  refine ⟨h.xb, h.size, h.m, fun s cs' f hs => ?_, h.varInj, fun s z rows f hs hf => ?_, fun s s' z rows f z' rows' f' hs hf hs' hf' b hb hb' => ?_, fun s z rows f s' hs hf hs' => ?_⟩
  · obtain ⟨a1, a2, a3, c, e, a4, a5, a6⟩ := h.var s cs' f hs
    exact ⟨a1, a2, a3, c, e, a4, a5, fun i hi => by obtain ⟨u, b1, b2, b3⟩ := a6 i hi; exact ⟨u, b1, b2, b3.tr (fun _ _ h => h) hT⟩⟩
  · by_cases hsd : s = d
    · subst hsd
      simp only [upd, if_true, Option.some.injEq, Prod.mk.injEq] at hs ⊢
      obtain ⟨rfl, rfl, rfl⟩ := hs
      exact ⟨ha, fun b hb => ⟨(h.m b (hM b hb)).1, fun _ => hM b hb, fun hf => by simp at hf⟩⟩
    · simp only [upd, if_neg hsd] at hs ⊢
      exact h.arr s z rows f hs hf
  · simp only [upd] at hs hs' hb hb'
    by_cases h1 : s = d <;> by_cases h2 : s' = d
    · rw [h1, h2]
    · rw [if_pos h1] at hb; rw [if_neg h2] at hb' hs'; exact absurd hb' (haa s' z' rows' f' hs' hf' b hb)
    · rw [if_neg h1] at hb hs; rw [if_pos h2] at hb'; exact absurd hb (haa s z rows f hs hf b hb')
    · rw [if_neg h1] at hb hs; rw [if_neg h2] at hb' hs'; exact h.arrInj s s' z rows f z' rows' f' hs hf hs' hf' b hb hb'
  · simp only [upd] at hs ⊢
    split
    · intro hb; exact hv s' _ hs' hb rfl
    · rename_i hn; rw [if_neg hn] at hs; exact h.arrVar s z rows f s' hs hf hs'

/-- only block b0, that nobody but its owner may reach, has turned -/
structure Turn (b0 : Nat) (w w' : World) : Prop where
  size : w'.heap.size = w.heap.size
  block : ∀ b, b ≠ b0 → w'.heap[b]? = w.heap[b]?

theorem turn_D {b0 : Nat} (hg : Turn b0 w w') (hM : M b0) {u : Value} {x : V} (h : RelD cx w (orP X M) u x) : RelD cx w' (orP X M) u x :=
  h.mono (by rw [hg.size]; exact Nat.le_refl _) (fun b hb hn => hg.block b (fun e => hn (.inr (e ▸ hM)))) (fun _ _ h => h)

/-- a variable is written -/
theorem RelW.setVar (h : RelW cx B X S w β α M) {s : Nat} {cs cs' : List V} (hs : S.μ s = some (cs, false)) (hg : Turn (β s) w w')
    {c : Array Value} {e : TypeId} (hw : w'.heap[β s]? = some (.cells c e (0, 0))) (hc : c.size = cs'.length)
    (hcs : ∀ i, i < cs'.length → ∃ u, c[i]? = some u ∧ u.oneCell' = true ∧ RelC cx w (orP X M) S α u (gv cs' i)) :
    RelW cx B X { S with μ := upd S.μ s (some (cs', false)) } w' β α M := by
  have hM : M (β s) := (h.var s cs false hs).2.1 rfl
  have hD : ∀ u x, RelD cx w (orP X M) u x → RelD cx w' (orP X M) u x := fun u x hr => turn_D hg hM hr
  have hT : ATr S { S with μ := upd S.μ s (some (cs', false)) } α α := ATr.refl S α
  have hi : ∀ t, ((upd S.μ s (some (cs', false))) t).isSome → (S.μ t).isSome := fun t ht => by
    by_cases e : t = s
    · rw [e, hs]; rfl
    · simpa [upd, e] using ht
  refine ⟨h.xb, by rw [hg.size]; exact h.size, fun b hb => by rw [hg.size]; exact h.m b hb, fun t ct f ht => ?_, fun t t' ht ht' he => h.varInj _ _ (hi _ ht) (hi _ ht') he, fun t z rows f ht hf => ?_, h.arrInj, fun t z rows f t' ht hf ht' => h.arrVar t z rows f t' ht hf (hi _ ht')⟩
  · by_cases e' : t = s
    · subst e'
      simp only [upd, if_true, Option.some.injEq, Prod.mk.injEq] at ht
      obtain ⟨rfl, rfl⟩ := ht
      refine ⟨(h.var t cs false hs).1, fun _ => hM, fun hf => by simp at hf, c, e, hw, hc, fun i hi => ?_⟩
      obtain ⟨u, b1, b2, b3⟩ := hcs i hi
      exact ⟨u, b1, b2, b3.tr hD hT⟩
    · simp only [upd, if_neg e'] at ht
      obtain ⟨a1, a2, a3, c', e'', a4, a5, a6⟩ := h.var t ct f ht
      refine ⟨a1, a2, a3, c', e'', (hg.block _ (fun hb => e' (h.varInj t s (by simp [ht]) (by simp [hs]) hb))).trans a4, a5, fun i hi => ?_⟩
      obtain ⟨u, b1, b2, b3⟩ := a6 i hi
      exact ⟨u, b1, b2, b3.tr hD hT⟩
  · obtain ⟨a1, a2⟩ := h.arr t z rows f ht hf
    exact ⟨a1.tr hD (fun b hb => hg.block b (fun e' => h.arrVar t z rows f s ht hf (by simp [hs]) (e' ▸ hb))), a2⟩

theorem atr_set {s z : Nat} {rows rows' : List (List V)} {v' : Value} (hs : S.A s = some (z, rows, .live)) (hl : rows.length ≤ rows'.length)
    (he : rows'.length = rows.length → v' = α s) : ATr S { S with A := upd S.A s (some (z, rows', .live)) } α (upd α s v') := by
  intro t z' r f ht
  by_cases e : t = s
  · subst e
    rw [hs] at ht
    simp only [Option.some.injEq, Prod.mk.injEq] at ht
    obtain ⟨rfl, rfl, rfl⟩ := ht
    exact ⟨rows', .live, by simp [upd], fun _ => ⟨by simp, hl, fun e' => by simp [upd, he e']⟩⟩
  · exact ⟨r, f, by simp [upd, e, ht], fun hf => ⟨hf, Nat.le_refl _, fun _ => by simp [upd, e]⟩⟩

/-- an owned array is written, or grows: in its own block or in a new one -/
theorem RelW.setArr (h : RelW cx B X S w β α M) {s z : Nat} {rows rows' : List (List V)} (hs : S.A s = some (z, rows, .live))
    {v' : Value} (hw : (∀ b, some b ≠ hdr (α s) → b < w.heap.size → w'.heap[b]? = w.heap[b]?)) (hsz : w.heap.size ≤ w'.heap.size)
    (hh : hdr v' = hdr (α s) ∨ ∃ b, hdr v' = some b ∧ w.heap.size ≤ b ∧ b < w'.heap.size)
    (hl : rows.length ≤ rows'.length) (he : rows'.length = rows.length → v' = α s)
    (h1 : ∀ b, M b → M' b) (h2 : ∀ b, M' b → M b ∨ (w.heap.size ≤ b ∧ b < w'.heap.size)) (h3 : ∀ b, hdr v' = some b → M' b)
    (ha : ArrOK cx w' (orP X M') v' z rows') :
    RelW cx B X { S with A := upd S.A s (some (z, rows', .live)) } w' β (upd α s v') M' ∧ (∀ u x, RelD cx w (orP X M) u x → RelD cx w' (orP X M') u x) := by
  obtain ⟨p1, p2⟩ := h.arr s z rows .live hs (by simp)
  have hD : ∀ u x, RelD cx w (orP X M) u x → RelD cx w' (orP X M') u x := fun u x hr =>
    hr.mono hsz (fun b hb hn => hw b (fun e => hn (.inr ((p2 b e.symm).2.1 rfl))) hb) (fun b hb hn => by
      rintro (hX | hM)
      · exact hn (.inl hX)
      · rcases h2 b hM with h | h
        · exact hn (.inr h)
        · omega)
  have hT := atr_set (α := α) (v' := v') hs hl he
  have keep : ∀ t, (S.μ t).isSome → some (β t) ≠ hdr (α s) := fun t ht e => h.arrVar s z rows .live t hs (by simp) ht e.symm
  refine ⟨⟨h.xb, Nat.le_trans h.size hsz, fun b hb => ?_, fun t ct f ht => ?_, h.varInj, fun t z' r f ht hf => ?_, fun t t' z1 r1 f1 z2 r2 f2 ht hf ht' hf' b hb hb' => ?_, fun t z' r f t' ht hf ht' => ?_⟩, hD⟩
  · rcases h2 b hb with hb | hb
    · exact ⟨(h.m b hb).1, Nat.lt_of_lt_of_le (h.m b hb).2 hsz⟩
    · exact ⟨Nat.le_trans h.size hb.1, hb.2⟩
  · have hlt := h.varLt ht
    obtain ⟨a1, a2, a3, c', e'', a4, a5, a6⟩ := h.var t ct f ht
    refine ⟨a1, fun hf => h1 _ (a2 hf), fun hf => ⟨fun hm => ?_, (a3 hf).2⟩, c', e'', (hw _ (keep t (Option.isSome_iff_exists.2 ⟨_, ht⟩)) hlt).trans a4, a5, fun i hi => ?_⟩
    · rcases h2 _ hm with h' | h'
      · exact (a3 hf).1 h'
      · omega
    · obtain ⟨u, b1, b2, b3⟩ := a6 i hi
      exact ⟨u, b1, b2, b3.tr hD hT⟩
  · by_cases e : t = s
    · subst e
      simp only [upd, if_true, Option.some.injEq, Prod.mk.injEq] at ht ⊢
      obtain ⟨rfl, rfl, rfl⟩ := ht
      refine ⟨ha, fun b hb => ⟨?_, fun _ => h3 b hb, fun hf => by simp at hf⟩⟩
      rcases hh with hh | ⟨b', hb', h4, h5⟩
      · rw [hh] at hb; exact (p2 b hb).1
      · rw [hb'] at hb; simp only [Option.some.injEq] at hb; subst hb; exact Nat.le_trans h.size h4
    · simp only [upd, if_neg e] at ht ⊢
      obtain ⟨a1, a2⟩ := h.arr t z' r f ht hf
      refine ⟨a1.tr hD (fun b hb => hw b (fun e' => e (h.arrInj t s z' r f z rows .live ht hf hs (by simp) b hb e'.symm)) (a1.lt hb)),
        fun b hb => ⟨(a2 b hb).1, fun hl => h1 _ ((a2 b hb).2.1 hl), fun hl hm => ?_⟩⟩
      rcases h2 _ hm with h' | h'
      · exact (a2 b hb).2.2 hl h'
      · have := a1.lt hb; omega
  · simp only [upd] at ht ht' hb hb'
    have other : ∀ t z1 r1 f1, t ≠ s → S.A t = some (z1, r1, f1) → f1 ≠ .dead → hdr (α t) = some b → hdr v' = some b → False := fun t z1 r1 f1 hne ht hf hb hv => by
      rcases hh with hh | ⟨b', hb', h4, h5⟩
      · rw [hh] at hv; exact hne (h.arrInj t s z1 r1 f1 z rows .live ht hf hs (by simp) b hb hv)
      · rw [hb'] at hv; simp only [Option.some.injEq] at hv; subst hv
        have := (h.arr t z1 r1 f1 ht hf).1.lt hb; omega
    by_cases e1 : t = s <;> by_cases e2 : t' = s
    · rw [e1, e2]
    · rw [if_pos e1] at hb; rw [if_neg e2] at hb' ht'; exact (other t' z2 r2 f2 e2 ht' hf' hb' hb).elim
    · rw [if_neg e1] at hb ht; rw [if_pos e2] at hb'; exact (other t z1 r1 f1 e1 ht hf hb hb').elim
    · rw [if_neg e1] at hb ht; rw [if_neg e2] at hb' ht'; exact h.arrInj t t' z1 r1 f1 z2 r2 f2 ht hf ht' hf' b hb hb'
  · simp only [upd] at ht ⊢
    split
    · intro hb
      rcases hh with hh | ⟨b', hb', h4, h5⟩
      · rw [hh] at hb; exact keep t' ht' hb.symm
      · rw [hb'] at hb; simp only [Option.some.injEq] at hb
        obtain ⟨x, hx⟩ := Option.isSome_iff_exists.1 ht'
        have := h.varLt (cs := x.1) (f := x.2) hx
        omega
    · rename_i hn; rw [if_neg hn] at ht; exact h.arrVar t z' r f t' ht hf ht'

theorem sub_D (h1 : ∀ b, M' b → M b) {u : Value} {x : V} (h : RelD cx w (orP X M) u x) : RelD cx w (orP X M') u x :=
  h.mono (Nat.le_refl _) (fun _ _ _ => rfl) (fun b _ hn hm => hn (hm.imp id (h1 b)))

/-- a variable is written no more -/
theorem RelW.frzVar (h : RelW cx B X S w β α M) {s : Nat} {cs : List V} {f : Bool} (hs : S.μ s = some (cs, f)) (hd : cs.all V.datC = true) :
    RelW cx B X { S with μ := upd S.μ s (some (cs, true)) } w β α (fun b => M b ∧ b ≠ β s) := by
  have hD : ∀ u x, RelD cx w (orP X M) u x → RelD cx w (orP X (fun b => M b ∧ b ≠ β s)) u x := fun u x hr => sub_D (fun _ hb => hb.1) hr
  have hT : ATr S { S with μ := upd S.μ s (some (cs, true)) } α α := ATr.refl S α
  have hi : ∀ t, ((upd S.μ s (some (cs, true))) t).isSome → (S.μ t).isSome := fun t ht => by
    by_cases e : t = s
    · rw [e, hs]; rfl
    · simpa [upd, e] using ht
  refine ⟨h.xb, h.size, fun b hb => h.m b hb.1, fun t ct f' ht => ?_, fun t t' ht ht' he => h.varInj _ _ (hi _ ht) (hi _ ht') he, fun t z rows f' ht hf => ?_, h.arrInj, fun t z rows f t' ht hf ht' => h.arrVar t z rows f t' ht hf (hi _ ht')⟩
  · by_cases e' : t = s
    · subst e'
      simp only [upd, if_true, Option.some.injEq, Prod.mk.injEq] at ht
      obtain ⟨rfl, rfl⟩ := ht
      obtain ⟨a1, a2, a3, c', e'', a4, a5, a6⟩ := h.var t cs f hs
      refine ⟨a1, fun hf => by simp at hf, fun _ => ⟨fun hm => hm.2 rfl, hd⟩, c', e'', a4, a5, fun i hi => ?_⟩
      obtain ⟨u, b1, b2, b3⟩ := a6 i hi
      exact ⟨u, b1, b2, b3.tr hD hT⟩
    · simp only [upd, if_neg e'] at ht
      obtain ⟨a1, a2, a3, c', e'', a4, a5, a6⟩ := h.var t ct f' ht
      refine ⟨a1, fun hf => ⟨a2 hf, fun hb => e' (h.varInj t s (by simp [ht]) (by simp [hs]) hb)⟩, fun hf => ⟨fun hm => (a3 hf).1 hm.1, (a3 hf).2⟩, c', e'', a4, a5, fun i hi => ?_⟩
      obtain ⟨u, b1, b2, b3⟩ := a6 i hi
      exact ⟨u, b1, b2, b3.tr hD hT⟩
  · obtain ⟨a1, a2⟩ := h.arr t z rows f' ht hf
    exact ⟨a1.tr hD (fun b hb => rfl), fun b hb => ⟨(a2 b hb).1, fun hl => ⟨(a2 b hb).2.1 hl, fun e' => h.arrVar t z rows f' s ht hf (by simp [hs]) (e' ▸ hb)⟩, fun hl hm => (a2 b hb).2.2 hl hm.1⟩⟩

/-- an array is written no more, or is dead -/
theorem RelW.frzArr (h : RelW cx B X S w β α M) {s z : Nat} {rows rows' : List (List V)} {f f' : Fz} (hs : S.A s = some (z, rows, f))
    (hf' : (f' = .frz ∧ f = .live ∧ rows' = rows) ∨ f' = .dead) :
    RelW cx B X { S with A := upd S.A s (some (z, rows', f')) } w β α (fun b => M b ∧ (f = .live → hdr (α s) ≠ some b)) := by
  have hD : ∀ u x, RelD cx w (orP X M) u x → RelD cx w (orP X (fun b => M b ∧ (f = .live → hdr (α s) ≠ some b))) u x := fun u x hr => sub_D (fun _ hb => hb.1) hr
  have hT : ATr S { S with A := upd S.A s (some (z, rows', f')) } α α := by
    intro t z' r f1 ht
    by_cases e : t = s
    · subst e
      rw [hs] at ht
      simp only [Option.some.injEq, Prod.mk.injEq] at ht
      obtain ⟨rfl, rfl, rfl⟩ := ht
      refine ⟨rows', f', by simp [upd], fun hn => ?_⟩
      rcases hf' with ⟨h1, h2, h3⟩ | h1
      · exact ⟨by simp [h2], by simp [h3], fun _ => rfl⟩
      · exact absurd h1 hn
    · exact ⟨r, f1, by simp [upd, e, ht], fun hf => ⟨hf, Nat.le_refl _, fun _ => rfl⟩⟩
  have hi : ∀ t z' r f1, (upd S.A s (some (z, rows', f'))) t = some (z', r, f1) → f1 ≠ .dead → ∃ f2, S.A t = some (z', r, f2) ∧ f2 ≠ .dead ∧ (t ≠ s → f2 = f1) ∧ (t = s → f2 = .live ∧ f = .live ∧ f1 = .frz) := by
    intro t z' r f1 ht hn
    by_cases e : t = s
    · subst e
      simp only [upd, if_true, Option.some.injEq, Prod.mk.injEq] at ht
      obtain ⟨rfl, rfl, rfl⟩ := ht
      rcases hf' with ⟨h1, h2, h3⟩ | h1
      · subst h3; exact ⟨f, hs, by simp [h2], fun h => absurd rfl h, fun _ => ⟨h2, h2, h1⟩⟩
      · exact absurd h1 hn
    · exact ⟨f1, by simpa [upd, e] using ht, hn, fun _ => rfl, fun h => absurd h e⟩
  refine ⟨h.xb, h.size, fun b hb => h.m b hb.1, fun t ct f1 ht => ?_, h.varInj, fun t z' r f1 ht hf => ?_, fun t t' z1 r1 f1 z2 r2 f2 ht hf ht' hf' b hb hb' => ?_, fun t z' r f1 t' ht hf ht' => ?_⟩
  · obtain ⟨a1, a2, a3, c', e'', a4, a5, a6⟩ := h.var t ct f1 ht
    refine ⟨a1, fun hf => ⟨a2 hf, fun hl hb => h.arrVar s z rows f t hs (by simp [hl]) (Option.isSome_iff_exists.2 ⟨_, ht⟩) hb⟩, fun hf => ⟨fun hm => (a3 hf).1 hm.1, (a3 hf).2⟩, c', e'', a4, a5, fun i hi => ?_⟩
    obtain ⟨u, b1, b2, b3⟩ := a6 i hi
    exact ⟨u, b1, b2, b3.tr hD hT⟩
  · obtain ⟨f2, h1, h2, h3, h4⟩ := hi t z' r f1 ht hf
    obtain ⟨a1, a2⟩ := h.arr t z' r f2 h1 h2
    refine ⟨a1.tr hD (fun _ _ => rfl), fun b hb => ⟨(a2 b hb).1, fun hl => ?_, fun hl hm => ?_⟩⟩
    · by_cases e : t = s
      · rw [(h4 e).2.2] at hl; simp at hl
      · refine ⟨(a2 b hb).2.1 ((h3 e).trans hl), fun hl' hb' => ?_⟩
        exact e (h.arrInj t s z' r f2 z rows f h1 h2 hs (by simp [hl']) b hb hb')
    · by_cases e : t = s
      · subst e; exact hm.2 (h4 rfl).2.1 hb
      · exact (a2 b hb).2.2 ((h3 e).trans hl) hm.1
  · obtain ⟨g1, p1, p2, -⟩ := hi t z1 r1 f1 ht hf
    obtain ⟨g2, q1, q2, -⟩ := hi t' z2 r2 f2 ht' hf'
    exact h.arrInj t t' z1 r1 g1 z2 r2 g2 p1 p2 q1 q2 b hb hb'
  · obtain ⟨g1, p1, p2, -⟩ := hi t z' r f1 ht hf
    exact h.arrVar t z' r g1 t' p1 p2 ht'

end
end Sg
