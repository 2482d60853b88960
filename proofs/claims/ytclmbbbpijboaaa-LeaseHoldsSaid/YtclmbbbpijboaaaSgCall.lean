/- Calls: what a call of a function gives, how its results are taken; closures. -/
import Derived.Test.YtclmbbbpijboaaaSgApp
namespace Sg
open Go Go.RowKit
set_option linter.unusedSimpArgs false
set_option linter.unusedVariables false

/-- a call's result, a part of it in memory of its own -/
def ROut (cx : Cx) (w w' : World) (X : Nat → Prop) (own : Option Nat) (v : Value) (r : V) : Prop :=
  match own with
  | none => RelD cx w' X v r
  | some j => ∃ hv z rows, ∃ N : Nat → Prop, (∀ b, N b → w.heap.size ≤ b ∧ b < w'.heap.size) ∧ (∀ b, hdr hv = some b → N b) ∧ ArrOK cx w' (orP X N) hv z rows ∧
      ((r = .slice z rows ∧ v = hv) ∨ ∃ vs, ∃ cs : Array Value, r = .tuple vs ∧ v = .tuple cs ∧ cs.size = vs.length ∧ j < vs.length ∧ vs[j]? = some (.slice z rows) ∧ cs[j]? = some hv ∧
        ∀ i, i < vs.length → i ≠ j → ∃ u, cs[i]? = some u ∧ RelD cx w' (orP X N) u (gv vs i))

/-- the function can be entered -/
def Ent (P : Program) (f : FuncId) : Prop := ∃ fn, P.funcs[f]? = some fn ∧ (fn.name == "runtime.NumGoroutine") = false ∧ fn.body.isNone = false

/-- a function's contract at these arguments -/
def Ctr (P : Program) (cx : Cx) (own : Option Nat) (f : Nat) (args : List V) (r : V) : Prop :=
  Ent P (cx.fm f) ∧ ∀ (w : World) (X : Nat → Prop) (vs : Array Value), (∀ b, X b → b < w.heap.size) → vs.size = args.length →
    (∀ i, i < args.length → ∃ u, vs[i]? = some u ∧ RelD cx w X u (gv args i)) →
    Calls P (cx.fm f) vs w fun e w' => ∃ v, e = .returned v ∧ Below w.heap.size w w' ∧ ROut cx w w' X own v r

theorem ArrOK.slice {cx : Cx} {w : World} {Y : Nat → Prop} {v : Value} {z : Nat} {rows : List (List V)} (h : ArrOK cx w Y v z rows) (hY : ∀ b, hdr v = some b → ¬ Y b) : RelD cx w Y v (.slice z rows) := by
  rcases h.at_ with ⟨rfl, rfl⟩ | ⟨b, o, cap, c, e, rfl, h1, h2, h3, h4⟩
  · exact .nilslice none z
  · exact slice_mk (lt_of_some h1) (hY b rfl) h1 h2 h.len h4 rfl

theorem ROut.data {cx : Cx} {w w' : World} {X : Nat → Prop} {own : Option Nat} {v : Value} {r : V} (h : ROut cx w w' X own v r) (hX : ∀ b, X b → b < w.heap.size) : RelD cx w' X v r := by
  cases own with
  | none => exact h
  | some j =>
    obtain ⟨hv, z, rows, N, hN, hh, ha, hr⟩ := h
    have hD : ∀ u x, RelD cx w' (orP X N) u x → RelD cx w' X u x := fun u x hr => hr.mono (Nat.le_refl _) (fun _ _ _ => rfl) (fun b _ hn hx => hn (.inl hx))
    have ha' : ArrOK cx w' X hv z rows := ha.tr hD (fun _ _ => rfl)
    have hs : RelD cx w' X hv (.slice z rows) := ha'.slice (fun b hb hx => by have := (hN b (hh b hb)).1; have := hX b hx; omega)
    rcases hr with ⟨rfl, rfl⟩ | ⟨vs, cs, rfl, rfl, hl, hj, hvj, hcj, hoth⟩
    · exact hs
    · have : ∀ i, i < vs.length → ∃ u, cs[i]? = some u ∧ RelD cx w' X u (gv vs i) := fun i hi => by
        by_cases e : i = j
        · subst e; exact ⟨hv, hcj, by simpa [gv, hvj] using hs⟩
        · obtain ⟨u, a, b⟩ := hoth i hi e; exact ⟨u, a, hD _ _ b⟩
      obtain ⟨u, hu⟩ := pickf this
      exact .tuple cs vs u hl (fun i hi => (hu i hi).1) (fun i hi => (hu i hi).2)

section
variable {P : Program} {cx : Cx} {B : Nat} {X : Nat → Prop} {S : St} {w w' : World} {β : Nat → Nat} {α : Nat → Value} {M : Nat → Prop}

/-- a call's result becomes the frame's own -/
theorem adopt_ok {S1 : St} (h : RelW cx B X S w β α M) {d : Nat} {own own' : Option Nat} {v : Value} {r r1 : V} (hb : Below w.heap.size w w') (ho : own = none ∨ own = own')
    (hr : ROut cx w w' (orP X M) own' v r) (hXM : ∀ b, orP X M b → b < w.heap.size) (had : adopt d S own r = some (r1, S1)) : OpPost cx B X S w β α M S1 r1 v w' := by
  have hg := Grow.of_below hb
  have hbB : Below B w w' := hb.mono h.size
  unfold adopt at had
  cases own with
  | none =>
    simp only [Option.some.injEq, Prod.mk.injEq] at had
    obtain ⟨rfl, rfl⟩ := had
    have hw := h.grow hg (M' := M) (fun _ h => h) (fun _ h => .inl h)
    exact ⟨β, α, M, hw, fun u x hu => RelT.tr (fun _ _ hr => grow_D hg (fun _ h => .inl h) hr) (ATr.refl S α) (fun s hs => ⟨hs, rfl⟩) hu, .of_data (hr.data hXM), hbB⟩
  | some j =>
    obtain rfl : own' = some j := by rcases ho with h | h <;> simp_all
    obtain ⟨hv, z, rows, N, hN, hh, ha, hr⟩ := hr
    simp only at had
    split at had
    · simp at had
    · rename_i hA
      have h2 : ∀ b, (M b ∨ N b) → M b ∨ (w.heap.size ≤ b ∧ b < w'.heap.size) := fun b hb => hb.imp id (hN b)
      have hw := h.grow hg (M' := fun b => M b ∨ N b) (fun _ h => .inl h) h2
      have hD : ∀ u x, RelD cx w (orP X M) u x → RelD cx w' (orP X (fun b => M b ∨ N b)) u x := fun _ _ hr => grow_D hg (fun b hb => (h2 b hb).imp id (·.1)) hr
      have hE : ∀ u x, RelD cx w' (orP (orP X M) N) u x → RelD cx w' (orP X (fun b => M b ∨ N b)) u x := fun _ _ hr => hr.mono (Nat.le_refl _) (fun _ _ _ => rfl) (fun b _ hn hx => hn (by
        rcases hx with hx | hx | hx
        · exact .inl (.inl hx)
        · exact .inl (.inr hx)
        · exact .inr hx))
      have ha' : ArrOK cx w' (orP X (fun b => M b ∨ N b)) hv z rows := ha.tr hE (fun _ _ => rfl)
      have hadd := hw.addArr (d := d) (z0 := z) (rows0 := rows) (v0 := hv) hA ha' (fun b hb => .inr (hh b hb))
        (fun s b hs hb he => by
          obtain ⟨x, hx⟩ := Option.isSome_iff_exists.1 hs
          have := h.varLt (cs := x.1) (f := x.2) hx
          have := (hN b (hh b hb)).1; omega)
        (fun s z' r f hs hf b hb hs' => by
          have := (h.arr s z' r f hs hf).1.lt hs'
          have := (hN b (hh b hb)).1; omega)
      have hT : ATr S { S with A := upd S.A d (some (z, rows, .live)) } α (upd α d hv) := fun s z' r f hs => by
        have : s ≠ d := fun e => by rw [e, hA] at hs; simp at hs
        exact ⟨r, f, by simp [upd, this, hs], fun hf => ⟨hf, Nat.le_refl _, fun _ => by simp [upd, this]⟩⟩
      have hO : RelO { S with A := upd S.A d (some (z, rows, .live)) } (upd α d hv) hv d z rows.length := by
        rcases ha.at_ with ⟨rfl, rfl⟩ | ⟨b, o, cap, c, e, rfl, h1, h2, h3, h4⟩
        · exact ⟨[], .live, none, 0, by simp [upd], rfl, by simp, fun _ => ⟨by simp, fun _ => by simp [upd]⟩⟩
        · exact ⟨rows, .live, some ⟨b, o, none⟩, cap, by simp [upd], rfl, fun _ => ⟨b, o, rfl⟩, fun _ => ⟨Nat.le_refl _, fun _ => by simp [upd]⟩⟩
      rcases hr with ⟨rfl, rfl⟩ | ⟨vs, cs, rfl, rfl, hl, hj, hvj, hcj, hoth⟩
      · simp only [Option.some.injEq, Prod.mk.injEq] at had
        obtain ⟨rfl, rfl⟩ := had
        exact ⟨β, _, _, hadd, fun u x hu => RelT.tr hD hT (fun s hs => ⟨hs, rfl⟩) hu, hO, hbB⟩
      · simp only [hvj, Option.some.injEq, Prod.mk.injEq] at had
        obtain ⟨rfl, rfl⟩ := had
        refine ⟨β, _, _, hadd, fun u x hu => RelT.tr hD hT (fun s hs => ⟨hs, rfl⟩) hu, ⟨cs, rfl, by simpa using hl, fun i hi => ?_⟩, hbB⟩
        simp only [List.length_set] at hi
        by_cases e : i = j
        · subst e
          refine ⟨hv, hcj, ?_⟩
          have : gv (vs.set i (.own d z rows.length)) i = .own d z rows.length := by simp [gv, List.getD_eq_getElem?_getD, hi]
          rw [this]; exact hO
        · obtain ⟨u, a, b⟩ := hoth i hi e
          refine ⟨u, a, ?_⟩
          have : gv (vs.set j (.own d z rows.length)) i = gv vs i := by simp [gv, List.getD_eq_getElem?_getD, List.getElem?_set, Ne.symm e]
          rw [this]; exact .of_data (hE _ _ b)

/-- what is data -/
theorem toDC_ok (h : RelW cx B X S w β α M) {v : Value} {x y : V} (hx : RelC cx w (orP X M) S α v x) (hy : toDC S.A x = some y) {Y : Nat → Prop}
    (hY : ∀ b, Y b → X b ∨ M b) (hs : ∀ s ∈ sitesC x, ∀ b, hdr (α s) = some b → (∃ z rows f, S.A s = some (z, rows, f) ∧ f ≠ .dead) → ¬ Y b) : RelD cx w Y v y := by
  have hD : ∀ u x, RelD cx w (orP X M) u x → RelD cx w Y u x := fun u x hr => hr.mono (Nat.le_refl _) (fun _ _ _ => rfl) (fun b _ hn hx => hn (hY b hx))
  unfold toDC at hy
  split at hy
  · rename_i s z n
    split at hy
    · rename_i z' rows f hA
      split at hy <;> simp only [Option.some.injEq, reduceCtorEq] at hy
      rename_i hc
      obtain ⟨rfl, hn, hf⟩ := hc
      subst hy
      obtain ⟨rows', f', a, cap, hA', rfl, ha, ho⟩ := hx
      rw [hA] at hA'
      simp only [Option.some.injEq, Prod.mk.injEq] at hA'
      obtain ⟨-, rfl, rfl⟩ := hA'
      have := (h.arr s z' rows f hA hf).1.tr hD (fun _ _ => rfl)
      rw [← (ho hf).2 hn] at this
      refine this.slice (fun b hb => ?_)
      rw [(ho hf).2 hn] at hb
      exact hs s (by simp [sitesC]) b hb ⟨z', rows, f, hA, hf⟩
    · simp at hy
  · split at hy <;> simp only [Option.some.injEq, reduceCtorEq] at hy
    rename_i hd
    subst hy
    exact hD _ _ (hx.data hd)

theorem mapO_some {α β : Type} {f : α → Option β} : ∀ {l : List α} {r : List β}, mapO f l = some r → r.length = l.length ∧ ∀ (i : Nat) (x : α), l[i]? = some x → ∃ y, r[i]? = some y ∧ f x = some y
  | [], r, h => by simp only [mapO, Option.some.injEq] at h; subst h; exact ⟨rfl, fun i x hx => by simp at hx⟩
  | a :: l, r, h => by
    simp only [mapO, Option.bind_eq_some_iff, Option.some.injEq] at h
    obtain ⟨y, hy, ys, hys, rfl⟩ := h
    obtain ⟨h1, h2⟩ := mapO_some hys
    refine ⟨by simp [h1], fun i x hx => ?_⟩
    cases i with
    | zero => simp at hx; subst hx; exact ⟨y, rfl, hy⟩
    | succ i => simpa using h2 i x (by simpa using hx)

theorem dat_one {v : Value} {x : V} (h : RelC cx w X S α v x) : RelC cx w X S α v x := h

theorem toDC_one (h : RelW cx B X S w β α M) {v : Value} {x y : V} (hx : RelC cx w (orP X M) S α v x) (hv : v.oneCell' = true) (hy : toDC S.A x = some y) : y.datC = true := by
  unfold toDC at hy
  split at hy
  · split at hy
    · split at hy <;> simp only [Option.some.injEq, reduceCtorEq] at hy
      subst hy; rfl
    · simp at hy
  · split at hy <;> simp only [Option.some.injEq, reduceCtorEq] at hy
    subst hy; assumption

theorem toD_ok (h : RelW cx B X S w β α M) {v : Value} {x y : V} (hx : RelT cx w (orP X M) S β α v x) (hy : toD S.A x = some y) {Y : Nat → Prop}
    (hY : ∀ b, Y b → X b ∨ M b) (hs : ∀ s ∈ sitesV x, ∀ b, hdr (α s) = some b → (∃ z rows f, S.A s = some (z, rows, f) ∧ f ≠ .dead) → ¬ Y b) : RelD cx w Y v y := by
  cases x with
  | agg vs =>
    simp only [toD, Option.map_eq_some_iff] at hy
    obtain ⟨ys, hys, rfl⟩ := hy
    obtain ⟨cs, rfl, hl, hc⟩ := hx
    obtain ⟨h1, h2⟩ := mapO_some hys
    have : ∀ i, i < ys.length → ∃ u, cs[i]? = some u ∧ u.oneCell' = true ∧ RelD cx w Y u (gv ys i) := fun i hi => by
      have hi' : i < vs.length := by omega
      obtain ⟨u, a, b, c⟩ := hc i hi'
      obtain ⟨y, hy1, hy2⟩ := h2 i vs[i] (by simp [hi'])
      have hg : gv vs i = vs[i] := by simp [gv, hi']
      rw [hg] at c
      have hgy : gv ys i = y := by simp [gv, hy1]
      rw [hgy]
      refine ⟨u, a, b, toDC_ok h c hy2 hY (fun s hs' => hs s ?_)⟩
      simp only [sitesV, List.mem_flatMap]
      exact ⟨vs[i], by simp, hs'⟩
    obtain ⟨u, hu⟩ := pickf this
    exact .agg cs ys u (by omega) (fun i hi => ⟨(hu i hi).1, (hu i hi).2.1⟩) (fun i hi => (hu i hi).2.2)
  | tuple vs => simp [toD, toDC, V.datC] at hy
  | lref s o => simp [toD, toDC, V.datC] at hy
  | eref s i o n => simp [toD, toDC, V.datC] at hy
  | own s z n => exact toDC_ok (x := .own s z n) h hx hy hY (fun s' hs' => hs s' (by simpa [sitesV] using hs'))
  | undef => exact toDC_ok (x := .undef) h hx hy hY (fun s' hs' => by simp [sitesC] at hs')
  | bool b => exact toDC_ok (x := .bool b) h hx hy hY (fun s' hs' => by simp [sitesC] at hs')
  | int k n => exact toDC_ok (x := .int k n) h hx hy hY (fun s' hs' => by simp [sitesC] at hs')
  | str s => exact toDC_ok (x := .str s) h hx hy hY (fun s' hs' => by simp [sitesC] at hs')
  | slice z r => exact toDC_ok (x := .slice z r) h hx hy hY (fun s' hs' => by simp [sitesC] at hs')
  | func f c => exact toDC_ok (x := .func f c) h hx hy hY (fun s' hs' => by simp [sitesC] at hs')
  | cptr c o => exact toDC_ok (x := .cptr c o) h hx hy hY (fun s' hs' => by simp [sitesC] at hs')
  | iface t v => exact toDC_ok (x := .iface t v) h hx hy hY (fun s' hs' => by simp [sitesC] at hs')
  | niface => exact toDC_ok (x := .niface) h hx hy hY (fun s' hs' => by simp [sitesC] at hs')
  | nslice z => exact toDC_ok (x := .nslice z) h hx hy hY (fun s' hs' => by simp [sitesC] at hs')
  | xslice z r => exact toDC_ok (x := .xslice z r) h hx hy hY (fun s' hs' => by simp [sitesC] at hs')


theorem upd_same {α : Type} (f : Nat → α) (k : Nat) (v : α) (h : f k = v) : upd f k v = f := by
  funext i; simp only [upd]; split
  · rename_i e; rw [e, h]
  · rfl

/-- arrays are let go -/
theorem frzA_ok : ∀ (l : List Nat) {S : St} {M : Nat → Prop}, RelW cx B X S w β α M → ∃ M', RelW cx B X { S with A := frzA S.A l } w β α M' ∧ (∀ b, M' b → M b) ∧ ATr S { S with A := frzA S.A l } α α ∧
    ∀ s ∈ l, ∀ b, hdr (α s) = some b → (∃ z rows f, S.A s = some (z, rows, f) ∧ f ≠ .dead) → ¬ M' b
  | [], S, M, h => ⟨M, h, fun _ h => h, ATr.refl S α, fun s hs => by simp at hs⟩
  | s :: l, S, M, h => by
    have key : ∀ (A1 : Nat → Option (Nat × List (List V) × Fz)) (M1 : Nat → Prop), A1 = upd S.A s ((S.A s).map fun (z, rows, f) => (z, rows, if f = .live then .frz else f)) →
        RelW cx B X { S with A := A1 } w β α M1 → (∀ b, M1 b → M b) → ATr S { S with A := A1 } α α → (∀ b, hdr (α s) = some b → (∃ z rows f, S.A s = some (z, rows, f) ∧ f ≠ .dead) → ¬ M1 b) →
        ∃ M', RelW cx B X { S with A := frzA S.A (s :: l) } w β α M' ∧ (∀ b, M' b → M b) ∧ ATr S { S with A := frzA S.A (s :: l) } α α ∧
          ∀ s' ∈ s :: l, ∀ b, hdr (α s') = some b → (∃ z rows f, S.A s' = some (z, rows, f) ∧ f ≠ .dead) → ¬ M' b := by
      intro A1 M1 hA1 hr hsub hT hs
      have e : frzA S.A (s :: l) = frzA A1 l := by rw [hA1]; rfl
      obtain ⟨M', h1, h2, h3, h4⟩ := frzA_ok l hr
      rw [e]
      refine ⟨M', h1, fun b hb => hsub b (h2 b hb), fun t z rows f ht => ?_, fun s' hs' b hb hex hm => ?_⟩
      · obtain ⟨r1, f1, a1, a2⟩ := hT t z rows f ht
        obtain ⟨r2, f2, b1, b2⟩ := h3 t z r1 f1 a1
        refine ⟨r2, f2, b1, fun hf => ?_⟩
        obtain ⟨c1, c2, c3⟩ := b2 hf
        obtain ⟨d1, d2, d3⟩ := a2 c1
        exact ⟨d1, by omega, fun _ => rfl⟩
      · rcases List.mem_cons.1 hs' with rfl | hs'
        · exact hs b hb hex (h2 b hm)
        · refine h4 s' hs' b hb ?_ hm
          obtain ⟨z, rows, f, e1, e2⟩ := hex
          by_cases e' : s' = s
          · subst e'
            refine ⟨z, rows, if f = .live then .frz else f, by simp [hA1, upd, e1], ?_⟩
            split
            · simp
            · exact e2
          · exact ⟨z, rows, f, by simp [hA1, upd, e', e1], e2⟩
    cases hA : S.A s with
    | none =>
      exact key S.A M (by rw [hA, upd_same _ _ _ (by simp [hA])]) h (fun _ h => h) (ATr.refl S α) (fun b _ hex => by obtain ⟨z, rows, f, e, _⟩ := hex; simp [hA] at e)
    | some x =>
      obtain ⟨z, rows, f⟩ := x
      by_cases hf : f = .live
      · subst hf
        have hfr := h.frzArr (f' := .frz) (rows' := rows) hA (.inl ⟨rfl, rfl, rfl⟩)
        refine key _ _ (by rw [hA]; rfl) hfr (fun _ h => h.1) (fun t z' r f1 ht => ?_) (fun b hb _ hm => hm.2 rfl hb)
        by_cases e : t = s
        · subst e
          rw [hA] at ht
          simp only [Option.some.injEq, Prod.mk.injEq] at ht
          obtain ⟨rfl, rfl, rfl⟩ := ht
          exact ⟨rows, .frz, by simp [upd], fun _ => ⟨by simp, Nat.le_refl _, fun _ => rfl⟩⟩
        · exact ⟨r, f1, by simp [upd, e, ht], fun hf => ⟨hf, Nat.le_refl _, fun _ => rfl⟩⟩
      · refine key S.A M (by rw [hA, upd_same _ _ _ (by simp [hA, hf])]) h (fun _ h => h) (ATr.refl S α) (fun b hb hex hm => ?_)
        obtain ⟨z', rows', f', e1, e2⟩ := hex
        rw [hA] at e1
        simp only [Option.some.injEq, Prod.mk.injEq] at e1
        obtain ⟨rfl, rfl, rfl⟩ := e1
        have hfz : f = .frz := by cases f <;> simp_all
        exact ((h.arr s z rows f hA e2).2 b hb).2.2 hfz hm

/-- variables are let go -/
theorem frzM_ok : ∀ (l : List Nat) {S : St} {M : Nat → Prop}, RelW cx B X S w β α M → l.all (datSite S.μ) = true →
    ∃ M', RelW cx B X { S with μ := frzM S.μ l } w β α M' ∧ (∀ b, M' b → M b) ∧ (∀ s, (S.μ s).isSome → (frzM S.μ l s).isSome) ∧
    ∀ s ∈ l, (S.μ s).isSome → ¬ M' (β s)
  | [], S, M, h, _ => ⟨M, h, fun _ h => h, fun _ h => h, fun s hs => by simp at hs⟩
  | s :: l, S, M, h, hd => by
    simp only [List.all_cons, Bool.and_eq_true] at hd
    have key : ∀ (μ1 : Nat → Option (List V × Bool)) (M1 : Nat → Prop), μ1 = upd S.μ s ((S.μ s).map fun (cs, _) => (cs, true)) →
        RelW cx B X { S with μ := μ1 } w β α M1 → (∀ b, M1 b → M b) → ((S.μ s).isSome → ¬ M1 (β s)) →
        ∃ M', RelW cx B X { S with μ := frzM S.μ (s :: l) } w β α M' ∧ (∀ b, M' b → M b) ∧ (∀ t, (S.μ t).isSome → (frzM S.μ (s :: l) t).isSome) ∧ ∀ t ∈ s :: l, (S.μ t).isSome → ¬ M' (β t) := by
      intro μ1 M1 hμ hr hsub hs
      have e : frzM S.μ (s :: l) = frzM μ1 l := by rw [hμ]; rfl
      have hsame : ∀ t, (S.μ t).isSome = (μ1 t).isSome := fun t => by
        rw [hμ]; simp only [upd]; split
        · rename_i e; rw [e]; simp
        · rfl
      obtain ⟨M', h1, h2, h3, h4⟩ := frzM_ok l hr (by
        rw [List.all_eq_true] at hd ⊢
        intro t ht
        have := hd.2 t ht
        simp only [datSite] at this ⊢
        simp only [hμ, upd]
        split
        · rename_i m hm
          split at hm
          · rename_i e
            subst e
            cases hx : S.μ t with
            | none => simp [hx] at hm
            | some x => simp only [hx, Option.map_some, Option.some.injEq] at hm; subst hm; simpa [hx] using this
          · simpa [hm] using this
        · rfl)
      rw [e]
      refine ⟨M', h1, fun b hb => hsub b (h2 b hb), fun t ht => h3 t (by rw [← hsame]; exact ht), fun t ht hts hm => ?_⟩
      rcases List.mem_cons.1 ht with rfl | ht
      · exact hs hts (h2 _ hm)
      · exact h4 t ht (by rw [← hsame]; exact hts) hm
    cases hm : S.μ s with
    | none => exact key S.μ M (by rw [hm, upd_same _ _ _ (by simp [hm])]) h (fun _ h => h) (fun h => by simp [hm] at h)
    | some x =>
      obtain ⟨cs, f⟩ := x
      have hd1 := hd.1
      simp only [datSite, hm] at hd1
      exact key _ _ (by rw [hm]; rfl) (h.frzVar hm hd1) (fun _ h => h.1) (fun _ hmm => hmm.2 rfl)

theorem scalar_D {Y Y' : Nat → Prop} {v : Value} {r : V} (h : RelD cx w Y v r) (hs : r.scalar = true) : RelD cx w' Y' v r := by
  have h1 : ∀ {v : Value} {x : V}, RelD cx w Y v x → (match x with | .bool _ | .int .. | .str _ => true | _ => false) = true → RelD cx w' Y' v x := by
    intro v x h hx
    cases h <;> simp at hx
    · exact .bool _
    · exact .int _ _
    · exact .str _
  cases h with
  | tuple cs vs u hl hc hr =>
    simp only [V.scalar, List.all_eq_true] at hs
    exact .tuple cs vs u hl hc (fun i hi => h1 (hr i hi) (hs _ (by simp [gv, hi])))
  | bool b => exact .bool _
  | int k n => exact .int _ _
  | str s => exact .str _
  | _ => simp [V.scalar] at hs

end
end Sg
