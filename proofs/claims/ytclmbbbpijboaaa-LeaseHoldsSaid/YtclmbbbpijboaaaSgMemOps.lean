/- Loads and stores. -/
import Derived.Test.YtclmbbbpijboaaaSgRows
namespace Sg
open Go Go.RowKit
set_option linter.unusedSimpArgs false
set_option linter.unusedVariables false

section
variable {P : Program} {cx : Cx} {w : World} {X : Nat → Prop} {S : St} {β : Nat → Nat} {α : Nat → Value}

theorem CR.agg {l : List Value} {vs : List V} (h : CR cx w X S α l vs) : RelT cx w X S β α (.agg l.toArray) (.agg vs) :=
  ⟨l.toArray, rfl, by simpa using h.1, fun i hi => by obtain ⟨u, a, b⟩ := h.2 i hi; exact ⟨u, by simpa using a, b⟩⟩

theorem RelT.of_C {v : Value} {x : V} (h : RelC cx w X S α v x) : RelT cx w X S β α v x := by
  cases x <;> first | exact h | exact .of_data h

theorem load_win {t : TypeId} {b base off : Nat} {c : Array Value} {e : TypeId} {fr : Nat × Nat} {l : List Value} {cs : List V} {n : Option Nat} {r : V}
    (hw : w.heap[b]? = some (.cells c e fr)) (hc : CR cx w X S α l cs) (hb : ∀ j, j < l.length → c[base + j]? = l[j]?)
    (hu : (P.underlying t).isSome = true) (hn : (if aggT P t then szT P t == n && n.isSome else n.isNone) = true) (h : ldAt cs off n = some r) :
    ∃ v, (Instr.loadAt t (.pointer (some ⟨b, base + off, none⟩))).run P w = .ok v w ∧ RelT cx w X S β α v r := by
  obtain ⟨d, hd⟩ := Option.isSome_iff_exists.1 hu
  have hcell : ∀ j, j < l.length → w.cell? ⟨b, base + j, none⟩ = l[j]? := fun j hj => by simp [World.cell?, hw, hb j hj]
  unfold Instr.loadAt loadVar
  simp only [Instr.sureAddr, pure_bind, Sem.run_bind, run_isAgg' t hd w, Result.andThen]
  cases hg : aggT P t
  · simp only [hg, Bool.false_eq_true, if_false, Option.isNone_iff_eq_none] at hn
    subst hn
    simp only [ldAt] at h
    have hlt : off < cs.length := by
      rcases Nat.lt_or_ge off cs.length with h' | h'
      · exact h'
      · simp [List.getElem?_eq_none h'] at h
    obtain ⟨u, a1, a2, a3⟩ := hc.2 off hlt
    have hgv : gv cs off = r := by simp [gv, h]
    rw [hgv] at a3
    refine ⟨u, ?_, .of_C a3⟩
    simp only [Bool.false_eq_true, if_false, run_load, hcell off (by rw [hc.1]; exact hlt), a1]
  · simp only [hg, if_true, Bool.and_eq_true, beq_iff_eq] at hn
    obtain ⟨hz, hs⟩ := hn
    obtain ⟨k, rfl⟩ := Option.isSome_iff_exists.1 hs
    simp only [ldAt] at h
    split at h <;> simp only [Option.some.injEq, reduceCtorEq] at h
    rename_i hle
    subst h
    have hcr := (hc.drop off).take k
    have hlen : ((l.drop off).take k).length = k := by rw [hcr.1]; simp; omega
    refine ⟨.agg ((l.drop off).take k).toArray, ?_, hcr.agg⟩
    have hl := run_loadCells_list (P := P) w ⟨b, base + off, none⟩ ((l.drop off).take k) (fun j v hj => by
      have hj' : j < k := by
        rcases Nat.lt_or_ge j k with h' | h'
        · exact h'
        · rw [List.getElem?_eq_none (by omega)] at hj; simp at hj
      rw [List.getElem?_take_of_lt hj', List.getElem?_drop] at hj
      rw [addr_add, Nat.add_assoc, hcell (off + j) (by rw [hc.1]; omega)]; exact hj)
    rw [hlen] at hl
    simp only [if_true, Sem.run_bind, run_sizeOf' hz w, Result.andThen, hl, Sem.run_pure]

theorem store_win {t : TypeId} {b o : Nat} {c : Array Value} {e : TypeId} {v : Value} {n : Nat} {xs : List V}
    (hw : w.heap[b]? = some (.cells c e (0, 0))) (hc : CR cx w X S α v.cells.toList xs) (hn : xs.length = n) (hz : szT P t = some n) (hle : o + n ≤ c.size) :
    (Instr.storeAt t (.pointer (some ⟨b, o, none⟩)) v).run P w = .ok () (w.setRow b (c.toList.take o ++ (v.cells.toList ++ c.toList.drop (o + v.cells.toList.length))).toArray) := by
  have hsz : v.cells.size = n := by have := hc.1; simp only [Array.length_toList] at this; omega
  unfold Instr.storeAt storeVar
  simp only [Instr.sureAddr, pure_bind, Sem.run_bind, run_sizeOf' hz w, Result.andThen, hsz, ne_eq, not_true, if_false]
  have := run_storeCells_at P b o e v.cells.toList 0 c w hw (by simp [hsz]; exact hle) (fun x hx => by
    obtain ⟨i, hi, rfl⟩ := List.getElem_of_mem hx
    obtain ⟨u, h1, h2, _⟩ := hc.2 i (by rw [← hc.1]; exact hi)
    rw [List.getElem?_eq_getElem hi] at h1
    simp only [Option.some.injEq] at h1
    rw [h1]; exact h2)
  rw [this]
  simp

theorem turn_setRow (w : World) (b : Nat) (cs : Array Value) : Turn b w (w.setRow b cs) :=
  ⟨setRow_size w b cs, fun k hk => setRow_other w b k cs hk⟩

theorem below_setRow {B b : Nat} (w : World) (cs : Array Value) (h : B ≤ b) : Below B w (w.setRow b cs) :=
  ⟨rfl, rfl, rfl, by rw [setRow_size]; exact Nat.le_refl _, fun k hk => setRow_other w b k cs (by omega)⟩

theorem grow_push (w : World) (o : Obj) : Grow w { w with heap := w.heap.push o } :=
  ⟨by simp, fun b hb => by simp [Array.getElem?_push, Nat.ne_of_lt hb]⟩

theorem below_push {B : Nat} (w : World) (o : Obj) (h : B ≤ w.heap.size) : Below B w { w with heap := w.heap.push o } :=
  ⟨rfl, rfl, rfl, by simp, fun k hk => by simp [Array.getElem?_push, show ¬ k = w.heap.size by omega]⟩

theorem push_at (w : World) (o : Obj) : ({ w with heap := w.heap.push o } : World).heap[w.heap.size]? = some o := by simp

end

section
variable {P : Program} {cx : Cx} {B : Nat} {X : Nat → Prop} {S : St} {w : World} {β : Nat → Nat} {α : Nat → Value} {M : Nat → Prop}

/-- what an operation leaves -/
def OpPost (cx : Cx) (B : Nat) (X : Nat → Prop) (S : St) (w : World) (β : Nat → Nat) (α : Nat → Value) (M : Nat → Prop) (S1 : St) (r : V) (v : Value) (w' : World) : Prop :=
  ∃ β' α' M', RelW cx B X S1 w' β' α' M' ∧ (∀ u x, RelT cx w (orP X M) S β α u x → RelT cx w' (orP X M') S1 β' α' u x) ∧ RelT cx w' (orP X M') S1 β' α' v r ∧ Below B w w'

theorem OpPost.pure (h : RelW cx B X S w β α M) {r : V} {v : Value} (hr : RelT cx w (orP X M) S β α v r) : OpPost cx B X S w β α M S r v w :=
  ⟨β, α, M, h, fun _ _ h => h, hr, Below.refl _ _⟩

theorem CR.undef {Y : Nat → Prop} (v : Value) : RelT cx w Y S β α v .undef := RelD.undef v

theorem hdr_lt (h : RelW cx B X S w β α M) {s z : Nat} {rows : List (List V)} {f : Fz} (hs : S.A s = some (z, rows, f)) (hf : f ≠ .dead) : hdr (α s) ≠ some w.heap.size := fun hb => by
  have := (h.arr s z rows f hs hf).1.lt hb; omega

theorem var_ne (h : RelW cx B X S w β α M) {s : Nat} (hs : (S.μ s).isSome) : β s ≠ w.heap.size := fun hb => by
  obtain ⟨x, hx⟩ := Option.isSome_iff_exists.1 hs
  have := h.varLt (cs := x.1) (f := x.2) hx
  omega

/-- a variable comes in a new block -/
theorem newVar_post (h : RelW cx B X S w β α M) {d : Nat} {cs : List V} {l : List Value} {t : TypeId} (hd : S.μ d = none) (hc : CR cx w (orP X M) S α l cs) :
    OpPost cx B X S w β α M { S with μ := upd S.μ d (some (cs, false)) } (.lref d 0) (.pointer (some ⟨w.heap.size, 0, none⟩)) { w with heap := w.heap.push (.cells l.toArray t) } := by
  have hg := grow_push w (.cells l.toArray t)
  have h2 : ∀ b, (M b ∨ b = w.heap.size) → M b ∨ (w.heap.size ≤ b ∧ b < ({ w with heap := w.heap.push (.cells l.toArray t) } : World).heap.size) := fun b hb => by
    rcases hb with hb | hb
    · exact .inl hb
    · subst hb; exact .inr ⟨Nat.le_refl _, by simp⟩
  have hr := h.grow (M' := fun b => M b ∨ b = w.heap.size) hg (fun b hb => .inl hb) h2
  have hD : ∀ u x, RelD cx w (orP X M) u x → RelD cx { w with heap := w.heap.push (.cells l.toArray t) } (orP X (fun b => M b ∨ b = w.heap.size)) u x :=
    fun u x hu => grow_D hg (fun b hb => (h2 b hb).imp id (·.1)) hu
  have hcr := hc.mono hD (ATr.refl S α)
  have hv := hr.addVar (d := d) (b0 := w.heap.size) (cs := cs) hd (.inr rfl) (push_at w _) (by simpa using hcr.1) (fun i hi => by obtain ⟨u, a, b, c⟩ := hcr.2 i hi; exact ⟨u, by simpa using a, b, c⟩)
    (fun s hs => var_ne h hs) (fun s z rows f hs hf => hdr_lt h hs hf)
  refine ⟨_, _, _, hv, fun u x hu => RelT.tr (S' := { S with μ := upd S.μ d (some (cs, false)) }) hD (show ATr S _ α α from ATr.refl S α) (fun s hs => ?_) hu, ⟨by simp [upd], by simp [upd]⟩, below_push w _ h.size⟩
  have : s ≠ d := fun e => by rw [e, hd] at hs; simp at hs
  exact ⟨by simp [upd, this, hs], by simp [upd, this]⟩


/-- a load out of a variable, an owned array, memory that nobody writes -/
theorem load_ok (h : RelW cx B X S w β α M) {t : TypeId} {n : Option Nat} {l : Loc} {p r : V} {v : Value}
    (hp : RelT cx w (orP X M) S β α v p) (hu : (P.underlying t).isSome = true) (hn : (if aggT P t then szT P t == n && n.isSome else n.isNone) = true)
    (hev : loadV S l n p = some r) :
    ∃ q, (Instr.loadAt t v).run P w = .ok q w ∧ RelT cx w (orP X M) S β α q r := by
  unfold loadV at hev
  cases l with
  | v s =>
    cases p <;> try (simp at hev; done)
    rename_i s' off
    simp only at hev
    split at hev <;> try (simp at hev; done)
    rename_i e; subst e
    simp only [Option.bind_eq_some_iff] at hev
    obtain ⟨m, hm, hld⟩ := hev
    obtain ⟨_, rfl⟩ := hp
    obtain ⟨a1, a2, a3, c, e, a4, a5, a6⟩ := h.var s' m.1 m.2 hm
    have := load_win (P := P) (t := t) (base := 0) (off := off) (n := n) (r := r) (l := c.toList) (S := S) (β := β) (α := α) a4 ⟨by simpa using a5, fun i hi => by obtain ⟨u, b1, b2, b3⟩ := a6 i hi; exact ⟨u, by simpa using b1, b2, b3⟩⟩
      (fun j _ => by simp) hu hn hld
    rw [Nat.zero_add] at this
    exact this
  | e s =>
    cases p <;> try (simp at hev; done)
    rename_i s' i off m
    simp only at hev
    split at hev <;> try (simp at hev; done)
    rename_i e; subst e
    split at hev <;> try (simp at hev; done)
    rename_i z rows f hA
    split at hev <;> try (simp at hev; done)
    rename_i hc
    simp only [Option.bind_eq_some_iff] at hev
    obtain ⟨row, hrow, hld⟩ := hev
    obtain ⟨z', rows', f', b, o, cap, hA', rfl, hv⟩ := hp
    rw [hA] at hA'
    simp only [Option.some.injEq, Prod.mk.injEq] at hA'
    obtain ⟨rfl, rfl, rfl⟩ := hA'
    have hα := (hv hc.2).2 hc.1
    obtain ⟨p1, p2⟩ := h.arr s' z rows f hA hc.2
    have hi : i < rows.length := by
      rcases Nat.lt_or_ge i rows.length with h' | h'
      · exact h'
      · simp [List.getElem?_eq_none h'] at hrow
    have hgr : gr rows i = row := by simp [gr, hrow]
    have hlen := p1.len i hi
    rw [hgr] at hlen
    rcases p1.at_ with ⟨h1, rfl⟩ | ⟨b', o', cap', c, e, h1, h2, h3, h4, h5⟩
    · simp at hi
    · rw [hα] at h1
      simp only [Value.slice.injEq, Option.some.injEq, Addr.mk.injEq] at h1
      obtain ⟨⟨rfl, rfl, -⟩, -, rfl⟩ := h1
      have hcr : CR cx w (orP X M) S α ((c.toList.drop (o + i * z)).take z) row := by
        have hb : o + i * z + z ≤ c.size := by
          have e1 : (i + 1) * z ≤ rows.length * z := Nat.mul_le_mul_right z hi
          have e2 : rows.length * z ≤ cap * z := Nat.mul_le_mul_right z h3
          rw [Nat.add_mul] at e1; omega
        refine ⟨by simp [hlen]; omega, fun j hj => ?_⟩
        obtain ⟨u, q1, q2, q3⟩ := h5 i j hi (by omega)
        rw [hgr] at q3
        exact ⟨u, by rw [List.getElem?_take_of_lt (by omega), List.getElem?_drop]; simpa using q1, q2, .of_data q3⟩
      exact load_win (base := o + i * z) h2 hcr (fun j hj => by rw [List.getElem?_take_of_lt (by rw [hcr.1] at hj; omega), List.getElem?_drop]; simp) hu hn hld
  | c =>
    cases p <;> try (simp at hev; done)
    rename_i cs off
    have hld : ldAt cs off n = some r := hev
    simp only [RelT] at hp
    obtain ⟨b, o, c, e, fr, rfl, hb, hX, hw, ho, hc⟩ := cptr_inv hp
    obtain ⟨u, hu'⟩ := pickf hc
    have hcr : CR cx w (orP X M) S α ((List.range cs.length).map u) cs :=
      ⟨by simp, fun j hj => ⟨u j, by simp [hj], (hu' j hj).2.1, .of_data (hu' j hj).2.2⟩⟩
    have := load_win (P := P) (t := t) (base := o - off) (off := off) (n := n) (r := r) (β := β) hw hcr (fun j hj => by simp at hj; simp [hj, (hu' j hj).1]) hu hn hld
    rw [show o - off + off = o by omega] at this
    exact this


theorem datC_gv {xs : List V} (h : xs.all V.datC = true) (i : Nat) (hi : i < xs.length) : (gv xs i).datC = true := by
  rw [List.all_eq_true] at h
  exact h _ (by simp [gv, hi])

theorem ArrOK.setRow {cx : Cx} {w : World} {Y : Nat → Prop} {v : Value} {z : Nat} {rows : List (List V)} (h : ArrOK cx w Y v z rows) {i : Nat} {r' : List V} (hi : i < rows.length) (hr : r'.length = z)
    {b o cap : Nat} (hv : v = .slice (some ⟨b, o, none⟩) rows.length cap) {c : Array Value} {e : TypeId} (hw : w.heap[b]? = some (.cells c e (0, 0))) {w' : World} {c' : Array Value} (hw' : w'.heap[b]? = some (.cells c' e (0, 0)))
    (hsz : c'.size = c.size) (hD : ∀ u x, RelD cx w Y u x → RelD cx w' Y u x)
    (hold : ∀ j, (j < o + i * z ∨ o + i * z + z ≤ j) → c'[j]? = c[j]?)
    (hnew : ∀ j, j < z → ∃ u, c'[o + i * z + j]? = some u ∧ u.oneCell' = true ∧ RelD cx w' Y u (gv r' j)) : ArrOK cx w' Y v z (rows.set i r') := by
  rcases h.at_ with ⟨h1, h2⟩ | ⟨b1, o1, cap1, c1, e1, h1, h2, h3, h4, h5⟩
  · subst h2; simp at hi
  · rw [hv] at h1
    simp only [Value.slice.injEq, Option.some.injEq, Addr.mk.injEq] at h1
    obtain ⟨⟨rfl, rfl, -⟩, -, rfl⟩ := h1
    rw [hw] at h2
    simp only [Option.some.injEq, Obj.cells.injEq] at h2
    obtain ⟨rfl, rfl, -⟩ := h2
    refine ⟨fun k hk => ?_, .inr ⟨b, o, cap, c', e, by simpa using hv, hw', by simpa using h3, by rw [hsz]; exact h4, fun k j hk hj => ?_⟩⟩
    · simp only [List.length_set] at hk
      by_cases e' : i = k
      · subst e'; simpa [gr, List.getD_eq_getElem?_getD, List.getElem?_set, hi] using hr
      · have := h.len k hk; simpa [gr, List.getD_eq_getElem?_getD, List.getElem?_set, e'] using this
    · simp only [List.length_set] at hk
      by_cases e' : i = k
      · subst e'
        obtain ⟨u, q1, q2, q3⟩ := hnew j hj
        exact ⟨u, q1, q2, by simpa [gr, List.getD_eq_getElem?_getD, List.getElem?_set, hi] using q3⟩
      · obtain ⟨u, q1, q2, q3⟩ := h5 k j hk hj
        refine ⟨u, ?_, q2, hD _ _ (by simpa [gr, List.getD_eq_getElem?_getD, List.getElem?_set, e'] using q3)⟩
        rw [hold]
        · exact q1
        · rcases Nat.lt_or_ge k i with h' | h'
          · have : (k + 1) * z ≤ i * z := Nat.mul_le_mul_right z h'
            rw [Nat.add_mul] at this; exact .inl (by omega)
          · have : (i + 1) * z ≤ k * z := Nat.mul_le_mul_right z (by omega)
            rw [Nat.add_mul] at this; exact .inr (by omega)

/-- a store into a variable or an owned array -/
theorem store_ok {S1 : St} (h : RelW cx B X S w β α M) {t : TypeId} {n : Nat} {l : Loc} {p x : V} {v u : Value}
    (hp : RelT cx w (orP X M) S β α v p) (hx : RelT cx w (orP X M) S β α u x) (hz : szT P t = some n)
    (hev : storeV S l n p x = some S1) :
    ∃ w', (Instr.storeAt t v u).run P w = .ok () w' ∧ OpPost cx B X S w β α M S1 .undef undef w' := by
  unfold storeV at hev
  simp only [Option.bind_eq_some_iff] at hev
  obtain ⟨xs, hxs, hev⟩ := hev
  have hcr := cells_rel hx hxs
  split at hev <;> try (simp at hev; done)
  rename_i hn
  have husz : u.cells.toList.length = n := by rw [hcr.1, hn]
  split at hev
  · rename_i s s' off
    split at hev <;> try (simp at hev; done)
    rename_i e; subst e
    split at hev <;> try (simp at hev; done)
    rename_i cs hs
    simp only [Option.bind_eq_some_iff, Option.some.injEq] at hev
    obtain ⟨cs', hcs', rfl⟩ := hev
    obtain ⟨_, rfl⟩ := hp
    obtain ⟨a1, a2, a3, c, e, a4, a5, a6⟩ := h.var s' cs false hs
    have hcc : CR cx w (orP X M) S α c.toList cs := ⟨by simpa using a5, fun i hi => by obtain ⟨u, b1, b2, b3⟩ := a6 i hi; exact ⟨u, by simpa using b1, b2, b3⟩⟩
    obtain ⟨hle, hput⟩ := hcc.put hcr hcs'
    simp only [Array.length_toList, husz] at hle
    have hrun := store_win (P := P) (t := t) a4 hcr hn hz (by simpa using hle)
    refine ⟨_, hrun, ?_⟩
    have hM := a2 rfl
    have hw' := setRow_heap w (β s') c (c.toList.take off ++ (u.cells.toList ++ c.toList.drop (off + u.cells.toList.length))).toArray e (0, 0) a4
    have hsv := h.setVar (cs' := cs') hs (turn_setRow w (β s') _) hw' (by simpa using hput.1) (fun i hi => by obtain ⟨u, b1, b2, b3⟩ := hput.2 i hi; exact ⟨u, by simpa using b1, b2, b3⟩)
    refine ⟨β, α, M, hsv, fun u' x' hu' => RelT.tr (S' := { S with μ := upd S.μ s' (some (cs', false)) }) (fun _ _ hr => turn_D (turn_setRow w _ _) hM hr) (show ATr S _ α α from ATr.refl S α) (fun s hs' => ⟨?_, rfl⟩) hu', CR.undef _, below_setRow w _ a1⟩
    by_cases e' : s = s'
    · simp [upd, e']
    · simpa [upd, e'] using hs'
  · rename_i s s' i off m
    split at hev <;> try (simp at hev; done)
    rename_i e
    obtain ⟨rfl, hdat⟩ := e
    split at hev <;> try (simp at hev; done)
    rename_i z rows hA
    split at hev <;> try (simp at hev; done)
    rename_i hm
    simp only [Option.bind_eq_some_iff, Option.some.injEq] at hev
    obtain ⟨row, hrow, r', hr', rfl⟩ := hev
    obtain ⟨z', rows', f', b, o, cap, hA', rfl, hv⟩ := hp
    rw [hA] at hA'
    simp only [Option.some.injEq, Prod.mk.injEq] at hA'
    obtain ⟨rfl, rfl, rfl⟩ := hA'
    have hα := (hv (by simp)).2 hm
    obtain ⟨p1, p2⟩ := h.arr s' z rows .live hA (by simp)
    have hi : i < rows.length := by
      rcases Nat.lt_or_ge i rows.length with h' | h'
      · exact h'
      · simp [List.getElem?_eq_none h'] at hrow
    have hgr : gr rows i = row := by simp [gr, hrow]
    have hlen := p1.len i hi
    rw [hgr] at hlen
    have hset := hr'
    unfold setAt at hset
    split at hset <;> simp only [Option.some.injEq, reduceCtorEq] at hset
    rename_i hoff
    have hr'len : r'.length = z := by rw [← hset]; simp; omega
    rcases p1.at_ with ⟨h1, rfl⟩ | ⟨b', o', cap', c, e, h1, h2, h3, h4, h5⟩
    · simp at hi
    · have h1' := h1
      rw [hα] at h1
      simp only [Value.slice.injEq, Option.some.injEq, Addr.mk.injEq] at h1
      obtain ⟨⟨rfl, rfl, -⟩, -, rfl⟩ := h1
      have hbz : o + i * z + z ≤ c.size := by
        have e1 : (i + 1) * z ≤ rows.length * z := Nat.mul_le_mul_right z hi
        have e2 : rows.length * z ≤ cap * z := Nat.mul_le_mul_right z h3
        rw [Nat.add_mul] at e1; omega
      have hrun := store_win (P := P) (t := t) (o := o + i * z + off) h2 hcr hn hz (by omega)
      refine ⟨_, hrun, ?_⟩
      have hM : M b := (p2 b (by rw [h1']; rfl)).2.1 rfl
      have hT := turn_setRow w b (c.toList.take (o + i * z + off) ++ (u.cells.toList ++ c.toList.drop (o + i * z + off + u.cells.toList.length))).toArray
      have hD : ∀ u x, RelD cx w (orP X M) u x → RelD cx _ (orP X M) u x := fun _ _ hr => turn_D hT hM hr
      have hw' := setRow_heap w b c (c.toList.take (o + i * z + off) ++ (u.cells.toList ++ c.toList.drop (o + i * z + off + u.cells.toList.length))).toArray e (0, 0) h2
      have hcsz : (c.toList.take (o + i * z + off) ++ (u.cells.toList ++ c.toList.drop (o + i * z + off + u.cells.toList.length))).toArray.size = c.size := by
        simp only [List.size_toArray, List.length_append, List.length_take, List.length_drop, husz, Array.length_toList]; omega
      have hat : ∀ j, (c.toList.take (o + i * z + off) ++ (u.cells.toList ++ c.toList.drop (o + i * z + off + u.cells.toList.length))).toArray[j]? =
          if o + i * z + off ≤ j ∧ j < o + i * z + off + n then u.cells.toList[j - (o + i * z + off)]? else c[j]? := by
        intro j
        simp only [List.getElem?_toArray]
        by_cases hj1 : j < o + i * z + off
        · rw [List.getElem?_append_left (by simp; omega), List.getElem?_take_of_lt hj1, if_neg (by omega)]; simp
        · by_cases hj2 : j < o + i * z + off + n
          · rw [List.getElem?_append_right (by simp; omega), List.getElem?_append_left (by simp only [List.length_take, Array.length_toList] at *; omega), if_pos ⟨by omega, hj2⟩]
            congr 1; simp; omega
          · rw [List.getElem?_append_right (by simp; omega), List.getElem?_append_right (by simp only [List.length_take, Array.length_toList] at *; omega), List.getElem?_drop, if_neg (by omega)]
            simp only [List.length_take, Array.length_toList, husz]
            rw [show o + i * z + off + n + (j - min (o + i * z + off) c.size - n) = j by omega]; simp
      have hcr' : CR cx _ (orP X M) S α u.cells.toList xs := hcr.mono hD (ATr.refl S α)
      have harr : ArrOK cx _ (orP X M) (α s') z (rows.set i r') := p1.setRow hi hr'len h1' h2 hw' hcsz hD
        (fun j hj => by
          rw [hat j, if_neg (by rcases hj with hj | hj <;> omega)])
        (fun j hj => by
          rw [hat (o + i * z + j)]
          have hgvr : gv r' j = if off ≤ j ∧ j < off + n then gv xs (j - off) else gv row j := by
            rw [← hset]
            simp only [gv, List.getD_eq_getElem?_getD]
            by_cases hj1 : j < off
            · rw [List.getElem?_append_left (by simp; omega), List.getElem?_take_of_lt hj1, if_neg (by omega)]
            · by_cases hj2 : j < off + n
              · rw [List.getElem?_append_right (by simp; omega), List.getElem?_append_left (by simp; omega), if_pos ⟨by omega, hj2⟩]
                congr 2; simp; omega
              · rw [List.getElem?_append_right (by simp; omega), List.getElem?_append_right (by simp; omega), List.getElem?_drop, if_neg (by omega)]
                congr 2; simp; omega
          rw [hgvr]
          by_cases hj1 : off ≤ j ∧ j < off + n
          · rw [if_pos hj1, if_pos (by omega)]
            obtain ⟨u', q1, q2, q3⟩ := hcr'.data hdat (j - off) (by omega)
            exact ⟨u', by rw [show o + i * z + j - (o + i * z + off) = j - off by omega]; exact q1, q2, q3⟩
          · rw [if_neg hj1, if_neg (by omega)]
            obtain ⟨u', q1, q2, q3⟩ := h5 i j hi hj
            rw [hgr] at q3
            exact ⟨u', q1, q2, hD _ _ q3⟩)
      obtain ⟨hsa, hD'⟩ := h.setArr (M' := M) (rows' := rows.set i r') (v' := α s') hA (fun b' hb' _ => hT.block b' (fun e' => hb' (by rw [h1', e']; rfl))) (by rw [hT.size]; exact Nat.le_refl _) (.inl rfl) (by simp) (fun _ => rfl)
        (fun _ hb => hb) (fun _ hb => .inl hb) (fun b' hb' => (p2 b' hb').2.1 rfl) harr
      refine ⟨β, _, M, hsa, fun u' x' hu' => RelT.tr hD' (atr_set hA (by simp) (fun _ => rfl)) (fun s hs => ⟨hs, rfl⟩) hu', CR.undef _, below_setRow w _ (p2 b (by rw [h1']; rfl)).1⟩
  · simp at hev

end
end Sg
