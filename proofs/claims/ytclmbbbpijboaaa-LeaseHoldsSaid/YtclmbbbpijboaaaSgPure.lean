/- Operations that leave memory alone: what the model computes stands to what the interpreter computes. -/
import Derived.Test.YtclmbbbpijboaaaSgCheck
import Derived.Calls
import Derived.Laws.Entries
import Derived.Laws.Cells
import Derived.Laws.Strings
namespace Sg
open Go Go.RowKit
set_option linter.unusedSimpArgs false
set_option linter.unusedVariables false

theorem pickf {α : Type} [Inhabited α] {n : Nat} {Q : Nat → α → Prop} (h : ∀ i, i < n → ∃ u, Q i u) : ∃ f : Nat → α, ∀ i, i < n → Q i (f i) := by
  have h' : ∀ i, ∃ u, i < n → Q i u := fun i => by
    by_cases hi : i < n
    · obtain ⟨u, hu⟩ := h i hi; exact ⟨u, fun _ => hu⟩
    · exact ⟨default, fun hh => absurd hh hi⟩
  exact ⟨fun i => Classical.choose (h' i), fun i hi => Classical.choose_spec (h' i) hi⟩

theorem pickf2 {α : Type} [Inhabited α] {n m : Nat} {Q : Nat → Nat → α → Prop} (h : ∀ i j, i < n → j < m → ∃ u, Q i j u) :
    ∃ f : Nat → Nat → α, ∀ i j, i < n → j < m → Q i j (f i j) := by
  have h' : ∀ i j, ∃ u, i < n → j < m → Q i j u := fun i j => by
    by_cases hi : i < n
    · by_cases hj : j < m
      · obtain ⟨u, hu⟩ := h i j hi hj; exact ⟨u, fun _ _ => hu⟩
      · exact ⟨default, fun _ hh => absurd hh hj⟩
    · exact ⟨default, fun hh => absurd hh hi⟩
  exact ⟨fun i j => Classical.choose (h' i j), fun i j hi hj => Classical.choose_spec (h' i j) hi hj⟩

section
variable {P : Program} {cx : Cx} {w : World} {X : Nat → Prop} {S : St} {β : Nat → Nat} {α : Nat → Value}

theorem rel_int {v : Value} {k n} (h : RelT cx w X S β α v (.int k n)) : v = .int k n := by
  simp only [RelT] at h; cases h; rfl
theorem rel_bool {v : Value} {b} (h : RelT cx w X S β α v (.bool b)) : v = .bool b := by
  simp only [RelT] at h; cases h; rfl
theorem rel_str {v : Value} {s} (h : RelT cx w X S β α v (.str s)) : ∃ t : ByteArray, v = .string t ∧ t.data.toList = s := by
  simp only [RelT] at h; cases h; exact ⟨_, rfl, rfl⟩
theorem rel_lref {v : Value} {s o} (h : RelT cx w X S β α v (.lref s o)) : v = .pointer (some ⟨β s, o, none⟩) := h.2

theorem RelT.of_data {v : Value} {x : V} (h : RelD cx w X v x) : RelT cx w X S β α v x := by
  cases x with
  | agg vs =>
    cases h with
    | agg cs vs u hl hc hr =>
      refine ⟨cs, rfl, hl, fun i hi => ⟨u i, (hc i hi).1, (hc i hi).2, ?_⟩⟩
      have h1 := hr i hi
      have h2 := h1.cell (hc i hi).2
      revert h1 h2
      generalize gv vs i = y
      intro h1 h2
      cases y <;> first | exact h1 | (simp [V.datC] at h2)
  | tuple vs =>
    cases h with
    | tuple cs vs u hl hc hr =>
      refine ⟨cs, rfl, hl, fun i hi => ⟨u i, (hc i hi), ?_⟩⟩
      have h1 := hr i hi
      revert h1
      generalize gv vs i = y
      generalize u i = z
      intro h1
      cases y <;> first | exact h1 | (cases h1)
  | lref s o => cases h
  | eref s i o n => cases h
  | own s z n => cases h
  | _ => exact h

theorem RelC.of_data {v : Value} {x : V} (h : RelD cx w X v x) : RelC cx w X S α v x := by
  cases x <;> first | exact h | (cases h)

/-- what bears no owned slice is data -/
theorem RelC.data {v : Value} {x : V} (h : RelC cx w X S α v x) (hd : x.datC = true) : RelD cx w X v x := by
  cases x <;> first | exact h | (simp [V.datC] at hd)

theorem RelT.data {v : Value} {x : V} (h : RelT cx w X S β α v x) (hd : x.dat = true) : RelD cx w X v x := by
  cases x with
  | agg vs =>
    obtain ⟨cs, rfl, hl, hc⟩ := h
    have hd' : ∀ x ∈ vs, x.datC = true := by simpa [V.dat] using hd
    obtain ⟨u, hu⟩ := pickf hc
    exact .agg cs vs u hl (fun i hi => ⟨(hu i hi).1, (hu i hi).2.1⟩) (fun i hi => (hu i hi).2.2.data (hd' _ (by simp [gv, hi])))
  | tuple vs => simp [V.dat, V.datC] at hd
  | lref s o => simp [V.dat, V.datC] at hd
  | eref s i o n => simp [V.dat, V.datC] at hd
  | own s z n => simp [V.dat, V.datC] at hd
  | _ => exact h

theorem cptr_inv {v : Value} {cs : List V} {off : Nat} (h : RelD cx w X v (.cptr cs off)) :
    ∃ b o c e fr, v = .pointer (some ⟨b, o, none⟩) ∧ b < w.heap.size ∧ ¬ X b ∧ w.heap[b]? = some (.cells c e fr) ∧ off ≤ o ∧
      ∀ j, j < cs.length → ∃ u, c[o - off + j]? = some u ∧ u.oneCell' = true ∧ RelD cx w X u (gv cs j) := by
  cases h with
  | cptr b o cs off c e fr u hb hX hw ho hc hr =>
    exact ⟨b, o, c, e, fr, rfl, hb, hX, hw, ho, fun j hj => ⟨u j, (hc j hj).1, (hc j hj).2, hr j hj⟩⟩

theorem cptr_mk {b o off : Nat} {c : Array Value} {e : TypeId} {fr : Nat × Nat} {cs : List V} (hb : b < w.heap.size) (hX : ¬ X b) (hw : w.heap[b]? = some (.cells c e fr))
    (ho : off ≤ o) (hc : ∀ j, j < cs.length → ∃ u, c[o - off + j]? = some u ∧ u.oneCell' = true ∧ RelD cx w X u (gv cs j)) :
    RelD cx w X (.pointer (some ⟨b, o, none⟩)) (.cptr cs off) := by
  obtain ⟨u, hu⟩ := pickf hc
  exact .cptr b o cs off c e fr u hb hX hw ho (fun j hj => ⟨(hu j hj).1, (hu j hj).2.1⟩) (fun j hj => (hu j hj).2.2)

theorem slice_inv {v : Value} {z : Nat} {rows : List (List V)} (h : RelD cx w X v (.slice z rows)) : ((∃ a, v = .slice a 0 0) ∧ rows = []) ∨
    ∃ b o cap c e fr, v = .slice (some ⟨b, o, none⟩) rows.length cap ∧ b < w.heap.size ∧ ¬ X b ∧ w.heap[b]? = some (.cells c e fr) ∧ rows.length ≤ cap ∧
      (∀ i, i < rows.length → (gr rows i).length = z) ∧
      ∀ i j, i < rows.length → j < z → ∃ u, c[o + i * z + j]? = some u ∧ u.oneCell' = true ∧ RelD cx w X u (gv (gr rows i) j) := by
  cases h with
  | nilslice a => exact .inl ⟨⟨a, rfl⟩, rfl⟩
  | slice b o len cap z rows c e fr u hb hX hw hl hcap hz hc hr =>
    subst hl
    exact .inr ⟨b, o, cap, c, e, fr, rfl, hb, hX, hw, hcap, hz, fun i j hi hj => ⟨u i j, (hc i j hi hj).1, (hc i j hi hj).2, hr i j hi hj⟩⟩

theorem slice_mk {b o cap z : Nat} {c : Array Value} {e : TypeId} {fr : Nat × Nat} {rows : List (List V)} (hb : b < w.heap.size) (hX : ¬ X b) (hw : w.heap[b]? = some (.cells c e fr))
    (hcap : rows.length ≤ cap) (hz : ∀ i, i < rows.length → (gr rows i).length = z)
    (hc : ∀ i j, i < rows.length → j < z → ∃ u, c[o + i * z + j]? = some u ∧ u.oneCell' = true ∧ RelD cx w X u (gv (gr rows i) j)) {n : Nat} (hn : rows.length = n) :
    RelD cx w X (.slice (some ⟨b, o, none⟩) n cap) (.slice z rows) := by
  obtain ⟨u, hu⟩ := pickf2 hc
  subst hn
  exact .slice b o _ cap z rows c e fr u hb hX hw rfl hcap hz (fun i j hi hj => ⟨(hu i j hi hj).1, (hu i j hi hj).2.1⟩) (fun i j hi hj => (hu i j hi hj).2.2)

theorem const_cell {v : Value} {x : V} (h : constCell v x = true) : RelD cx w X v x ∧ v.oneCell' = true := by
  unfold constCell at h
  split at h
  · rename_i a b; obtain rfl : a = b := by simpa using h
    exact ⟨.bool _, rfl⟩
  · rename_i k n k' n'; simp only [Bool.and_eq_true, beq_iff_eq] at h
    obtain ⟨rfl, rfl⟩ := h; exact ⟨.int _ _, rfl⟩
  · rename_i s l; obtain rfl : s.data.toList = l := by simpa using h
    exact ⟨.str _, rfl⟩
  · exact ⟨.nilslice _ _, rfl⟩
  · exact ⟨.niface, rfl⟩
  · exact ⟨.undef _, rfl⟩
  · exact ⟨.undef _, rfl⟩
  · simp at h

theorem const_cells : ∀ {l : List Value} {vs : List V}, constCells l vs = true →
    l.length = vs.length ∧ ∀ i, i < vs.length → ∃ u, l[i]? = some u ∧ u.oneCell' = true ∧ RelD cx w X u (gv vs i)
  | [], [], _ => ⟨rfl, fun i hi => by simp at hi⟩
  | v :: l, x :: vs, h => by
    simp only [constCells, Bool.and_eq_true] at h
    obtain ⟨h1, h2⟩ := const_cells (l := l) (vs := vs) h.2
    refine ⟨by simp [h1], fun i hi => ?_⟩
    cases i with
    | zero => exact ⟨v, rfl, (const_cell h.1 (cx := cx) (w := w) (X := X)).2, (const_cell h.1).1⟩
    | succ i => obtain ⟨u, a, b, c⟩ := h2 i (by simpa using hi); exact ⟨u, by simpa using a, b, by simpa [gv] using c⟩
  | [], _ :: _, h => by simp [constCells] at h
  | _ :: _, [], h => by simp [constCells] at h

theorem const_ok {v : Value} {x : V} (h : constOK v x = true) : RelD cx w X v x := by
  unfold constOK at h
  split at h
  · rename_i cs vs
    obtain ⟨h1, h2⟩ := const_cells (cx := cx) (w := w) (X := X) h
    obtain ⟨u, hu⟩ := pickf h2
    exact .agg cs vs u (by simpa using h1) (fun i hi => ⟨by simpa using (hu i hi).1, (hu i hi).2.1⟩) (fun i hi => (hu i hi).2.2)
  · exact (const_cell h).1

theorem arg_rel {a : Act} {ds : List (Option Nat)} {e : Nat → V} (hg : ∀ t, RelT cx w X S β α (a.tmps.getD t undef) (S.ρ t))
    (hl : ∀ i d, ds[i]? = some (some d) → RelT cx w X S β α (a.tmps.getD d undef) (e i)) {x : Operand} {y : Arg} (h : okArg cx ds x y = true) :
    RelT cx w X S β α (a.eval x) (argv e S.ρ y) := by
  unfold okArg at h
  split at h
  · rename_i t t'; obtain rfl : t = t' := by simpa using h
    exact hg t
  · rename_i t j; exact hl j t (by simpa using h)
  · exact .of_data (const_ok h)
  · rename_i f k; obtain rfl : cx.fm k = f := by simpa using h
    exact RelD.func k #[] [] (fun _ => undef) rfl (fun i hi => by simp at hi) (fun i hi => by simp at hi)
  · simp at h

theorem int_bin {o : BinOp} {k : IntKind} {a b : Int} {t : TypeId} {r : V} (h : intBin o k a b = some r) :
    ∃ z, (Go.binOp o t (.int k a) (.int k b)).run P w = .ok z w ∧ RelD cx w X z r := by
  cases o <;> simp only [intBin, Option.some.injEq, reduceCtorEq] at h
  case quo =>
    split at h
    · simp at h
    · rename_i hb; simp only [Option.some.injEq] at h; subst h
      exact ⟨.int k (k.wrap (a.tdiv b)), by simp [Go.binOp, Op.intDiv, hb], .int _ _⟩
  case rem =>
    split at h
    · simp at h
    · rename_i hb; simp only [Option.some.injEq] at h; subst h
      exact ⟨.int k (a.tmod b), by simp [Go.binOp, Op.intDiv, hb], .int _ _⟩
  all_goals subst h
  · exact ⟨.int k (k.wrap (a + b)), by simp [Go.binOp, Op.intArith], .int _ _⟩
  · exact ⟨.int k (k.wrap (a - b)), by simp [Go.binOp, Op.intArith], .int _ _⟩
  · exact ⟨.int k (k.wrap (a * b)), by simp [Go.binOp, Op.intArith], .int _ _⟩
  · exact ⟨.bool (decide (a = b)), by simp [Go.binOp, Op.intCmp]; rfl, .bool _⟩
  · exact ⟨.bool (!decide (a = b)), by simp [Go.binOp, Op.intCmp]; rfl, .bool _⟩
  · exact ⟨.bool (decide (a < b)), by simp [Go.binOp, Op.intCmp], .bool _⟩
  · exact ⟨.bool (decide (a ≤ b)), by simp [Go.binOp, Op.intCmp], .bool _⟩
  · exact ⟨.bool (decide (b < a)), by simp [Go.binOp, Op.intCmp], .bool _⟩
  · exact ⟨.bool (decide (b ≤ a)), by simp [Go.binOp, Op.intCmp], .bool _⟩

theorem str_eq_iff {s s' : ByteArray} : (s.toList == s'.toList) = decide (s.data.toList = s'.data.toList) := by
  rw [ByteArray.toList_eq, ByteArray.toList_eq, Bool.eq_iff_iff]; simp

theorem str_bin {o : BinOp} {s s' : ByteArray} {t : TypeId} {r : V} (h : strBin o s.data.toList s'.data.toList = some r) :
    ∃ z, (Go.binOp o t (.string s) (.string s')).run P w = .ok z w ∧ RelD cx w X z r := by
  cases o <;> simp only [strBin, Option.some.injEq, reduceCtorEq] at h
  case add =>
    split at h
    · rename_i hb; simp only [Option.some.injEq] at h; subst h
      refine ⟨.string (s ++ s'), ?_, ?_⟩
      · have h1 : s.size = s.data.toList.length := Array.length_toList.symm
        have h2 : s'.size = s'.data.toList.length := Array.length_toList.symm
        have h3 : ¬ (((s.size + s'.size : Nat) : Int) > IntKind.i64.max) := by
          simp only [IntKind.max, IntKind.signed, IntKind.bits, if_true]; omega
        simp only [Go.binOp, Op.stringOp]
        rw [if_neg h3]; rfl
      · have := RelD.str (cx := cx) (w := w) (X := X) (s ++ s')
        simpa using this
    · simp at h
  all_goals subst h
  · exact ⟨.bool (decide (s.data.toList = s'.data.toList)), by simp only [Go.binOp, Op.stringOp, str_eq_iff]; rfl, .bool _⟩
  · exact ⟨.bool (!decide (s.data.toList = s'.data.toList)), by simp only [Go.binOp, Op.stringOp, str_eq_iff]; rfl, .bool _⟩

/-- binary operations on numbers and texts -/
theorem bin_ok {o : BinOp} {x y : V} {u v : Value} {t : TypeId} {p q : Operand} {r : V} (hx : RelT cx w X S β α u x) (hy : RelT cx w X S β α v y) (h : binV o x y = some r) :
    ∃ z, (do eqGuard o t p q u v; Go.binOp o t u v : Sem Value).run P w = .ok z w ∧ RelD cx w X z r := by
  unfold binV at h
  split at h
  · rename_i k a k' b
    obtain rfl := rel_int hx
    obtain rfl := rel_int hy
    have hg : (eqGuard o t p q (.int k a) (.int k' b)).run P w = .ok () w := by
      unfold eqGuard; cases o <;> rfl
    split at h
    · rename_i hk; subst hk
      rw [Sem.run_bind, hg]
      exact int_bin h
    · simp at h
  · rename_i a b
    obtain ⟨s, rfl, rfl⟩ := rel_str hx
    obtain ⟨s', rfl, rfl⟩ := rel_str hy
    have hg : (eqGuard o t p q (.string s) (.string s')).run P w = .ok () w := by
      unfold eqGuard; cases o <;> rfl
    rw [Sem.run_bind, hg]
    exact str_bin h
  · simp at h

theorem eqb_ok {ne a b : Bool} {t : TypeId} {p q : Operand} (ht : P.underlying t = some .bool) :
    (do eqGuard (if ne then .neq else .eql) t p q (.bool a) (.bool b); Go.binOp (if ne then .neq else .eql) t (.bool a) (.bool b) : Sem Value).run P w = .ok (.bool (ne ^^ (a == b))) w := by
  have hg : ∀ o, (eqGuard o t p q (.bool a) (.bool b)).run P w = .ok () w := fun o => by unfold eqGuard; cases o <;> rfl
  rw [Sem.run_bind, hg]
  have he : (Op.equal t (.bool a) (.bool b)).run P w = .ok (a == b) w := by
    have hm : Op.maxDepth = 9999 + 1 := rfl
    unfold Op.equal
    rw [hm]
    unfold Op.equalIn
    rw [Sem.run_bind, run_underlying ht w]
    rfl
  cases ne
  · show (Go.binOp .eql t (.bool a) (.bool b)).run P w = _
    unfold Go.binOp
    simp only [Sem.run_bind, he]; simp [Result.andThen]
  · show (Go.binOp .neq t (.bool a) (.bool b)).run P w = _
    unfold Go.binOp
    simp only [Sem.run_bind, he]; simp [Result.andThen]

theorem sh_ok {o : BinOp} {x y : V} {u v : Value} {t : TypeId} {p q : Operand} {r : V} (hx : RelT cx w X S β α u x) (hy : RelT cx w X S β α v y) (h : shV o x y = some r) :
    ∃ z, (do eqGuard o t p q u v; Go.binOp o t u v : Sem Value).run P w = .ok z w ∧ RelD cx w X z r := by
  unfold shV at h
  split at h
  · rename_i k a k' b
    obtain rfl := rel_int hx
    obtain rfl := rel_int hy
    have hg : (eqGuard o t p q (.int k a) (.int k' b)).run P w = .ok () w := by
      unfold eqGuard; cases o <;> rfl
    rw [Sem.run_bind, hg]
    split at h
    · simp at h
    · rename_i hb
      cases o <;> simp only [Option.some.injEq, reduceCtorEq] at h
      all_goals subst h
      · exact ⟨.int k (k.wrap (a * 2 ^ (min b.toNat k.bits))), by simp [Go.binOp, Op.shift, hb, Result.andThen], .int _ _⟩
      · exact ⟨.int k (a.fdiv (2 ^ (min b.toNat k.bits))), by simp [Go.binOp, Op.shift, hb, Result.andThen], .int _ _⟩
  · simp at h

theorem un_ok {o : UnOp} {x : V} {u : Value} {r : V} (hx : RelT cx w X S β α u x) (h : unV o x = some r) :
    ∃ z, (Op.unary o u).run P w = .ok z w ∧ RelD cx w X z r := by
  unfold unV at h
  split at h
  · obtain rfl := rel_bool hx
    cases o <;> simp at h
    subst h; exact ⟨_, rfl, .bool _⟩
  · obtain rfl := rel_int hx
    cases o <;> simp at h
    subst h; exact ⟨_, by simp [Op.unary, Op.intArith]; rfl, by simpa using RelD.int _ _⟩
  · simp at h

theorem conv_int {s d : TypeId} {k : IntKind} {n : Int} {k' : IntKind} {dd : TypeDesc} (hs : P.underlying s = some dd) (hd : P.underlying d = some (.int k)) :
    (Go.convert s d (.int k' n)).run P w = .ok (.int k (k.wrap n)) w := by
  unfold Go.convert
  simp [run_underlying hs, run_underlying hd, Result.andThen, Conv.intToInt]

theorem conv_str {s d : TypeId} {n : ByteArray} (hs : P.underlying s = some .string) (hd : P.underlying d = some .string) :
    (Go.convert s d (.string n)).run P w = .ok (.string n) w := by
  unfold Go.convert
  simp [run_underlying hs, run_underlying hd, Result.andThen]

theorem run_typeInfo' {t : TypeId} {i : TypeInfo} (h : P.info? t = some i) (w : World) : (typeInfo t).run P w = .ok i w := by
  simp [typeInfo, h]

theorem run_sizeOf' {t : TypeId} {n : Nat} (h : szT P t = some n) (w : World) : (Go.sizeOf t).run P w = .ok n w := by
  unfold szT at h
  cases hi : P.info? t with
  | none => simp [hi] at h
  | some i =>
    simp only [hi, Option.map_some, Option.some.injEq] at h
    unfold Go.sizeOf
    simp [run_typeInfo' hi, h, Result.andThen]

theorem run_isAgg' (t : TypeId) {d : TypeDesc} (h : P.underlying t = some d) (w : World) : (isAgg t).run P w = .ok (aggT P t) w := by
  unfold isAgg aggT
  rw [Sem.run_bind, run_underlying h w, h]
  cases d <;> rfl

theorem addr_add (b o n : Nat) : (⟨b, o, none⟩ : Addr).add n = ⟨b, o + n, none⟩ := by
  unfold Addr.add
  split
  · rename_i h; subst h; rfl
  · rfl

theorem fad_ok {s : TypeId} {i off : Nat} {x : V} {u : Value} {r : V} (hx : RelT cx w X S β α u x) (hf : okField P s i off = true) (h : fadV off x = some r) :
    ∃ z, (Instr.fieldAt s u i).run P w = .ok z w ∧ RelT cx w X S β α z r := by
  unfold okField at hf
  split at hf <;> try (simp at hf; done)
  rename_i fs hu
  split at hf <;> try (simp at hf; done)
  rename_i f hfi
  split at hf <;> try (simp at hf; done)
  rename_i n hn
  simp only [Bool.and_eq_true, beq_iff_eq, bne_iff_ne, ne_eq] at hf
  obtain ⟨rfl, hn0⟩ := hf
  have key : ∀ b o, (Instr.fieldAt s (.pointer (some ⟨b, o, none⟩)) i).run P w = .ok (.pointer (some ⟨b, o + f.offset, none⟩)) w := by
    intro b o
    unfold Instr.fieldAt
    rw [Sem.run_bind, run_underlying hu w]
    simp only [Result.andThen, hfi, Instr.sureAddr, Sem.run_bind, Sem.run_pure, fieldPlace, run_sizeOf' hn w, if_neg hn0, addr_add]
  unfold fadV at h
  split at h <;> simp only [Option.some.injEq, reduceCtorEq] at h <;> subst h
  · obtain ⟨h1, rfl⟩ := hx
    exact ⟨_, key _ _, h1, rfl⟩
  · obtain ⟨z, rows, f', b, o, cap, hA, rfl, hx⟩ := hx
    exact ⟨_, key _ _, z, rows, f', b, o, cap, hA, by rw [Nat.add_assoc], hx⟩
  · simp only [RelT] at hx
    obtain ⟨b, o, c, e, fr, rfl, hb, hX, hw, ho, hc⟩ := cptr_inv hx
    refine ⟨_, key _ _, cptr_mk hb hX hw (by omega) (fun j hj => ?_)⟩
    rw [Nat.add_sub_add_right]
    exact hc j hj

theorem run_indexAt {t e : TypeId} {z : Nat} (hu : P.underlying t = some (.slice e)) (hz : szT P e = some z) (b o : Nat) (k : IntKind) (n : Int) (len cap : Nat)
    (h0 : 0 ≤ n) (h1 : n < (len : Int)) : (Instr.indexAt t (.slice (some ⟨b, o, none⟩) len cap) (.int k n)).run P w = .ok (.pointer (some ⟨b, o + n.toNat * z, none⟩)) w := by
  unfold Instr.indexAt
  simp only [asIntOf, Sem.run_bind, Result.andThen, run_underlying hu w, pure_bind]
  rw [if_pos ⟨h0, h1⟩]
  simp only [Sem.run_bind, run_sizeOf' hz w, Result.andThen, Sem.run_pure, addr_add]

theorem iad_ok {t e : TypeId} {z : Nat} {x i : V} {u v : Value} {r : V} (ht : sliceT P t = some e) (hz : szT P e = some z)
    (hx : RelT cx w X S β α u x) (hi : RelT cx w X S β α v i) (h : iadV z x i = some r) :
    ∃ q, (Instr.indexAt t u v).run P w = .ok q w ∧ RelT cx w X S β α q r := by
  have hu : P.underlying t = some (.slice e) := by
    unfold sliceT at ht
    split at ht <;> simp_all
  unfold iadV at h
  split at h
  · rename_i z' rows k n
    obtain rfl := rel_int hi
    split at h
    · rename_i hc
      obtain ⟨rfl, h0⟩ := hc
      cases hr : rows[n.toNat]? with
      | none => simp [hr] at h
      | some row =>
        simp only [hr, Option.map_some, Option.some.injEq] at h
        subst h
        simp only [RelT] at hx
        have hlt : n.toNat < rows.length := by
          rcases Nat.lt_or_ge n.toNat rows.length with h | h
          · exact h
          · simp [List.getElem?_eq_none h] at hr
        have hrow : gr rows n.toNat = row := by simp [gr, hr]
        rcases slice_inv hx with ⟨⟨a0, rfl⟩, rfl⟩ | ⟨b, o, cap, c, e', fr, rfl, hb, hX, hw, hcap, hzz, hcc⟩
        · simp at hlt
        · refine ⟨_, run_indexAt hu hz b o k n _ _ h0 (by omega), ?_⟩
          have hjz : row.length = z' := by have := hzz n.toNat hlt; rwa [hrow] at this
          refine cptr_mk hb hX hw (Nat.zero_le _) (fun j hj => ?_)
          have := hcc n.toNat j hlt (by omega)
          rwa [hrow] at this
    · simp at h
  · rename_i s z' m k n
    obtain rfl := rel_int hi
    split at h
    · rename_i hc
      obtain ⟨rfl, h0, h1⟩ := hc
      simp only [Option.some.injEq] at h
      subst h
      obtain ⟨rows, f, a, cap, hA, rfl, ha, ho⟩ := hx
      obtain ⟨b, o, rfl⟩ := ha (by omega)
      refine ⟨_, run_indexAt hu hz b o k n _ _ h0 h1, z', rows, f, b, o, cap, hA, by simp, fun hf => ⟨(ho hf).1, fun e => ((ho hf).2 e).symm⟩⟩
    · simp at h
  · simp at h

theorem iada_ok {t e : TypeId} {z n : Nat} {x i : V} {u v : Value} {r : V} (hu : P.underlying t = some (.array n e)) (hz : szT P e = some z)
    (hx : RelT cx w X S β α u x) (hi : RelT cx w X S β α v i) (h : iadaV z n x i = some r) :
    ∃ q, (Instr.indexAt t u v).run P w = .ok q w ∧ RelT cx w X S β α q r := by
  have key : ∀ b o k (m : Int), 0 ≤ m → m < (n : Int) → (Instr.indexAt t (.pointer (some ⟨b, o, none⟩)) (.int k m)).run P w = .ok (.pointer (some ⟨b, o + m.toNat * z, none⟩)) w := by
    intro b o k m h0 h1
    unfold Instr.indexAt
    simp only [asIntOf, Sem.run_bind, Result.andThen, run_underlying hu w, pure_bind, Instr.sureAddr]
    rw [if_pos ⟨h0, h1⟩]
    simp only [Sem.run_bind, run_sizeOf' hz w, Result.andThen, Sem.run_pure, addr_add]
  unfold iadaV at h
  split at h
  · obtain rfl := rel_int hi
    split at h
    · rename_i hc
      simp only [Option.some.injEq] at h
      subst h
      obtain ⟨h1, rfl⟩ := hx
      exact ⟨_, key _ _ _ _ hc.1 hc.2, h1, rfl⟩
    · simp at h
  · obtain rfl := rel_int hi
    split at h
    · rename_i hc
      simp only [Option.some.injEq] at h
      subst h
      simp only [RelT] at hx
      obtain ⟨b, o, c, e, fr, rfl, hb, hX, hw, ho, hcc⟩ := cptr_inv hx
      refine ⟨_, key _ _ _ _ hc.1 hc.2, cptr_mk hb hX hw (by omega) (fun j hj => ?_)⟩
      rw [Nat.add_sub_add_right]
      exact hcc j hj
    · simp at h
  · simp at h

theorem idx_ok {t : TypeId} {x i : V} {u v : Value} {r : V} (hu : P.underlying t = some .string)
    (hx : RelT cx w X S β α u x) (hi : RelT cx w X S β α v i) (h : idxV x i = some r) :
    ∃ q, (Instr.index t u v).run P w = .ok q w ∧ RelD cx w X q r := by
  unfold idxV at h
  split at h
  · rename_i l k n
    obtain rfl := rel_int hi
    obtain ⟨s, rfl, rfl⟩ := rel_str hx
    split at h
    · rename_i h0
      cases hb : s.data.toList[n.toNat]? with
      | none => simp [hb] at h
      | some b =>
        simp only [hb, Option.map_some, Option.some.injEq] at h
        subst h
        refine ⟨.int .u8 b.toNat, ?_, .int _ _⟩
        have hs : s[n.toNat]? = some b := by
          have hlt : n.toNat < s.size := by
            rcases Nat.lt_or_ge n.toNat s.data.toList.length with h' | h'
            · rwa [Array.length_toList] at h'
            · simp [List.getElem?_eq_none h'] at hb
          rw [ByteArray.getElem?_lt' s _ hlt, ← hb]
          have : s.data.toList[n.toNat]? = some (s.data[n.toNat]'hlt) := by simp
          rw [this]; rfl
        unfold Instr.index
        simp only [asIntOf, Sem.run_bind, Result.andThen, run_underlying hu w, pure_bind, if_pos h0, hs, Sem.run_pure]
    · simp at h
  · simp at h

theorem len_ok {st : Bool} {t ty : TypeId} {x : V} {u : Value} {r : V} (hu : okLenT P st t = true)
    (hx : RelT cx w X S β α u x) (h : lenV st x = some r) :
    ∃ q, (Builtin.len_ #[t] ty #[u]).run P w = .ok q w ∧ RelD cx w X q r := by
  have hsl : ∀ a n cap, st = false → (Builtin.len_ #[t] ty #[.slice a n cap]).run P w = .ok (.int .i64 n) w := by
    intro a n cap hne
    subst hne
    unfold okLenT at hu
    split at hu <;> simp at hu
    rename_i hst hd
    · simp at hst
    · rename_i e _ hd
      unfold Builtin.len_
      simp only [List.getElem?_toArray, List.getElem?_cons_zero, Sem.run_bind, run_underlying hd w, Result.andThen]
      rfl
  unfold lenV at h
  split at h <;> simp only [Option.some.injEq, reduceCtorEq] at h <;> subst h
  · simp only [RelT] at hx
    rcases slice_inv hx with ⟨⟨a0, rfl⟩, rfl⟩ | ⟨b, o, cap, c, e', fr, rfl, -⟩
    · exact ⟨_, hsl _ _ _ rfl, .int _ _⟩
    · exact ⟨_, hsl _ _ _ rfl, .int _ _⟩
  · obtain ⟨s, rfl, rfl⟩ := rel_str hx
    have hd : P.underlying t = some .string := by
      unfold okLenT at hu
      split at hu <;> simp_all
    refine ⟨.int .i64 s.size, ?_, ?_⟩
    · unfold Builtin.len_
      simp only [List.getElem?_toArray, List.getElem?_cons_zero, Sem.run_bind, run_underlying hd w, Result.andThen]
      rfl
    · have : s.size = s.data.toList.length := Array.length_toList.symm
      rw [this]; exact .int _ _
  · obtain ⟨rows, f, a, cap, hA, rfl, -⟩ := hx
    exact ⟨_, hsl _ _ _ rfl, .int _ _⟩

/-- bounds of a slice expression -/
theorem bound_ok {x : Option V} {v : Option Value} {d n : Nat} (h : bound x d = some n)
    (hx : (v = none ∧ x = none) ∨ ∃ a b, v = some a ∧ x = some b ∧ RelT cx w X S β α a b) :
    (v = none ∧ n = d) ∨ ∃ k, v = some (.int k n) := by
  rcases hx with ⟨rfl, rfl⟩ | ⟨a, b, rfl, rfl, hr⟩
  · simp [bound] at h; exact .inl ⟨rfl, h.symm⟩
  · unfold bound at h
    split at h
    · simp at *
    · rename_i k m hb
      simp only [Option.some.injEq] at hb
      subst hb
      obtain rfl := rel_int hr
      split at h
      · rename_i h0
        simp only [Option.some.injEq] at h
        subst h
        exact .inr ⟨_, by rw [Int.toNat_of_nonneg h0]⟩
      · simp at h
    · simp at h

theorem run_sliceBound {k : IntKind} {n y : Nat} {code : BoundsCode} (h : n ≤ y) : (Instr.sliceBound (.int k n) y code).run P w = .ok n w := by
  unfold Instr.sliceBound
  simp only [asIntOf, pure_bind]
  rw [if_pos ⟨by omega, by omega⟩]
  simp

theorem run_sliceBounds {isS : Bool} {len cap h l : Nat} {lo hi : Option Value} (hh : (hi = none ∧ h = len) ∨ ∃ k, hi = some (.int k h)) (hl : (lo = none ∧ l = 0) ∨ ∃ k, lo = some (.int k l))
    (h1 : l ≤ h) (h2 : h ≤ cap) : (Instr.sliceBounds isS len cap lo hi none).run P w = .ok (l, h, cap) w := by
  unfold Instr.sliceBounds
  rcases hh with ⟨rfl, rfl⟩ | ⟨k, rfl⟩ <;> rcases hl with ⟨rfl, rfl⟩ | ⟨k', rfl⟩
  · simp
  · simp [run_sliceBound h1, Result.andThen]
  · simp [run_sliceBound h2, Result.andThen]
  · simp [run_sliceBound h2, run_sliceBound h1, Result.andThen]

theorem sl_ok {st : Bool} {t : TypeId} {z : Nat} {x : V} {u : Value} {lo hi : Option V} {lo' hi' : Option Value} {r : V}
    (ht : okSlT P st z t = true)
    (hx : RelT cx w X S β α u x)
    (hlo : (lo' = none ∧ lo = none) ∨ ∃ a b, lo' = some a ∧ lo = some b ∧ RelT cx w X S β α a b)
    (hhi : (hi' = none ∧ hi = none) ∨ ∃ a b, hi' = some a ∧ hi = some b ∧ RelT cx w X S β α a b)
    (h : slV st z x lo hi = some r) : ∃ q, (Instr.sliceAt t u lo' hi' none).run P w = .ok q w ∧ RelD cx w X q r := by
  unfold slV at h
  split at h
  · rename_i l
    obtain ⟨s, rfl, rfl⟩ := rel_str hx
    have hd : P.underlying t = some .string := by
      unfold okSlT at ht
      split at ht <;> simp_all
    simp only [Option.bind_eq_some_iff] at h
    obtain ⟨hn, h1, ln, h2, h3⟩ := h
    split at h3 <;> simp only [Option.some.injEq, reduceCtorEq] at h3
    rename_i hc
    subst h3
    have hsz : s.data.toList.length = s.size := Array.length_toList
    rw [hsz] at h1 hc
    refine ⟨.string (s.extract ln hn), ?_, ?_⟩
    · unfold Instr.sliceAt Instr.slice
      simp only [Sem.run_bind, run_underlying hd w, Result.andThen, Option.isSome_none, Bool.false_eq_true, if_false]
      simp only [Sem.run_bind, run_underlying hd w, Result.andThen, run_sliceBounds (bound_ok h1 hhi) (bound_ok h2 hlo) hc.1 hc.2, Option.isSome_none, Bool.false_eq_true, if_false, Sem.run_pure]
    · have := RelD.str (cx := cx) (w := w) (X := X) (s.extract ln hn)
      have e : (s.extract ln hn).data.toList = (s.data.toList.take hn).drop ln := by
        simp [ByteArray.data_extract, Array.toList_extract, List.extract_eq_take_drop, List.drop_take]
      rwa [e] at this
  · rename_i z' rows
    have hd : ∃ e, P.underlying t = some (.slice e) ∧ szT P e = some z := by
      unfold okSlT at ht
      split at ht <;> simp_all
    obtain ⟨e, hd, hz⟩ := hd
    simp only [Option.bind_eq_some_iff] at h
    obtain ⟨hn, h1, ln, h2, h3⟩ := h
    split at h3 <;> simp only [Option.some.injEq, reduceCtorEq] at h3
    rename_i hc
    obtain ⟨rfl, hc1, hc2⟩ := hc
    subst h3
    simp only [RelT] at hx
    rcases slice_inv hx with ⟨⟨a0, rfl⟩, rfl⟩ | ⟨b, o, cap, c, e', fr, rfl, hb, hX, hw, hcap, hzz, hcc⟩
    · simp only [List.length_nil, Nat.le_zero] at hc2
      subst hc2
      obtain rfl : ln = 0 := by omega
      refine ⟨.slice a0 0 0, ?_, by simpa using RelD.nilslice _ _⟩
      unfold Instr.sliceAt Instr.slice
      simp only [Sem.run_bind, run_underlying hd w, Result.andThen]
      simp only [Sem.run_bind, run_underlying hd w, Result.andThen, run_sliceBounds (len := 0) (cap := 0) (bound_ok h1 hhi) (bound_ok h2 hlo) hc1 (Nat.le_refl _), run_sizeOf' hz w, Sem.run_pure]
      cases a0 <;> simp
    · refine ⟨.slice (some ⟨b, if cap = ln then o else o + ln * z', none⟩) (hn - ln) (cap - ln), ?_, ?_⟩
      · unfold Instr.sliceAt Instr.slice
        simp only [Sem.run_bind, run_underlying hd w, Result.andThen]
        simp only [Sem.run_bind, run_underlying hd w, Result.andThen, run_sliceBounds (bound_ok h1 hhi) (bound_ok h2 hlo) hc1 (Nat.le_trans hc2 hcap), run_sizeOf' hz w, Sem.run_pure]
        by_cases hcl : cap = ln
        · simp [hcl]
        · simp [hcl, addr_add]
      · have hlen : ((rows.take hn).drop ln).length = hn - ln := by simp; omega
        refine slice_mk hb hX hw (by omega) (fun i hi => ?_) (fun i j hi hj => ?_) hlen
        · have hg : gr ((rows.take hn).drop ln) i = gr rows (ln + i) := by
            simp only [gr, List.getD_eq_getElem?_getD, List.getElem?_drop]
            rw [List.getElem?_take_of_lt (by omega)]
          rw [hg]; exact hzz _ (by omega)
        · have hg : gr ((rows.take hn).drop ln) i = gr rows (ln + i) := by
            simp only [gr, List.getD_eq_getElem?_getD, List.getElem?_drop]
            rw [List.getElem?_take_of_lt (by omega)]
          rw [hg]
          have := hcc (ln + i) j (by omega) hj
          rw [if_neg (by omega)]
          rw [show o + ln * z' + i * z' + j = o + (ln + i) * z' + j from by rw [Nat.add_mul]; omega]
          exact this
  · simp at h

theorem ext_ok {x : V} {u : Value} {i : Nat} {r : V} (hx : RelT cx w X S β α u x) (h : extV i x = some r) :
    ∃ q, (Instr.extract u i).run P w = .ok q w ∧ RelT cx w X S β α q r := by
  unfold extV at h
  split at h
  · rename_i vs
    obtain ⟨cs, rfl, hl, hc⟩ := hx
    have hi : i < vs.length := by
      rcases Nat.lt_or_ge i vs.length with h' | h'
      · exact h'
      · simp [List.getElem?_eq_none h'] at h
    obtain ⟨q, hq, hr⟩ := hc i hi
    have hgv : gv vs i = r := by simp [gv, h]
    rw [hgv] at hr
    refine ⟨q, by simp [Instr.extract, hq], ?_⟩
    cases r <;> first | exact hr | exact .of_data hr
  · simp at h

theorem mm_ok {mx : Bool} {k : IntKind} {a b : Int} {ts : Array TypeId} {ty : TypeId} :
    ((if mx then Builtin.max_ else Builtin.min_) ts ty #[.int k a, .int k b]).run P w = .ok (.int k (if (if mx then a < b else b < a) then b else a)) w := by
  cases mx
  · simp [Builtin.min_, Builtin.min2]
  · simp [Builtin.max_, Builtin.max2]

end
end Sg
