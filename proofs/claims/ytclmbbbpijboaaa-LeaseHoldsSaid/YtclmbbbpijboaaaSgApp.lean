/- append onto an owned slice; closures; composite values. -/
import Derived.Test.YtclmbbbpijboaaaSgMemOps
namespace Sg
open Go Go.RowKit
set_option linter.unusedSimpArgs false
set_option linter.unusedVariables false

section
variable {P : Program} {cx : Cx} {w : World} {X : Nat → Prop} {S : St} {β : Nat → Nat} {α : Nat → Value}

theorem DR.append {z : Nat} {l m : List Value} {rows ys : List (List V)} (h : DR cx w X z l rows) (k : DR cx w X z m ys) : DR cx w X z (l ++ m) (rows ++ ys) := by
  refine ⟨by simp [h.1, k.1, Nat.add_mul], fun i hi => ?_, fun i j hi hj => ?_⟩
  · rcases Nat.lt_or_ge i rows.length with hl | hl
    · have := h.2.1 i hl; simpa [gr, List.getD_eq_getElem?_getD, List.getElem?_append_left hl] using this
    · have := k.2.1 (i - rows.length) (by simp at hi; omega); simpa [gr, List.getD_eq_getElem?_getD, List.getElem?_append_right hl] using this
  · rcases Nat.lt_or_ge i rows.length with hl | hl
    · obtain ⟨u, a, b, c⟩ := h.2.2 i j hl hj
      have := idx_lt hl hj
      exact ⟨u, by rw [List.getElem?_append_left (by rw [h.1]; exact this)]; exact a, b, by simpa [gr, List.getD_eq_getElem?_getD, List.getElem?_append_left hl] using c⟩
    · obtain ⟨u, a, b, c⟩ := k.2.2 (i - rows.length) j (by simp at hi; omega) hj
      have e : i * z + j - l.length = (i - rows.length) * z + j := by
        rw [h.1, Nat.sub_mul]; have : rows.length * z ≤ i * z := Nat.mul_le_mul_right z hl; omega
      have hge : l.length ≤ i * z + j := by rw [h.1]; have : rows.length * z ≤ i * z := Nat.mul_le_mul_right z hl; omega
      exact ⟨u, by rw [List.getElem?_append_right hge, e]; exact a, b, by simpa [gr, List.getD_eq_getElem?_getD, List.getElem?_append_right hl] using c⟩

/-- the cells that rows lie in -/
theorem DR.of_cells {z o : Nat} {c : Array Value} {rows : List (List V)} (hlen : ∀ i, i < rows.length → (gr rows i).length = z)
    (h : ∀ i j, i < rows.length → j < z → ∃ u, c[o + i * z + j]? = some u ∧ u.oneCell' = true ∧ RelD cx w X u (gv (gr rows i) j)) (hz : 0 < z) :
    o + rows.length * z ≤ c.size ∨ rows = [] := by
  rcases Nat.eq_zero_or_pos rows.length with h0 | h0
  · exact .inr (List.eq_nil_of_length_eq_zero h0)
  · obtain ⟨u, a, -⟩ := h (rows.length - 1) (z - 1) (by omega) (by omega)
    have hlt : o + (rows.length - 1) * z + (z - 1) < c.size := by
      rcases Nat.lt_or_ge (o + (rows.length - 1) * z + (z - 1)) c.size with h' | h'
      · exact h'
      · simp [Array.getElem?_eq_none h'] at a
    rw [Nat.sub_mul] at hlt
    have : z ≤ rows.length * z := Nat.le_mul_of_pos_left z h0
    exact .inl (by omega)

theorem DR.seg {z o : Nat} {c : Array Value} {rows : List (List V)} (hsz : o + rows.length * z ≤ c.size) (hlen : ∀ i, i < rows.length → (gr rows i).length = z)
    (h : ∀ i j, i < rows.length → j < z → ∃ u, c[o + i * z + j]? = some u ∧ u.oneCell' = true ∧ RelD cx w X u (gv (gr rows i) j)) :
    DR cx w X z ((c.toList.drop o).take (rows.length * z)) rows := by
  refine ⟨by simp; omega, hlen, fun i j hi hj => ?_⟩
  obtain ⟨u, a, b, r⟩ := h i j hi hj
  have := idx_lt hi hj
  exact ⟨u, by rw [List.getElem?_take_of_lt this, List.getElem?_drop]; simpa [Nat.add_assoc] using a, b, r⟩

theorem DR.nil {z : Nat} : DR cx w X z [] [] := ⟨by simp, fun i hi => by simp at hi, fun i j hi => by simp at hi⟩

/-- what is appended: its cells -/
theorem appended_ok {z n : Nat} {y : V} {u : Value} {ys : List (List V)} (hy : RelT cx w X S β α u y) (h : V.rowsOf z y = some ys) (hz : 0 < z) :
    ∃ l, (Builtin.lenOf u).run P w = .ok ys.length w ∧ (∀ w1 : World, w1.heap = w.heap → (Builtin.firstCells z ys.length u).run P w1 = .ok l.toArray w1) ∧ DR cx w X z l ys := by
  suffices main : ∀ y, RelT cx w X S β α u y → (match y with | .slice z' rows => if z' = z then some rows else none | .str s => if z = 1 then some (s.map fun b => [.int .u8 b.toNat]) else none | _ => none) = some ys →
      ∃ l, (Builtin.lenOf u).run P w = .ok ys.length w ∧ (∀ w1 : World, w1.heap = w.heap → (Builtin.firstCells z ys.length u).run P w1 = .ok l.toArray w1) ∧ DR cx w X z l ys by
    unfold V.rowsOf at h
    split at h
    · exact main _ hy h
    · exact main _ hy h
    · rename_i z' rows
      simp only [RelT] at hy
      cases hy with
      | xslice a n c z rows hr => exact main (.slice z' rows) hr h
    · simp at h
  clear h hy
  intro y hy h
  split at h
  · rename_i z' rows0
    split at h <;> simp only [Option.some.injEq, reduceCtorEq] at h
    rename_i e
    obtain rfl : z = z' := e.symm
    subst h
    simp only [RelT] at hy
    rcases slice_inv hy with ⟨⟨a0, rfl⟩, rfl⟩ | ⟨b, o, cap, c, e', fr, rfl, hb, hX, hw, hcap, hzz, hcc⟩
    · exact ⟨[], rfl, fun w1 _ => by cases a0 <;> simp [Builtin.firstCells, loadCells, loadCellsFrom], .nil⟩
    · generalize rows0 = rows at *
      by_cases hr : rows = []
      · subst hr
        exact ⟨[], rfl, fun w1 _ => by simp [Builtin.firstCells, loadCells, loadCellsFrom], .nil⟩
      · have hsz := (DR.of_cells hzz hcc hz).resolve_right hr
        refine ⟨(c.toList.drop o).take (rows.length * z), rfl, fun w1 hw1 => ?_, .seg hsz hzz hcc⟩
        have hl := run_loadCells_list (P := P) w1 ⟨b, o, none⟩ ((c.toList.drop o).take (rows.length * z)) (fun j v hj => by
          have hj' : j < rows.length * z := by
            rcases Nat.lt_or_ge j (rows.length * z) with h' | h'
            · exact h'
            · rw [List.getElem?_eq_none (by simp; omega)] at hj; simp at hj
          rw [List.getElem?_take_of_lt hj', List.getElem?_drop] at hj
          rw [addr_add]; simp [World.cell?, hw1, hw]; simpa using hj)
        have hlen : ((c.toList.drop o).take (rows.length * z)).length = rows.length * z := by simp; omega
        rw [hlen] at hl
        simpa [Builtin.firstCells] using hl
  · split at h <;> simp only [Option.some.injEq, reduceCtorEq] at h
    rename_i e; subst e; subst h
    obtain ⟨s, rfl, rfl⟩ := rel_str hy
    have hs : s.data.toList.length = s.size := Array.length_toList
    refine ⟨s.data.toList.map fun b => .int .u8 b.toNat, by simp [Builtin.lenOf, hs], fun w1 _ => ?_, ?_⟩
    · simp only [Builtin.firstCells, List.length_map, hs, Sem.run_pure]
      congr 1
      apply Array.ext'
      have : (s.extract 0 s.size).data = s.data := by
        apply Array.ext'
        simp [ByteArray.data_extract]
      rw [this]; simp
    · refine ⟨by simp, fun i hi => ?_, fun i j hi hj => ?_⟩
      · simp at hi; simp [gr, List.getD_eq_getElem?_getD, hi]
      · simp only [List.length_map] at hi
        obtain rfl : j = 0 := by omega
        simp only [Array.length_toList] at hi
        have hd : s.data.toList[i]? = some s.data[i] := by simp [hi]
        refine ⟨.int .u8 s.data[i].toNat, by rw [List.getElem?_map]; simp [hd], rfl, ?_⟩
        have : gv (gr (s.data.toList.map fun b => [V.int .u8 b.toNat]) i) 0 = .int .u8 s.data[i].toNat := by
          simp only [gr, gv, List.getD_eq_getElem?_getD, List.getElem?_map, hd]; rfl
        rw [this]; exact .int _ _
  · simp at h

theorem growBy_le (n : Nat) : ∀ r c, c ≤ n + (n + 768) / 4 → Builtin.growBy n r c ≤ n + (n + 768) / 4
  | 0, c, h => by simpa [Builtin.growBy] using h
  | r + 1, c, h => by
    unfold Builtin.growBy
    split
    · exact h
    · exact growBy_le n r _ (by omega)

theorem nextcap_le {need cap : Nat} (h : cap < need) (hn : need ≤ 1073741824) : Builtin.nextslicecap need cap ≤ 2147483648 := by
  unfold Builtin.nextslicecap
  split
  · omega
  · split
    · omega
    · have := growBy_le need 4 cap (by omega); omega

end

theorem ArrOK.cells {cx : Cx} {w : World} {Y : Nat → Prop} {v : Value} {z : Nat} {rows : List (List V)} (h : ArrOK cx w Y v z rows) (hz : 0 < z) :
    ∃ l, DR cx w Y z l rows ∧ (∀ (P : Program) (w1 : World), w1.heap = w.heap → (Builtin.firstCells z rows.length v).run P w1 = .ok l.toArray w1) ∧
      ∀ b o n cap c e, v = .slice (some ⟨b, o, none⟩) n cap → w.heap[b]? = some (.cells c e (0, 0)) → ∀ k, k < l.length → c[o + k]? = l[k]? := by
  rcases h.at_ with ⟨rfl, rfl⟩ | ⟨b, o, cap, c, e, rfl, h1, h2, h3, h4⟩
  · exact ⟨[], .nil, fun P w1 _ => by simp [Builtin.firstCells], fun b o n cap c e h => by simp at h⟩
  · have hsz : o + rows.length * z ≤ c.size := by have := Nat.mul_le_mul_right z h2; omega
    refine ⟨(c.toList.drop o).take (rows.length * z), .seg hsz h.len h4, fun P w1 hw1 => ?_, fun b' o' n' cap' c' e' hv hw' k hk => ?_⟩
    rotate_left
    · simp only [Value.slice.injEq, Option.some.injEq, Addr.mk.injEq] at hv
      obtain ⟨⟨rfl, rfl, -⟩, -, -⟩ := hv
      rw [h1] at hw'
      simp only [Option.some.injEq, Obj.cells.injEq] at hw'
      obtain ⟨rfl, -⟩ := hw'
      have hk' : k < rows.length * z := by simp at hk; omega
      rw [List.getElem?_take_of_lt hk', List.getElem?_drop]; simp
    have hl := run_loadCells_list (P := P) w1 ⟨b, o, none⟩ ((c.toList.drop o).take (rows.length * z)) (fun j v hj => by
      have hj' : j < rows.length * z := by
        rcases Nat.lt_or_ge j (rows.length * z) with h' | h'
        · exact h'
        · rw [List.getElem?_eq_none (by simp; omega)] at hj; simp at hj
      rw [List.getElem?_take_of_lt hj', List.getElem?_drop] at hj
      rw [addr_add]; simp [World.cell?, hw1, h1]; simpa using hj)
    have hlen : ((c.toList.drop o).take (rows.length * z)).length = rows.length * z := by simp; omega
    rw [hlen] at hl
    simpa [Builtin.firstCells] using hl

/-- rows in the cells of a block, as an owned slice -/
theorem ArrOK.of_DR {cx : Cx} {w : World} {Y : Nat → Prop} {z b o cap : Nat} {rows : List (List V)} {c : Array Value} {e : TypeId} {l : List Value} (hw : w.heap[b]? = some (.cells c e (0, 0)))
    (h : DR cx w Y z l rows) (hl : ∀ k, k < l.length → c[o + k]? = l[k]?) (h1 : rows.length ≤ cap) (h2 : o + cap * z ≤ c.size) {n : Nat} (hn : rows.length = n) : ArrOK cx w Y (.slice (some ⟨b, o, none⟩) n cap) z rows := by
  subst hn
  refine ⟨h.2.1, .inr ⟨b, o, cap, c, e, rfl, hw, h1, h2, fun i j hi hj => ?_⟩⟩
  obtain ⟨u, a1, a2, a3⟩ := h.2.2 i j hi hj
  have := idx_lt hi hj
  exact ⟨u, by rw [Nat.add_assoc, hl _ (by rw [h.1]; exact this)]; exact a1, a2, a3⟩

section
variable {P : Program} {w : World}

/-- append where there is room -/
theorem run_append_fit {t t' ty e : TypeId} {z n m cap : Nat} {base : Option Addr} {u : Value} {l : Array Value} {w' : World} (ht : P.underlying t = some (.slice e)) (hz : szT P e = some z)
    (ht' : okAppT P t' = true)
    (hn : (Builtin.lenOf u).run P w = .ok m w) (hf : (Builtin.firstCells z m u).run P w = .ok l w) (hfit : n + m ≤ cap)
    (hst : ∀ a, base = some a → (storeCells (a.add (n * z)) l.toList).run P w = .ok () w') (hnone : base = none → w' = w) :
    (Builtin.append_ #[t, t'] ty #[.slice base n cap, u]).run P w = .ok (.slice base (n + m) cap) w' := by
  obtain ⟨d', hd', hd2⟩ : ∃ d', P.underlying t' = some d' ∧ ((∃ x, d' = .slice x) ∨ d' = .string) := by
    unfold okAppT at ht'; split at ht' <;> simp_all
  unfold Builtin.append_
  rcases hd2 with ⟨x, rfl⟩ | rfl
  all_goals
    simp only [List.getElem?_toArray, List.getElem?_cons_zero, List.getElem?_cons_succ, Sem.run_bind, run_underlying ht w, run_underlying hd' w, Result.andThen, run_sizeOf' hz w, Sem.run_pure, hn, Bool.false_eq_true, if_false, Sem.run_ite, if_pos hfit, Bool.not_false, if_true, hf]
    cases base with
    | none => simp [hnone rfl]
    | some a => simp [hst a rfl, Result.andThen]

/-- append where there is none: a new block -/
theorem run_append_grow {t t' ty e : TypeId} {z n m cap : Nat} {base : Option Addr} {u : Value} {l l0 : Array Value} {ie : TypeInfo} {zv : Value} (ht : P.underlying t = some (.slice e)) (hz : szT P e = some z)
    (hie : P.info? e = some ie) (hb2 : ie.bytes ≤ 65536) (hzv : ie.zero = some zv)
    (ht' : okAppT P t' = true)
    (hn : (Builtin.lenOf u).run P w = .ok m w) (hf : ∀ w1 : World, w1.heap = w.heap → (Builtin.firstCells z m u).run P w1 = .ok l w1) (hfit : ¬ n + m ≤ cap)
    (hold : ∀ w1 : World, w1.heap = w.heap → (Builtin.firstCells z n (.slice base n cap)).run P w1 = .ok l0 w1) (hlim : n + m ≤ 1073741824) :
    ∃ nc d, n + m ≤ nc ∧ (Builtin.append_ #[t, t'] ty #[.slice base n cap, u]).run P w =
      .ok (.slice (some ⟨w.heap.size, 0, none⟩) (n + m) nc) { w with drawn := d, heap := w.heap.push (.cells (l0 ++ l ++ Builtin.zeroCells zv.cells (nc - (n + m))) e) } := by
  obtain ⟨d', hd', hd2⟩ : ∃ d', P.underlying t' = some d' ∧ ((∃ x, d' = .slice x) ∨ d' = .string) := by
    unfold okAppT at ht'; split at ht' <;> simp_all
  have hcap : ¬ ((Builtin.nextslicecap (n + m) cap * ie.bytes : Nat) > 2 ^ 48) := by
    have h1 := nextcap_le (need := n + m) (cap := cap) (by omega) hlim
    have h2 : Builtin.nextslicecap (n + m) cap * ie.bytes ≤ 2147483648 * 65536 := Nat.mul_le_mul h1 hb2
    omega
  have hmax : ¬ (((n + m : Nat) : Int) > IntKind.i64.max ∧ (False ∨ ie.bytes = 0)) := by
    simp only [IntKind.max, IntKind.signed, IntKind.bits, if_true]; omega
  have hti : ∀ w1 : World, (typeInfo e).run P w1 = .ok ie w1 := fun w1 => run_typeInfo' hie w1
  have hzero : ∀ w1 : World, (zeroValue e).run P w1 = .ok zv w1 := fun w1 => by simp [zeroValue, hti, hzv, Result.andThen]
  have hq : Question.forced (.appendCap (n + m) cap e) = false := rfl
  refine ⟨Question.cut (.appendCap (n + m) cap e) (w.tape w.drawn (.appendCap (n + m) cap e)), w.drawn + 1, by simp only [Question.cut]; exact Nat.le_add_right _ _, ?_⟩
  unfold Builtin.append_
  rcases hd2 with ⟨x, rfl⟩ | rfl
  all_goals
    simp only [List.getElem?_toArray, List.getElem?_cons_zero, List.getElem?_cons_succ, Sem.run_bind, run_underlying ht w, run_underlying hd' w, Result.andThen, run_sizeOf' hz w, Sem.run_pure, hn, Bool.false_eq_true, if_false, Sem.run_ite, if_neg hfit, hti, if_neg hmax]
    rw [if_neg hcap]
    simp only [Sem.run_bind, run_choose, hq, Bool.false_eq_true, if_false, Result.andThen, hti, run_askRoom, hold { w with drawn := w.drawn + 1 } rfl, hf { w with drawn := w.drawn + 1 } rfl, hzero, Sem.run_pure, newRow, run_newObj, Bool.not_false, if_true]

end

section
variable {P : Program} {cx : Cx} {B : Nat} {X : Nat → Prop} {S : St} {w : World} {β : Nat → Nat} {α : Nat → Value} {M : Nat → Prop}

theorem DR.one {z : Nat} (hz : 0 < z) {l : List Value} {rows : List (List V)} {w : World} {X : Nat → Prop} (h : DR cx w X z l rows) : ∀ x ∈ l, x.oneCell' = true := fun x hx => by
  obtain ⟨k, hk, rfl⟩ := List.getElem_of_mem hx
  have hk' : k < rows.length * z := by rw [← h.1]; exact hk
  have hkz : k / z < rows.length := Nat.div_lt_of_lt_mul (by rw [Nat.mul_comm]; exact hk')
  obtain ⟨u', a1, a2, -⟩ := h.2.2 (k / z) (k % z) hkz (Nat.mod_lt _ hz)
  rw [Nat.mul_comm, Nat.div_add_mod, List.getElem?_eq_getElem hk] at a1
  simp only [Option.some.injEq] at a1
  rw [a1]; exact a2

theorem own_mk {s z n : Nat} {rows : List (List V)} {b o cap : Nat} (hn : rows.length = n) :
    RelO { S with A := upd S.A s (some (z, rows, .live)) } (upd α s (.slice (some ⟨b, o, none⟩) n cap)) (.slice (some ⟨b, o, none⟩) n cap) s z n :=
  ⟨rows, .live, some ⟨b, o, none⟩, cap, by simp [upd], rfl, fun _ => ⟨b, o, rfl⟩, fun _ => ⟨by omega, fun _ => by simp [upd]⟩⟩

theorem app_ok {S1 : St} (h : RelW cx B X S w β α M) {t t' ty e : TypeId} {s z n : Nat} {y r : V} {v u : Value} {ie : TypeInfo} {zv : Value}
    (hx : RelT cx w (orP X M) S β α v (.own s z n)) (hy : RelT cx w (orP X M) S β α u y)
    (ht : P.underlying t = some (.slice e)) (hz : szT P e = some z) (hie : P.info? e = some ie) (hb2 : ie.bytes ≤ 65536) (hzv : ie.zero = some zv) (hzz : zv.cells.size = z) (hz0 : 0 < z)
    (ht' : okAppT P t' = true)
    (hev : appV S s z (.own s z n) y = some (r, S1)) :
    ∃ q w', (Builtin.append_ #[t, t'] ty #[v, u]).run P w = .ok q w' ∧ OpPost cx B X S w β α M S1 r q w' := by
  simp only [appV, and_self, if_true] at hev
  split at hev <;> try (simp at hev; done)
  rename_i z'' rows hA
  split at hev <;> try (simp at hev; done)
  rename_i hc
  obtain ⟨rfl, hn⟩ := hc
  simp only [Option.bind_eq_some_iff] at hev
  obtain ⟨ys, hys, hev⟩ := hev
  split at hev <;> try (simp at hev; done)
  rename_i hlim
  simp only [Option.some.injEq, Prod.mk.injEq] at hev
  obtain ⟨rfl, rfl⟩ := hev
  obtain ⟨rows', f, a, cap, hA', rfl, ha, ho⟩ := hx
  rw [hA] at hA'
  simp only [Option.some.injEq, Prod.mk.injEq] at hA'
  obtain ⟨-, rfl, rfl⟩ := hA'
  have hα := (ho (by simp)).2 hn
  obtain ⟨p1, p2⟩ := h.arr s z'' rows .live hA (by simp)
  obtain ⟨ly, hlen, hfirst, hdr⟩ := appended_ok (P := P) (n := 0) hy hys hz0
  obtain ⟨lx, hdx, hfx, hat⟩ := p1.cells hz0
  subst hn
  rw [← hα] at hfx p1 hat
  have hlyn : ly.length = ys.length * z'' := hdr.1
  have hlxn : lx.length = rows.length * z'' := hdx.1
  by_cases hfit : rows.length + ys.length ≤ cap
  · -- there is room
    rcases p1.at_ with ⟨h1, h2⟩ | ⟨b, o, cap', c, el, h1, h2, h3, h4, h5⟩
    · simp only [Value.slice.injEq] at h1
      obtain ⟨rfl, -, rfl⟩ := h1
      subst h2
      have hy0 : ys = [] := List.eq_nil_of_length_eq_zero (by simp only [List.length_nil] at hfit; omega)
      subst hy0
      have hly : ly = [] := List.eq_nil_of_length_eq_zero (by simpa using hlyn)
      subst hly
      have hrun := run_append_fit (ty := ty) (base := none) (w' := w) ht hz ht' hlen (hfirst w rfl) hfit (fun a ha => by simp at ha) (fun _ => rfl)
      refine ⟨_, w, hrun, ?_⟩
      have : S = { S with A := upd S.A s (some (z'', [] ++ [], .live)) } := by
        have : upd S.A s (some (z'', [] ++ [], .live)) = S.A := by
          funext k; simp only [upd]; split
          · rename_i e; rw [e, hA]; rfl
          · rfl
        rw [this]
      rw [← this]
      exact .pure h ⟨[], .live, none, 0, hA, rfl, by simp, fun _ => ⟨by simp, fun _ => by rw [← hα]; rfl⟩⟩
    · simp only [Value.slice.injEq] at h1
      obtain ⟨rfl, -, rfl⟩ := h1
      have hM : M b := (p2 b (by rw [← hα]; rfl)).2.1 rfl
      have hle : o + rows.length * z'' + ly.length ≤ c.size := by
        have := Nat.mul_le_mul_right z'' hfit
        rw [Nat.add_mul] at this; omega
      have hst := run_storeCells_at P b (o + rows.length * z'') el ly 0 c w h2 (by omega) (hdr.one hz0)
      rw [Nat.add_zero] at hst
      have hrun := run_append_fit (ty := ty) (base := some ⟨b, o, none⟩) ht hz ht' hlen (hfirst w rfl) hfit (fun a ha => by
        simp only [Option.some.injEq] at ha; subst ha; rw [addr_add]; exact hst) (fun hn => by simp at hn)
      have hw' := setRow_heap w b c (c.toList.take (o + rows.length * z'') ++ ly ++ c.toList.drop (o + rows.length * z'' + ly.length)).toArray el (0, 0) h2
      have hT := turn_setRow w b (c.toList.take (o + rows.length * z'') ++ ly ++ c.toList.drop (o + rows.length * z'' + ly.length)).toArray
      have hbel := below_setRow w (c.toList.take (o + rows.length * z'') ++ ly ++ c.toList.drop (o + rows.length * z'' + ly.length)).toArray (p2 b (by rw [← hα]; rfl)).1
      generalize w.setRow b (c.toList.take (o + rows.length * z'') ++ ly ++ c.toList.drop (o + rows.length * z'' + ly.length)).toArray = w2 at hrun hw' hT hbel
      refine ⟨_, w2, hrun, ?_⟩
      have hD : ∀ u x, RelD cx w (orP X M) u x → RelD cx w2 (orP X M) u x := fun _ _ hr => turn_D hT hM hr
      have hall : DR cx w2 (orP X M) z'' (lx ++ ly) (rows ++ ys) := (hdx.mono hD).append (hdr.mono hD)
      have hlx := hat b o _ _ c el rfl h2
      have hcl : c.toList.length = c.size := Array.length_toList
      have htk : (c.toList.take (o + rows.length * z'')).length = o + rows.length * z'' := by rw [List.length_take, hcl]; omega
      have harr : ArrOK cx w2 (orP X M) (.slice (some ⟨b, o, none⟩) (rows.length + ys.length) cap) z'' (rows ++ ys) := by
        refine ArrOK.of_DR hw' hall (fun k hk => ?_) (by simpa using hfit) (by rw [List.size_toArray, List.length_append, List.length_append, List.length_drop, htk, hcl]; omega) (by simp)
        simp only [List.getElem?_toArray]
        rw [List.length_append] at hk
        rw [List.append_assoc]
        by_cases hk1 : k < lx.length
        · rw [List.getElem?_append_left hk1, List.getElem?_append_left (by omega), List.getElem?_take_of_lt (by omega), ← hlx k hk1]; simp
        · have e2 : (lx ++ ly)[k]? = ly[k - lx.length]? := List.getElem?_append_right (by omega)
          rw [e2, List.getElem?_append_right (by omega), List.getElem?_append_left (by omega)]
          congr 1; omega
      have hsame : (rows ++ ys).length = rows.length → (Value.slice (some ⟨b, o, none⟩) (rows.length + ys.length) cap) = α s := fun e' => by
        have : ys.length = 0 := by simp at e'; exact List.length_eq_zero_iff.2 e'
        rw [← hα, this]; rfl
      obtain ⟨hsa, hD'⟩ := h.setArr (M' := M) (rows' := rows ++ ys) (v' := .slice (some ⟨b, o, none⟩) (rows.length + ys.length) cap) hA
        (fun b' hb' _ => hT.block b' (fun e' => hb' (by rw [← hα, e']; rfl))) (by rw [hT.size]; exact Nat.le_refl _) (.inl (by rw [← hα]; rfl)) (by simp) hsame
        (fun _ hb => hb) (fun _ hb => .inl hb) (fun b' hb' => by simp only [Sg.hdr, Option.some.injEq] at hb'; subst hb'; exact hM) harr
      exact ⟨β, _, M, hsa, fun u' x' hu' => RelT.tr hD' (atr_set hA (by simp) hsame) (fun s hs => ⟨hs, rfl⟩) hu', own_mk (by simp), hbel⟩
  · -- a new block
    have hlim' : rows.length + ys.length ≤ 1073741824 := hlim
    obtain ⟨nc, d, hnc, hrun⟩ := run_append_grow (ty := ty) (P := P) ht hz hie hb2 hzv ht' hlen hfirst hfit (hfx P) hlim'
    have hg : Grow w { w with drawn := d, heap := w.heap.push (.cells (lx.toArray ++ ly.toArray ++ Builtin.zeroCells zv.cells (nc - (rows.length + ys.length))) e) } :=
      ⟨by simp, fun b hb => by simp [Array.getElem?_push, Nat.ne_of_lt hb]⟩
    have hw' : ({ w with drawn := d, heap := w.heap.push (.cells (lx.toArray ++ ly.toArray ++ Builtin.zeroCells zv.cells (nc - (rows.length + ys.length))) e) } : World).heap[w.heap.size]? = some (.cells (lx.toArray ++ ly.toArray ++ Builtin.zeroCells zv.cells (nc - (rows.length + ys.length))) e (0, 0)) := by simp
    have hlt : w.heap.size < ({ w with drawn := d, heap := w.heap.push (.cells (lx.toArray ++ ly.toArray ++ Builtin.zeroCells zv.cells (nc - (rows.length + ys.length))) e) } : World).heap.size := by simp
    have hbel : Below B w { w with drawn := d, heap := w.heap.push (.cells (lx.toArray ++ ly.toArray ++ Builtin.zeroCells zv.cells (nc - (rows.length + ys.length))) e) } := ⟨rfl, rfl, rfl, hg.size, fun k hk => hg.block k (Nat.lt_of_lt_of_le hk h.size)⟩
    generalize ({ w with drawn := d, heap := w.heap.push (.cells (lx.toArray ++ ly.toArray ++ Builtin.zeroCells zv.cells (nc - (rows.length + ys.length))) e) } : World) = w2 at hrun hg hw' hlt hbel
    refine ⟨_, w2, hrun, ?_⟩
    have h2 : ∀ b, (M b ∨ b = w.heap.size) → M b ∨ (w.heap.size ≤ b ∧ b < w2.heap.size) := fun b hb => by
      rcases hb with hb | hb
      · exact .inl hb
      · subst hb; exact .inr ⟨Nat.le_refl _, hlt⟩
    have hD : ∀ u x, RelD cx w (orP X M) u x → RelD cx w2 (orP X (fun b => M b ∨ b = w.heap.size)) u x := fun _ _ hr => grow_D hg (fun b hb => (h2 b hb).imp id (·.1)) hr
    have hall : DR cx w2 (orP X (fun b => M b ∨ b = w.heap.size)) z'' (lx ++ ly) (rows ++ ys) := (hdx.mono hD).append (hdr.mono hD)
    have hys0 : 0 < ys.length := by
      rcases Nat.eq_zero_or_pos ys.length with h0 | h0
      · exfalso
        rcases p1.at_ with ⟨h1, h2⟩ | ⟨b, o, cap', c, el, h1, h2, h3, h4, h5⟩
        · simp only [Value.slice.injEq] at h1; obtain ⟨-, h1, rfl⟩ := h1; omega
        · simp only [Value.slice.injEq] at h1; obtain ⟨-, -, rfl⟩ := h1; omega
      · exact h0
    have hsame : (rows ++ ys).length = rows.length → (Value.slice (some ⟨w.heap.size, 0, none⟩) (rows.length + ys.length) nc) = α s := fun e' => by
      simp at e'; rw [e'] at hys0; simp at hys0
    have harr : ArrOK cx w2 (orP X (fun b => M b ∨ b = w.heap.size)) (.slice (some ⟨w.heap.size, 0, none⟩) (rows.length + ys.length) nc) z'' (rows ++ ys) := by
      refine ArrOK.of_DR hw' hall (fun k hk => ?_) (by simpa using hnc) ?_ (by simp)
      · rw [Nat.zero_add, Array.getElem?_append_left (by simpa using hk)]
        simp
      · have : (Builtin.zeroCells zv.cells (nc - (rows.length + ys.length))).size = (nc - (rows.length + ys.length)) * z'' := by simp [Builtin.zeroCells, hzz]
        simp only [Array.size_append, List.size_toArray, this, hlxn, hlyn, Nat.zero_add, Nat.sub_mul, Nat.add_mul]
        have := Nat.mul_le_mul_right z'' hnc
        rw [Nat.add_mul] at this
        omega
    obtain ⟨hsa, hD'⟩ := h.setArr (M' := fun b => M b ∨ b = w.heap.size) (rows' := rows ++ ys) (v' := .slice (some ⟨w.heap.size, 0, none⟩) (rows.length + ys.length) nc) hA
      (fun b' _ hb' => hg.block b' hb') hg.size (.inr ⟨w.heap.size, rfl, Nat.le_refl _, hlt⟩) (by simp) hsame
      (fun _ hb => .inl hb) h2 (fun b' hb' => by simp only [Sg.hdr, Option.some.injEq] at hb'; exact .inr hb'.symm) harr
    refine ⟨β, _, _, hsa, fun u' x' hu' => RelT.tr hD' (atr_set hA (by simp) hsame) (fun s hs => ⟨hs, rfl⟩) hu', own_mk (by simp), hbel⟩

end
end Sg
