/- From the reading of a statement's arguments to abstract values of their types. -/
import Derived.Test.YtclmbbbpijboaaaSgProg
import Derived.DataReads
import Derived.WideShapes
namespace Sg
open Go Go.RowKit
set_option linter.unusedSimpArgs false
set_option linter.unusedVariables false

/-- the type of a cell -/
inductive CT where
  | bool
  | int (k : IntKind)
  | str
  | slice (r : List CT)
  deriving Inhabited

abbrev gt (r : List CT) (j : Nat) : CT := r.getD j .bool

/-- a cell's abstract value has the type -/
inductive Has : CT → V → Prop
  | bool (b) : Has .bool (.bool b)
  | int (k n) (h : (Lit.int k n).wf = true) : Has (.int k) (.int k n)
  | str (s) (h : s.length ≤ maxLen) : Has .str (.str s)
  | slice (r : List CT) (rows : List (List V)) (hl : rows.length ≤ maxLen) (hz : ∀ i, i < rows.length → (gr rows i).length = r.length)
      (h : ∀ i j, i < rows.length → j < r.length → Has (gt r j) (gv (gr rows i) j)) : Has (.slice r) (.slice r.length rows)

section
variable (P : Program)

def rowFs (g : TypeId → Option (List CT)) : List Field → Nat → Option (List CT)
  | [], _ => some []
  | f :: fs, o => if f.offset = o then (g f.type).bind fun r => if szT P f.type = some r.length then (rowFs g fs (o + r.length)).bind fun rs => some (r ++ rs) else none else none

/-- the cells of a type -/
def rowT : Nat → TypeId → Option (List CT)
  | 0, _ => none
  | n + 1, t => match P.underlying t with
    | some .bool => some [.bool]
    | some (.int k) => some [.int k]
    | some .string => some [.str]
    | some (.slice e) => (rowT n e).bind fun r => if szT P e = some r.length ∧ r.length ≠ 0 then some [.slice r] else none
    | some (.struct fs) => (rowFs P (rowT n) fs.toList 0).bind fun r => if szT P t = some r.length then some r else none
    | _ => none

end

section
variable {P : Program} {cx : Cx} {w : World} {X : Nat → Prop}

/-- cells that stand for values of these types -/
def Row (cx : Cx) (w : World) (X : Nat → Prop) (r : List CT) (f : Nat → Option Value) (xs : List V) : Prop :=
  xs.length = r.length ∧ ∀ j, j < r.length → ∃ u, f j = some u ∧ u.oneCell' = true ∧ RelD cx w X u (gv xs j) ∧ Has (gt r j) (gv xs j)

theorem Row.append {r1 r2 : List CT} {f : Nat → Option Value} {xs ys : List V} (h1 : Row cx w X r1 f xs) (h2 : Row cx w X r2 (fun j => f (r1.length + j)) ys) : Row cx w X (r1 ++ r2) f (xs ++ ys) := by
  refine ⟨by simp [h1.1, h2.1], fun j hj => ?_⟩
  simp only [List.length_append] at hj
  by_cases hlt : j < r1.length
  · obtain ⟨u, a, b, c, d⟩ := h1.2 j hlt
    refine ⟨u, a, b, ?_, ?_⟩
    · rw [show gv (xs ++ ys) j = gv xs j from by simp [gv, List.getD_eq_getElem?_getD, List.getElem?_append_left (by rw [h1.1]; exact hlt)]]; exact c
    · rw [show gv (xs ++ ys) j = gv xs j from by simp [gv, List.getD_eq_getElem?_getD, List.getElem?_append_left (by rw [h1.1]; exact hlt)],
        show gt (r1 ++ r2) j = gt r1 j from by simp [gt, List.getD_eq_getElem?_getD, List.getElem?_append_left hlt]]; exact d
  · obtain ⟨u, a, b, c, d⟩ := h2.2 (j - r1.length) (by omega)
    have e : r1.length + (j - r1.length) = j := by omega
    simp only [e] at a
    have g1 : gv (xs ++ ys) j = gv ys (j - r1.length) := by
      simp only [gv, List.getD_eq_getElem?_getD]; rw [List.getElem?_append_right (by rw [h1.1]; omega), h1.1]
    have g2 : gt (r1 ++ r2) j = gt r2 (j - r1.length) := by
      simp only [gt, List.getD_eq_getElem?_getD]; rw [List.getElem?_append_right (by omega)]
    exact ⟨u, a, b, by rw [g1]; exact c, by rw [g1, g2]; exact d⟩

theorem Row.one {c : CT} {f : Nat → Option Value} {u : Value} {x : V} (h0 : f 0 = some u) (h1 : u.oneCell' = true) (h2 : RelD cx w X u x) (h3 : Has c x) : Row cx w X [c] f [x] :=
  ⟨rfl, fun j hj => by
    have : j = 0 := by simp at hj; exact hj
    subst this
    exact ⟨u, h0, h1, h2, h3⟩⟩

theorem cell_at {a : Addr} {u : Value} (h : w.cell? a = some u) : ∃ c e fr, a = ⟨a.block, a.off, none⟩ ∧ w.heap[a.block]? = some (.cells c e fr) ∧ c[a.off]? = some u := by
  obtain ⟨b, o, sp⟩ := a
  unfold World.cell? at h
  split at h
  · rename_i c e fr hc
    split at h
    · simp at h
    · rename_i hs
      cases sp with
      | none => exact ⟨c, e, fr, rfl, hc, h⟩
      | some x => simp at hs
  · simp at h

theorem szT_cells {t : TypeId} {n : Nat} (h : szT P t = some n) : P.cellsOf t = n := by
  unfold szT at h
  unfold Program.cellsOf
  rw [h]; rfl

theorem fields_row {H : Type} {enc : TypeId × Value → H} {fuel : Nat} {g : TypeId → Option (List CT)} {cs : List Value}
    (ih : ∀ (t : TypeId) (cs : List Value) (d : DataW H) (ps : List MemPlace) (r : List CT), DataW.trod enc P w 0 (fun _ => true) true fuel t cs = some (d, ps) → g t = some r → ∃ xs, Row cx w X r (fun j => cs[j]?) xs) :
    ∀ (fs : List Field) (o : Nat) (ys : List (DataW H × List MemPlace)) (r : List CT), (fs.mapM fun f => DataW.trod enc P w 0 (fun _ => true) true fuel f.type ((cs.drop f.offset).take (P.cellsOf f.type))) = some ys →
      rowFs P g fs o = some r → ∃ xs, Row cx w X r (fun j => cs[o + j]?) xs
  | [], o, ys, r, _, hr => by
    simp only [rowFs, Option.some.injEq] at hr
    subst hr
    exact ⟨[], rfl, fun j hj => by simp at hj⟩
  | f :: fs, o, ys, r, h, hr => by
    rw [List.mapM_cons] at h
    simp only [rowFs] at hr
    split at hr <;> try (simp at hr; done)
    rename_i ho
    simp only [Option.bind_eq_some_iff] at hr
    obtain ⟨r1, hr1, hr⟩ := hr
    split at hr <;> try (simp at hr; done)
    rename_i hz
    simp only [Option.bind_eq_some_iff, Option.some.injEq] at hr
    obtain ⟨r2, hr2, rfl⟩ := hr
    cases h1 : DataW.trod enc P w 0 (fun _ => true) true fuel f.type ((cs.drop f.offset).take (P.cellsOf f.type)) with
    | none => simp [h1] at h
    | some y =>
      cases h2 : fs.mapM fun f => DataW.trod enc P w 0 (fun _ => true) true fuel f.type ((cs.drop f.offset).take (P.cellsOf f.type)) with
      | none => simp [h1, h2] at h
      | some zs =>
        obtain ⟨d, ps⟩ := y
        obtain ⟨xs, hx⟩ := ih _ _ _ _ _ h1 hr1
        obtain ⟨ys, hy⟩ := fields_row ih fs (o + r1.length) zs r2 h2 hr2
        have hx' : Row cx w X r1 (fun j => cs[o + j]?) xs := ⟨hx.1, fun j hj => by
          obtain ⟨u, a, b⟩ := hx.2 j hj
          refine ⟨u, ?_, b⟩
          simp only at a ⊢
          rw [szT_cells hz, List.getElem?_take_of_lt hj, List.getElem?_drop, ho] at a
          exact a⟩
        refine ⟨xs ++ ys, hx'.append ?_⟩
        simpa only [Nat.add_assoc] using hy

/-- what is read has its type, and stands for an abstract value -/
theorem reading {H : Type} {enc : TypeId × Value → H} : ∀ (fuel : Nat) (n : Nat) (t : TypeId) (cs : List Value) (d : DataW H) (ps : List MemPlace) (r : List CT),
    DataW.trod enc P w 0 (fun _ => true) true fuel t cs = some (d, ps) → rowT P n t = some r → ∃ xs, Row cx w (fun _ => False) r (fun j => cs[j]?) xs
  | 0, n, t, cs, d, ps, r, h, _ => by simp [DataW.trod] at h
  | fuel + 1, 0, t, cs, d, ps, r, _, hr => by simp [rowT] at hr
  | fuel + 1, n + 1, t, cs, d, ps, r, h, hr => by
    have ih := fun t cs d ps r => reading (enc := enc) fuel n t cs d ps r
    unfold rowT at hr
    unfold DataW.trod at h
    split at hr
    · rename_i ht
      rw [ht] at h
      simp only [Option.some.injEq] at hr
      subst hr
      split at h <;> simp_all
      subst_vars
      exact ⟨_, Row.one rfl rfl (.bool _) (.bool _)⟩
    · rename_i k ht
      rw [ht] at h
      simp only [Option.some.injEq] at hr
      subst hr
      split at h <;> simp_all
      obtain ⟨⟨rfl, hw⟩, -⟩ := h
      subst_vars
      exact ⟨_, Row.one rfl rfl (.int _ _) (.int _ _ hw)⟩
    · rename_i ht
      rw [ht] at h
      simp only [Option.some.injEq] at hr
      subst hr
      split at h
      all_goals try (simp_all; done)
      rename_i s heq
      split at h <;> simp only [Option.some.injEq, reduceCtorEq] at h
      rename_i hle
      have hl : s.data.toList.length = s.size := Array.length_toList
      exact ⟨_, Row.one rfl rfl (.str s) (.str _ (by omega))⟩
    · rename_i e ht
      simp only [Option.bind_eq_some_iff] at hr
      obtain ⟨r1, hr1, hr⟩ := hr
      split at hr <;> simp only [Option.some.injEq, reduceCtorEq] at hr
      rename_i hz
      subst hr
      rw [ht] at h
      split at h
      all_goals try (simp_all; done)
      · exact ⟨_, Row.one rfl rfl (.nilslice none r1.length) (.slice r1 [] (by simp) (fun i hi => by simp at hi) (fun i j hi => by simp at hi))⟩
      · rename_i e' a len cap heq
        simp only [Option.some.injEq, TypeDesc.slice.injEq] at heq
        subst heq
        simp only at h
        split at h <;> try (simp at h; done)
        rename_i hc
        obtain ⟨-, hc1, hc2⟩ := hc
        have hsz : P.cellsOf e = r1.length := szT_cells hz.1
        simp only [Option.bind_eq_some_iff, Option.map_eq_some_iff] at h
        obtain ⟨elems, hel, rest, hrest, -⟩ := h
        simp only [if_true] at hrest
        rw [hsz] at hel hrest
        have el : ∀ i, i < cap → ∃ l, w.cells? 0 (a.add (i * r1.length)) r1.length = some l ∧ ∃ y, DataW.trod enc P w 0 (fun _ => true) true fuel e l = some y := by
          intro i hi
          have : ∃ y, ((w.cells? 0 (a.add (i * r1.length)) r1.length).bind (DataW.trod enc P w 0 (fun _ => true) true fuel e)) = some y := by
            by_cases hlt : i < len
            · have h1 := mapM_some_get hel i i (by simp [hlt])
              have h2 := mapM_some_length hel
              simp only [List.length_range] at h2
              exact ⟨elems[i], by rw [h1]; simp⟩
            · have hr0 : (List.range (cap - len))[i - len]? = some (i - len) := by
                rw [List.getElem?_range (by omega)]
              have h1 := mapM_some_get hrest (i - len) (i - len) hr0
              have h2 := mapM_some_length hrest
              simp only [List.length_range] at h2
              rw [show len + (i - len) = i from by omega] at h1
              exact ⟨rest[i - len], by rw [h1]; simp⟩
          obtain ⟨y, hy⟩ := this
          simp only [Option.bind_eq_some_iff] at hy
          obtain ⟨l, h1, h2⟩ := hy
          exact ⟨l, h1, y, h2⟩
        by_cases hcap : cap = 0
        · subst hcap
          obtain rfl : len = 0 := by omega
          exact ⟨_, Row.one rfl rfl (.nilslice (some a) r1.length) (.slice r1 [] (by simp) (fun i hi => by simp at hi) (fun i j hi => by simp at hi))⟩
        · obtain ⟨l0, hl0, -⟩ := el 0 (by omega)
          have hl0' := World.cells?_some hl0
          obtain ⟨c, ec, fr, hspot, hheap, -⟩ := cell_at (w := w) (a := (a.add (0 * r1.length)).add 0) (u := l0[0]'(by omega)) (by rw [hl0'.2.2 0 (by omega)]; simp)
          have hspot' : a = ⟨a.block, a.off, none⟩ := by
            obtain ⟨b, o, sp⟩ := a
            simp only [Addr.add] at hspot
            cases sp <;> simp_all
          obtain ⟨b, o, sp⟩ := a
          simp only [Addr.mk.injEq, true_and] at hspot'
          subst hspot'
          have hheap : w.heap[b]? = some (.cells c ec fr) := by simpa [Addr.add] using hheap
          have row : ∀ i, i < len → ∃ xs, Row cx w (fun _ => False) r1 (fun j => c[o + i * r1.length + j]?) xs := by
            intro i hi
            obtain ⟨l, hl, ⟨d', ps'⟩, hd⟩ := el i (by omega)
            obtain ⟨xs, hx1, hx2⟩ := ih _ _ _ _ _ hd hr1
            obtain ⟨-, hl1, hl2⟩ := World.cells?_some hl
            refine ⟨xs, hx1, fun j hj => ?_⟩
            obtain ⟨u, p1, p2⟩ := hx2 j hj
            refine ⟨u, ?_, p2⟩
            simp only at p1 ⊢
            have h3 := hl2 j hj
            rw [p1, addr_add, addr_add] at h3
            obtain ⟨c', _, _, _, h4, h5⟩ := cell_at h3
            rw [hheap] at h4
            simp only [Option.some.injEq, Obj.cells.injEq] at h4
            obtain ⟨rfl, -⟩ := h4
            exact h5
          obtain ⟨f, hf⟩ := pickf row
          have hlen : ((List.range len).map f).length = len := by simp
          have hgr : ∀ i, i < len → gr ((List.range len).map f) i = f i := fun i hi => by simp [gr, hi]
          refine ⟨[.slice r1.length ((List.range len).map f)], Row.one rfl rfl ?_ ?_⟩
          · refine slice_mk (c := c) (e := ec) (fr := fr) (lt_of_some hheap) id hheap (by simpa using hc1) (fun i hi => ?_) (fun i j hi hj => ?_) hlen
            · rw [hlen] at hi; rw [hgr i hi]; exact (hf i hi).1
            · rw [hlen] at hi; rw [hgr i hi]
              obtain ⟨u, p1, p2, p3, p4⟩ := (hf i hi).2 j hj
              exact ⟨u, p1, p2, p3⟩
          · refine .slice r1 _ (by omega) (fun i hi => ?_) (fun i j hi hj => ?_)
            · rw [hlen] at hi; rw [hgr i hi]; exact (hf i hi).1
            · rw [hlen] at hi; rw [hgr i hi]
              obtain ⟨u, p1, p2, p3, p4⟩ := (hf i hi).2 j hj
              exact p4
    · rename_i fs ht
      simp only [Option.bind_eq_some_iff] at hr
      obtain ⟨r1, hr1, hr⟩ := hr
      split at hr <;> simp only [Option.some.injEq, reduceCtorEq] at hr
      subst hr
      rw [ht] at h
      split at h
      all_goals try (simp_all; done)
      rename_i fs' _ heq
      simp only [Option.some.injEq, TypeDesc.struct.injEq] at heq
      subst heq
      split at h <;> try (simp at h; done)
      simp only [Option.map_eq_some_iff] at h
      obtain ⟨ys, hys, -⟩ := h
      obtain ⟨xs, hx⟩ := fields_row (fun t cs d ps r => ih t cs d ps r) fs.toList 0 ys _ hys hr1
      exact ⟨xs, by simpa using hx⟩
    · simp at hr

end
end Sg
