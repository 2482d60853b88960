/- '==' between two structs of numbers, flags and texts: cell by cell. -/
import Derived.Test.YtclmbbbpijboaaaSgMem
namespace Sg
open Go Go.RowKit
set_option linter.unusedSimpArgs false
set_option linter.unusedVariables false
set_option linter.constructorNameAsVariable false
variable {P : Program} {w : World}

def eqW : Sh → Value → Value → Option Bool
  | .i, .int k a, .int k' b => if k = k' then some (decide (a = b)) else none
  | .b, .bool a, .bool b => some (a == b)
  | .s, .string a, .string b => some (decide (a.data.toList = b.data.toList))
  | _, _, _ => none

def eqWs : List Sh → List Value → List Value → Option Bool
  | [], [], [] => some true
  | h :: hs, x :: xs, y :: ys => (eqW h x y).bind fun b => (eqWs hs xs ys).bind fun c => some (b && c)
  | _, _, _ => none

def pv (agg : Bool) (l : List Value) : Value := if agg then .agg l.toArray else l.headD undef

theorem eqWs_append : ∀ (s r : List Sh) (l m : List Value) (b : Bool), eqWs (s ++ r) l m = some b →
    ∃ b1 b2, eqWs s (l.take s.length) (m.take s.length) = some b1 ∧ eqWs r (l.drop s.length) (m.drop s.length) = some b2 ∧ b = (b1 && b2)
  | [], r, l, m, b, h => ⟨true, b, by simp [eqWs], by simpa using h, by simp⟩
  | x :: s, r, [], m, b, h => by simp [eqWs] at h
  | x :: s, r, u :: l, [], b, h => by simp [eqWs] at h
  | x :: s, r, u :: l, v :: m, b, h => by
    simp only [List.cons_append, eqWs, Option.bind_eq_some_iff, Option.some.injEq] at h
    obtain ⟨b0, h0, c, hc, rfl⟩ := h
    obtain ⟨b1, b2, h1, h2, rfl⟩ := eqWs_append s r l m c hc
    exact ⟨b0 && b1, b2, by simp [eqWs, h0, h1], by simpa using h2, by simp [Bool.and_assoc]⟩

theorem eqWs_len : ∀ {s : List Sh} {x y : List Value} {c : Bool}, eqWs s x y = some c → x.length = s.length ∧ y.length = s.length := by
  intro s
  induction s with
  | nil => intro x y c h; cases x <;> cases y <;> simp [eqWs] at h ⊢
  | cons a s ih =>
    intro x y c h
    cases x with
    | nil => simp [eqWs] at h
    | cons u x =>
      cases y with
      | nil => simp [eqWs] at h
      | cons v y =>
        simp only [eqWs, Option.bind_eq_some_iff, Option.some.injEq] at h
        obtain ⟨_, _, _, hh, _⟩ := h
        have := ih hh
        simp [this.1, this.2]

theorem run_part {t : TypeId} {d : TypeDesc} {n : Nat} (hu : P.underlying t = some d) (hz : szT P t = some n) (cs : List Value) (off : Nat)
    (hl : off + n ≤ cs.length) (h1 : aggT P t = false → n = 1) : (part t cs.toArray off).run P w = .ok (pv (aggT P t) ((cs.drop off).take n)) w := by
  unfold part
  simp only [Sem.run_bind, run_isAgg' t hu w, Result.andThen]
  cases hg : aggT P t
  · have := h1 hg; subst this
    simp only [Bool.false_eq_true, if_false, pv]
    have hlt : off < cs.length := by omega
    simp only [List.getElem?_toArray, List.getElem?_eq_getElem hlt]
    rw [List.drop_eq_getElem_cons hlt]
    rfl
  · simp only [if_true, Sem.run_bind, run_sizeOf' hz w, Result.andThen, pv]
    simp [List.extract_eq_take_drop]

theorem shape_len {d : Nat} {t : TypeId} {sh : List Sh} (h : shapeT P d t = some sh) (hz : szT P t = some sh.length) (hg : aggT P t = false) : sh.length = 1 := by
  cases d with
  | zero => simp [shapeT] at h
  | succ d =>
    unfold shapeT at h
    unfold aggT at hg
    split at h <;> simp_all
    all_goals (subst h; rfl)

theorem shape_und {d : Nat} {t : TypeId} {sh : List Sh} (h : shapeT P d t = some sh) : ∃ dd, P.underlying t = some dd := by
  cases d with
  | zero => simp [shapeT] at h
  | succ d =>
    unfold shapeT at h
    cases hu : P.underlying t with
    | none => simp [hu] at h
    | some dd => exact ⟨dd, rfl⟩

theorem eq_shape : ∀ (d : Nat) (t : TypeId) (sh : List Sh), shapeT P d t = some sh → ∀ (D : Nat) (l m : List Value) (b : Bool), eqWs sh l m = some b →
    (Op.equalIn (D + d) t (pv (aggT P t) l) (pv (aggT P t) m)).run P w = .ok b w := by
  intro d
  induction d with
  | zero => intro t sh h; simp [shapeT] at h
  | succ d ih =>
    intro t sh h D l m b hb
    have hsc : ∀ (s : Sh), sh = [s] → ∃ u v, l = [u] ∧ m = [v] ∧ eqW s u v = some b := by
      intro s hs
      subst hs
      match l, m, hb with
      | [u], [v], hb =>
        simp only [eqWs, Option.bind_eq_some_iff, Option.some.injEq] at hb
        obtain ⟨b0, h0, c, rfl, rfl⟩ := hb
        exact ⟨u, v, rfl, rfl, by simpa using h0⟩
      | [], _, hb => simp [eqWs] at hb
      | _ :: _, [], hb => simp [eqWs] at hb
      | [_], _ :: _ :: _, hb => simp [eqWs] at hb
      | _ :: _ :: _, [_], hb => simp [eqWs] at hb
      | _ :: _ :: _, _ :: _ :: _, hb => simp [eqWs] at hb
    rw [← Nat.add_assoc]
    unfold shapeT at h
    split at h
    · rename_i hu
      simp only [Option.some.injEq] at h
      obtain ⟨u, v, rfl, rfl, he⟩ := hsc .b h.symm
      unfold Op.equalIn
      have hg : aggT P t = false := by simp [aggT, hu]
      simp only [hg, pv, Bool.false_eq_true, if_false, List.headD_cons, Sem.run_bind, run_underlying hu w, Result.andThen]
      cases u <;> cases v <;> simp [eqW] at he
      subst he; rfl
    · rename_i k hu
      simp only [Option.some.injEq] at h
      obtain ⟨u, v, rfl, rfl, he⟩ := hsc .i h.symm
      unfold Op.equalIn
      have hg : aggT P t = false := by simp [aggT, hu]
      simp only [hg, pv, Bool.false_eq_true, if_false, List.headD_cons, Sem.run_bind, run_underlying hu w, Result.andThen]
      cases u <;> cases v <;> simp [eqW] at he
      obtain ⟨hk, he⟩ := he
      subst he
      simp [hk]
      rfl
    · rename_i hu
      simp only [Option.some.injEq] at h
      obtain ⟨u, v, rfl, rfl, he⟩ := hsc .s h.symm
      unfold Op.equalIn
      have hg : aggT P t = false := by simp [aggT, hu]
      simp only [hg, pv, Bool.false_eq_true, if_false, List.headD_cons, Sem.run_bind, run_underlying hu w, Result.andThen]
      cases u <;> cases v <;> simp [eqW] at he
      subst he
      simp only [Sem.run_pure]
      congr 1
      rename_i a b
      rcases a with ⟨a⟩
      rcases b with ⟨b⟩
      show (a == b) = decide (a = b)
      rw [Bool.eq_iff_iff]; simp
    · rename_i fs hu
      split at h
      · simp at h
      · rename_i hs
        simp only [Bool.not_eq_true] at hs
        have hg : aggT P t = true := by simp [aggT, hu]
        unfold Op.equalIn
        simp only [hg, pv, if_true, Sem.run_bind, run_underlying hu w, Result.andThen, run_program, hs, Bool.false_eq_true, if_false]
        rw [← Array.forIn_toList]
        have loop : ∀ (fs : List Field) (n : Nat) (sh : List Sh) (b : Bool), shapeFs P (shapeT P d) fs n = some sh → n + sh.length = l.length → n + sh.length = m.length → eqWs sh (l.drop n) (m.drop n) = some b →
            (forIn fs ((none, ()) : Option Bool × Unit) fun (f : Field) (__s : Option Bool × Unit) =>
              if f.name ≠ "_" then do
                let __do_lift ← part f.type l.toArray f.offset
                let __do_lift_1 ← part f.type m.toArray f.offset
                let __do_lift ← Op.equalIn (D + d) f.type __do_lift __do_lift_1
                if (!__do_lift) = true then (pure (ForInStep.done (some false, ())) : Sem _) else pure (ForInStep.yield (none, ()))
              else pure (ForInStep.yield (none, ()))).run P w = .ok (if b then (none, ()) else (some false, ())) w := by
          intro fs
          induction fs with
          | nil =>
            intro n sh b h hl hm hb
            simp only [shapeFs, Option.some.injEq] at h
            subst h
            have : b = true := by
              generalize l.drop n = l' at hb
              generalize m.drop n = m' at hb
              cases l' <;> cases m' <;> simp [eqWs] at hb
              exact hb
            subst this
            simp
          | cons f fs ihf =>
            intro n sh b h hl hm hb
            simp only [shapeFs] at h
            split at h
            · simp at h
            · rename_i hn
              simp only [Bool.or_eq_true, beq_iff_eq, bne_iff_ne, ne_eq, not_or, Decidable.not_not] at hn
              obtain ⟨hname, hoff⟩ := hn
              simp only [Option.bind_eq_some_iff] at h
              obtain ⟨sf, hsf, h⟩ := h
              split at h
              · rename_i hz
                simp only [beq_iff_eq] at hz
                simp only [Option.bind_eq_some_iff, Option.some.injEq] at h
                obtain ⟨r, hr, rfl⟩ := h
                obtain ⟨b1, b2, hb1, hb2, rfl⟩ := eqWs_append sf r _ _ b hb
                obtain ⟨dd, hd⟩ := shape_und hsf
                simp only [List.length_append] at hl hm
                have hpl : n + sf.length ≤ l.length := by omega
                have hpm : n + sf.length ≤ m.length := by omega
                simp only [List.forIn_cons, Sem.run_bind]
                rw [if_pos hname]
                rw [hoff] at *
                simp only [Sem.run_bind, run_part hd hz l n hpl (shape_len hsf hz), run_part hd hz m n hpm (shape_len hsf hz), Result.andThen]
                rw [ih f.type sf hsf D _ _ b1 hb1]
                cases b1
                · simp
                · simp only [Bool.not_true, Bool.false_eq_true, if_false, Sem.run_pure, Bool.true_and]
                  exact ihf (n + sf.length) r b2 hr (by omega) (by omega) (by simpa [List.drop_drop, Nat.add_comm] using hb2)
              · simp at h
        rw [loop fs.toList 0 sh b h (by simpa using (eqWs_len hb).1.symm) (by simpa using (eqWs_len hb).2.symm) (by simpa using hb)]
        cases b <;> simp
    · simp at h

section
variable {cx : Cx} {X : Nat → Prop} {S : St} {β : Nat → Nat} {α : Nat → Value}

theorem eqV_W {h : Sh} {x y : V} {u v : Value} {b : Bool} (hx : RelC cx w X S α u x) (hy : RelC cx w X S α v y) (he : eqV h x y = some b) : eqW h u v = some b := by
  cases h <;> cases x <;> cases y <;> simp only [eqV, reduceCtorEq, Option.some.injEq] at he <;> simp only [RelC] at hx hy <;> cases hx <;> cases hy
  · simpa [eqW] using he
  · simpa [eqW] using he
  · simpa [eqW] using he

theorem eqVs_Ws : ∀ (s : List Sh) (xs ys : List V) (us vs : List Value) (b : Bool), us.length = xs.length → vs.length = ys.length →
    (∀ i, i < xs.length → ∃ u, us[i]? = some u ∧ RelC cx w X S α u (gv xs i)) → (∀ i, i < ys.length → ∃ u, vs[i]? = some u ∧ RelC cx w X S α u (gv ys i)) →
    eqVs s xs ys = some b → eqWs s us vs = some b := by
  intro s
  induction s with
  | nil =>
    intro xs ys us vs b h1 h2 _ _ h
    cases xs <;> cases ys <;> simp [eqVs] at h
    cases us <;> cases vs <;> simp at h1 h2
    simp [eqWs, h]
  | cons a s ih =>
    intro xs ys us vs b h1 h2 h3 h4 h
    cases xs with
    | nil => simp [eqVs] at h
    | cons x xs =>
      cases ys with
      | nil => simp [eqVs] at h
      | cons y ys =>
        cases us with
        | nil => simp at h1
        | cons u us =>
          cases vs with
          | nil => simp at h2
          | cons v vs =>
            simp only [eqVs, Option.bind_eq_some_iff, Option.some.injEq] at h
            obtain ⟨b0, h0, c, hc, rfl⟩ := h
            have e1 := h3 0 (by simp)
            have e2 := h4 0 (by simp)
            simp only [List.getElem?_cons_zero, Option.some.injEq, exists_eq_left', gv, List.getD_cons_zero] at e1 e2
            have := ih xs ys us vs c (by simpa using h1) (by simpa using h2)
              (fun i hi => by have := h3 (i + 1) (by simpa using hi); simpa [gv] using this)
              (fun i hi => by have := h4 (i + 1) (by simpa using hi); simpa [gv] using this) hc
            simp [eqWs, eqV_W e1 e2 h0, this]

theorem eqa_ok {ne : Bool} {t : TypeId} {p q : Operand} {s : List Sh} {xs ys : List V} {u v : Value} {b : Bool} (hg : aggT P t = true) (hs : shapeT P 20 t = some s) (hq : P.eqGuardType P.depth t = false)
    (hx : RelT cx w X S β α u (.agg xs)) (hy : RelT cx w X S β α v (.agg ys)) (h : eqVs s xs ys = some b) :
    (do eqGuard (if ne then .neq else .eql) t p q u v; Go.binOp (if ne then .neq else .eql) t u v : Sem Value).run P w = .ok (.bool (ne ^^ b)) w := by
  obtain ⟨cs, rfl, hl, hc⟩ := hx
  obtain ⟨ds, rfl, hl', hc'⟩ := hy
  have hW := eqVs_Ws (w := w) (cx := cx) (X := X) (S := S) (α := α) s xs ys cs.toList ds.toList b (by simpa using hl) (by simpa using hl')
    (fun i hi => by obtain ⟨u, h1, _, h2⟩ := hc i hi; exact ⟨u, by simpa using h1, h2⟩) (fun i hi => by obtain ⟨u, h1, _, h2⟩ := hc' i hi; exact ⟨u, by simpa using h1, h2⟩) h
  have hE := eq_shape (P := P) (w := w) 20 t s hs 9980 _ _ b hW
  simp only [hg, pv, if_true, Array.toArray_toList] at hE
  have he : (Op.equal t (.agg cs) (.agg ds)).run P w = .ok b w := hE
  have hG : ∀ o, (eqGuard o t p q (.agg cs) (.agg ds)).run P w = .ok () w := fun o => by
    unfold eqGuard
    cases o <;> first | rfl | simp [hq, Result.andThen]
  rw [Sem.run_bind, hG]
  cases ne
  · show (Go.binOp .eql t (.agg cs) (.agg ds)).run P w = _
    unfold Go.binOp
    simp only [Sem.run_bind, he]; simp [Result.andThen]
  · show (Go.binOp .neq t (.agg cs) (.agg ds)).run P w = _
    unfold Go.binOp
    simp only [Sem.run_bind, he]; simp [Result.andThen]

end
end Sg
