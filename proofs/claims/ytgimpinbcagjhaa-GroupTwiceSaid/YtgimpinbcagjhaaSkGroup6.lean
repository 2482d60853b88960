import Derived.Test.YtgimpinbcagjhaaSkGroup5
namespace Sg
open _root_.Go (IntKind BinOp UnOp)
set_option linter.unusedSimpArgs false
set_option linter.unusedVariables false
variable {Pg : Nat → Option Fn}

/-- a view is told -/
def leadGood (r : Rep) (view : Int) (l : List Int) : Prop := rightB r = true ∧ SetP l ∧ l.head? = some r.id ∧ 1 ≤ view ∧ view ≤ 1099511627776
instance (r : Rep) (view : Int) (l : List Int) : Decidable (leadGood r view l) := inferInstanceAs (Decidable (_ ∧ _ ∧ _ ∧ _ ∧ _))
def leadNew (r : Rep) (view : Int) (l : List Int) : Rep := ⟨r.id, view, l, r.n + 1, r.text, r.text, [r.id]⟩
def leadR (r : Rep) (view : Int) (l : List Int) : Rep × List Word × Int :=
  if leadGood r view l then (if view = r.view ∧ leadsR r = true then (r, shipsR r, 0) else if view ≠ r.view + 1 ∨ r.members = [] then (zeroRep, [], 10) else if r.n = 1099511627776 then (zeroRep, [], 6)
    else (leadNew r view l, shipsR (leadNew r view l), 0)) else (zeroRep, [], 1)

def membR (l : List Int) (id leader : Int) : Bool := decide (SetP l) && (decide (id ∈ l) && decide (l.head? = some leader))

def H73 (Pg : Nat → Option Fn) : Prop := Pg 73 = some (.code F73) ∧ H64 Pg ∧ H65 Pg
theorem K73 (h : H73 Pg) (l : List Int) (id leader : Int) (hl : l.length ≤ 1000) : K' Pg 73 [eInts l, iz id, iz leader] = some (.bool (membR l id leader)) := by
  obtain ⟨h, h64, h65⟩ := h
  have k64 := K64 h64 l (by omega)
  have k65 := fun x => K65 h65 l x (by omega)
  refine K'_code h rfl ?_
  cases l with
  | nil => simp only [go_sem, membR, List.not_mem_nil, decide_false]
  | cons m l =>
    have h0 : iadV 1 (V.slice 1 ([iz m] :: List.map (fun a => [iz a]) l)) (iz 0) = some (.cptr [iz m] 0) := rfl
    simp only [eInts, List.map_cons] at k64 k65
    cases h1 : decide (SetP (m :: l)) with
    | false => simp only [go_sem, pos_len, k64, k65, h1, membR]
    | true =>
      cases h2 : decide (id ∈ m :: l) <;> simp only [go_sem, pos_len, k64, k65, h0, h1, h2, membR, List.head?_cons, Option.some.injEq]

theorem pos_ne {l : List Int} (h : l ≠ []) : decide ((l.length : Int) = 0) = false := by
  cases l with
  | nil => exact absurd rfl h
  | cons a l => simp; omega
theorem num_iff {n : Int} : numG n 1 = decide (1 ≤ n ∧ n ≤ 1099511627776) := by
  simp only [numG, Bool.decide_and]

def H54 (Pg : Nat → Option Fn) : Prop := Pg 54 = some (.code F54) ∧ H39 Pg ∧ H73 Pg ∧ H63 Pg ∧ H68 Pg ∧ H72 Pg ∧ H69 Pg
theorem K54 (h : H54 Pg) (r : Rep) (view : Int) (l : List Int) (ok : r.Ok) (hm : r.members.length ≤ 1000) (hl : l.length ≤ 1000) : K' Pg 54 [.agg (eRep r), iz view, eInts l] = some (eRWE (leadR r view l)) := by
  obtain ⟨h, h39, h73, h63, h68, h72, h69⟩ := h
  have k39 := K39 h39 r ok
  have k73 := K73 h73 l r.id r.id hl
  have k63 := K63 h63 view 1
  have k68 := K68 h68 r
  have k72 := K72 h72 r ok hm
  have k72' := K72 h72 (leadNew r view l) ⟨by simp only [leadNew]; omega, by simp [leadNew]⟩ hl
  have k69 := K69 h69 l (by omega)
  simp only [eInts, eRep] at k39 k73 k63 k68 k72 k69
  simp only [eInts, eRep, leadNew, List.map_cons, List.map_nil] at k72'
  refine K'_code h rfl ?_
  have memb : membR l r.id r.id = decide (SetP l ∧ l.head? = some r.id) := by
    simp only [membR, Bool.decide_and]
    cases l with
    | nil => simp
    | cons a l =>
      by_cases ha : a = r.id
      · subst ha; simp
      · simp [ha]
  rw [memb] at k73
  rw [num_iff] at k63
  by_cases hg : leadGood r view l
  · obtain ⟨g1, g2, g3, g4, g5⟩ := hg
    obtain ⟨-, -, -, -, -, h1, h2, h3, h4⟩ := right_parts g1
    have hinc : IntKind.i64.wrap (r.n + 1) = r.n + 1 := wrap64 (by omega) (by omega)
    have hinv : IntKind.i64.wrap (r.view + 1) = r.view + 1 := wrap64 (by omega) (by omega)
    simp only [g2, g3, and_self, decide_true] at k73
    simp only [g4, g5, and_self, decide_true] at k63
    by_cases c1 : view = r.view ∧ leadsR r = true
    · have e : leadR r view l = (r, shipsR r, 0) := by simp only [leadR]; rw [if_pos ⟨g1, g2, g3, g4, g5⟩, if_pos c1]
      have d1 := decide_eq_true c1.1
      rw [e]
      simp only [go_sem, k39, g1, k73, k63, d1, k68, c1.2, k72]
    · have fin : (decide (view = r.view) = false ∨ leadsR r = false) := by
        by_cases hv : view = r.view
        · exact .inr (by simpa [hv] using c1)
        · exact .inl (by simpa using hv)
      by_cases c2 : view ≠ r.view + 1 ∨ r.members = []
      · have e : leadR r view l = (zeroRep, [], 10) := by simp only [leadR]; rw [if_pos ⟨g1, g2, g3, g4, g5⟩, if_neg c1, if_pos c2]
        rw [e]
        have d2 : decide (view = r.view + 1) = false ∨ decide (view = r.view + 1) = true ∧ decide ((r.members.length : Int) = 0) = true := by
          by_cases hv : view = r.view + 1
          · refine .inr ⟨by simp [hv], ?_⟩
            rcases c2 with c2 | c2
            · exact absurd hv c2
            · simp [c2]
          · exact .inl (by simp [hv])
        cases d1 : decide (view = r.view) with
        | false => rcases d2 with d2 | ⟨d2, d3⟩ <;> simp only [go_sem, k39, g1, k73, k63, d1, k68, hinv, d2, zeroRep] <;> simp only [go_sem, d3]
        | true =>
          have d4 : leadsR r = false := by rcases fin with f | f
                                           · rw [d1] at f; simp at f
                                           · exact f
          rcases d2 with d2 | ⟨d2, d3⟩ <;> simp only [go_sem, k39, g1, k73, k63, d1, d4, k68, hinv, d2, zeroRep] <;> simp only [go_sem, d3]
      · have hv : view = r.view + 1 := by
          by_cases hv : view = r.view + 1
          · exact hv
          · exact absurd (.inl hv) c2
        have hne : r.members ≠ [] := fun e => c2 (.inr e)
        have d1 : decide (view = r.view) = false := by simp; omega
        have d2 : decide (view = r.view + 1) = true := by simp [hv]
        have d3 := pos_ne hne
        by_cases c3 : r.n = 1099511627776
        · have e : leadR r view l = (zeroRep, [], 6) := by simp only [leadR]; rw [if_pos ⟨g1, g2, g3, g4, g5⟩, if_neg c1, if_neg c2, if_pos c3]
          have d4 := decide_eq_true c3
          rw [e]
          simp only [go_sem, k39, g1, k73, k63, d1, d2, d3, d4, k68, hinv, zeroRep]
        · have e : leadR r view l = (leadNew r view l, shipsR (leadNew r view l), 0) := by simp only [leadR]; rw [if_pos ⟨g1, g2, g3, g4, g5⟩, if_neg c1, if_neg c2, if_neg c3]
          have d4 := decide_eq_false c3
          rw [e]
          simp only [go_sem, k39, g1, k73, k63, d1, d2, d3, d4, k68, hinv, hinc, k69, k72', leadNew]
  · have e : leadR r view l = (zeroRep, [], 1) := by simp only [leadR, hg, if_false]
    rw [e]
    cases g1 : rightB r with
    | false => simp only [go_sem, k39, g1, zeroRep]
    | true =>
      cases g2 : decide (SetP l ∧ l.head? = some r.id) with
      | false => simp only [go_sem, k39, g1, k73, g2, zeroRep]
      | true =>
        have g2' := of_decide_eq_true g2
        have g3 : decide (1 ≤ view ∧ view ≤ 1099511627776) = false := by
          simp only [decide_eq_false_iff_not]
          exact fun c => hg ⟨g1, g2'.1, g2'.2, c.1, c.2⟩
        simp only [go_sem, k39, g1, k73, g2, k63, g3, zeroRep]

def H55 (Pg : Nat → Option Fn) : Prop := Pg 55 = some (.code F55) ∧ H37 Pg ∧ H61 Pg ∧ H60 Pg ∧ H38 Pg ∧ H52 Pg
theorem K55 (h : H55 Pg) (r : Rep) (view : Int) (l : List Int) (ok : r.Ok) (hm : r.members.length ≤ 1000) (hl : l.length ≤ 1000) : K' Pg 55 [.agg (eRep r), iz view, eInts l] = some (eRWE (leadR r view l)) := by
  obtain ⟨h, h37, h61, h60, h38, h52⟩ := h
  have k37 := K37 h37 r ok
  have k61 := K61 h61 l
  have k60 := K60 h60 view
  have k38 := K38 h38 r
  have k52 := K52 h52 r ok hm
  have k52' := K52 h52 (leadNew r view l) ⟨by simp only [leadNew]; omega, by simp [leadNew]⟩ hl
  simp only [eInts, eRep] at k37 k61 k60 k38 k52
  simp only [eInts, eRep, leadNew, List.map_cons, List.map_nil] at k52'
  refine K'_code h rfl ?_
  rw [num_iff] at k60
  by_cases hg : leadGood r view l
  · obtain ⟨g1, g2, g3, g4, g5⟩ := hg
    obtain ⟨-, -, -, -, -, h1, h2, h3, h4⟩ := right_parts g1
    have hinc : IntKind.i64.wrap (r.n + 1) = r.n + 1 := wrap64 (by omega) (by omega)
    have hdec : IntKind.i64.wrap (view - 1) = view - 1 := wrap64 (by omega) (by omega)
    obtain ⟨a, l, rfl⟩ : ∃ a l', l = a :: l' := by
      cases l with
      | nil => simp at g3
      | cons a l => exact ⟨a, l, rfl⟩
    have ha : a = r.id := by simpa using g3
    have h0 : iadV 1 (V.slice 1 ([iz a] :: List.map (fun a => [iz a]) l)) (iz 0) = some (.cptr [iz a] 0) := rfl
    have hz : decide (((l.length + 1 : Nat) : Int) = 0) = false := by simp; omega
    have da := decide_eq_true ha
    simp only [List.map_cons] at k61 k52'
    simp only [g4, g5, and_self, decide_true] at k60
    by_cases c1 : view = r.view ∧ leadsR r = true
    · have e : leadR r view (a :: l) = (r, shipsR r, 0) := by simp only [leadR]; rw [if_pos ⟨g1, g2, g3, g4, g5⟩, if_pos c1]
      have d1 := decide_eq_true c1.1
      rw [e]
      simp only [go_sem, k37, g1, k61, g2, hz, h0, da, k60, d1, k38, c1.2, k52]
    · have fin : (decide (view = r.view) = false ∨ leadsR r = false) := by
        by_cases hv : view = r.view
        · exact .inr (by simpa [hv] using c1)
        · exact .inl (by simpa using hv)
      have d4 : decide (view = r.view) = true → leadsR r = false := fun d1 => by
        rcases fin with f | f
        · rw [d1] at f; simp at f
        · exact f
      by_cases c2 : view ≠ r.view + 1 ∨ r.members = []
      · have e : leadR r view (a :: l) = (zeroRep, [], 10) := by simp only [leadR]; rw [if_pos ⟨g1, g2, g3, g4, g5⟩, if_neg c1, if_pos c2]
        rw [e]
        have d2 : decide (view - 1 = r.view) = false ∨ decide (view - 1 = r.view) = true ∧ decide ((r.members.length : Int) = 0) = true := by
          by_cases hv : view - 1 = r.view
          · refine .inr ⟨by simp [hv], ?_⟩
            rcases c2 with c2 | c2
            · exact absurd (by omega) c2
            · simp [c2]
          · exact .inl (by simp [hv])
        cases d1 : decide (view = r.view) with
        | false => rcases d2 with d2 | ⟨d2, d3⟩ <;> simp only [go_sem, k37, g1, k61, g2, hz, h0, da, k60, d1, k38, hdec, d2, zeroRep] <;> simp only [go_sem, d3]
        | true =>
          have d4 := d4 d1
          rcases d2 with d2 | ⟨d2, d3⟩ <;> simp only [go_sem, k37, g1, k61, g2, hz, h0, da, k60, d1, d4, k38, hdec, d2, zeroRep] <;> simp only [go_sem, d3]
      · have hv : view = r.view + 1 := by
          by_cases hv : view = r.view + 1
          · exact hv
          · exact absurd (.inl hv) c2
        have hne : r.members ≠ [] := fun e => c2 (.inr e)
        have d1 : decide (view = r.view) = false := by simp; omega
        have d2 : decide (view - 1 = r.view) = true := by simp; omega
        have d3 := pos_ne hne
        by_cases c3 : r.n = 1099511627776
        · have e : leadR r view (a :: l) = (zeroRep, [], 6) := by simp only [leadR]; rw [if_pos ⟨g1, g2, g3, g4, g5⟩, if_neg c1, if_neg c2, if_pos c3]
          have d4 : decide ((1099511627776 : Int) ≤ r.n) = true := by simp; omega
          rw [e]
          simp only [go_sem, k37, g1, k61, g2, hz, h0, da, k60, d1, k38, hdec, d2, d3, d4, zeroRep]
        · have e : leadR r view (a :: l) = (leadNew r view (a :: l), shipsR (leadNew r view (a :: l)), 0) := by simp only [leadR]; rw [if_pos ⟨g1, g2, g3, g4, g5⟩, if_neg c1, if_neg c2, if_neg c3]
          have d4 : decide ((1099511627776 : Int) ≤ r.n) = false := by simp; omega
          rw [e]
          simp only [go_sem, k37, g1, k61, g2, hz, h0, da, k60, d1, k38, hdec, d2, d3, d4, hinc, k52', leadNew]
  · have e : leadR r view l = (zeroRep, [], 1) := by simp only [leadR, hg, if_false]
    rw [e]
    cases g1 : rightB r with
    | false => simp only [go_sem, k37, g1, zeroRep]
    | true =>
      by_cases g2 : SetP l
      · cases l with
        | nil => simp only [List.map_nil, g2, decide_true] at k61; simp only [go_sem, k37, g1, k61, zeroRep]
        | cons a l =>
          have h0 : iadV 1 (V.slice 1 ([iz a] :: List.map (fun a => [iz a]) l)) (iz 0) = some (.cptr [iz a] 0) := rfl
          have hz : decide (((l.length + 1 : Nat) : Int) = 0) = false := by simp; omega
          simp only [List.map_cons] at k61
          by_cases ha : a = r.id
          · have da := decide_eq_true ha
            have g3 : decide (1 ≤ view ∧ view ≤ 1099511627776) = false := by
              simp only [decide_eq_false_iff_not]
              exact fun c => hg ⟨g1, g2, by simp [ha], c.1, c.2⟩
            simp only [go_sem, k37, g1, k61, g2, hz, h0, da, k60, g3, zeroRep]
          · have da := decide_eq_false ha
            simp only [go_sem, k37, g1, k61, g2, hz, h0, da, k60, zeroRep]
      · simp only [go_sem, k37, g1, k61, g2, zeroRep]
end Sg
