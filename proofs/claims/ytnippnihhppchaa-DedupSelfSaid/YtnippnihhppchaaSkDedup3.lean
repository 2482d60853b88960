import Derived.Test.YtnippnihhppchaaSkDedup2
namespace Sg
open _root_.Go (IntKind BinOp UnOp)
set_option linter.unusedSimpArgs false
set_option linter.unusedVariables false
set_option maxRecDepth 10000
variable {Pg : Nat → Option Fn}

def Inc (l : List Done) : Prop := l.Pairwise fun a b => a.client < b.client
/-- what a list of rows is sorted to -/
structure SortOf (l o : List Done) : Prop where
  inc : Inc o
  first : ∀ x ∈ o, doneAt l x.client = some x
  all : ∀ y ∈ l, ∃ x ∈ o, x.client = y.client

theorem inc_ext : ∀ {o o' : List Done}, Inc o → Inc o' → (∀ x, x ∈ o ↔ x ∈ o') → o = o'
  | [], [], _, _, _ => rfl
  | [], b :: s, _, _, h => by have := (h b).2 (List.mem_cons_self ..); simp at this
  | a :: s, [], _, _, h => by have := (h a).1 (List.mem_cons_self ..); simp at this
  | a :: s, b :: s', h1, h2, h => by
    simp only [Inc, List.pairwise_cons] at h1 h2
    have hab : a = b := by
      rcases List.mem_cons.1 ((h a).1 (List.mem_cons_self ..)) with e | e
      · exact e
      · rcases List.mem_cons.1 ((h b).2 (List.mem_cons_self ..)) with e' | e'
        · exact e'.symm
        · have := h2.1 a e; have := h1.1 b e'; omega
    subst hab
    congr 1
    refine inc_ext h1.2 h2.2 fun x => ⟨fun hx => ?_, fun hx => ?_⟩
    · rcases List.mem_cons.1 ((h x).1 (List.mem_cons_of_mem _ hx)) with e | e
      · subst e; have := h1.1 x hx; omega
      · exact e
    · rcases List.mem_cons.1 ((h x).2 (List.mem_cons_of_mem _ hx)) with e | e
      · subst e; have := h2.1 x hx; omega
      · exact e
theorem sort_uniq {l o o' : List Done} (h : SortOf l o) (h' : SortOf l o') : o = o' := by
  have one : ∀ {o o' : List Done}, SortOf l o → SortOf l o' → ∀ x, x ∈ o → x ∈ o' := fun h h' x hx => by
    have h1 := h.first x hx
    obtain ⟨y, hy, he⟩ := h'.all x (rowT_some h1).2
    have h2 := h'.first y hy
    rw [he, h1] at h2
    simp only [Option.some.injEq] at h2
    rw [h2]; exact hy
  exact inc_ext h.inc h'.inc fun x => ⟨one h h' x, one h' h x⟩

def okL : Option Done → Done → Bool
  | none, _ => true
  | some m, d => decide (m.client < d.client)

/-- the least row behind the last one, among the first i -/
structure Best (l : List Done) (last : Option Done) (i : Nat) (b : Int) : Prop where
  none : b < 0 → b = -1 ∧ ∀ d ∈ l.take i, okL last d = false
  some : 0 ≤ b → ∃ d, l[b.toNat]? = some d ∧ b.toNat < i ∧ okL last d = true ∧ (∀ j e, j < i → l[j]? = some e → okL last e = true → d.client ≤ e.client) ∧ ∀ j e, j < b.toNat → l[j]? = some e → okL last e = true → d.client < e.client

theorem best_zero {l : List Done} {last : Option Done} : Best l last 0 (-1) := ⟨fun _ => ⟨rfl, fun d hd => by simp at hd⟩, fun h => by omega⟩
theorem best_yes {l : List Done} {last : Option Done} {i : Nat} {b : Int} {x : Done} (h : Best l last i b) (hx : l[i]? = some x)
    (hc : okL last x = true ∧ (b < 0 ∨ ∀ d, l[b.toNat]? = some d → x.client < d.client)) : Best l last (i + 1) (i : Int) := by
  refine ⟨fun h => by omega, fun _ => ⟨x, by simpa using hx, by omega, hc.1, fun j e hj he ho => ?_, fun j e hj he ho => ?_⟩⟩
  · rcases Nat.lt_or_ge j i with hji | hji
    · rcases hc.2 with hb | hb
      · have := (h.none hb).2 e (List.mem_of_getElem? (by rw [List.getElem?_take_of_lt hji]; exact he))
        rw [this] at ho; simp at ho
      · by_cases hb0 : b < 0
        · have := (h.none hb0).2 e (List.mem_of_getElem? (by rw [List.getElem?_take_of_lt hji]; exact he))
          rw [this] at ho; simp at ho
        · obtain ⟨d, h1, h2, h3, h4, h5⟩ := h.some (by omega)
          have := hb d h1
          have := h4 j e hji he ho
          omega
    · have : j = i := by omega
      subst this
      rw [hx] at he
      simp only [Option.some.injEq] at he
      subst he; omega
  · have hj : j < i := by simpa using hj
    rcases hc.2 with hb | hb
    · have := (h.none hb).2 e (List.mem_of_getElem? (by rw [List.getElem?_take_of_lt hj]; exact he))
      rw [this] at ho; simp at ho
    · by_cases hb0 : b < 0
      · have := (h.none hb0).2 e (List.mem_of_getElem? (by rw [List.getElem?_take_of_lt hj]; exact he))
        rw [this] at ho; simp at ho
      · obtain ⟨d, h1, h2, h3, h4, h5⟩ := h.some (by omega)
        have := hb d h1
        have := h4 j e hj he ho
        omega
theorem best_no {l : List Done} {last : Option Done} {i : Nat} {b : Int} {x : Done} (h : Best l last i b) (hx : l[i]? = some x)
    (hc : ¬ (okL last x = true ∧ (b < 0 ∨ ∀ d, l[b.toNat]? = some d → x.client < d.client))) : Best l last (i + 1) b := by
  refine ⟨fun hb => ⟨(h.none hb).1, fun d hd => ?_⟩, fun hb => ?_⟩
  · rw [take_s hx] at hd
    rcases List.mem_append.1 hd with hd | hd
    · exact (h.none hb).2 d hd
    · have : d = x := by simpa using hd
      subst this
      cases ho : okL last d with
      | false => rfl
      | true => exact absurd ⟨ho, .inl hb⟩ hc
  · obtain ⟨d, h1, h2, h3, h4, h5⟩ := h.some hb
    refine ⟨d, h1, by omega, h3, fun j e hj he ho => ?_, h5⟩
    rcases Nat.lt_or_ge j i with hji | hji
    · exact h4 j e hji he ho
    · have : j = i := by omega
      subst this
      rw [hx] at he
      simp only [Option.some.injEq] at he
      subst he
      by_cases hlt : x.client < d.client
      · exact absurd ⟨ho, .inr fun d' h' => by rw [h1] at h'; simp at h'; subst h'; exact hlt⟩ hc
      · omega

/-- what stands in a list that is being sorted -/
structure Part (l o : List Done) : Prop where
  inc : Inc o
  first : ∀ x ∈ o, doneAt l x.client = some x
  all : ∀ y ∈ l, okL o.getLast? y = false → ∃ x ∈ o, x.client = y.client

theorem row_first {l : List Done} {b : Nat} {d : Done} (hd : l[b]? = some d) (h : ∀ j e, j < b → l[j]? = some e → e.client ≠ d.client) : doneAt l d.client = some d := by
  induction l generalizing b with
  | nil => simp at hd
  | cons a l ih =>
    cases b with
    | zero => simp at hd; subst hd; simp [doneAt]
    | succ b =>
      have h0 := h 0 a (by omega) rfl
      simp only [doneAt, h0, if_false]
      exact ih (by simpa using hd) fun j e hj he => h (j + 1) e (by omega) (by simpa using he)

theorem part_step {l o : List Done} {b : Int} {d : Done} (h : Part l o) (hb : Best l o.getLast? l.length b) (h0 : 0 ≤ b) (hd : l[b.toNat]? = some d) : Part l (o ++ [d]) ∧ okL o.getLast? d = true := by
  obtain ⟨d', h1, h2, h3, h4, h5⟩ := hb.some h0
  rw [hd] at h1
  simp only [Option.some.injEq] at h1
  subst h1
  have hlt : ∀ x ∈ o, x.client < d.client := fun x hx => by
    cases hg : o.getLast? with
    | none => rw [List.getLast?_eq_none_iff] at hg; rw [hg] at hx; simp at hx
    | some m =>
      rw [hg] at h3
      simp only [okL, decide_eq_true_eq] at h3
      obtain ⟨ys, hys⟩ := List.getLast?_eq_some_iff.1 hg
      have hinc := h.inc
      rw [hys] at hx hinc
      rcases List.mem_append.1 hx with hx | hx
      · rw [Inc, List.pairwise_append] at hinc
        have := hinc.2.2 x hx m (by simp)
        omega
      · have : x = m := by simpa using hx
        rw [this]; exact h3
  refine ⟨⟨?_, fun x hx => ?_, fun y hy ho => ?_⟩, h3⟩
  · rw [Inc, List.pairwise_append]
    exact ⟨h.inc, by simp, fun a ha c hc => by
      have : c = d := by simpa using hc
      rw [this]; exact hlt a ha⟩
  · rcases List.mem_append.1 hx with hx | hx
    · exact h.first x hx
    · have : x = d := by simpa using hx
      subst this
      refine row_first hd fun j e hj he => ?_
      cases hoe : okL o.getLast? e with
      | true => have := h5 j e hj he hoe; omega
      | false =>
        obtain ⟨z, hz, hzc⟩ := h.all e (List.mem_of_getElem? he) hoe
        have := hlt z hz
        omega
  · simp only [List.getLast?_append, List.getLast?_singleton, Option.some_or, okL, decide_eq_false_iff_not] at ho
    cases hoy : okL o.getLast? y with
    | false =>
      obtain ⟨z, hz, hzc⟩ := h.all y hy hoy
      exact ⟨z, by simp [hz], hzc⟩
    | true =>
      obtain ⟨j, hj⟩ := List.mem_iff_getElem?.1 hy
      have hjl : j < l.length := by
        rcases Nat.lt_or_ge j l.length with h | h
        · exact h
        · rw [List.getElem?_eq_none h] at hj; simp at hj
      have := h4 j y hjl hj hoy
      exact ⟨d, by simp, by omega⟩
theorem part_end {l o : List Done} {b : Int} (h : Part l o) (hb : Best l o.getLast? l.length b) (h0 : b < 0) : SortOf l o := by
  refine ⟨h.inc, h.first, fun y hy => h.all y hy ?_⟩
  have := (hb.none h0).2 y
  rw [List.take_length] at this
  exact this hy
theorem nodup_lenD : ∀ {l m : List Done}, l.Nodup → (∀ x ∈ l, x ∈ m) → l.length ≤ m.length
  | [], m, _, _ => by simp
  | a :: l, m, h, hs => by
    rw [List.nodup_cons] at h
    have ha := hs a (List.mem_cons_self ..)
    have h1 := nodup_lenD (l := l) (m := m.erase a) h.2 (fun x hx => by
      have hne : x ≠ a := fun e => h.1 (e ▸ hx)
      exact (List.mem_erase_of_ne hne).2 (hs x (List.mem_cons_of_mem _ hx)))
    have h2 := List.length_erase_of_mem ha
    have h3 : 0 < m.length := List.length_pos_of_mem ha
    simp only [List.length_cons]; omega
theorem inc_nodup {o : List Done} (h : Inc o) : o.Nodup := by
  refine h.imp fun hab e => ?_
  subst e; omega
theorem part_len {l o : List Done} (h : Part l o) : o.length ≤ l.length := nodup_lenD (inc_nodup h.inc) fun x hx => (rowT_some (h.first x hx)).2

def H104 (Pg : Nat → Option Fn) : Prop := Pg 104 = some (.code F104)
theorem K104 (h : H104 Pg) (l : List Done) (hl : l.length ≤ 1000) (o' : List Done) (ho' : SortOf l o') : K' Pg 104 [eDones l] = some (eDones o') := by
  refine K'_code h rfl ?_
  simp only [go_sem, mkA]
  unfold l104_0
  refine wp_lp (fun (o : List Done) S => S.ρ 0 = eDones l ∧ S.A 3 = some (11, o.map eDone, .live) ∧ S.ρ 3 = .own 3 11 o.length ∧ Part l o) (fun o => l.length - o.length) [] ?_ ?_
  · simp only [go_sem]
    exact ⟨List.Pairwise.nil, fun x hx => by simp at hx, fun y hy ho => by simp [okL] at ho⟩
  · intro o S ⟨h0, a3, h3, hp⟩
    simp only [go_sem, h0, a3, h3]
    unfold l104_1
    refine wp_lp (fun (p : Nat × Int) S => p.1 ≤ l.length ∧ S.ρ 0 = eDones l ∧ S.A 3 = some (11, o.map eDone, .live) ∧ S.ρ 3 = .own 3 11 o.length ∧ S.ρ 4 = iz p.2 ∧ S.ρ 5 = iz p.1 ∧ Best l o.getLast? p.1 p.2) (fun p => l.length - p.1) (0, -1) ?_ ?_
    · simp only [go_sem, h0, a3, h3]
      exact best_zero
    · intro ⟨i, b⟩ S ⟨hi, h0, a3, h3, h4, h5, hb⟩
      simp only at hi h4 h5 hb
      simp only [go_sem, h0, a3, h3, h4, h5]
      refine wpc_i (fun h => ?_) (fun h => ?_)
      · have h := lt_of h
        obtain ⟨x, hx, hd⟩ := drop_at h
        have hinc := inc64 h (by omega)
        cases hg : o.getLast? with
        | none =>
          have ho : o = [] := List.getLast?_eq_none_iff.1 hg
          subst ho
          simp only [List.getLast?_nil] at hb
          have e1 : okL none x = true := rfl
          simp only [go_sem, h0, a3, h3, h4, h5]
          refine wrg_if (fun hc => ?_) (fun hc => ?_)
          · have hb0 : 0 ≤ b := by have := of_decide_eq_false hc; omega
            obtain ⟨d, h1, h2, -⟩ := hb.some hb0
            have hbn : b = ((b.toNat : Nat) : Int) := by omega
            simp only [go_sem, h0, a3, h3, h4, h5, hx, hc]
            rw [hbn]
            simp only [go_sem, h0, a3, h3, h4, h5, hx, h1]
            refine wpc_i (fun hlt => ?_) (fun hlt => ?_)
            · have hlt := of_decide_eq_true hlt
              have hs := best_yes hb hx ⟨e1, .inr fun d' h' => by rw [h1] at h'; simp at h'; subst h'; exact hlt⟩
              simp only [go_sem, h0, a3, h3, h4, h5]
              exact ⟨(i + 1, (i : Int)), by simp only; omega, by simp only; omega, rfl, by rw [hinc], hs⟩
            · have hlt := of_decide_eq_false hlt
              have hs := best_no hb hx (fun hh => by
                rcases hh.2 with hh | hh
                · omega
                · exact hlt (hh d h1))
              simp only [go_sem, h0, a3, h3, h4, h5]
              exact ⟨(i + 1, b), by simp only; omega, by simp only; omega, rfl, by rw [hinc], hs⟩
          · have hb0 : b < 0 := of_decide_eq_true hc
            have hs := best_yes hb hx ⟨e1, .inl hb0⟩
            simp only [go_sem, h0, a3, h3, h4, h5, hc, hb0]
            exact ⟨(i + 1, (i : Int)), by simp only; omega, by simp only; omega, rfl, by rw [hinc], hs⟩
        | some m =>
          rw [hg] at hb
          have hpos : 0 < o.length := by
            cases o with
            | nil => simp at hg
            | cons a s => simp
          have hz : decide ((o.length : Int) = 0) = false := decide_eq_false (by omega)
          have hdec := dec64 hpos (by have := part_len hp; omega)
          have hm : o[o.length - 1]? = some m := by rw [← List.getLast?_eq_getElem?]; exact hg
          have hlt1 : o.length - 1 < o.length := by omega
          simp only [go_sem, h0, a3, h3, h4, h5, hz, hx, hdec, hlt1, hm]
          refine wrg_it (fun hc => ?_) (fun hc => ?_)
          · have e1 : okL (some m) x = true := hc
            simp only [go_sem, h0, a3, h3, h4, h5, hc]
            refine wrg_if (fun hc => ?_) (fun hc => ?_)
            · have hb0 : 0 ≤ b := by have := of_decide_eq_false hc; omega
              obtain ⟨d, h1, h2, -⟩ := hb.some hb0
              have hbn : b = ((b.toNat : Nat) : Int) := by omega
              simp only [go_sem, h0, a3, h3, h4, h5, hx, hc]
              rw [hbn]
              simp only [go_sem, h0, a3, h3, h4, h5, hx, h1]
              refine wpc_i (fun hlt => ?_) (fun hlt => ?_)
              · have hlt := of_decide_eq_true hlt
                have hs := best_yes hb hx ⟨e1, .inr fun d' h' => by rw [h1] at h'; simp at h'; subst h'; exact hlt⟩
                simp only [go_sem, h0, a3, h3, h4, h5]
                exact ⟨(i + 1, (i : Int)), by simp only; omega, by simp only; omega, rfl, by rw [hinc], hs⟩
              · have hlt := of_decide_eq_false hlt
                have hs := best_no hb hx (fun hh => by
                rcases hh.2 with hh | hh
                · omega
                · exact hlt (hh d h1))
                simp only [go_sem, h0, a3, h3, h4, h5]
                exact ⟨(i + 1, b), by simp only; omega, by simp only; omega, rfl, by rw [hinc], hs⟩
            · have hb0 : b < 0 := of_decide_eq_true hc
              have hs := best_yes hb hx ⟨e1, .inl hb0⟩
              simp only [go_sem, h0, a3, h3, h4, h5, hc, hb0]
              exact ⟨(i + 1, (i : Int)), by simp only; omega, by simp only; omega, rfl, by rw [hinc], hs⟩
          · have e1 : okL (some m) x = false := hc
            have hs := best_no hb hx (by rw [e1]; simp)
            simp only [go_sem, h0, a3, h3, h4, h5, hc]
            exact ⟨(i + 1, b), by simp only; omega, by simp only; omega, rfl, by rw [hinc], hs⟩
      · have h := eq_of hi h
        subst h
        simp only [go_sem, h0, a3, h3, h4, h5]
        refine wpc_i (fun hc => ?_) (fun hc => ?_)
        · have hb0 : b < 0 := of_decide_eq_true hc
          have he := sort_uniq (part_end hp hb hb0) ho'
          simp only [go_sem, h0, a3, h3, h4, h5, he]
        · have hb0 : 0 ≤ b := by have := of_decide_eq_false hc; omega
          obtain ⟨d, h1, h2, -⟩ := hb.some hb0
          have hbn : b = ((b.toNat : Nat) : Int) := by omega
          obtain ⟨hp', hok⟩ := part_step hp hb hb0 h1
          have hlen := part_len hp'
          have hlim : o.length + 1 ≤ lim := by simp at hlen; simp only [lim]; omega
          rw [hbn] at h4
          simp only [go_sem, h0, a3, h3, h4, h5, h1, hlim]
          refine ⟨o ++ [d], ?_, by simp [eDone, eItems], by simp, hp'⟩
          simp at hlen ⊢; omega
end Sg
