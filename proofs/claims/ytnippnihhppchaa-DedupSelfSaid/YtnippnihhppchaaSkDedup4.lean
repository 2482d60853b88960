import Derived.Test.YtnippnihhppchaaSkDedup3
namespace Sg
open _root_.Go (IntKind BinOp UnOp)
set_option linter.unusedSimpArgs false
set_option linter.unusedVariables false
set_option maxRecDepth 10000
variable {Pg : Nat → Option Fn}

def insD : List Done → Done → List Done
  | [], d => [d]
  | x :: l, d => if d.client < x.client then d :: x :: l else if x.client = d.client then d :: l else x :: insD l d

theorem set_ins {d : Done} : ∀ {t : List Done}, isAt t d.client = true → t.set (cntT t d.client) d = insD t d
  | [], h => by simp [isAt] at h
  | x :: l, h => by
    by_cases hc : d.client ≤ x.client
    · have he : x.client = d.client := by simpa [isAt, cntT, hc] using h
      have : ¬ d.client < x.client := by omega
      simp [cntT, insD, he]
    · have h1 : isAt l d.client = true := by simpa [isAt, cntT, hc] using h
      have h2 : ¬ d.client < x.client := by omega
      have h3 : ¬ x.client = d.client := by omega
      simp [cntT, insD, hc, h2, h3, set_ins h1]
theorem put_ins {d : Done} : ∀ {t : List Done}, isAt t d.client = false → t.take (cntT t d.client) ++ d :: t.drop (cntT t d.client) = insD t d
  | [], h => by simp [cntT, insD]
  | x :: l, h => by
    by_cases hc : d.client ≤ x.client
    · have he : x.client ≠ d.client := by simpa [isAt, cntT, hc] using h
      have h2 : d.client < x.client := by omega
      simp [cntT, insD, hc, h2]
    · have h1 : isAt l d.client = false := by simpa [isAt, cntT, hc] using h
      have h2 : ¬ d.client < x.client := by omega
      have h3 : ¬ x.client = d.client := by omega
      simp [cntT, insD, hc, h2, h3]
      exact put_ins h1
theorem ins_len {d : Done} : ∀ {t : List Done} {p : Int}, rtR p t = true → (insD t d).length = if isAt t d.client then t.length else t.length + 1
  | [], _, _ => by simp [insD, isAt]
  | x :: l, p, h => by
    obtain ⟨-, -, h3⟩ := rt_tail h
    simp only [insD]
    by_cases h1 : d.client < x.client
    · have : isAt (x :: l) d.client = false := by
        have hc : d.client ≤ x.client := by omega
        simp [isAt, cntT, hc]; omega
      simp [h1, this]
    · by_cases h2 : x.client = d.client
      · have : isAt (x :: l) d.client = true := by simp [isAt, cntT, h2]
        simp [h1, h2, this]
      · have hc : ¬ d.client ≤ x.client := by omega
        have : isAt (x :: l) d.client = isAt l d.client := by simp only [isAt, cntT, hc, if_false, List.getElem?_cons_succ]
        simp only [h1, h2, if_false, List.length_cons, this, ins_len h3]
        split <;> rfl
theorem ins_rt {d : Done} (hd : rowR d = true) : ∀ {t : List Done} {p : Int}, rtR p t = true → p < d.client → rtR p (insD t d) = true
  | [], p, _, hp => by simp [insD, rtR, hd, hp]
  | x :: l, p, h, hp => by
    obtain ⟨h1, h2, h3⟩ := rt_tail h
    simp only [insD]
    split
    · rename_i hc; simp [rtR, hd, hp, hc, h2, h3]
    · split
      · rename_i he; rw [he] at h3; simp [rtR, hd, hp, h3]
      · simp only [rtR, h1, h2, decide_true, Bool.true_and]
        exact ins_rt hd h3 (by omega)
theorem ins_row {d : Done} {c : Int} : ∀ {t : List Done} {p : Int}, rtR p t = true → doneAt (insD t d) c = if d.client = c then some d else doneAt t c
  | [], _, _ => by simp [insD, doneAt]
  | x :: l, p, h => by
    obtain ⟨-, -, h3⟩ := rt_tail h
    simp only [insD]
    split
    · simp [doneAt]
    · split
      · rename_i he
        simp only [doneAt]
        split
        · rfl
        · rename_i hne; rw [if_neg (by omega)]
      · rename_i h1 h2
        simp only [doneAt, ins_row h3]
        by_cases hx : x.client = c
        · rw [if_pos hx, if_neg (by omega), if_pos hx]
        · rw [if_neg hx, if_neg hx]

theorem rt_inc : ∀ {l : List Done} {p : Int}, rtR p l = true → Inc l
  | [], _, _ => List.Pairwise.nil
  | a :: l, p, h => by
    obtain ⟨-, -, h3⟩ := rt_tail h
    exact List.pairwise_cons.2 ⟨fun b hb => rt_lt h3 hb, rt_inc h3⟩
theorem rt_mem {l : List Done} {p : Int} {d : Done} (h : rtR p l = true) (hd : d ∈ l) : doneAt l d.client = some d := by
  induction l generalizing p with
  | nil => simp at hd
  | cons a l ih =>
    obtain ⟨-, -, h3⟩ := rt_tail h
    rcases List.mem_cons.1 hd with rfl | hd
    · simp [doneAt]
    · have := rt_lt h3 hd
      simp only [doneAt]
      rw [if_neg (by omega)]
      exact ih h3 hd
theorem row_exists {l : List Done} {y : Done} (h : y ∈ l) : ∃ x, doneAt l y.client = some x := by
  induction l with
  | nil => simp at h
  | cons a l ih =>
    simp only [doneAt]
    split
    · exact ⟨_, rfl⟩
    · rcases List.mem_cons.1 h with rfl | h
      · rename_i hn; exact absurd rfl hn
      · exact ih h

/-- a table that was put together -/
theorem sort_put {t : List Done} {d : Done} (h : rtR 0 t = true) (hd : rowR d = true) : SortOf (d :: t) (insD t d) := by
  have h0 : 0 < d.client := by simp only [rowR, numD, Bool.and_eq_true, decide_eq_true_eq] at hd; omega
  have hr := ins_rt hd h h0
  have key : ∀ c, doneAt (insD t d) c = doneAt (d :: t) c := fun c => by rw [ins_row h]; rfl
  refine ⟨rt_inc hr, fun x hx => by rw [← key]; exact rt_mem hr hx, fun y hy => ?_⟩
  obtain ⟨x, hx⟩ := row_exists hy
  rw [← key] at hx
  exact ⟨x, (rowT_some hx).2, (rowT_some hx).1⟩

theorem put_eq_ins {t : List Done} {d : Done} (hr : rightT t = true) (hd : rowR d = true) :
    putT t d = if d.req ≤ reqT t d.client then ([], 9) else if 8 < (insD t d).length then ([], 6) else (insD t d, 0) := by
  obtain ⟨hrt, h8⟩ := right_rt hr
  have hq : 1 ≤ d.req := by simp only [rowR, numD, Bool.and_eq_true, decide_eq_true_eq] at hd; omega
  have hf := row_find (c := d.client) hrt
  have hl := ins_len (d := d) hrt
  have hrq := req_row (l := t) (c := d.client)
  cases ha : isAt t d.client with
  | true =>
    rw [ha] at hf hl
    simp only [if_true] at hf hl
    have hlt : cntT t d.client < t.length := by
      rcases Nat.lt_or_ge (cntT t d.client) t.length with h | h
      · exact h
      · simp only [isAt, List.getElem?_eq_none h] at ha; simp at ha
    obtain ⟨x, hx, -⟩ := drop_at hlt
    have hxc : x.client = d.client := by simp only [isAt, hx] at ha; simpa using ha
    rw [hx] at hf
    rw [hf] at hrq
    simp only at hrq
    have hn : ¬ 8 < (insD t d).length := by omega
    simp only [putT, hr, hd, Bool.and_self, if_true, hx, hxc, hrq, set_ins ha, hn, if_false]
  | false =>
    rw [ha] at hf hl
    simp only [Bool.false_eq_true, if_false] at hf hl
    rw [hf] at hrq
    simp only at hrq
    have e1 : ¬ d.req ≤ reqT t d.client := by omega
    have e2 : (8 < (insD t d).length) = (t.length = 8) := propext (by omega)
    have hp : putT t d = if t.length = 8 then ([], 6) else (t.take (cntT t d.client) ++ d :: t.drop (cntT t d.client), 0) := by
      simp only [putT, hr, hd]
      simp only [isAt] at ha
      cases hx : t[cntT t d.client]? with
      | none => rfl
      | some x => rw [hx] at ha; simp only [decide_eq_false_iff_not] at ha; simp [ha]
    rw [hp, if_neg e1, put_ins ha]
    simp only [e2]

def H89 (Pg : Nat → Option Fn) : Prop := Pg 89 = some (.code F89) ∧ H80 Pg ∧ H99 Pg ∧ H104 Pg
theorem K89 (h : H89 Pg) (t : List Done) (d : Done) (hl : t.length < 2 ^ 60) : K' Pg 89 [eDones t, .agg (eDone d)] = some (eTE (putT t d)) := by
  obtain ⟨h, h80, h99, h104⟩ := h
  have k80 := K80 h80 t hl
  have k80d := K80 h80 [d] (by simp)
  rw [right_one] at k80d
  have k99 := K99 h99 t d.client hl
  simp only [eDones, List.map_cons, List.map_nil, eDone, eItems] at k80 k80d k99
  refine K'_code h rfl ?_
  cases hr : rightT t with
  | false => simp only [go_sem, k80, hr, putT]
  | true =>
  cases hd : rowR d with
  | false => simp only [go_sem, k80, hr, k80d, hd, putT]
  | true =>
    obtain ⟨hrt, h8⟩ := right_rt hr
    have k104 := K104 h104 (d :: t) (by simp only [List.length_cons]; omega) _ (sort_put hrt hd)
    simp only [eDones, List.map_cons, eDone, eItems] at k104
    rw [put_eq_ins hr hd]
    have hlim : t.length + 1 ≤ lim := by simp only [lim]; omega
    have hcm : 1 + t.length = t.length + 1 := Nat.add_comm ..
    by_cases hq : d.req ≤ reqT t d.client
    · simp only [go_sem, k80, hr, k80d, hd, k99, hq]
    · have hn : (8 < (insD t d).length) ∨ ¬ 8 < (insD t d).length := by omega
      have e8 : decide ((8 : Int) < ((insD t d).length : Int)) = decide (8 < (insD t d).length) := decide_eq_decide.2 (by omega)
      rcases hn with hn | hn
      · simp only [go_sem, k80, hr, k80d, hd, k99, hq, adA, hcm, hlim, k104, e8, hn]
      · simp only [go_sem, k80, hr, k80d, hd, k99, hq, adA, hcm, hlim, k104, e8, hn]

def mergeD : List Done → List Done → List Done
  | [], b => b
  | x :: a, [] => x :: a
  | x :: a, y :: b => if x.client < y.client then x :: mergeD a (y :: b) else if y.client < x.client then y :: mergeD (x :: a) b else if y.req ≤ x.req then x :: mergeD a b else y :: mergeD a b
  termination_by a b => a.length + b.length
theorem merge_nil {a : List Done} : mergeD a [] = a := by cases a <;> simp [mergeD]
theorem merge_len : ∀ (a b : List Done), (mergeD a b).length ≤ a.length + b.length
  | [], b => by simp [mergeD]
  | x :: a, [] => by simp [mergeD]
  | x :: a, y :: b => by
    have h1 := merge_len a (y :: b)
    have h2 := merge_len (x :: a) b
    have h3 := merge_len a b
    simp only [List.length_cons] at h1 h2 ⊢
    simp only [mergeD]
    repeat' split
    all_goals (simp only [List.length_cons]; omega)
  termination_by a b => a.length + b.length
theorem merge_rt : ∀ (a b : List Done) (p : Int), rtR p a = true → rtR p b = true → rtR p (mergeD a b) = true
  | [], b, p, _, hb => by simpa [mergeD] using hb
  | x :: a, [], p, ha, _ => by simpa [mergeD] using ha
  | x :: a, y :: b, p, ha, hb => by
    obtain ⟨a1, a2, a3⟩ := rt_tail ha
    obtain ⟨b1, b2, b3⟩ := rt_tail hb
    simp only [mergeD]
    split
    · rename_i h
      have := merge_rt a (y :: b) x.client a3 (by simp [rtR, h, b2, b3])
      simp [rtR, a1, a2, this]
    · split
      · rename_i h
        have := merge_rt (x :: a) b y.client (by simp [rtR, h, a2, a3]) b3
        simp [rtR, b1, b2, this]
      · have he : x.client = y.client := by omega
        split
        · have := merge_rt a b x.client a3 (by rw [he]; exact b3)
          simp [rtR, a1, a2, this]
        · have := merge_rt a b y.client (by rw [← he]; exact a3) b3
          simp [rtR, b1, b2, this]
  termination_by a b => a.length + b.length
theorem row_gt {l : List Done} {p c : Int} (h : rtR p l = true) (hc : c ≤ p) : doneAt l c = none := row_none fun d hd => by have := rt_lt h hd; omega
/-- whose row stands in a merged table -/
theorem merge_row : ∀ (a b : List Done) (p c : Int), rtR p a = true → rtR p b = true →
    doneAt (mergeD a b) c = (match doneAt a c, doneAt b c with | none, o => o | some x, none => some x | some x, some y => if y.req ≤ x.req then some x else some y)
  | [], b, p, c, _, hb => by simp [mergeD, doneAt]
  | x :: a, [], p, c, ha, _ => by
    simp only [mergeD, doneAt]
    split
    · rfl
    · cases doneAt a c <;> rfl
  | x :: a, y :: b, p, c, ha, hb => by
    obtain ⟨a1, a2, a3⟩ := rt_tail ha
    obtain ⟨b1, b2, b3⟩ := rt_tail hb
    simp only [mergeD]
    split
    · rename_i h
      have hb' : rtR x.client (y :: b) = true := by simp [rtR, h, b2, b3]
      have ih := merge_row a (y :: b) x.client c a3 hb'
      by_cases hx : x.client = c
      · have hn : doneAt (y :: b) c = none := row_gt hb' (by omega)
        simp only [doneAt, hx, if_true] at hn ⊢
        rw [hn]
      · have e1 : ∀ l, doneAt (x :: l) c = doneAt l c := fun l => by simp [doneAt, hx]
        rw [e1, e1, ih]
    · split
      · rename_i h
        have ha' : rtR y.client (x :: a) = true := by simp [rtR, h, a2, a3]
        have ih := merge_row (x :: a) b y.client c ha' b3
        by_cases hy : y.client = c
        · have hn : doneAt (x :: a) c = none := row_gt ha' (by omega)
          rw [hn]
          simp only [doneAt, hy, if_true]
        · have e1 : ∀ l, doneAt (y :: l) c = doneAt l c := fun l => by simp [doneAt, hy]
          rw [e1, e1, ih]
      · have he : x.client = y.client := by omega
        have ih := merge_row a b x.client c a3 (by rw [he]; exact b3)
        by_cases hx : x.client = c
        · have hy : y.client = c := by omega
          split
          · rename_i hq; simp [doneAt, hx, hy, hq]
          · rename_i hq; simp [doneAt, hx, hy, hq]
        · have hy : ¬ y.client = c := by omega
          have e1 : ∀ l, doneAt (y :: l) c = doneAt l c := fun l => by simp [doneAt, hy]
          have e2 : ∀ l, doneAt (x :: l) c = doneAt l c := fun l => by simp [doneAt, hx]
          split
          · rw [e2, e2, e1, ih]
          · rw [e1, e2, e1, ih]
  termination_by a b => a.length + b.length

def mergeT (a b : List Done) : List Done × Int := if rightT a && rightT b then (if 8 < (mergeD a b).length then ([], 6) else (mergeD a b, 0)) else ([], 1)

def H91 (Pg : Nat → Option Fn) : Prop := Pg 91 = some (.code F91) ∧ H81 Pg
theorem K91 (h : H91 Pg) (a b : List Done) (ha : a.length ≤ 1000) (hb : b.length ≤ 1000) : K' Pg 91 [eDones a, eDones b] = some (eTE (mergeT a b)) := by
  obtain ⟨h, h81⟩ := h
  have k81a := K81 h81 a (by omega)
  have k81b := K81 h81 b (by omega)
  simp only [eDones] at k81a k81b
  refine K'_code h rfl ?_
  cases hra : rightT a with
  | false => simp only [go_sem, k81a, hra, mergeT]
  | true =>
  cases hrb : rightT b with
  | false => simp only [go_sem, k81a, k81b, hra, hrb, mergeT]
  | true =>
    simp only [go_sem, k81a, k81b, hra, hrb, mergeT, mkA]
    unfold l91_0
    refine wp_lp (fun (p : List Done × List Done × List Done) S => S.ρ 0 = eDones p.1 ∧ S.ρ 1 = eDones p.2.1 ∧ S.A 6 = some (11, p.2.2.map eDone, .live) ∧ S.ρ 6 = .own 6 11 p.2.2.length ∧ p.2.2 ++ mergeD p.1 p.2.1 = mergeD a b ∧ p.1.length + p.2.1.length + p.2.2.length ≤ 2000) (fun p => p.1.length + p.2.1.length) (a, b, []) ?_ ?_
    · simp [go_sem]; omega
    · intro ⟨a', b', o⟩ S ⟨h0, h1, a6, h6, ho, hle⟩
      simp only at h0 h1 a6 h6 ho hle
      have hlim : o.length + 1 ≤ lim := by simp only [lim]; omega
      cases a' with
      | nil =>
        cases b' with
        | nil =>
          simp only [mergeD, List.append_nil] at ho
          simp only [go_sem, h0, h1, a6, h6, ho]
          have e8 : decide ((8 : Int) < ((mergeD a b).length : Int)) = decide (8 < (mergeD a b).length) := decide_eq_decide.2 (by omega)
          rw [ho] at a6 h6
          by_cases hn : 8 < (mergeD a b).length <;> simp only [go_sem, h0, h1, a6, h6, e8, hn]
        | cons y b' =>
          have hz : decide (((b'.length + 1 : Nat) : Int) = 0) = false := decide_eq_false (by omega)
          have h1l : 1 ≤ b'.length + 1 := by omega
          have htk : List.take b'.length (List.map eDone b') = List.map eDone b' := by rw [List.take_of_length_le]; simp
          simp only [mergeD] at ho
          simp only [go_sem, h0, h1, a6, h6, pos_len, hz, hlim, h1l, htk]
          refine ⟨([], b', o ++ [y]), by simp, rfl, rfl, by simp [eDone, eItems], by simp, by simp [mergeD, ho], by simp at hle ⊢; omega⟩
      | cons x a' =>
        have hza : decide (((a'.length + 1 : Nat) : Int) = 0) = false := decide_eq_false (by omega)
        have h1a : 1 ≤ a'.length + 1 := by omega
        have hta : List.take a'.length (List.map eDone a') = List.map eDone a' := by rw [List.take_of_length_le]; simp
        cases b' with
        | nil =>
          rw [merge_nil] at ho
          simp only [go_sem, h0, h1, a6, h6, pos_len, hza, hlim, h1a, hta]
          refine ⟨(a', [], o ++ [x]), by simp, rfl, rfl, by simp [eDone, eItems], by simp, by simp [merge_nil, ho], by simp at hle ⊢; omega⟩
        | cons y b' =>
          have hzb : decide (((b'.length + 1 : Nat) : Int) = 0) = false := decide_eq_false (by omega)
          have h1b : 1 ≤ b'.length + 1 := by omega
          have htb : List.take b'.length (List.map eDone b') = List.map eDone b' := by rw [List.take_of_length_le]; simp
          simp only [mergeD] at ho
          by_cases c1 : x.client < y.client
          · rw [if_pos c1] at ho
            simp only [go_sem, h0, h1, a6, h6, pos_len, hza, hzb, hlim, h1a, hta, c1]
            refine ⟨(a', y :: b', o ++ [x]), by simp, rfl, rfl, by simp [eDone, eItems], by simp, by simp [ho], by simp at hle ⊢; omega⟩
          · rw [if_neg c1] at ho
            by_cases c2 : y.client < x.client
            · rw [if_pos c2] at ho
              simp only [go_sem, h0, h1, a6, h6, pos_len, hza, hzb, hlim, h1b, htb, c1, c2]
              refine ⟨(x :: a', b', o ++ [y]), by simp, rfl, rfl, by simp [eDone, eItems], by simp, by simp [ho], by simp at hle ⊢; omega⟩
            · rw [if_neg c2] at ho
              by_cases c3 : y.req ≤ x.req
              · rw [if_pos c3] at ho
                simp only [go_sem, h0, h1, a6, h6, pos_len, hza, hzb, hlim, h1a, h1b, hta, htb, c1, c2, c3]
                refine ⟨(a', b', o ++ [x]), by simp; omega, rfl, rfl, by simp [eDone, eItems], by simp, by simp [ho], by simp at hle ⊢; omega⟩
              · rw [if_neg c3] at ho
                simp only [go_sem, h0, h1, a6, h6, pos_len, hza, hzb, hlim, h1a, h1b, hta, htb, c1, c2, c3]
                refine ⟨(a', b', o ++ [y]), by simp; omega, rfl, rfl, by simp [eDone, eItems], by simp, by simp [ho], by simp at hle ⊢; omega⟩
end Sg
