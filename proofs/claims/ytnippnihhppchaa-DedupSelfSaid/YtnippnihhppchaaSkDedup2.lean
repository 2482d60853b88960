import Derived.Test.YtnippnihhppchaaSkDedup
import Derived.Test.YtnippnihhppchaaSgClone
namespace Sg
open _root_.Go (IntKind BinOp UnOp)
set_option linter.unusedSimpArgs false
set_option linter.unusedVariables false
set_option maxRecDepth 10000
variable {Pg : Nat → Option Fn}

def H105 (Pg : Nat → Option Fn) : Prop := Pg 105 = some (.code F105)
theorem K105 (h : H105 Pg) (d : Done) (c : Int) : K' Pg 105 [.agg (eDone d), .cptr [iz c] 0] = some (.bool (decide (c ≤ d.client))) := by
  refine K'_code h rfl ?_
  simp only [go_sem]

def idxD : List Done → (Done → Bool) → Nat → Int
  | [], _, _ => -1
  | a :: l, p, i => if p a then i else idxD l p (i + 1)
def H106 (Pg : Nat → Option Fn) : Prop := Pg 106 = some (.code F106)
theorem K106 (h : H106 Pg) (l : List Done) (g : Nat) (cap : List V) (p : Done → Bool) (hl : l.length < 2 ^ 60) (hg : ∀ x ∈ l, K' Pg g (.agg (eDone x) :: cap) = some (.bool (p x))) :
    K' Pg 106 [eDones l, .func g cap] = some (iz (idxD l p 0)) := by
  refine K'_code h rfl ?_
  simp only [eDone, eItems] at hg
  simp only [go_sem]
  unfold l106_0
  refine wp_lp (fun (i : Nat) S => i ≤ l.length ∧ S.ρ 0 = eDones l ∧ S.ρ 1 = .func g cap ∧ S.ρ 7 = iz l.length ∧ S.ρ 8 = iz i ∧ idxD (l.drop i) p i = idxD l p 0) (fun i => l.length - i) 0 ?_ ?_
  · simp [go_sem]
  · intro i S ⟨hi, h0, h1, h7, h8, ho⟩
    simp only [go_sem, h0, h1, h7, h8]
    refine wpc_i (fun h => ?_) (fun h => ?_)
    · have h := lt_of h
      obtain ⟨x, hx, hd⟩ := drop_at h
      rw [hd] at ho
      have hgx := hg x (List.mem_of_getElem? hx)
      simp only [go_sem, h0, h1, h7, h8, hx, hgx]
      refine wpc_i (fun hc => ?_) (fun hc => ?_)
      · simp only [idxD, hc, if_true] at ho
        simp only [go_sem, ← ho]
      · simp only [idxD, hc, Bool.false_eq_true, if_false] at ho
        simp only [go_sem, h0, h1, h7, h8]
        exact ⟨i + 1, by omega, by omega, by rw [inc64 h hl], ho⟩
    · have h := eq_of hi h
      subst h
      simp only [List.drop_length, idxD] at ho
      simp only [go_sem, ← ho]

/-- how many rows stand ahead of a client's place -/
def cntT : List Done → Int → Nat
  | [], _ => 0
  | d :: l, c => if c ≤ d.client then 0 else cntT l c + 1
theorem cnt_le {c : Int} : ∀ {l : List Done}, cntT l c ≤ l.length
  | [] => by simp [cntT]
  | d :: l => by
    have := cnt_le (c := c) (l := l)
    simp only [cntT]; split <;> simp <;> omega
theorem idx_cnt {c : Int} : ∀ {l : List Done} {i : Nat}, idxD l (fun d => decide (c ≤ d.client)) i = if cntT l c < l.length then ((i + cntT l c : Nat) : Int) else -1
  | [], i => by simp [idxD, cntT]
  | d :: l, i => by
    simp only [idxD, cntT]
    by_cases h : c ≤ d.client
    · simp [h]
    · simp only [h, decide_false, Bool.false_eq_true, if_false]
      rw [idx_cnt]
      simp only [List.length_cons, Nat.add_lt_add_iff_right]
      split
      · congr 1; omega
      · rfl
def isAt (t : List Done) (c : Int) : Bool := match t[cntT t c]? with | some d => decide (d.client = c) | none => false

def H100 (Pg : Nat → Option Fn) : Prop := Pg 100 = some (.code F100) ∧ H105 Pg ∧ H106 Pg
theorem K100 (h : H100 Pg) (t : List Done) (c : Int) (hl : t.length < 2 ^ 60) : K' Pg 100 [eDones t, iz c] = some (.tuple [iz (cntT t c), .bool (isAt t c)]) := by
  obtain ⟨h, h105, h106⟩ := h
  have k106 := K106 h106 t 105 [.cptr [iz c] 0] (fun d => decide (c ≤ d.client)) hl (fun x _ => K105 h105 x c)
  rw [idx_cnt] at k106
  simp only [eDones] at k106
  have hle := cnt_le (c := c) (l := t)
  refine K'_code h rfl ?_
  by_cases hc : cntT t c < t.length
  · obtain ⟨x, hx, -⟩ := drop_at hc
    have hn : decide (((cntT t c : Nat) : Int) < 0) = false := by simp
    simp only [hc, if_true, Nat.zero_add] at k106
    simp only [go_sem, k106, hn, hx, isAt]
  · have he : cntT t c = t.length := by omega
    have hx : t[cntT t c]? = none := by rw [he]; simp
    simp only [hc, if_false] at k106
    have hat : isAt t c = false := by simp only [isAt, hx]
    simp only [go_sem, k106, hat]
    rw [he]

theorem rt_tail {p : Int} {d : Done} {l : List Done} (h : rtR p (d :: l) = true) : p < d.client ∧ rowR d = true ∧ rtR d.client l = true := by
  simpa [rtR] using h
theorem rt_lt : ∀ {l : List Done} {p : Int} {d : Done}, rtR p l = true → d ∈ l → p < d.client
  | [], _, _, _, h => by simp at h
  | a :: l, p, d, h, hd => by
    obtain ⟨h1, -, h3⟩ := rt_tail h
    rcases List.mem_cons.1 hd with rfl | hd
    · exact h1
    · have := rt_lt h3 hd; omega
theorem row_none : ∀ {l : List Done} {c : Int}, (∀ d ∈ l, d.client ≠ c) → doneAt l c = none
  | [], _, _ => rfl
  | a :: l, c, h => by
    simp only [doneAt, h a (List.mem_cons_self ..), if_false]
    exact row_none fun d hd => h d (List.mem_cons_of_mem _ hd)
theorem row_find {c : Int} : ∀ {l : List Done} {p : Int}, rtR p l = true → doneAt l c = if isAt l c then l[cntT l c]? else none
  | [], _, _ => by simp [doneAt, isAt]
  | d :: l, p, h => by
    obtain ⟨h1, -, h3⟩ := rt_tail h
    by_cases hc : c ≤ d.client
    · by_cases he : d.client = c
      · simp [doneAt, isAt, cntT, he]
      · have : doneAt l c = none := row_none fun x hx => by have := rt_lt h3 hx; omega
        simp [doneAt, isAt, cntT, hc, he, this]
    · have he : d.client ≠ c := by omega
      have := row_find (c := c) h3
      have e : isAt (d :: l) c = isAt l c := by simp only [isAt, cntT, hc, if_false, List.getElem?_cons_succ]
      rw [e]
      simp only [doneAt, he, if_false, this, cntT, hc, List.getElem?_cons_succ]
theorem rowT_some {l : List Done} {c : Int} {d : Done} (h : doneAt l c = some d) : d.client = c ∧ d ∈ l := by
  induction l with
  | nil => simp [doneAt] at h
  | cons a l ih =>
    simp only [doneAt] at h
    split at h
    · simp at h; subst h; exact ⟨by assumption, List.mem_cons_self ..⟩
    · exact ⟨(ih h).1, List.mem_cons_of_mem _ (ih h).2⟩
theorem req_row {l : List Done} {c : Int} : reqT l c = (match doneAt l c with | some d => d.req | none => 0) := by
  induction l with
  | nil => rfl
  | cons a l ih => simp only [reqT, doneAt]; split <;> simp_all
theorem right_rt {t : List Done} (h : rightT t = true) : rtR 0 t = true ∧ t.length ≤ 8 := by simpa [rightT] using h
theorem rt_row : ∀ {l : List Done} {p : Int} {d : Done}, rtR p l = true → d ∈ l → rowR d = true
  | [], _, _, _, h => by simp at h
  | a :: l, p, d, h, hd => by
    obtain ⟨-, h2, h3⟩ := rt_tail h
    rcases List.mem_cons.1 hd with rfl | hd
    · exact h2
    · exact rt_row h3 hd

def toldT (t : List Done) (c : Int) : Option Done := if rightT t then doneAt t c else none
def H84 (Pg : Nat → Option Fn) : Prop := Pg 84 = some (.code F84) ∧ H81 Pg ∧ H100 Pg
theorem K84 (h : H84 Pg) (t : List Done) (c : Int) (hl : t.length < 2 ^ 60) : K' Pg 84 [eDones t, iz c] = some (eOD (toldT t c)) := by
  obtain ⟨h, h81, h100⟩ := h
  have k81 := K81 h81 t hl
  have k100 := K100 h100 t c hl
  simp only [eDones] at k81 k100
  refine K'_code h rfl ?_
  cases hr : rightT t with
  | false => simp only [go_sem, k81, hr, toldT, zeroDone, Option.isSome_none]
  | true =>
    have hf := row_find (c := c) (right_rt hr).1
    cases ha : isAt t c with
    | false =>
      rw [ha] at hf
      simp only [Bool.false_eq_true, if_false] at hf
      simp only [go_sem, k81, hr, k100, ha, toldT, hf, zeroDone, Option.isSome_none]
    | true =>
      rw [ha] at hf
      simp only [if_true] at hf
      have hlt : cntT t c < t.length := by
        rcases Nat.lt_or_ge (cntT t c) t.length with h | h
        · exact h
        · simp only [isAt, List.getElem?_eq_none h] at ha; simp at ha
      obtain ⟨x, hx, -⟩ := drop_at hlt
      rw [hx] at hf
      simp only [go_sem, k81, hr, k100, ha, toldT, hf, hx, Option.isSome_some]

def judgeT (t : List Done) (c r : Int) : Int := if rightT t && (numD c && numD r) then (match doneAt t c with | none => 1 | some d => if d.req < r then 1 else if r = d.req then 2 else 3) else 0
def H82 (Pg : Nat → Option Fn) : Prop := Pg 82 = some (.code F82) ∧ H81 Pg ∧ H97 Pg ∧ H84 Pg
theorem K82 (h : H82 Pg) (t : List Done) (c r : Int) (hl : t.length < 2 ^ 60) : K' Pg 82 [eDones t, iz c, iz r] = some (iz (judgeT t c r)) := by
  obtain ⟨h, h81, h97, h84⟩ := h
  have k81 := K81 h81 t hl
  have k84 := K84 h84 t c hl
  have k97 := fun x => K97 h97 x
  simp only [eDones, eOD, eDone, eItems] at k81 k84
  refine K'_code h rfl ?_
  cases hr : rightT t with
  | false => simp only [go_sem, k81, hr, judgeT]
  | true =>
  cases hc : numD c with
  | false => simp only [go_sem, k81, hr, judgeT, k97, hc]
  | true =>
  cases hq : numD r with
  | false => simp only [go_sem, k81, hr, judgeT, k97, hc, hq]
  | true =>
    simp only [toldT, hr, if_true] at k84
    cases hw : doneAt t c with
    | none =>
      simp only [hw, Option.getD_none, Option.isSome_none, zeroDone, List.map_nil] at k84
      simp only [go_sem, k81, hr, judgeT, k97, hc, hq, k84, hw]
    | some d =>
      simp only [hw, Option.getD_some, Option.isSome_some] at k84
      by_cases h1 : d.req < r
      · simp only [go_sem, k81, hr, judgeT, k97, hc, hq, k84, hw, h1]
      · by_cases h2 : r = d.req
        · have h2' := decide_eq_true h2
          have e : judgeT t c r = 2 := by simp only [judgeT, hr, hc, hq, hw, Bool.and_self, if_true, if_neg h1, if_pos h2]
          rw [e]
          simp only [go_sem, k81, hr, k97, hc, hq, k84, hw, h1, h2']
        · simp only [go_sem, k81, hr, judgeT, k97, hc, hq, k84, hw, h1, h2]

def H83 (Pg : Nat → Option Fn) : Prop := Pg 83 = some (.code F83) ∧ H80 Pg ∧ H95 Pg ∧ H99 Pg
theorem K83 (h : H83 Pg) (t : List Done) (c r : Int) (hl : t.length < 2 ^ 60) : K' Pg 83 [eDones t, iz c, iz r] = some (iz (judgeT t c r)) := by
  obtain ⟨h, h80, h95, h99⟩ := h
  have k80 := K80 h80 t hl
  have k99 := K99 h99 t c hl
  have k95 := fun x => K95 h95 x
  simp only [eDones] at k80 k99
  refine K'_code h rfl ?_
  cases hr : rightT t with
  | false => simp only [go_sem, k80, hr, judgeT]
  | true =>
  cases hc : numD c with
  | false => simp only [go_sem, k80, hr, judgeT, k95, hc]
  | true =>
  cases hq : numD r with
  | false => simp only [go_sem, k80, hr, judgeT, k95, hc, hq]
  | true =>
    have hq' : 1 ≤ r := by simp only [numD, Bool.and_eq_true, decide_eq_true_eq] at hq; exact hq.1
    rw [req_row] at k99
    cases hw : doneAt t c with
    | none =>
      have h0 : decide (0 < r) = true := by simp; omega
      simp only [hw] at k99
      simp only [go_sem, k80, hr, judgeT, k95, hc, hq, k99, hw, h0]
    | some d =>
      simp only [hw] at k99
      by_cases h1 : d.req < r
      · simp only [go_sem, k80, hr, judgeT, k95, hc, hq, k99, hw, h1]
      · by_cases h2 : r = d.req
        · have h2' := decide_eq_true h2
          have e : judgeT t c r = 2 := by simp only [judgeT, hr, hc, hq, hw, Bool.and_self, if_true, if_neg h1, if_pos h2]
          rw [e]
          simp only [go_sem, k80, hr, k95, hc, hq, k99, hw, h1, h2']
        · simp only [go_sem, k80, hr, judgeT, k95, hc, hq, k99, hw, h1, h2]

def H102 (Pg : Nat → Option Fn) : Prop := Pg 102 = some (.prim (some 0) (cloneQ 11))
theorem K102 (h : H102 Pg) (rows : List (List V)) (hl : rows.length ≤ lim) : K' Pg 102 [.slice 11 rows] = some (.slice 11 rows) := by
  rw [K'_prim h]; simp [cloneQ, hl]

def putT (t : List Done) (d : Done) : List Done × Int :=
  if rightT t && rowR d then (match t[cntT t d.client]? with
    | some x => if x.client = d.client then (if d.req ≤ x.req then ([], 9) else (t.set (cntT t d.client) d, 0)) else if t.length = 8 then ([], 6) else (t.take (cntT t d.client) ++ d :: t.drop (cntT t d.client), 0)
    | none => if t.length = 8 then ([], 6) else (t.take (cntT t d.client) ++ d :: t.drop (cntT t d.client), 0)) else ([], 1)
@[go_sem] def eTE (x : List Done × Int) : V := .tuple [eDones x.1, iz x.2]
theorem right_one {d : Done} : rightT [d] = rowR d := by
  simp only [rightT, rtR, Bool.and_true, List.length_singleton]
  cases h : rowR d with
  | false => simp
  | true =>
    simp only [rowR, numD, Bool.and_eq_true, decide_eq_true_eq] at h
    simp; omega

def H88 (Pg : Nat → Option Fn) : Prop := Pg 88 = some (.code F88) ∧ H81 Pg ∧ H100 Pg ∧ H102 Pg
theorem K88 (h : H88 Pg) (t : List Done) (d : Done) (hl : t.length < 2 ^ 60) : K' Pg 88 [eDones t, .agg (eDone d)] = some (eTE (putT t d)) := by
  obtain ⟨h, h81, h100, h102⟩ := h
  have k81 := K81 h81 t hl
  have k81d := K81 h81 [d] (by simp)
  rw [right_one] at k81d
  have k100 := K100 h100 t d.client hl
  simp only [eDones, List.map_cons, List.map_nil, eDone, eItems] at k81 k81d k100
  refine K'_code h rfl ?_
  cases hr : rightT t with
  | false => simp only [go_sem, k81, hr, putT]
  | true =>
  cases hd : rowR d with
  | false => simp only [go_sem, k81, hr, k81d, hd, putT]
  | true =>
    obtain ⟨hrt, h8⟩ := right_rt hr
    have k102 := K102 h102 (t.map eDone) (by simp [lim]; omega)
    have hle := cnt_le (c := d.client) (l := t)
    have h8' : decide ((t.length : Int) = 8) = decide (t.length = 8) := decide_eq_decide.2 (by omega)
    have hlim : t.length + 1 ≤ lim := by simp only [lim]; omega
    cases ha : isAt t d.client with
    | true =>
      have hlt : cntT t d.client < t.length := by
        rcases Nat.lt_or_ge (cntT t d.client) t.length with h | h
        · exact h
        · simp only [isAt, List.getElem?_eq_none h] at ha; simp at ha
      obtain ⟨x, hx, -⟩ := drop_at hlt
      have hxc : x.client = d.client := by simp only [isAt, hx] at ha; simpa using ha
      by_cases hq : d.req ≤ x.req
      · have e : putT t d = ([], 9) := by simp only [putT, hr, hd, hx, hxc, hq]; rfl
        rw [e]
        simp only [go_sem, k81, hr, k81d, hd, k100, ha, hx, hq]
      · have e : putT t d = (t.set (cntT t d.client) d, 0) := by simp only [putT, hr, hd, hx, hxc, hq]; rfl
        rw [e]
        simp only [go_sem, k81, hr, k81d, hd, k100, ha, hx, hq, k102, hlt, List.length_set, List.map_set]
    | false =>
      have e : putT t d = if t.length = 8 then ([], 6) else (t.take (cntT t d.client) ++ d :: t.drop (cntT t d.client), 0) := by
        simp only [putT, hr, hd]
        simp only [isAt] at ha
        cases hx : t[cntT t d.client]? with
        | none => rfl
        | some x => rw [hx] at ha; simp only [decide_eq_false_iff_not] at ha; simp [ha]
      rw [e]
      by_cases h8e : t.length = 8
      · have h8e' : decide ((t.length : Int) = 8) = true := by simp [h8e]
        simp only [go_sem, k81, hr, k81d, hd, k100, ha, h8e', if_pos h8e]
      · have h8e' : decide ((t.length : Int) = 8) = false := by simp; omega
        have hlen : (List.take (cntT t d.client) (List.map eDone t)).length + ((List.drop (cntT t d.client) (List.map eDone t)).length + 1) = t.length + 1 := by simp; omega
        simp only [go_sem, k81, hr, k81d, hd, k100, ha, h8e', if_neg h8e, k102, hle, hlim, List.map_append, List.map_take, List.map_drop, hlen]
end Sg
