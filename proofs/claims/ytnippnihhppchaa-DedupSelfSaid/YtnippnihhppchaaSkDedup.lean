/- Tables of what clients asked last. -/
import Derived.Test.YtnippnihhppchaaScDedup
import Derived.Test.YtnippnihhppchaaSkBase
import Derived.Test.YtnippnihhppchaaSkChain2
import Derived.Test.YtnippnihhppchaaSgRun2
namespace Sg
open _root_.Go (IntKind BinOp UnOp)
set_option linter.unusedSimpArgs false
set_option linter.unusedVariables false
set_option maxRecDepth 10000
variable {Pg : Nat → Option Fn}

structure Ans where
  err : Int
  at_ : Stamp
  found : Bool
  val : List UInt8
  items : List (List UInt8 × List UInt8)
  next : List UInt8
  more : Bool
  deriving DecidableEq
structure Done where
  client : Int
  req : Int
  ans : Ans
  deriving DecidableEq
@[go_sem] def eItem (p : List UInt8 × List UInt8) : List V := [.str p.1, .str p.2]
@[go_sem] def eItems (l : List (List UInt8 × List UInt8)) : V := .slice 2 (l.map eItem)
@[go_sem] def eAns (a : Ans) : List V := [iz a.err, iz a.at_.wall, iz a.at_.tick, iz a.at_.node, .bool a.found, .str a.val, eItems a.items, .str a.next, .bool a.more]
@[go_sem] def eDone (d : Done) : List V := [iz d.client, iz d.req, iz d.ans.err, iz d.ans.at_.wall, iz d.ans.at_.tick, iz d.ans.at_.node, .bool d.ans.found, .str d.ans.val, eItems d.ans.items, .str d.ans.next, .bool d.ans.more]
@[go_sem] def eDones (l : List Done) : V := .slice 11 (l.map eDone)

def numD (n : Int) : Bool := decide (1 ≤ n) && decide (n ≤ 1099511627776)
def H97 (Pg : Nat → Option Fn) : Prop := Pg 97 = some (.code F97)
theorem K97 (h : H97 Pg) (n : Int) : K' Pg 97 [iz n] = some (.bool (numD n)) := by
  refine K'_code h rfl ?_
  simp only [go_sem]
  refine wrg_it (fun h => ?_) (fun h => ?_) <;> simp only [go_sem, h, numD]
def H95 (Pg : Nat → Option Fn) : Prop := Pg 95 = some (.code F95)
theorem K95 (h : H95 Pg) (n : Int) : K' Pg 95 [iz n] = some (.bool (numD n)) := by
  refine K'_code h rfl ?_
  have e : decide ((0 : Int) < n) = decide (1 ≤ n) := decide_eq_decide.2 (by omega)
  simp only [go_sem, e]
  refine wrg_it (fun h => ?_) (fun h => ?_) <;> simp only [go_sem, h, numD]

def plainA (a : Ans) : Bool := decide (0 ≤ a.err) && (decide (a.err ≤ 16) && (stampRight a.at_ && (decide (a.val.length ≤ 16) && (decide (a.items = []) && (decide (a.next = []) && !a.more)))))
theorem nil_len {α : Type} [DecidableEq α] {l : List α} : decide ((l.length : Int) = 0) = decide (l = []) := by cases l <;> simp; omega
theorem le16 {n : Nat} : decide ((n : Int) ≤ 16) = decide (n ≤ 16) := decide_eq_decide.2 (by omega)

def H98 (Pg : Nat → Option Fn) : Prop := Pg 98 = some (.code F98) ∧ H28 Pg
theorem K98 (h : H98 Pg) (a : Ans) : K' Pg 98 [.agg (eAns a)] = some (.bool (plainA a)) := by
  obtain ⟨h, h28⟩ := h
  have k := K28 h28 a.at_
  simp only [eStamp] at k
  refine K'_code h rfl ?_
  simp only [go_sem, k, nil_len, le16]
  repeat' (refine wrg_it (fun h => ?_) (fun h => ?_) <;> simp only [go_sem, h, k, nil_len, le16, plainA])

def H96 (Pg : Nat → Option Fn) : Prop := Pg 96 = some (.code F96) ∧ H24 Pg
theorem K96 (h : H96 Pg) (a : Ans) : K' Pg 96 [.agg (eAns a)] = some (.bool (plainA a)) := by
  obtain ⟨h, h24⟩ := h
  have k := K24 h24 a.at_
  simp only [eStamp] at k
  have e1 : decide (a.err < 0) = !decide (0 ≤ a.err) := by by_cases h : 0 ≤ a.err <;> simp [h] <;> omega
  have e2 : decide (16 < a.err) = !decide (a.err ≤ 16) := by by_cases h : a.err ≤ 16 <;> simp [h] <;> omega
  have e3 : decide ((16 : Int) < (a.val.length : Int)) = !decide (a.val.length ≤ 16) := by by_cases h : a.val.length ≤ 16 <;> simp [h] <;> omega
  have e4 : decide ((0 : Int) < (a.items.length : Int)) = !decide (a.items = []) := by rw [posd]; cases a.items <;> simp
  have e5 : decide ((0 : Int) < (a.next.length : Int)) = !decide (a.next = []) := by rw [posd]; cases a.next <;> simp
  refine K'_code h rfl ?_
  simp only [go_sem, k, e1, e2, e3, e4, e5, plainA]
  cases h1 : decide (0 ≤ a.err) <;> simp only [go_sem, h1, e1, e2, e3, e4, e5]
  cases h2 : decide (a.err ≤ 16) <;> simp only [go_sem, h1, h2, e1, e2, e3, e4, e5]
  cases h3 : decide (a.val.length ≤ 16) <;> simp only [go_sem, h1, h2, h3, e1, e2, e3, e4, e5]
  cases h4 : decide (a.items = []) <;> simp only [go_sem, h1, h2, h3, h4, e1, e2, e3, e4, e5]
  cases h5 : decide (a.next = []) <;> simp only [go_sem, h1, h2, h3, h4, h5, e1, e2, e3, e4, e5]
  cases h6 : a.more <;> simp only [go_sem, h1, h2, h3, h4, h5, h6, e1, e2, e3, e4, e5, k]

/-- a row that may stand in a table -/
def rowR (d : Done) : Bool := numD d.client && (numD d.req && plainA d.ans)
def rtR : Int → List Done → Bool
  | _, [] => true
  | p, d :: l => decide (p < d.client) && (rowR d && rtR d.client l)
def rightT (t : List Done) : Bool := rtR 0 t && decide (t.length ≤ 8)

theorem rtR_cons {p : Int} {d : Done} {l : List Done} : rtR p (d :: l) = (decide (p < d.client) && (rowR d && rtR d.client l)) := rfl
def prevC (t : List Done) (i : Nat) : Int := if i = 0 then 0 else (t[i - 1]?.map Done.client).getD 0

def H81 (Pg : Nat → Option Fn) : Prop := Pg 81 = some (.code F81) ∧ H97 Pg ∧ H98 Pg
theorem K81 (h : H81 Pg) (t : List Done) (hl : t.length < 2 ^ 60) : K' Pg 81 [eDones t] = some (.bool (rightT t)) := by
  obtain ⟨h, h97, h98⟩ := h
  have k97 := fun x => K97 h97 x
  have k98 := fun x => K98 h98 x
  simp only [eAns, eItems] at k98
  refine K'_code h rfl ?_
  simp only [go_sem]
  unfold l81_0
  refine wp_lp (fun (i : Nat) S => i ≤ t.length ∧ S.ρ 0 = eDones t ∧ S.μ 5 = none ∧ S.ρ 3 = iz (prevC t i) ∧ S.ρ 6 = eDones t ∧ S.ρ 7 = iz t.length ∧ S.ρ 8 = iz i ∧ rtR (prevC t i) (t.drop i) = rtR 0 t) (fun i => t.length - i) 0 ?_ ?_
  · simp [go_sem, prevC]
  · intro i S ⟨hi, h0, m5, h3, h6, h7, h8, ho⟩
    simp only [go_sem, h0, m5, h3, h6, h7, h8]
    refine wpc_i (fun h => ?_) (fun h => ?_)
    · have h := lt_of h
      obtain ⟨x, hx, hd⟩ := drop_at h
      have hnext : prevC t (i + 1) = x.client := by simp [prevC, hx]
      rw [hd, rtR_cons] at ho
      have e1 : decide (x.client ≤ prevC t i) = !decide (prevC t i < x.client) := by by_cases h : prevC t i < x.client <;> simp [h] <;> omega
      simp only [go_sem, h0, m5, h3, h6, h7, h8, hx, e1, k97, k98]
      cases c1 : decide (prevC t i < x.client) with
      | false => rw [c1] at ho; simp only [go_sem, c1, rightT, ← ho]
      | true =>
      cases c2 : numD x.client with
      | false => simp only [rowR, c2, Bool.false_and, Bool.and_false] at ho; simp only [go_sem, c1, c2, rightT, ← ho, h0, m5, h3, h6, h7, h8, hx, k97, k98]
      | true =>
      cases c3 : numD x.req with
      | false => simp only [rowR, c3, Bool.false_and, Bool.and_false] at ho; simp only [go_sem, c1, c2, c3, rightT, ← ho, h0, m5, h3, h6, h7, h8, hx, k97, k98]
      | true =>
      cases c4 : plainA x.ans with
      | false => simp only [rowR, c4, Bool.false_and, Bool.and_false] at ho; simp only [go_sem, c1, c2, c3, c4, rightT, ← ho, h0, m5, h3, h6, h7, h8, hx, k97, k98]
      | true =>
        simp only [rowR, c1, c2, c3, c4, Bool.true_and] at ho
        simp only [go_sem, c1, c2, c3, c4, h0, m5, h3, h6, h7, h8, hx, k97, k98]
        exact ⟨i + 1, by omega, by omega, by rw [hnext], by rw [inc64 h hl], by rw [hnext]; exact ho⟩
    · have h := eq_of hi h
      subst h
      simp only [List.drop_length, rtR] at ho
      have e8 : decide ((t.length : Int) ≤ 8) = decide (t.length ≤ 8) := decide_eq_decide.2 (by omega)
      simp only [go_sem, h0, rightT, ← ho, e8]

def H80 (Pg : Nat → Option Fn) : Prop := Pg 80 = some (.code F80) ∧ H95 Pg ∧ H96 Pg
theorem K80 (h : H80 Pg) (t : List Done) (hl : t.length < 2 ^ 60) : K' Pg 80 [eDones t] = some (.bool (rightT t)) := by
  obtain ⟨h, h95, h96⟩ := h
  have k95 := fun x => K95 h95 x
  have k96 := fun x => K96 h96 x
  simp only [eAns, eItems] at k96
  refine K'_code h rfl ?_
  simp only [go_sem]
  refine wpc_i (fun hc => ?_) (fun hc => ?_)
  · have hc : ¬ t.length ≤ 8 := by have := of_decide_eq_true hc; omega
    simp only [go_sem, rightT, hc]
  have hc : t.length ≤ 8 := by have := of_decide_eq_false hc; omega
  have hrt : rightT t = rtR 0 t := by simp [rightT, hc]
  simp only [go_sem]
  unfold l80_0
  refine wp_lp (fun (i : Nat) S => i ≤ t.length ∧ S.ρ 0 = eDones t ∧ S.ρ 3 = iz i ∧ rtR (prevC t i) (t.drop i) = rtR 0 t) (fun i => t.length - i) 0 ?_ ?_
  · simp [go_sem, prevC]
  · intro i S ⟨hi, h0, h3, ho⟩
    simp only [go_sem, h0, h3]
    refine wpc_i (fun h => ?_) (fun h => ?_)
    · have h := lt_of h
      obtain ⟨x, hx, hd⟩ := drop_at h
      have hnext : prevC t (i + 1) = x.client := by simp [prevC, hx]
      rw [hd, rtR_cons] at ho
      simp only [go_sem, h0, h3, hx, k95, k96]
      cases c2 : numD x.client with
      | false => simp only [rowR, c2, Bool.false_and, Bool.and_false] at ho; simp only [go_sem, c2, hrt, ← ho, h0, h3, hx, k95, k96]
      | true =>
      cases c3 : numD x.req with
      | false => simp only [rowR, c3, Bool.false_and, Bool.and_false] at ho; simp only [go_sem, c2, c3, hrt, ← ho, h0, h3, hx, k95, k96]
      | true =>
      cases c4 : plainA x.ans with
      | false => simp only [rowR, c4, Bool.false_and, Bool.and_false] at ho; simp only [go_sem, c2, c3, c4, hrt, ← ho, h0, h3, hx, k95, k96]
      | true =>
        simp only [rowR, c2, c3, c4, Bool.true_and] at ho
        simp only [go_sem, c2, c3, c4, h0, h3, hx, k95, k96, posd]
        rcases Nat.eq_zero_or_pos i with hz | hz
        · have hz' : decide (i = 0) = true := by simp [hz]
          have hp : decide (prevC t i < x.client) = true := by
            simp only [numD, Bool.and_eq_true, decide_eq_true_eq] at c2
            simp [prevC, hz]; omega
          rw [hp, Bool.true_and] at ho
          simp only [go_sem, hz', h0, h3, hx]
          exact ⟨i + 1, by omega, by omega, by rw [inc64 h hl], by rw [hnext]; exact ho⟩
        · have hz' : decide (i = 0) = false := by simp; omega
          obtain ⟨y, hy, -⟩ := drop_at (l := t) (i := i - 1) (by omega)
          have hp : prevC t i = y.client := by simp [prevC, hy]; omega
          have hdec := dec64 hz (by omega)
          rw [hp] at ho
          have e1 : decide (x.client ≤ y.client) = !decide (y.client < x.client) := by by_cases h : y.client < x.client <;> simp [h] <;> omega
          simp only [go_sem, hz', h0, h3, hx, hdec, hy, e1]
          cases c1 : decide (y.client < x.client) with
          | false => rw [c1] at ho; simp only [go_sem, hrt, ← ho]
          | true =>
            rw [c1, Bool.true_and] at ho
            simp only [go_sem, h0, h3]
            exact ⟨i + 1, by omega, by omega, by rw [inc64 h hl], by rw [hnext]; exact ho⟩
    · have h := eq_of hi h
      subst h
      simp only [List.drop_length, rtR] at ho
      simp only [go_sem, hrt, ← ho]

/-- short enough to be gone through -/
def smallT (t : List Done) : Bool := decide (t.length ≤ 40) && t.all fun d => decide (d.ans.items.length ≤ 100)
def H78 (Pg : Nat → Option Fn) : Prop := Pg 78 = some (.code F78)
theorem K78 (h : H78 Pg) (t : List Done) : K' Pg 78 [eDones t] = some (.bool (smallT t)) := by
  refine K'_code h rfl ?_
  simp only [go_sem]
  refine wpc_i (fun hc => ?_) (fun hc => ?_)
  · have hc : ¬ t.length ≤ 40 := by have := of_decide_eq_true hc; omega
    simp only [go_sem, smallT, hc]
  have hc : t.length ≤ 40 := by have := of_decide_eq_false hc; omega
  have hsm : smallT t = t.all fun d => decide (d.ans.items.length ≤ 100) := by simp [smallT, hc]
  simp only [go_sem]
  unfold l78_0
  refine wp_lp (fun (i : Nat) S => i ≤ t.length ∧ S.ρ 0 = eDones t ∧ S.ρ 3 = iz i ∧ ∀ d ∈ t.take i, d.ans.items.length ≤ 100) (fun i => t.length - i) 0 ?_ ?_
  · simp [go_sem]
  · intro i S ⟨hi, h0, h3, ho⟩
    simp only [go_sem, h0, h3]
    refine wpc_i (fun h => ?_) (fun h => ?_)
    · have h := lt_of h
      obtain ⟨x, hx, hd⟩ := drop_at h
      simp only [go_sem, h0, h3, hx]
      refine wpc_i (fun hc => ?_) (fun hc => ?_)
      · have hc : ¬ x.ans.items.length ≤ 100 := by have := of_decide_eq_true hc; omega
        have : (t.all fun d => decide (d.ans.items.length ≤ 100)) = false := by
          simp only [List.all_eq_false]
          exact ⟨x, List.mem_of_getElem? hx, by simpa using hc⟩
        simp only [go_sem, hsm, this]
      · have hc : x.ans.items.length ≤ 100 := by have := of_decide_eq_false hc; omega
        simp only [go_sem, h0, h3]
        refine ⟨i + 1, by omega, by omega, by rw [inc64 h (by omega)], fun d hd => ?_⟩
        rw [take_s hx] at hd
        rcases List.mem_append.1 hd with hd | hd
        · exact ho d hd
        · have : d = x := by simpa using hd
          rw [this]; exact hc
    · have h := eq_of hi h
      rw [take_all h] at ho
      have : (t.all fun d => decide (d.ans.items.length ≤ 100)) = true := by simpa using ho
      simp only [go_sem, hsm, this]

theorem eItems_def (l : List (List UInt8 × List UInt8)) : eItems l = .slice 2 (l.map fun p => [.str p.1, .str p.2]) := rfl
def H101 (Pg : Nat → Option Fn) : Prop := Pg 101 = some (.code F101)
theorem K101 (h : H101 Pg) (a : Ans) (hl : a.items.length < 2 ^ 60) : K' Pg 101 [.agg (eAns a), .agg (eAns a)] = some (.bool true) := by
  refine K'_code h rfl ?_
  simp only [go_sem]
  unfold l101_0
  refine wp_lp (fun (i : Nat) S => i ≤ a.items.length ∧ S.ρ 2 = .lref 2 0 ∧ S.ρ 3 = .lref 3 0 ∧ S.μ 2 = some (eAns a, false) ∧ S.μ 3 = some (eAns a, false) ∧ S.ρ 5 = iz i) (fun i => a.items.length - i) 0 ?_ ?_
  · simp [go_sem]
  · intro i S ⟨hi, h2, h3, m2, m3, h5⟩
    simp only [go_sem, h2, h3, m2, m3, h5]
    refine wpc_i (fun h => ?_) (fun h => ?_)
    · have h := lt_of h
      obtain ⟨x, hx, hd⟩ := drop_at h
      simp only [go_sem, h2, h3, m2, m3, h5, hx]
      exact ⟨i + 1, by omega, by omega, by rw [inc64 h hl]⟩
    · simp only [go_sem, h2, h3, m2, m3]

def H86 (Pg : Nat → Option Fn) : Prop := Pg 86 = some (.code F86) ∧ H101 Pg
theorem K86 (h : H86 Pg) (t : List Done) (hl : t.length < 2 ^ 60) (ht : ∀ d ∈ t, d.ans.items.length < 2 ^ 60) : K' Pg 86 [eDones t, eDones t] = some (.bool true) := by
  obtain ⟨h, h101⟩ := h
  refine K'_code h rfl ?_
  simp only [go_sem]
  unfold l86_0
  refine wp_lp (fun (i : Nat) S => i ≤ t.length ∧ S.ρ 0 = eDones t ∧ S.ρ 1 = eDones t ∧ S.ρ 5 = iz i) (fun i => t.length - i) 0 ?_ ?_
  · simp [go_sem]
  · intro i S ⟨hi, h0, h1, h5⟩
    simp only [go_sem, h0, h1, h5]
    refine wpc_i (fun h => ?_) (fun h => ?_)
    · have h := lt_of h
      obtain ⟨x, hx, hd⟩ := drop_at h
      have k101 := K101 h101 x.ans (ht x (List.mem_of_getElem? hx))
      simp only [eAns, eItems] at k101
      simp only [go_sem, h0, h1, h5, hx, k101]
      exact ⟨i + 1, by omega, by omega, by rw [inc64 h hl]⟩
    · simp only [go_sem]

def reqT : List Done → Int → Int
  | [], _ => 0
  | d :: l, c => if d.client = c then d.req else reqT l c
def H99 (Pg : Nat → Option Fn) : Prop := Pg 99 = some (.code F99)
theorem K99 (h : H99 Pg) (t : List Done) (c : Int) (hl : t.length < 2 ^ 60) : K' Pg 99 [eDones t, iz c] = some (iz (reqT t c)) := by
  refine K'_code h rfl ?_
  simp only [go_sem]
  unfold l99_0
  refine wp_lp (fun (i : Nat) S => i ≤ t.length ∧ S.ρ 0 = eDones t ∧ S.ρ 1 = iz c ∧ S.ρ 5 = iz i ∧ reqT (t.drop i) c = reqT t c) (fun i => t.length - i) 0 ?_ ?_
  · simp [go_sem]
  · intro i S ⟨hi, h0, h1, h5, ho⟩
    simp only [go_sem, h0, h1, h5]
    refine wpc_i (fun h => ?_) (fun h => ?_)
    · have h := lt_of h
      obtain ⟨x, hx, hd⟩ := drop_at h
      rw [hd] at ho
      simp only [go_sem, h0, h1, h5, hx]
      refine wpc_i (fun hc => ?_) (fun hc => ?_)
      · simp only [reqT, of_decide_eq_true hc, if_true] at ho
        simp only [go_sem, h0, h1, h5, hx, ← ho]
      · simp only [reqT, of_decide_eq_false hc, if_false] at ho
        simp only [go_sem, h0, h1, h5, hx]
        exact ⟨i + 1, by omega, by omega, by rw [inc64 h hl], ho⟩
    · have h := eq_of hi h
      subst h
      simp only [List.drop_length, reqT] at ho
      simp only [go_sem, ← ho]

def doneAt : List Done → Int → Option Done
  | [], _ => none
  | d :: l, c => if d.client = c then some d else doneAt l c
def zeroDone : Done := ⟨0, 0, ⟨0, ⟨0, 0, 0⟩, false, [], [], [], false⟩⟩
@[go_sem] def eOD (o : Option Done) : V := .tuple [.agg (eDone (o.getD zeroDone)), .bool o.isSome]
def H85 (Pg : Nat → Option Fn) : Prop := Pg 85 = some (.code F85)
theorem K85 (h : H85 Pg) (t : List Done) (c : Int) (hl : t.length < 2 ^ 60) : K' Pg 85 [eDones t, iz c] = some (eOD (doneAt t c)) := by
  refine K'_code h rfl ?_
  simp only [go_sem]
  unfold l85_0
  refine wp_lp (fun (i : Nat) S => i ≤ t.length ∧ S.ρ 0 = eDones t ∧ S.ρ 1 = iz c ∧ S.ρ 4 = .lref 4 0 ∧ S.μ 4 = some (eDone zeroDone, false) ∧ S.ρ 6 = iz i ∧ doneAt (t.drop i) c = doneAt t c) (fun i => t.length - i) 0 ?_ ?_
  · simp [go_sem, zeroDone]
  · intro i S ⟨hi, h0, h1, h4, m4, h6, ho⟩
    simp only [go_sem, h0, h1, h4, m4, h6]
    refine wpc_i (fun h => ?_) (fun h => ?_)
    · have h := lt_of h
      obtain ⟨x, hx, hd⟩ := drop_at h
      rw [hd] at ho
      simp only [go_sem, h0, h1, h4, m4, h6, hx]
      refine wpc_i (fun hc => ?_) (fun hc => ?_)
      · simp only [doneAt, of_decide_eq_true hc, if_true] at ho
        simp only [go_sem, h0, h1, h4, m4, h6, hx, ← ho, Option.isSome_some]
      · simp only [doneAt, of_decide_eq_false hc, if_false] at ho
        simp only [go_sem, h0, h1, h4, m4, h6, hx]
        exact ⟨i + 1, by omega, by omega, by rw [inc64 h hl], ho⟩
    · have h := eq_of hi h
      subst h
      simp only [List.drop_length, doneAt] at ho
      simp only [go_sem, h4, m4, ← ho, zeroDone, Option.isSome_none]
end Sg
