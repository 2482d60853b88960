import Derived.Test.YtgimpinbcagjhaaSkGroup
namespace Sg
open _root_.Go (IntKind BinOp UnOp)
set_option linter.unusedSimpArgs false
set_option linter.unusedVariables false
variable {Pg : Nat → Option Fn}

structure Rep where
  id : Int
  view : Int
  members : List Int
  n : Int
  base : List UInt8
  text : List UInt8
  acks : List Int
  deriving DecidableEq
structure Word where
  kind : Int
  frm : Int
  to : Int
  view : Int
  n : Int
  members : List Int
  text : List UInt8
  deriving DecidableEq
@[go_sem] def eRep (r : Rep) : List V := [iz r.id, iz r.view, eInts r.members, iz r.n, .str r.base, .str r.text, eInts r.acks]
@[go_sem] def eWord (r : Word) : List V := [iz r.kind, iz r.frm, iz r.to, iz r.view, iz r.n, eInts r.members, .str r.text]
@[go_sem] def eWords (l : List Word) : V := .slice 7 (l.map eWord)
structure Rep.Ok (r : Rep) : Prop where
  m : r.members.length < 2 ^ 60
  a : r.acks.length < 2 ^ 60

def numG (n least : Int) : Bool := decide (least ≤ n) && decide (n ≤ 1099511627776)

def H63 (Pg : Nat → Option Fn) : Prop := Pg 63 = some (.code F63)
theorem K63 (h : H63 Pg) (n least : Int) : K' Pg 63 [iz n, iz least] = some (.bool (numG n least)) := by
  refine K'_code h rfl ?_
  simp only [go_sem]
  refine wrg_it (fun h => ?_) (fun h => ?_) <;> simp only [go_sem, h, numG]
def H60 (Pg : Nat → Option Fn) : Prop := Pg 60 = some (.code F60)
theorem K60 (h : H60 Pg) (n : Int) : K' Pg 60 [iz n] = some (.bool (numG n 1)) := by
  refine K'_code h rfl ?_
  simp only [go_sem]
  refine wrg_it (fun h => ?_) (fun h => ?_) <;> simp only [go_sem, h, numG]

def leadsR (r : Rep) : Bool := match r.members with | [] => false | m :: _ => decide (m = r.id)
theorem posd {n : Nat} : decide ((0 : Int) < (n : Int)) = !decide (n = 0) := by cases n <;> simp
theorem zerd {n : Nat} : decide ((n : Int) = 0) = decide (n = 0) := decide_eq_decide.2 (by omega)
theorem pos_len {n : Nat} : decide ((0 : Int) < ((n + 1 : Nat) : Int)) = true := by simp
def H68 (Pg : Nat → Option Fn) : Prop := Pg 68 = some (.code F68)
theorem K68 (h : H68 Pg) (r : Rep) : K' Pg 68 [.agg (eRep r)] = some (.bool (leadsR r)) := by
  refine K'_code h rfl ?_
  obtain ⟨id, view, members, n, base, text, acks⟩ := r
  cases members with
  | nil => simp only [go_sem, leadsR]
  | cons m l =>
    have h0 : iadV 1 (V.slice 1 ([iz m] :: List.map (fun a => [iz a]) l)) (iz 0) = some (.cptr [iz m] 0) := rfl
    simp only [go_sem, leadsR, pos_len, h0]
def H38 (Pg : Nat → Option Fn) : Prop := Pg 38 = some (.code F38)
theorem K38 (h : H38 Pg) (r : Rep) : K' Pg 38 [.agg (eRep r)] = some (.bool (leadsR r)) := by
  refine K'_code h rfl ?_
  obtain ⟨id, view, members, n, base, text, acks⟩ := r
  cases members with
  | nil => simp only [go_sem, leadsR]
  | cons m l =>
    have h0 : iadV 1 (V.slice 1 ([iz m] :: List.map (fun a => [iz a]) l)) (iz 0) = some (.cptr [iz m] 0) := rfl
    simp only [go_sem, leadsR, pos_len, h0]

def allR (r : Rep) : Bool := r.members.all fun m => decide (m ∈ r.acks)
def H42 (Pg : Nat → Option Fn) : Prop := Pg 42 = some (.code F42) ∧ H62 Pg
theorem K42 (h : H42 Pg) (r : Rep) (ok : r.Ok) : K' Pg 42 [.agg (eRep r)] = some (.bool (allR r)) := by
  obtain ⟨h, h62⟩ := h
  have k62 := fun x => K62 h62 r.acks x ok.a
  simp only [eInts] at k62
  refine K'_code h rfl ?_
  simp only [go_sem]
  unfold l42_0
  refine wp_lp (fun (i : Nat) S => i ≤ r.members.length ∧ S.ρ 1 = .lref 1 0 ∧ S.μ 1 = some (eRep r, false) ∧ S.ρ 3 = iz i ∧ (∀ m ∈ r.members.take i, m ∈ r.acks)) (fun i => r.members.length - i) 0 ?_ ?_
  · simp [go_sem]
  · intro i S ⟨hi, h1, m1, h3, ho⟩
    simp only [go_sem, h1, m1, h3]
    refine wpc_i (fun h => ?_) (fun h => ?_)
    · have h := lt_of h
      obtain ⟨x, hx, hd⟩ := drop_at h
      simp only [go_sem, h1, m1, h3, hx, k62]
      refine wpc_i (fun hc => ?_) (fun hc => ?_)
      · have hc : x ∉ r.acks := by simpa using hc
        have : allR r = false := by
          simp only [allR, List.all_eq_false]
          exact ⟨x, List.mem_of_getElem? hx, by simpa using hc⟩
        simp only [go_sem, this]
      · have hc : x ∈ r.acks := by simpa using hc
        simp only [go_sem, h1, m1, h3]
        refine ⟨i + 1, by omega, by omega, by rw [inc64 h ok.m], fun m hm => ?_⟩
        rw [take_s hx] at hm
        rcases List.mem_append.1 hm with hm | hm
        · exact ho m hm
        · have : m = x := by simpa using hm
          rw [this]; exact hc
    · have h := eq_of hi h
      rw [take_all h] at ho
      have : allR r = true := by simpa [allR] using ho
      simp only [go_sem, this]

/-- whether a replica is right, as the document's package says it -/
def rightB (r : Rep) : Bool :=
  !(decide (r.id < 1) || (decide (255 < r.id) || ((!decide (r.view = 0) && !numG r.view 1) || ((!decide (r.n = 0) && !numG r.n 1) || (!decide (SetP r.members) || !decide (SetP r.acks)))))) &&
    (r.acks.all (fun m => decide (m ∈ r.members)) && (!(decide ((0 : Int) < (r.members.length : Int)) && !decide (r.id ∈ r.members)) &&
    (bif leadsR r then decide (r.id ∈ r.acks) && (!allR r || decide (r.base = r.text)) else decide ((r.acks.length : Int) = 0) && decide (r.base = r.text))))

def H37 (Pg : Nat → Option Fn) : Prop := Pg 37 = some (.code F37) ∧ H60 Pg ∧ H61 Pg ∧ H62 Pg ∧ H38 Pg ∧ H42 Pg
theorem K37 (h : H37 Pg) (r : Rep) (ok : r.Ok) : K' Pg 37 [.agg (eRep r)] = some (.bool (rightB r)) := by
  obtain ⟨h, h60, h61, h62, h38, h42⟩ := h
  have k60 := fun x => K60 h60 x
  have k61m := K61 h61 r.members
  have k61a := K61 h61 r.acks
  have k62m := fun x => K62 h62 r.members x ok.m
  have k62a := fun x => K62 h62 r.acks x ok.a
  have k38 := K38 h38 r
  have k42 := K42 h42 r ok
  simp only [eInts, eRep] at k60 k61m k61a k62m k62a k38 k42
  refine K'_code h rfl ?_
  simp only [go_sem, k60, k61m, k61a]
  repeat' (first | refine wrg_if (fun h => ?_) (fun h => ?_) <;> simp only [go_sem, h, k60, k61m, k61a] | refine wrg_it (fun h => ?_) (fun h => ?_) <;> simp only [go_sem, h, k60, k61m, k61a] | refine wpc_i (fun h => ?_) (fun h => ?_) <;> simp only [go_sem, h, k60, k61m, k61a])
  all_goals first | (simp only [rightB, *, Bool.not_true, Bool.not_false, Bool.or_true, Bool.true_or, Bool.or_false, Bool.false_or, Bool.and_true, Bool.true_and, Bool.and_false, Bool.false_and, cond_true, cond_false]; done) | skip
  all_goals
    unfold l37_0
    refine wp_lp (fun (i : Nat) S => i ≤ r.acks.length ∧ S.ρ 1 = .lref 1 0 ∧ S.μ 1 = some (eRep r, false) ∧ S.ρ 3 = iz i ∧ (∀ m ∈ r.acks.take i, m ∈ r.members)) (fun i => r.acks.length - i) 0 ?_ ?_
    · simp [go_sem]
    · intro i S ⟨hi, h1, m1, h3, ho⟩
      simp only [go_sem, h1, m1, h3]
      refine wpc_i (fun h => ?_) (fun h => ?_)
      · have h := lt_of h
        obtain ⟨x, hx, hd⟩ := drop_at h
        simp only [go_sem, h1, m1, h3, hx, k62m]
        refine wpc_i (fun hc => ?_) (fun hc => ?_)
        · have hc : x ∉ r.members := by simpa using hc
          have hall : r.acks.all (fun m => decide (m ∈ r.members)) = false := by
            simp only [List.all_eq_false]
            exact ⟨x, List.mem_of_getElem? hx, by simpa using hc⟩
          simp only [go_sem, rightB, hall]
        · have hc : x ∈ r.members := by simpa using hc
          simp only [go_sem, h1, m1, h3]
          refine ⟨i + 1, by omega, by omega, by rw [inc64 h ok.a], fun m hm => ?_⟩
          rw [take_s hx] at hm
          rcases List.mem_append.1 hm with hm | hm
          · exact ho m hm
          · have : m = x := by simpa using hm
            rw [this]; exact hc
      · have h := eq_of hi h
        rw [take_all h] at ho
        have hall : r.acks.all (fun m => decide (m ∈ r.members)) = true := by simpa using ho
        clear ho
        simp only [go_sem, h1, m1, h3, k62m]
        repeat' (first | refine wrg_if (fun h => ?_) (fun h => ?_) <;> simp only [go_sem, h, h1, m1, k62m, k62a, k38, k42] | refine wrg_it (fun h => ?_) (fun h => ?_) <;> simp only [go_sem, h, h1, m1, k62m, k62a, k38, k42] | refine wpc_i (fun h => ?_) (fun h => ?_) <;> simp only [go_sem, h, h1, m1, k62m, k62a, k38, k42])
        all_goals (simp_all only [rightB, Bool.not_eq_true', Bool.not_eq_false', Bool.not_true, Bool.not_false, Bool.or_true, Bool.true_or, Bool.or_false, Bool.false_or, Bool.and_true, Bool.true_and, Bool.and_false, Bool.false_and, cond_true, cond_false]; done)
end Sg
