import Derived.Test.YtgimpinbcagjhaaSkGroup3
import Derived.Test.YtgimpinbcagjhaaSgClone
namespace Sg
open _root_.Go (IntKind BinOp UnOp)
set_option linter.unusedSimpArgs false
set_option linter.unusedVariables false
variable {Pg : Nat → Option Fn}

def H40 (Pg : Nat → Option Fn) : Prop := Pg 40 = some (.code F40) ∧ H39 Pg ∧ H68 Pg
theorem K40 (h : H40 Pg) (r : Rep) (ok : r.Ok) : K' Pg 40 [.agg (eRep r)] = some (.bool (rightB r && leadsR r)) := by
  obtain ⟨h, h39, h68⟩ := h
  have k39 := K39 h39 r ok
  have k68 := K68 h68 r
  simp only [eInts, eRep] at k39 k68
  refine K'_code h rfl ?_
  simp only [go_sem, k39, k68]
  refine wrg_it (fun h => ?_) (fun h => ?_) <;> simp only [go_sem, h, k68]

def busyR (r : Rep) : Bool := rightB r && (leadsR r && !allR r)
theorem right_parts {r : Rep} (h : rightB r = true) : SetP r.members ∧ SetP r.acks ∧ (∀ x ∈ r.acks, x ∈ r.members) ∧ 1 ≤ r.id ∧ r.id ≤ 255 ∧ 0 ≤ r.view ∧ r.view ≤ 1099511627776 ∧ 0 ≤ r.n ∧ r.n ≤ 1099511627776 := by
  rw [← rightG_eq] at h
  simp only [rightG, numG, Bool.and_eq_true, Bool.not_eq_true', Bool.or_eq_false_iff, Bool.and_eq_false_iff, Bool.not_eq_false', Bool.not_eq_true', decide_eq_true_eq, decide_eq_false_iff_not] at h
  obtain ⟨⟨h1, h2, h3, h4, h5, h6⟩, h7, h8, -⟩ := h
  refine ⟨h5, h6, by simpa using h8, ?_⟩
  omega
theorem right_len {r : Rep} (h : rightB r = true) : decide ((r.acks.length : Int) < (r.members.length : Int)) = !allR r := by
  obtain ⟨h1, h2, h3, -⟩ := right_parts h
  exact all_len h1 h2 h3

def H41 (Pg : Nat → Option Fn) : Prop := Pg 41 = some (.code F41) ∧ H40 Pg
theorem K41 (h : H41 Pg) (r : Rep) (ok : r.Ok) : K' Pg 41 [.agg (eRep r)] = some (.bool (busyR r)) := by
  obtain ⟨h, h40⟩ := h
  have k40 := K40 h40 r ok
  simp only [eInts, eRep] at k40
  refine K'_code h rfl ?_
  simp only [go_sem, k40]
  refine wrg_it (fun h => ?_) (fun h => ?_) <;> simp only [go_sem, h, k40]
  · simp only [Bool.and_eq_true] at h
    rw [right_len h.1]; simp only [busyR, h.1, h.2, Bool.true_and]
  · rw [busyR, ← Bool.and_assoc, h]; rfl

def H36 (Pg : Nat → Option Fn) : Prop := Pg 36 = some (.code F36)
theorem K36 (h : H36 Pg) (r : Rep) : K' Pg 36 [.agg (eRep r)] = some (.agg (eRep r)) := by
  refine K'_code h rfl ?_
  simp only [go_sem]

def H34 (Pg : Nat → Option Fn) : Prop := Pg 34 = some (.code F34)
theorem K34 (h : H34 Pg) (r : Rep) : K' Pg 34 [.agg (eRep r)] = some (.bool (decide (r.members.length ≤ 100) && decide (r.acks.length ≤ 100))) := by
  refine K'_code h rfl ?_
  have e : ∀ n : Nat, decide ((n : Int) ≤ 100) = decide (n ≤ 100) := fun n => decide_eq_decide.2 (by omega)
  simp only [go_sem, e]
  refine wrg_it (fun h => ?_) (fun h => ?_) <;> simp only [go_sem, h, e]

def fixR (r : Rep) : Rep := if r.acks.length = r.members.length then { r with base := r.text } else r
def H71 (Pg : Nat → Option Fn) : Prop := Pg 71 = some (.code F71)
theorem K71 (h : H71 Pg) (r : Rep) : K' Pg 71 [.agg (eRep r)] = some (.agg (eRep (fixR r))) := by
  refine K'_code h rfl ?_
  simp only [go_sem]
  refine wpc_i (fun h => ?_) (fun h => ?_)
  · have h : r.acks.length = r.members.length := by have := of_decide_eq_true h; omega
    simp only [go_sem, fixR, h]
  · have h : ¬ r.acks.length = r.members.length := by have := of_decide_eq_false h; omega
    simp only [go_sem, fixR, h]

def H45 (Pg : Nat → Option Fn) : Prop := Pg 45 = some (.code F45) ∧ H70 Pg
theorem K45 (h : H45 Pg) (r : Rep) (ok : r.Ok) : K' Pg 45 [.agg (eRep r), .agg (eRep r)] = some (.bool true) := by
  obtain ⟨h, h70⟩ := h
  have k70m := K70 h70 r.members r.members ok.m
  have k70a := K70 h70 r.acks r.acks ok.a
  simp only [eInts, decide_true] at k70m k70a
  refine K'_code h rfl ?_
  simp only [go_sem, k70m, k70a]

def H50 (Pg : Nat → Option Fn) : Prop := Pg 50 = some (.code F50) ∧ H70 Pg
theorem K50 (h : H50 Pg) (l : List Word) (hl : l.length < 2 ^ 60) (hw : ∀ w ∈ l, w.members.length < 2 ^ 60) : K' Pg 50 [eWords l, eWords l] = some (.bool true) := by
  obtain ⟨h, h70⟩ := h
  refine K'_code h rfl ?_
  simp only [go_sem]
  unfold l50_0
  refine wp_lp (fun (i : Nat) S => i ≤ l.length ∧ S.ρ 0 = eWords l ∧ S.ρ 1 = eWords l ∧ S.ρ 5 = iz i) (fun i => l.length - i) 0 ?_ ?_
  · simp [go_sem]
  · intro i S ⟨hi, h0, h1, h5⟩
    simp only [go_sem, h0, h1, h5]
    refine wpc_i (fun h => ?_) (fun h => ?_)
    · have h := lt_of h
      obtain ⟨x, hx, hd⟩ := drop_at h
      have k70 := K70 h70 x.members x.members (hw x (List.mem_of_getElem? hx))
      simp only [eInts, decide_true] at k70
      simp only [go_sem, h0, h1, h5, hx, k70]
      exact ⟨i + 1, by omega, by omega, by rw [inc64 h hl]⟩
    · simp only [go_sem]

def H49 (Pg : Nat → Option Fn) : Prop := Pg 49 = some (.code F49)
theorem K49 (h : H49 Pg) (l : List Word) (hl : l.length ≤ 1000) : K' Pg 49 [eWords l] = some (eWords l) := by
  refine K'_code h rfl ?_
  simp only [go_sem, mkA]
  unfold l49_0
  refine wp_lp (fun (i : Nat) S => i ≤ l.length ∧ S.μ 5 = none ∧ S.A 3 = some (7, (l.take i).map eWord, .live) ∧ S.ρ 3 = .own 3 7 i ∧ S.ρ 6 = eWords l ∧ S.ρ 7 = iz l.length ∧ S.ρ 8 = iz i) (fun i => l.length - i) 0 ?_ ?_
  · simp [go_sem]
  · intro i S ⟨hi, m5, a3, h3, h6, h7, h8⟩
    simp only [go_sem, m5, a3, h3, h6, h7, h8]
    refine wpc_i (fun h => ?_) (fun h => ?_)
    · have h := lt_of h
      obtain ⟨x, hx, hd⟩ := drop_at h
      have hlen : (l.take i).length = i := by simp; omega
      have hlim : i + 1 ≤ lim := by simp only [lim]; omega
      simp only [go_sem, m5, a3, h3, h6, h7, h8, hx, hlen, hlim]
      exact ⟨i + 1, by omega, by omega, by rw [take_s hx]; simp [eWord, eInts], rfl, by rw [inc64 h (by omega)]⟩
    · have h := eq_of hi h
      subst h
      simp only [go_sem, m5, a3, h3, List.take_length]

def H69 (Pg : Nat → Option Fn) : Prop := Pg 69 = some (.prim (some 0) (cloneQ 1))
theorem K69 (h : H69 Pg) (l : List Int) (hl : l.length ≤ 1000000000) : K' Pg 69 [eInts l] = some (eInts l) := by
  rw [K'_prim h]; simp [cloneQ, eInts, lim]; omega

def shipsR (r : Rep) : List Word := (r.members.filter fun m => !decide (m ∈ r.acks)).map fun m => ⟨1, r.id, m, r.view, r.n, r.members, r.text⟩
def shipsP (r : Rep) (l : List Int) : List Word := (l.filter fun m => !decide (m ∈ r.acks)).map fun m => ⟨1, r.id, m, r.view, r.n, r.members, r.text⟩
theorem ships_s {r : Rep} {l : List Int} {m : Int} : shipsP r (l ++ [m]) = if m ∈ r.acks then shipsP r l else shipsP r l ++ [⟨1, r.id, m, r.view, r.n, r.members, r.text⟩] := by
  simp only [shipsP, List.filter_append, List.filter_cons, List.filter_nil]
  split <;> simp_all
theorem ships_len {r : Rep} {l : List Int} : (shipsP r l).length ≤ l.length := by
  simp only [shipsP, List.length_map]; exact List.length_filter_le _ _

def H52 (Pg : Nat → Option Fn) : Prop := Pg 52 = some (.code F52) ∧ H62 Pg
theorem K52 (h : H52 Pg) (r : Rep) (ok : r.Ok) (hm : r.members.length ≤ 1000) : K' Pg 52 [.agg (eRep r)] = some (eWords (shipsR r)) := by
  obtain ⟨h, h62⟩ := h
  have k62 := fun x => K62 h62 r.acks x ok.a
  simp only [eInts] at k62
  refine K'_code h rfl ?_
  simp only [go_sem, mkA]
  unfold l52_0
  refine wp_lp (fun (i : Nat) S => i ≤ r.members.length ∧ S.ρ 1 = .lref 1 0 ∧ S.μ 1 = some (eRep r, false) ∧ S.A 3 = some (7, (shipsP r (r.members.take i)).map eWord, .live) ∧ S.ρ 3 = .own 3 7 (shipsP r (r.members.take i)).length ∧ S.ρ 4 = iz i) (fun i => r.members.length - i) 0 ?_ ?_
  · simp [go_sem, shipsP]
  · intro i S ⟨hi, h1, m1, a3, h3, h4⟩
    simp only [go_sem, m1, a3, h3, h1, h4]
    refine wpc_i (fun h => ?_) (fun h => ?_)
    · have h := lt_of h
      obtain ⟨x, hx, hd⟩ := drop_at h
      have hlen := ships_len (r := r) (l := r.members.take i)
      have hlim : (shipsP r (r.members.take i)).length + 1 ≤ lim := by
        simp only [List.length_take] at hlen
        simp only [lim]; omega
      have hs := ships_s (r := r) (l := r.members.take i) (m := x)
      rw [← take_s hx] at hs
      simp only [go_sem, m1, a3, h3, h1, h4, hx, k62]
      refine wpc_i (fun hc => ?_) (fun hc => ?_)
      · have hc : x ∉ r.acks := by simpa using hc
        rw [if_neg hc] at hs
        simp only [go_sem, m1, a3, h3, h1, h4, hx, hlim]
        exact ⟨i + 1, by omega, by omega, by rw [hs]; simp [eWord, eInts], by rw [hs]; simp, by rw [inc64 h (by omega)]⟩
      · have hc : x ∈ r.acks := by simpa using hc
        rw [if_pos hc] at hs
        simp only [go_sem, m1, a3, h3, h1, h4, hx, hlim]
        exact ⟨i + 1, by omega, by omega, by rw [hs], by rw [hs], by rw [inc64 h (by omega)]⟩
    · have h := eq_of hi h
      subst h
      have e : shipsP r r.members = shipsR r := rfl
      simp only [go_sem, a3, h3, List.take_length, e]

def H72 (Pg : Nat → Option Fn) : Prop := Pg 72 = some (.code F72) ∧ H65 Pg ∧ H69 Pg
theorem K72 (h : H72 Pg) (r : Rep) (ok : r.Ok) (hm : r.members.length ≤ 1000) : K' Pg 72 [.agg (eRep r)] = some (eWords (shipsR r)) := by
  obtain ⟨h, h65, h69⟩ := h
  have k65 := fun x => K65 h65 r.acks x ok.a
  have k69 := K69 h69 r.members (by omega)
  simp only [eInts] at k65 k69
  refine K'_code h rfl ?_
  simp only [go_sem, mkA]
  unfold l72_0
  refine wp_lp (fun (i : Nat) S => i ≤ r.members.length ∧ S.ρ 1 = .lref 1 0 ∧ S.μ 1 = some (eRep r, false) ∧ S.A 3 = some (7, (shipsP r (r.members.take i)).map eWord, .live) ∧ S.ρ 3 = .own 3 7 (shipsP r (r.members.take i)).length ∧ S.ρ 7 = eInts r.members ∧ S.ρ 8 = iz r.members.length ∧ S.ρ 9 = iz i) (fun i => r.members.length - i) 0 ?_ ?_
  · simp [go_sem, shipsP]
  · intro i S ⟨hi, h1, m1, a3, h3, h7, h8, h9⟩
    simp only [go_sem, m1, a3, h3, h1, h7, h8, h9]
    refine wpc_i (fun h => ?_) (fun h => ?_)
    · have h := lt_of h
      obtain ⟨x, hx, hd⟩ := drop_at h
      have hlen := ships_len (r := r) (l := r.members.take i)
      have hlim : (shipsP r (r.members.take i)).length + 1 ≤ lim := by
        simp only [List.length_take] at hlen
        simp only [lim]; omega
      have hs := ships_s (r := r) (l := r.members.take i) (m := x)
      rw [← take_s hx] at hs
      simp only [go_sem, m1, a3, h3, h1, h7, h8, h9, hx, k65]
      refine wpc_i (fun hc => ?_) (fun hc => ?_)
      · have hc : x ∉ r.acks := by simpa using hc
        rw [if_neg hc] at hs
        simp only [go_sem, m1, a3, h3, h1, h7, h8, h9, hx, hlim, k69]
        exact ⟨i + 1, by omega, by omega, by rw [hs]; simp [eWord, eInts], by rw [hs]; simp, by rw [inc64 h (by omega)]⟩
      · have hc : x ∈ r.acks := by simpa using hc
        rw [if_pos hc] at hs
        simp only [go_sem, m1, a3, h3, h1, h7, h8, h9, hx, hlim]
        exact ⟨i + 1, by omega, by omega, by rw [hs], by rw [hs], by rw [inc64 h (by omega)]⟩
    · have h := eq_of hi h
      subst h
      have e : shipsP r r.members = shipsR r := rfl
      simp only [go_sem, a3, h3, List.take_length, e]
end Sg
