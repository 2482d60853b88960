import Derived.Test.YtmjljioejabmiaaSkChain3
namespace Sg
open _root_.Go (IntKind BinOp UnOp)
set_option linter.unusedSimpArgs false
set_option linter.unusedVariables false
variable {Pg : Nat → Option Fn}

def H2 (Pg : Nat → Option Fn) : Prop := Pg 2 = some (.code F2) ∧ H3 Pg ∧ H12 Pg ∧ H7 Pg
theorem K2 (h : H2 Pg) : K' Pg 2 [] = some (.bool true) := by
  obtain ⟨h, h3, h12, h7⟩ := h
  refine K'_code h rfl ?_
  have k3 := K3 h3 [] ⟨⟨1, 0, 0⟩, false, [97]⟩ (by simp)
  have k7 := K7 h7 [⟨⟨1, 0, 0⟩, false, [97]⟩] (by simp)
  have k12 := K12 h12 [⟨⟨1, 0, 0⟩, false, [97]⟩] ⟨2, 0, 0⟩ (by simp)
  have e1 : addC [] ⟨⟨1, 0, 0⟩, false, [97]⟩ = ([⟨⟨1, 0, 0⟩, false, [97]⟩], 0) := by decide
  have e2 : atC ⟨2, 0, 0⟩ [⟨⟨1, 0, 0⟩, false, [97]⟩] = some ⟨⟨1, 0, 0⟩, false, [97]⟩ := by decide
  have e3 : chainRight [⟨⟨1, 0, 0⟩, false, [97]⟩] = true := by decide
  rw [e1] at k3
  rw [e2] at k12
  rw [e3] at k7
  simp only [eChain, eVer, eStamp, List.map_cons, List.map_nil] at k3 k7 k12
  have one : decide (((1 : Nat) : Int) = 1) = true := rfl
  simp only [go_sem, k3, k12, k7, one]

theorem gt100 {n : Nat} : decide ((100 : Int) < (n : Int)) = decide (100 < n) := decide_eq_decide.2 (by omega)

def H1 (Pg : Nat → Option Fn) : Prop := Pg 1 = some (.code F1) ∧ H2 Pg ∧ H3 Pg ∧ H4 Pg ∧ H5 Pg ∧ H6 Pg ∧ H7 Pg ∧ H8 Pg
theorem K1 (h : H1 Pg) (l : List Ver) (v : Ver) (hl : l.length < 2 ^ 60) : K' Pg 1 [eChain l, .agg (eVer v)] = some (.bool true) := by
  obtain ⟨h, h2, h3, h4, h5, h6, h7, h8⟩ := h
  refine K'_code h rfl ?_
  have k2 := K2 h2
  have k3 := K3 h3 l v hl
  have k4 := K4 h4 l hl
  have k5 := K5 h5 v
  have k6 := fun x y => K6 h6 x y
  have k7 := K7 h7 l hl
  have k8 := K8 h8 l l hl
  simp only [eChain, eVer, eStamp] at k3 k4 k5 k6 k7
  simp only [eChain] at k8
  simp only [go_sem, eChain]
  refine wpc_i (fun hc => ?_) (fun hc => ?_)
  · simp only [go_sem, k2]
  · have hc : l.length ≤ 100 := by have := of_decide_eq_false hc; omega
    cases hr : chainRight l with
    | false =>
      have ha : addC l v = ([], 1) := by simp [addC, hr]
      rw [ha] at k3
      simp only [go_sem, eChain, k2, k3, k4, k5, k7, hr]
    | true =>
      cases hv : verRight v with
      | false =>
        have ha : addC l v = ([], 1) := by simp [addC, hv]
        rw [ha] at k3
        simp only [go_sem, eChain, k2, k3, k4, k5, k7, hr, hv]
      | true =>
        have hlen := (right_chR hr).2
        have hinc : IntKind.i64.wrap ((l.length : Int) + 1) = ((l.length + 1 : Nat) : Int) := wrap64 (by omega) (by omega)
        have h63 : decide ((63 : Int) < (l.length : Int)) = decide (l.length = 64) := decide_eq_decide.2 (by omega)
        have htk : ((l ++ [v]).map eVer).take l.length = l.map eVer := by
          rw [List.map_append, List.take_append_of_le_length (by simp)]; simp [List.take_of_length_le]
        have hat : ((l ++ [v]).map eVer)[l.length]? = some (eVer v) := by simp
        rcases Nat.eq_zero_or_pos l.length with hz | hz
        · have hgt : decide ((0 : Int) < (l.length : Int)) = false := by simp [hz]
          have hl0 : l = [] := List.eq_nil_of_length_eq_zero hz
          have ha : addC l v = (l ++ [v], 0) := by simp only [addC, hr, hv]; simp [hl0]
          have h64 : decide (l.length = 64) = false := by simp [hz]
          rw [ha] at k3
          simp only [eVer] at hat
          simp only [go_sem, eChain, k2, k3, k4, k5, k7, k8, hr, hv, hgt, h63, h64, hinc, htk, hat]
        · have hgt : decide ((0 : Int) < (l.length : Int)) = true := by simp [hz]
          obtain ⟨x, hx, -⟩ := drop_at (l := l) (i := l.length - 1) (by omega)
          have hdec : IntKind.i64.wrap ((l.length : Int) - 1) = ((l.length - 1 : Nat) : Int) := by rw [wrap64 (by omega) (by omega)]; omega
          have hlast : l.getLast? = some x := by rw [List.getLast?_eq_getElem?]; exact hx
          have hbx : before x.at_ v.at_ = !decide (0 ≤ stampCmp x.at_ v.at_) := by
            simp only [before]
            by_cases h0 : 0 ≤ stampCmp x.at_ v.at_
            · simp [h0]
            · simp [h0]; omega
          cases hb : decide (0 ≤ stampCmp x.at_ v.at_) with
          | true =>
            have ha : addC l v = ([], 9) := by simp only [addC, hr, hv, hlast, hb]; simp
            rw [ha] at k3
            rw [hb] at hbx
            simp only [go_sem, eChain, k2, k3, k4, k5, k6, k7, hr, hv, hgt, hdec, hx, hbx]
          | false =>
            rw [hb] at hbx
            cases h64 : decide (l.length = 64) with
            | true =>
              have ha : addC l v = ([], 6) := by simp only [addC, hr, hv, hlast, hb]; simp [of_decide_eq_true h64]
              rw [ha] at k3
              simp only [go_sem, eChain, k2, k3, k4, k5, k6, k7, hr, hv, hgt, hdec, hx, hbx, h63, h64]
            | false =>
              have ha : addC l v = (l ++ [v], 0) := by simp only [addC, hr, hv, hlast, hb]; simp [of_decide_eq_false h64]
              rw [ha] at k3
              simp only [eVer] at hat
              simp only [go_sem, eChain, k2, k3, k4, k5, k6, k7, k8, hr, hv, hgt, hdec, hx, hbx, h63, h64, hinc, htk, hat]
theorem K1a (h : H1 Pg) (l : List Ver) (v : Ver) : K' Pg 1 [eChain l, .agg (eVer v)] = some (.bool true) := by
  by_cases hc : l.length ≤ 100
  · exact K1 h l v (by omega)
  · obtain ⟨h, h2, -⟩ := h
    refine K'_code h rfl ?_
    have k2 := K2 h2
    have hgt : decide ((100 : Int) < (l.length : Int)) = true := by simp; omega
    simp only [go_sem, eChain, hgt, k2]
end Sg
