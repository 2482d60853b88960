/- The laws of the leases: their ends. -/
import Derived.Test.YtclmbbbpijboaaaSkLaw16b
namespace Sg
open _root_.Go (IntKind BinOp UnOp)
set_option linter.unusedSimpArgs false
set_option linter.unusedVariables false
set_option maxRecDepth 10000
variable {Pg : Nat → Option Fn}

theorem tick_mem {t : List Lse} {y : Lse} (h : y ∈ tickL t) : ∃ x ∈ t, 1 < x.lft ∧ y = ⟨x.id, x.lft - 1, x.at_⟩ := by
  simp only [tickL, List.mem_map] at h
  obtain ⟨x, hx, rfl⟩ := h
  obtain ⟨h1, h2⟩ := List.mem_filter.1 hx
  exact ⟨x, h1, by simpa using h2, rfl⟩
theorem tick_right {t : List Lse} (h : rightL t = true) : rightL (tickL t) = true := by
  obtain ⟨hrt, h4⟩ := rightL_rl h
  obtain ⟨hm, hp⟩ := rl_iff.1 hrt
  have hlen := tick_len (t := t)
  have : rlR 0 (tickL t) = true := by
    rw [rl_iff]
    refine ⟨fun d hd => ?_, ?_⟩
    · obtain ⟨x, hx, hl, rfl⟩ := tick_mem hd
      obtain ⟨h1, h2⟩ := hm x hx
      refine ⟨h1, ?_⟩
      simp only [okLse, Bool.and_eq_true, decide_eq_true_eq] at h2 ⊢
      exact ⟨h2.1, by omega, by omega, h2.2.2.2⟩
    · simp only [tickL, List.pairwise_map]
      exact hp.filter _
  simp only [rightL, this, Bool.true_and]
  exact decide_eq_true (by omega)
theorem rowL_tick {t : List Lse} {p c : Int} {x : Lse} (h : rlR p t = true) (hr : rowL t c = some x) : rowL (tickL t) c = if 1 < x.lft then some ⟨x.id, x.lft - 1, x.at_⟩ else none := by
  induction t generalizing p with
  | nil => simp [rowL] at hr
  | cons d l ih =>
    obtain ⟨h1, h2, h3⟩ := rl_tail h
    simp only [rowL] at hr
    by_cases hc : d.id = c
    · simp only [hc, if_true, Option.some.injEq] at hr
      subst hr
      by_cases hl : 1 < d.lft
      · simp [tickL, hl, rowL, hc]
      · have : rowL (tickL l) c = none := rowL_none fun y hy => by
          obtain ⟨z, hz, -, rfl⟩ := tick_mem hy
          have := rl_lt h3 hz
          show z.id ≠ c
          omega
        simp only [tickL] at this
        simp [tickL, hl, this]
    · simp only [hc, if_false] at hr
      have := ih h3 hr
      by_cases hl : 1 < d.lft
      · simp only [tickL] at this
        simp [tickL, hl, rowL, hc, this]
      · simp only [tickL] at this
        simp [tickL, hl, this]

def H117 (Pg : Nat → Option Fn) : Prop := Pg 117 = some (.code F117) ∧ H108 Pg ∧ H112 Pg ∧ H118 Pg
theorem K117 (h : H117 Pg) (t : List Lse) (id : Int) : K' Pg 117 [eLses t, iz id] = some (.bool true) := by
  obtain ⟨h, h108, h112, h118⟩ := h
  have k108 := K108 h108
  refine K'_code h rfl ?_
  by_cases c1 : t.length ≤ 20
  · have k118 := K118 h118 t id (by omega)
    simp only [eLses, eOL, eLse] at k118
    cases hF : findL t id with
    | none =>
      simp only [hF, Option.getD_none, Option.isSome_none, zeroLse] at k118
      simp only [go_sem, gt20, c1, k108, k118]
    | some x =>
      have hf : findL t id = if rightL t then rowL t id else none := rfl
      have hr : rightL t = true := by
        cases hr : rightL t with
        | false => rw [hr] at hf; simp at hf; rw [hf] at hF; simp at hF
        | true => rfl
      rw [hr] at hf
      simp only [if_true] at hf
      rw [hF] at hf
      simp only [hF, Option.getD_some, Option.isSome_some] at k118
      have hok := rl_ok (rightL_rl hr).1 (rowL_some hf.symm).2
      simp only [okLse, Bool.and_eq_true, decide_eq_true_eq] at hok
      simp only [go_sem, gt20, c1, k108, k118]
      unfold l117_0
      refine wp_lp (fun (k : Nat) S => ∃ T : List Lse, (k : Int) ≤ x.lft ∧ S.ρ 0 = eLses T ∧ S.ρ 1 = iz id ∧ S.ρ 5 = .lref 5 0 ∧ S.μ 5 = some (eLse x, false) ∧ S.ρ 7 = iz (x.lft - k) ∧ S.μ 8 = none ∧ S.μ 10 = none ∧ rightL T = true ∧
        rowL T id = if (k : Int) < x.lft then some ⟨x.id, x.lft - k, x.at_⟩ else none) (fun k => 20 - k) 0 ?_ ?_
      · have : (0 : Int) < x.lft := by omega
        refine ⟨t, ?_⟩
        simp [go_sem, hr, ← hf, this]
        omega
      · intro k S ⟨T, hk, h0, h1, h5, m5, h7, m8, m10, hT, hrow⟩
        have hT4 := (rightL_rl hT).2
        have k118 := K118 h118 T id (by omega)
        have k112 := K112 h112 T (by omega)
        simp only [hT, if_true] at k112
        have hfT : findL T id = rowL T id := by simp only [findL, hT, if_true]
        rw [hfT, hrow] at k118
        simp only [eLses, eOL, eLse] at k118 k112
        simp only [go_sem, h0, h1, h5, m5, h7, m8, m10]
        refine wpc_i (fun h => ?_) (fun h => ?_)
        · have h : (k : Int) < x.lft := by have := of_decide_eq_true h; omega
          rw [if_pos h] at hrow k118
          simp only [Option.getD_some, Option.isSome_some] at k118
          have hdec : IntKind.i64.wrap (x.lft - (k : Int) - 1) = x.lft - ((k + 1 : Nat) : Int) := by rw [wrap64 (by omega) (by omega)]; omega
          simp only [go_sem, k118, k112, h0, h1, h5, m5, h7, m8, m10, hdec]
          have hrow' := rowL_tick (rightL_rl hT).1 hrow
          refine ⟨k + 1, by omega, tickL T, by omega, rfl, rfl, tick_right hT, ?_⟩
          rw [hrow']
          by_cases h2 : 1 < x.lft - (k : Int)
          · rw [if_pos h2, if_pos (by omega)]
            simp only [Option.some.injEq, Lse.mk.injEq, true_and, and_true]
            omega
          · rw [if_neg h2, if_neg (by omega)]
        · have h : ¬ (k : Int) < x.lft := by have := of_decide_eq_false h; omega
          rw [if_neg h] at k118
          simp only [Option.getD_none, Option.isSome_none, zeroLse] at k118
          simp only [go_sem, k118, h0, h1, h5, m5, h7, m8, m10, k108]
  · simp only [go_sem, gt20, c1, k108]
end Sg
