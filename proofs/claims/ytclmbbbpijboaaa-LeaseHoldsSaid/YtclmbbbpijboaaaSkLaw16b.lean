/- The laws of the leases: opened and closed. -/
import Derived.Test.YtclmbbbpijboaaaSkLaw16
namespace Sg
open _root_.Go (IntKind BinOp UnOp)
set_option linter.unusedSimpArgs false
set_option linter.unusedVariables false
set_option maxRecDepth 10000
variable {Pg : Nat → Option Fn}

theorem rl_iff : ∀ {l : List Lse} {p : Int}, rlR p l = true ↔ (∀ d ∈ l, p < d.id ∧ okLse d = true) ∧ l.Pairwise (fun a b => a.id < b.id)
  | [], p => by simp [rlR]
  | d :: l, p => by
    constructor
    · intro h
      have h0 := h
      obtain ⟨h1, h2, h3⟩ := rl_tail h
      refine ⟨fun x hx => ⟨rl_lt h0 hx, rl_ok h0 hx⟩, List.pairwise_cons.2 ⟨fun x hx => rl_lt h3 hx, (rl_iff.1 h3).2⟩⟩
    · intro ⟨h1, h2⟩
      obtain ⟨h3, h4⟩ := List.pairwise_cons.1 h2
      have hd := h1 d (List.mem_cons_self ..)
      rw [rlR_cons, Bool.and_eq_true, Bool.and_eq_true]
      exact ⟨decide_eq_true hd.1, hd.2, rl_iff.2 ⟨fun x hx => ⟨h3 x hx, (h1 x (List.mem_cons_of_mem _ hx)).2⟩, h4⟩⟩
theorem rowL_not {t : List Lse} {c : Int} (h : (rowL t c).isSome = false) {x : Lse} (hx : x ∈ t) : x.id ≠ c := fun e => by
  induction t with
  | nil => simp at hx
  | cons a l ih =>
    simp only [rowL] at h
    split at h
    · simp at h
    · rename_i hn
      rcases List.mem_cons.1 hx with rfl | hx
      · exact hn e
      · exact ih h hx
theorem open_ok {t u : List Lse} {id : Int} {a : Stamp} (h : openL t id a = (u, 0)) :
    rightL t = true ∧ rightL [oneL id a] = true ∧ (rowL t id).isSome = false ∧ t.length < 4 ∧ u = opened t id a := by
  simp only [openL] at h
  split at h
  · rename_i hc
    rw [Bool.and_eq_true] at hc
    split at h
    · simp at h
    · rename_i hr
      split at h
      · simp at h
      · rename_i hl
        have h4 := (rightL_rl hc.1).2
        refine ⟨hc.1, hc.2, by simpa using hr, by omega, ?_⟩
        simpa using h.symm
  · simp at h
theorem opened_right {t : List Lse} {id : Int} {a : Stamp} (h : openL t id a = (opened t id a, 0)) : rightL (opened t id a) = true := by
  obtain ⟨h1, h2, h3, h4, -⟩ := open_ok h
  obtain ⟨hrt, -⟩ := rightL_rl h1
  obtain ⟨hro, -⟩ := rightL_rl h2
  obtain ⟨hm, hp⟩ := rl_iff.1 hrt
  obtain ⟨hm1, -⟩ := rl_iff.1 hro
  have h1m := hm1 (oneL id a) (by simp)
  have hlen : (opened t id a).length = t.length + 1 := by
    simp only [opened, ← takeL hrt, ← filter_ge h3, ← dropL hrt, List.length_append, List.length_cons, List.length_take, List.length_drop]
    have := cntL_le (c := id) (l := t)
    omega
  have : rlR 0 (opened t id a) = true := by
    rw [rl_iff]
    refine ⟨fun d hd => ?_, ?_⟩
    · simp only [opened] at hd
      rcases List.mem_append.1 hd with hd | hd
      · exact hm d (List.mem_filter.1 hd).1
      · rcases List.mem_cons.1 hd with rfl | hd
        · exact h1m
        · exact hm d (List.mem_filter.1 hd).1
    · simp only [opened]
      rw [List.pairwise_append]
      refine ⟨hp.filter _, List.pairwise_cons.2 ⟨fun x hx => ?_, hp.filter _⟩, fun x hx y hy => ?_⟩
      · have := (List.mem_filter.1 hx).2
        simpa [oneL] using this
      · have hx := (List.mem_filter.1 hx).2
        have hx : x.id < id := by simpa using hx
        rcases List.mem_cons.1 hy with rfl | hy
        · simpa [oneL] using hx
        · have hy := (List.mem_filter.1 hy).2
          have hy : id < y.id := by simpa using hy
          omega
  simp only [rightL, this, hlen, Bool.true_and]
  exact decide_eq_true (by omega)
theorem opened_closed {t : List Lse} {id : Int} {a : Stamp} (h : openL t id a = (opened t id a, 0)) : closed (opened t id a) id = t := by
  obtain ⟨h1, h2, h3, h4, -⟩ := open_ok h
  obtain ⟨hrt, -⟩ := rightL_rl h1
  have e1 : closed (opened t id a) id = (t.filter fun x => decide (x.id < id)) ++ t.filter fun x => decide (id < x.id) := by
    have f1 : (t.filter fun x => decide (x.id < id)).filter (fun x => !decide (x.id = id)) = t.filter fun x => decide (x.id < id) :=
      List.filter_eq_self.2 fun x hx => by have := (List.mem_filter.1 hx).2; simp at this; simp; omega
    have f2 : (t.filter fun x => decide (id < x.id)).filter (fun x => !decide (x.id = id)) = t.filter fun x => decide (id < x.id) :=
      List.filter_eq_self.2 fun x hx => by have := (List.mem_filter.1 hx).2; simp at this; simp; omega
    simp only [closed, opened, List.filter_append, f1, List.filter_cons, f2, oneL]
    simp
  rw [e1, ← takeL hrt, ← filter_ge h3, ← dropL hrt, List.take_append_drop]
theorem rowL_opened {t : List Lse} {id : Int} {a : Stamp} (h : openL t id a = (opened t id a, 0)) : rowL (opened t id a) id = some (oneL id a) :=
  rowL_mem (d := oneL id a) (rightL_rl (opened_right h)).1 (by simp [opened])
theorem openL_e {t : List Lse} {id : Int} {a : Stamp} (h : (openL t id a).2 ≠ 0) : (openL t id a).1 = [] := by
  simp only [openL] at h ⊢
  repeat' split
  all_goals first | rfl | (simp_all)
theorem openL_0 {t : List Lse} {id : Int} {a : Stamp} (h : (openL t id a).2 = 0) : openL t id a = (opened t id a, 0) := by
  simp only [openL] at h ⊢
  repeat' split
  all_goals first | rfl | (simp_all)

def H119 (Pg : Nat → Option Fn) : Prop := Pg 119 = some (.code F119) ∧ H108 Pg ∧ H116 Pg ∧ H120 Pg ∧ H121 Pg
theorem K119 (h : H119 Pg) (t : List Lse) (id : Int) (a : Stamp) : K' Pg 119 [eLses t, iz id, .agg (eStamp a)] = some (.bool true) := by
  obtain ⟨h, h108, h116, h120, h121⟩ := h
  have k108 := K108 h108
  refine K'_code h rfl ?_
  by_cases c1 : t.length ≤ 20
  · have k120 := K120 h120 t id a (by omega)
    have k116 := K116 h116 t (by omega)
    by_cases he : (openL t id a).2 = 0
    · have e := openL_0 he
      have hr := opened_right e
      have k121 := K121 h121 (opened t id a) id (by have := (rightL_rl hr).2; omega)
      have k121b := K121 h121 t id (by omega)
      obtain ⟨h1, -, h3, -, -⟩ := open_ok e
      have c2 : closeL (opened t id a) id = (t, 0) := by
        simp only [closeL, hr, if_true, rowL_opened e, Option.isSome_some, opened_closed e]
      have c3 : closeL t id = ([], 7) := by
        simp only [closeL, h1, if_true, h3]; rfl
      rw [e] at k120
      rw [c2] at k121
      rw [c3] at k121b
      simp only [eLE, eLses, eStamp] at k116 k120 k121 k121b
      simp only [go_sem, gt20, c1, k108, k116, k120, k121, k121b]
    · have e := openL_e he
      have he' : decide ((openL t id a).2 = 0) = false := decide_eq_false he
      rw [show openL t id a = ([], (openL t id a).2) from Prod.ext e rfl] at k120
      simp only [eLE, eLses, eStamp, List.map_nil] at k120
      simp only [go_sem, gt20, c1, k108, k120, he']
  · simp only [go_sem, gt20, c1, k108]

def H122 (Pg : Nat → Option Fn) : Prop := Pg 122 = some (.code F122) ∧ H108 Pg ∧ H114 Pg ∧ H116 Pg ∧ H118 Pg ∧ H120 Pg ∧ H121 Pg ∧ H123 Pg ∧ H124 Pg ∧ H125 Pg ∧ H126 Pg
theorem opened_len {t : List Lse} {id : Int} {a : Stamp} : (openL t id a).1.length ≤ t.length + t.length + 1 := by
  have h1 := List.length_filter_le (fun x : Lse => decide (x.id < id)) t
  have h2 := List.length_filter_le (fun x : Lse => decide (id < x.id)) t
  simp only [openL]
  repeat' split
  all_goals first | simp; done | (simp only [opened, List.length_append, List.length_cons]; omega)
theorem close_len {t : List Lse} {id : Int} : (closeL t id).1.length ≤ t.length := by
  have h1 := List.length_filter_le (fun x : Lse => !decide (x.id = id)) t
  simp only [closeL]
  repeat' split
  all_goals first | simp; done | (simp only [closed]; omega)
theorem K122 (h : H122 Pg) (t : List Lse) (id : Int) (a : Stamp) : K' Pg 122 [eLses t, iz id, .agg (eStamp a)] = some (.bool true) := by
  obtain ⟨h, h108, h114, h116, h118, h120, h121, h123, h124, h125, h126⟩ := h
  have k108 := K108 h108
  refine K'_code h rfl ?_
  by_cases c1 : t.length ≤ 20
  · have k120 := K120 h120 t id a (by omega)
    have k121 := K121 h121 t id (by omega)
    have k123 := K123 h123 t id a (by omega)
    have k124 := K124 h124 t id (by omega)
    have k118 := K118 h118 t id (by omega)
    have k114 := K114 h114 t (by omega)
    have k125 := K125 h125 t id (by omega)
    have k126 := K126 h126 t (by omega)
    have k116a := K116 h116 (openL t id a).1 (by have := opened_len (t := t) (id := id) (a := a); omega)
    have k116b := K116 h116 (closeL t id).1 (by have := close_len (t := t) (id := id); omega)
    have hf : findL t id = if rightL t then rowL t id else none := rfl
    have hrow := fun x (h : rowL t id = some x) => h
    simp only [eLses, eLE, eOL, eStamp, eLse] at k120 k121 k123 k124 k118 k114 k125 k126 k116a k116b
    have e1 : decide ((openL t id a).2 = (openL t id a).2) = true := by simp
    have e2 : decide ((closeL t id).2 = (closeL t id).2) = true := by simp
    cases hF : findL t id with
    | none =>
      have hw : (rightL t && (rowL t id).isSome) = false := by
        cases hr : rightL t with
        | false => rfl
        | true => rw [hr] at hf; simp only [if_true] at hf; rw [← hf, hF]; rfl
      simp only [hF, Option.getD_none, Option.isSome_none, zeroLse] at k118
      have hx : ∀ x ∈ t, (false && decide (x.id = id)) = true → x = zeroLse := fun x _ h => by simp at h
      cases hr : rightL t with
      | false =>
        simp only [go_sem, gt20, c1, k108, k120, k121, k123, k124, k118, k114, hr]
        unfold l122_0
        refine wp_lp (fun (i : Nat) S => i ≤ t.length ∧ S.ρ 0 = eLses t ∧ S.ρ 1 = iz id ∧ S.ρ 7 = eLses (openL t id a).1 ∧ S.ρ 8 = iz (openL t id a).2 ∧ S.ρ 9 = eLses (openL t id a).1 ∧ S.ρ 10 = iz (openL t id a).2 ∧
          S.ρ 11 = eLses (closeL t id).1 ∧ S.ρ 12 = iz (closeL t id).2 ∧ S.ρ 13 = eLses (closeL t id).1 ∧ S.ρ 14 = iz (closeL t id).2 ∧ S.ρ 15 = .lref 15 0 ∧ S.μ 15 = some (eLse zeroLse, false) ∧ S.μ 19 = none ∧ S.ρ 16 = .bool false ∧ S.ρ 17 = .bool false ∧
          S.ρ 75 = eLses t ∧ S.ρ 76 = iz t.length ∧ S.ρ 77 = iz i) (fun i => t.length - i) 0 ?_ ?_
        · simp [go_sem, zeroLse]
        · intro i S ⟨hi, h0, h1, h7, h8, h9, h10, h11, h12, h13, h14, h15, m15, m19, h16, h17, h75, h76, h77⟩
          simp only [go_sem, h0, h1, h7, h8, h9, h10, h11, h12, h13, h14, h15, m15, m19, h16, h17, h75, h76, h77]
          refine wpc_i (fun h => ?_) (fun h => ?_)
          · have h := lt_of h
            obtain ⟨y, hy, hd⟩ := drop_at h
            have hxy := hx y (List.mem_of_getElem? hy)
            simp only [go_sem, h0, h1, h7, h8, h9, h10, h11, h12, h13, h14, h15, m15, m19, h16, h17, h75, h76, h77, hy]
            cases hc : (false && decide (y.id = id)) with
            | false =>
              simp only [Bool.true_and, Bool.false_and] at hc
              try simp only [go_sem, hc, h0, h1, h7, h8, h9, h10, h11, h12, h13, h14, h15, m15, m19, h16, h17, h75, h76, h77, hy]
              exact ⟨i + 1, by omega, by omega, by rw [inc64 h (by omega)]⟩
            | true =>
              have := hxy hc
              subst this
              simp only [Bool.true_and, Bool.false_and] at hc
              try simp only [go_sem, hc, h0, h1, h7, h8, h9, h10, h11, h12, h13, h14, h15, m15, m19, h16, h17, h75, h76, h77, hy]
              exact ⟨i + 1, by omega, by omega, by rw [inc64 h (by omega)]⟩
          · simp only [go_sem, h0, h1, h7, h8, h9, h10, h11, h12, h13, h14, h16, h17, k116a, k116b, k126, k108, e1, e2, hr]
      | true =>
        rw [hr, Bool.true_and] at hw
        simp only [go_sem, gt20, c1, k108, k120, k121, k123, k124, k118, k114, hr, k125, hw]
        unfold l122_0
        refine wp_lp (fun (i : Nat) S => i ≤ t.length ∧ S.ρ 0 = eLses t ∧ S.ρ 1 = iz id ∧ S.ρ 7 = eLses (openL t id a).1 ∧ S.ρ 8 = iz (openL t id a).2 ∧ S.ρ 9 = eLses (openL t id a).1 ∧ S.ρ 10 = iz (openL t id a).2 ∧
          S.ρ 11 = eLses (closeL t id).1 ∧ S.ρ 12 = iz (closeL t id).2 ∧ S.ρ 13 = eLses (closeL t id).1 ∧ S.ρ 14 = iz (closeL t id).2 ∧ S.ρ 15 = .lref 15 0 ∧ S.μ 15 = some (eLse zeroLse, false) ∧ S.μ 19 = none ∧ S.ρ 16 = .bool false ∧ S.ρ 17 = .bool true ∧
          S.ρ 75 = eLses t ∧ S.ρ 76 = iz t.length ∧ S.ρ 77 = iz i) (fun i => t.length - i) 0 ?_ ?_
        · simp [go_sem, zeroLse]
        · intro i S ⟨hi, h0, h1, h7, h8, h9, h10, h11, h12, h13, h14, h15, m15, m19, h16, h17, h75, h76, h77⟩
          simp only [go_sem, h0, h1, h7, h8, h9, h10, h11, h12, h13, h14, h15, m15, m19, h16, h17, h75, h76, h77]
          refine wpc_i (fun h => ?_) (fun h => ?_)
          · have h := lt_of h
            obtain ⟨y, hy, hd⟩ := drop_at h
            have hxy := hx y (List.mem_of_getElem? hy)
            simp only [go_sem, h0, h1, h7, h8, h9, h10, h11, h12, h13, h14, h15, m15, m19, h16, h17, h75, h76, h77, hy]
            cases hc : (false && decide (y.id = id)) with
            | false =>
              simp only [Bool.true_and, Bool.false_and] at hc
              try simp only [go_sem, hc, h0, h1, h7, h8, h9, h10, h11, h12, h13, h14, h15, m15, m19, h16, h17, h75, h76, h77, hy]
              exact ⟨i + 1, by omega, by omega, by rw [inc64 h (by omega)]⟩
            | true =>
              have := hxy hc
              subst this
              simp only [Bool.true_and, Bool.false_and] at hc
              try simp only [go_sem, hc, h0, h1, h7, h8, h9, h10, h11, h12, h13, h14, h15, m15, m19, h16, h17, h75, h76, h77, hy]
              exact ⟨i + 1, by omega, by omega, by rw [inc64 h (by omega)]⟩
          · simp only [go_sem, h0, h1, h7, h8, h9, h10, h11, h12, h13, h14, h16, h17, k116a, k116b, k126, k108, e1, e2, hr]
    | some x =>
      have hr : rightL t = true := by
        cases hr : rightL t with
        | false => rw [hr] at hf; simp at hf; rw [hf] at hF; simp at hF
        | true => rfl
      rw [hr] at hf
      simp only [if_true] at hf
      rw [hF] at hf
      have hw : (rowL t id).isSome = true := by rw [← hf]; rfl
      simp only [hF, Option.getD_some, Option.isSome_some] at k118
      have hx : ∀ y ∈ t, (true && decide (y.id = id)) = true → y = x := fun y hy h => by
        have hi : y.id = id := by simpa using h
        have := rowL_mem (rightL_rl hr).1 hy
        rw [hi, ← hf] at this
        simpa using this.symm
      simp only [go_sem, gt20, c1, k108, k120, k121, k123, k124, k118, k114, hr, k125, hw]
      unfold l122_0
      refine wp_lp (fun (i : Nat) S => i ≤ t.length ∧ S.ρ 0 = eLses t ∧ S.ρ 1 = iz id ∧ S.ρ 7 = eLses (openL t id a).1 ∧ S.ρ 8 = iz (openL t id a).2 ∧ S.ρ 9 = eLses (openL t id a).1 ∧ S.ρ 10 = iz (openL t id a).2 ∧
        S.ρ 11 = eLses (closeL t id).1 ∧ S.ρ 12 = iz (closeL t id).2 ∧ S.ρ 13 = eLses (closeL t id).1 ∧ S.ρ 14 = iz (closeL t id).2 ∧ S.ρ 15 = .lref 15 0 ∧ S.μ 15 = some (eLse x, false) ∧ S.μ 19 = none ∧ S.ρ 16 = .bool true ∧ S.ρ 17 = .bool true ∧
        S.ρ 75 = eLses t ∧ S.ρ 76 = iz t.length ∧ S.ρ 77 = iz i) (fun i => t.length - i) 0 ?_ ?_
      · simp [go_sem, zeroLse]
      · intro i S ⟨hi, h0, h1, h7, h8, h9, h10, h11, h12, h13, h14, h15, m15, m19, h16, h17, h75, h76, h77⟩
        simp only [go_sem, h0, h1, h7, h8, h9, h10, h11, h12, h13, h14, h15, m15, m19, h16, h17, h75, h76, h77]
        refine wpc_i (fun h => ?_) (fun h => ?_)
        · have h := lt_of h
          obtain ⟨y, hy, hd⟩ := drop_at h
          have hxy := hx y (List.mem_of_getElem? hy)
          simp only [go_sem, h0, h1, h7, h8, h9, h10, h11, h12, h13, h14, h15, m15, m19, h16, h17, h75, h76, h77, hy]
          cases hc : (true && decide (y.id = id)) with
          | false =>
            simp only [Bool.true_and, Bool.false_and] at hc
            try simp only [go_sem, hc, h0, h1, h7, h8, h9, h10, h11, h12, h13, h14, h15, m15, m19, h16, h17, h75, h76, h77, hy]
            exact ⟨i + 1, by omega, by omega, by rw [inc64 h (by omega)]⟩
          | true =>
            have := hxy hc
            subst this
            simp only [Bool.true_and, Bool.false_and] at hc
            try simp only [go_sem, hc, h0, h1, h7, h8, h9, h10, h11, h12, h13, h14, h15, m15, m19, h16, h17, h75, h76, h77, hy]
            exact ⟨i + 1, by omega, by omega, by rw [inc64 h (by omega)]⟩
        · simp only [go_sem, h0, h1, h7, h8, h9, h10, h11, h12, h13, h14, h16, h17, k116a, k116b, k126, k108, e1, e2, hr]
  · simp only [go_sem, gt20, c1, k108]
end Sg
