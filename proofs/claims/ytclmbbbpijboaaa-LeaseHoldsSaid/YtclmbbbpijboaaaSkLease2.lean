import Derived.Test.YtclmbbbpijboaaaSkLease
namespace Sg
open _root_.Go (IntKind BinOp UnOp)
set_option linter.unusedSimpArgs false
set_option linter.unusedVariables false
set_option maxRecDepth 10000
variable {Pg : Nat → Option Fn}

theorem takeL {c : Int} : ∀ {t : List Lse} {p : Int}, rlR p t = true → t.take (cntL t c) = t.filter fun x => decide (x.id < c)
  | [], _, _ => by simp
  | d :: l, p, h => by
    obtain ⟨h1, -, h3⟩ := rl_tail h
    by_cases hc : c ≤ d.id
    · have hn : ∀ x ∈ d :: l, ¬ (decide (x.id < c) = true) := fun x hx => by
        rcases List.mem_cons.1 hx with rfl | hx
        · simp; omega
        · have := rl_lt h3 hx; simp; omega
      have : (d :: l).filter (fun x => decide (x.id < c)) = [] := List.filter_eq_nil_iff.2 hn
      simp only [cntL, hc, if_true, List.take_zero, this]
    · have : d.id < c := by omega
      simp [cntL, hc, this, takeL h3]
theorem dropL {c : Int} : ∀ {t : List Lse} {p : Int}, rlR p t = true → t.drop (cntL t c) = t.filter fun x => decide (c ≤ x.id)
  | [], _, _ => by simp
  | d :: l, p, h => by
    obtain ⟨h1, -, h3⟩ := rl_tail h
    by_cases hc : c ≤ d.id
    · have hn : ∀ x ∈ d :: l, decide (c ≤ x.id) = true := fun x hx => by
        rcases List.mem_cons.1 hx with rfl | hx
        · simpa using hc
        · have := rl_lt h3 hx; simp; omega
      simp only [cntL, hc, if_true, List.drop_zero, List.filter_eq_self.2 hn]
    · simp [cntL, hc, dropL h3]
theorem isAtL_row {t : List Lse} {p c : Int} (h : rlR p t = true) : isAtL t c = (rowL t c).isSome := by
  rw [rowL_find h]
  cases ha : isAtL t c with
  | false => simp
  | true =>
    simp only [if_true]
    cases hx : t[cntL t c]? with
    | none => simp only [isAtL, hx] at ha; simp at ha
    | some x => rfl

def H134 (Pg : Nat → Option Fn) : Prop := Pg 134 = some (.prim (some 0) (cloneQ 5))
theorem K134 (h : H134 Pg) (rows : List (List V)) (hl : rows.length ≤ lim) : K' Pg 134 [.slice 5 rows] = some (.slice 5 rows) := by
  rw [K'_prim h]; simp [cloneQ, hl]

@[go_sem] def eLE (x : List Lse × Int) : V := .tuple [eLses x.1, iz x.2]
def oneL (id : Int) (at_ : Stamp) : Lse := ⟨id, 20, at_⟩
def opened (t : List Lse) (id : Int) (at_ : Stamp) : List Lse := (t.filter fun x => decide (x.id < id)) ++ oneL id at_ :: t.filter fun x => decide (id < x.id)
def openL (t : List Lse) (id : Int) (at_ : Stamp) : List Lse × Int :=
  if rightL t && rightL [oneL id at_] then (if (rowL t id).isSome then ([], 8) else if t.length = 4 then ([], 6) else (opened t id at_, 0)) else ([], 1)
theorem filter_ge {t : List Lse} {c : Int} (h : (rowL t c).isSome = false) : (t.filter fun x => decide (c ≤ x.id)) = t.filter fun x => decide (c < x.id) := by
  refine List.filter_congr fun x hx => ?_
  have : x.id ≠ c := fun e => by
    have : rowL t c ≠ none := by
      clear h
      induction t with
      | nil => simp at hx
      | cons a l ih =>
        simp only [rowL]
        split
        · simp
        · rcases List.mem_cons.1 hx with rfl | hx
          · rename_i hn; exact absurd e hn
          · exact ih hx
    cases hr : rowL t c with
    | none => exact this hr
    | some y => rw [hr] at h; simp at h
  by_cases h1 : c < x.id <;> simp [h1] <;> omega

def H120 (Pg : Nat → Option Fn) : Prop := Pg 120 = some (.code F120) ∧ H126 Pg ∧ H133 Pg ∧ H134 Pg
theorem K120 (h : H120 Pg) (t : List Lse) (id : Int) (a : Stamp) (hl : t.length < 2 ^ 60) : K' Pg 120 [eLses t, iz id, .agg (eStamp a)] = some (eLE (openL t id a)) := by
  obtain ⟨h, h126, h133, h134⟩ := h
  have k126 := K126 h126 t hl
  have k126o := K126 h126 [oneL id a] (by simp)
  have k133 := K133 h133 t id hl
  simp only [eLses, List.map_cons, List.map_nil, eLse, oneL] at k126 k126o k133
  refine K'_code h rfl ?_
  cases hr : rightL t with
  | false => simp only [go_sem, k126, hr, openL]
  | true =>
  cases ho : rightL [oneL id a] with
  | false =>
    have e : openL t id a = ([], 1) := by simp [openL, hr, ho]
    simp only [oneL] at ho
    rw [e]
    simp only [go_sem, k126, hr, k126o, ho]
  | true =>
    obtain ⟨hrt, h4⟩ := rightL_rl hr
    have hat := isAtL_row (c := id) hrt
    have hle := cntL_le (c := id) (l := t)
    have k134 := K134 h134 (t.map eLse) (by simp [lim]; omega)
    have hlim : t.length + 1 ≤ lim := by simp only [lim]; omega
    cases hw : (rowL t id).isSome with
    | true =>
      have e : openL t id a = ([], 8) := by simp only [openL, hr, ho, hw]; rfl
      rw [hw] at hat
      simp only [oneL] at ho
      rw [e]
      simp only [go_sem, k126, hr, k126o, ho, k133, hat]
    | false =>
      rw [hw] at hat
      by_cases h4e : t.length = 4
      · have h4' : decide ((t.length : Int) = 4) = true := by simp [h4e]
        have e : openL t id a = ([], 6) := by simp only [openL, hr, ho, hw, h4e]; rfl
        simp only [oneL] at ho
        rw [e]
        simp only [go_sem, k126, hr, k126o, ho, k133, hat, h4']
      · have h4' : decide ((t.length : Int) = 4) = false := by simp; omega
        have e : openL t id a = (opened t id a, 0) := by simp only [openL, hr, ho, hw, h4e]; rfl
        have hop : (opened t id a).map eLse = List.take (cntL t id) (List.map eLse t) ++ eLse (oneL id a) :: List.drop (cntL t id) (List.map eLse t) := by
          rw [opened, ← takeL hrt, ← filter_ge hw, ← dropL hrt]; simp
        have hlen : (List.take (cntL t id) (List.map eLse t)).length + ((List.drop (cntL t id) (List.map eLse t)).length + 1) = t.length + 1 := by simp; omega
        simp only [oneL, eLse] at ho hop
        rw [e]
        simp only [go_sem, k126, hr, k126o, ho, k133, hat, h4', k134, hle, hlim, hlen, hop]

def closed (t : List Lse) (id : Int) : List Lse := t.filter fun x => !decide (x.id = id)
def closeL (t : List Lse) (id : Int) : List Lse × Int := if rightL t then (if (rowL t id).isSome then (closed t id, 0) else ([], 7)) else ([], 1)
theorem close_cut {c : Int} : ∀ {t : List Lse} {p : Int}, rlR p t = true → isAtL t c = true → t.take (cntL t c) ++ t.drop (cntL t c + 1) = closed t c
  | [], _, _, h => by simp [isAtL] at h
  | d :: l, p, h, ha => by
    obtain ⟨h1, -, h3⟩ := rl_tail h
    by_cases hc : c ≤ d.id
    · have he : d.id = c := by simpa [isAtL, cntL, hc] using ha
      subst he
      have hn : ∀ x ∈ l, (!decide (x.id = d.id)) = true := fun x hx => by have := rl_lt h3 hx; simp; omega
      have h0 : cntL (d :: l) d.id = 0 := by simp [cntL]
      have hf := List.filter_eq_self.2 hn
      rw [h0]
      simp [closed, hf]
    · have he : ¬ d.id = c := by omega
      have ha' : isAtL l c = true := by simpa [isAtL, cntL, hc] using ha
      have := close_cut h3 ha'
      simp only [closed] at this
      simp [closed, cntL, hc, he, this]
def H121 (Pg : Nat → Option Fn) : Prop := Pg 121 = some (.code F121) ∧ H126 Pg ∧ H133 Pg ∧ H134 Pg
theorem K121 (h : H121 Pg) (t : List Lse) (id : Int) (hl : t.length < 2 ^ 60) : K' Pg 121 [eLses t, iz id] = some (eLE (closeL t id)) := by
  obtain ⟨h, h126, h133, h134⟩ := h
  have k126 := K126 h126 t hl
  have k133 := K133 h133 t id hl
  simp only [eLses] at k126 k133
  refine K'_code h rfl ?_
  cases hr : rightL t with
  | false => simp only [go_sem, k126, hr, closeL]
  | true =>
    obtain ⟨hrt, h4⟩ := rightL_rl hr
    have hat := isAtL_row (c := id) hrt
    have k134 := K134 h134 (t.map eLse) (by simp [lim]; omega)
    cases hw : (rowL t id).isSome with
    | false =>
      rw [hw] at hat
      simp only [go_sem, k126, hr, closeL, k133, hat, hw]
    | true =>
      rw [hw] at hat
      have hlt : cntL t id < t.length := by
        rcases Nat.lt_or_ge (cntL t id) t.length with h | h
        · exact h
        · simp only [isAtL, List.getElem?_eq_none h] at hat; simp at hat
      have hinc : IntKind.i64.wrap (((cntL t id : Nat) : Int) + 1) = ((cntL t id + 1 : Nat) : Int) := inc64 hlt hl
      have hle : cntL t id + 1 ≤ t.length := by omega
      have hlim : t.length ≤ lim := by simp only [lim]; omega
      have hc := close_cut hrt hat
      have hcm : (closed t id).map eLse = List.take (cntL t id) (List.map eLse t) ++ List.drop (cntL t id + 1) (List.map eLse t) := by rw [← hc]; simp
      have e : closeL t id = (closed t id, 0) := by simp only [closeL, hr, hw]; rfl
      rw [e]
      simp only [go_sem, k126, hr, k133, hat, k134, hinc, hle, hlim, hcm]

theorem filt_s {t : List Lse} {p : Lse → Bool} {i : Nat} {x : Lse} (hx : t[i]? = some x) : (t.take (i + 1)).filter p = if p x then (t.take i).filter p ++ [x] else (t.take i).filter p := by
  rw [take_s hx, List.filter_append]
  split <;> simp_all

def H124 (Pg : Nat → Option Fn) : Prop := Pg 124 = some (.code F124) ∧ H114 Pg ∧ H125 Pg
theorem K124 (h : H124 Pg) (t : List Lse) (id : Int) (hl : t.length ≤ 1000) : K' Pg 124 [eLses t, iz id] = some (eLE (closeL t id)) := by
  obtain ⟨h, h114, h125⟩ := h
  have k114 := K114 h114 t (by omega)
  have k125 := K125 h125 t id (by omega)
  simp only [eLses] at k114 k125
  refine K'_code h rfl ?_
  cases hr : rightL t with
  | false => simp only [go_sem, k114, hr, closeL]
  | true =>
  cases hw : (rowL t id).isSome with
  | false => simp only [go_sem, k114, hr, closeL, k125, hw]
  | true =>
    simp only [go_sem, k114, hr, closeL, k125, hw, mkA]
    unfold l124_0
    refine wp_lp (fun (i : Nat) S => i ≤ t.length ∧ S.ρ 0 = eLses t ∧ S.ρ 1 = iz id ∧ S.A 6 = some (5, (closed (t.take i) id).map eLse, .live) ∧ S.ρ 6 = .own 6 5 (closed (t.take i) id).length ∧ S.ρ 7 = iz i) (fun i => t.length - i) 0 ?_ ?_
    · simp [go_sem, closed]
    · intro i S ⟨hi, h0, h1, a6, h6, h7⟩
      have hle : (closed (t.take i) id).length ≤ i := Nat.le_trans (List.length_filter_le _ _) (by simp; omega)
      have hlim : (closed (t.take i) id).length + 1 ≤ lim := by simp only [lim]; omega
      simp only [go_sem, h0, h1, a6, h6, h7]
      refine wpc_i (fun h => ?_) (fun h => ?_)
      · have h := lt_of h
        obtain ⟨x, hx, hd⟩ := drop_at h
        have hs := filt_s (p := fun x => !decide (x.id = id)) hx
        simp only [go_sem, h0, h1, a6, h6, h7, hx]
        refine wpc_i (fun hc => ?_) (fun hc => ?_)
        · rw [if_pos hc] at hs
          simp only [go_sem, h0, h1, a6, h6, h7, hx, hlim]
          exact ⟨i + 1, by omega, by omega, by simp only [closed] at hs ⊢; rw [hs]; simp [eLse], by simp only [closed] at hs ⊢; rw [hs]; simp, by rw [inc64 h (by omega)]⟩
        · rw [if_neg (by rw [hc]; simp)] at hs
          simp only [go_sem, h0, h1, a6, h6, h7, hx, hlim]
          exact ⟨i + 1, by omega, by omega, by simp only [closed] at hs ⊢; rw [hs], by simp only [closed] at hs ⊢; rw [hs], by rw [inc64 h (by omega)]⟩
      · have h := eq_of hi h
        subst h
        rw [List.take_length] at a6 h6
        simp only [go_sem, h0, h1, a6, h6, h7]

def H123 (Pg : Nat → Option Fn) : Prop := Pg 123 = some (.code F123) ∧ H114 Pg ∧ H125 Pg
theorem K123 (h : H123 Pg) (t : List Lse) (id : Int) (a : Stamp) (hl : t.length ≤ 1000) : K' Pg 123 [eLses t, iz id, .agg (eStamp a)] = some (eLE (openL t id a)) := by
  obtain ⟨h, h114, h125⟩ := h
  have k114 := K114 h114 t (by omega)
  have k114o := K114 h114 [oneL id a] (by simp)
  have k125 := K125 h125 t id (by omega)
  simp only [eLses, List.map_cons, List.map_nil, eLse, oneL] at k114 k114o k125
  refine K'_code h rfl ?_
  cases hr : rightL t with
  | false => simp only [go_sem, k114, hr, openL]
  | true =>
  cases ho : rightL [oneL id a] with
  | false =>
    have e : openL t id a = ([], 1) := by simp [openL, hr, ho]
    simp only [oneL] at ho
    rw [e]
    simp only [go_sem, k114, hr, k114o, ho]
  | true =>
  cases hw : (rowL t id).isSome with
  | true =>
    have e : openL t id a = ([], 8) := by simp only [openL, hr, ho, hw]; rfl
    simp only [oneL] at ho
    rw [e]
    simp only [go_sem, k114, hr, k114o, ho, k125, hw]
  | false =>
    obtain ⟨hrt, h4⟩ := rightL_rl hr
    by_cases h4e : t.length = 4
    · have h4' : decide ((3 : Int) < (t.length : Int)) = true := by simp; omega
      have e : openL t id a = ([], 6) := by simp only [openL, hr, ho, hw, h4e]; rfl
      simp only [oneL] at ho
      rw [e]
      simp only [go_sem, k114, hr, k114o, ho, k125, hw, h4']
    · have h4' : decide ((3 : Int) < (t.length : Int)) = false := by simp; omega
      have e : openL t id a = (opened t id a, 0) := by simp only [openL, hr, ho, hw, h4e]; rfl
      simp only [oneL] at ho
      rw [e]
      simp only [go_sem, k114, hr, k114o, ho, k125, hw, h4', mkA]
      unfold l123_0
      refine wp_lp (fun (i : Nat) S => i ≤ t.length ∧ S.ρ 0 = eLses t ∧ S.ρ 1 = iz id ∧ S.ρ 8 = .lref 8 0 ∧ S.μ 8 = some (eLse (oneL id a), false) ∧ S.A 9 = some (5, ((t.take i).filter fun x => decide (x.id < id)).map eLse, .live) ∧ S.ρ 9 = .own 9 5 ((t.take i).filter fun x => decide (x.id < id)).length ∧ S.ρ 10 = iz i) (fun i => t.length - i) 0 ?_ ?_
      · simp [go_sem, oneL]
      · intro i S ⟨hi, h0, h1, h8, m8, a9, h9, h10⟩
        have hle : ((t.take i).filter fun x => decide (x.id < id)).length ≤ i := Nat.le_trans (List.length_filter_le _ _) (by simp; omega)
        have hlim : ((t.take i).filter fun x => decide (x.id < id)).length + 1 ≤ lim := by simp only [lim]; omega
        simp only [go_sem, h0, h1, h8, m8, a9, h9, h10]
        refine wpc_i (fun h => ?_) (fun h => ?_)
        · have h := lt_of h
          obtain ⟨x, hx, hd⟩ := drop_at h
          have hs := filt_s (p := fun x => decide (x.id < id)) hx
          simp only [go_sem, h0, h1, h8, m8, a9, h9, h10, hx]
          refine wpc_i (fun hc => ?_) (fun hc => ?_)
          · rw [if_pos hc] at hs
            simp only [go_sem, h0, h1, h8, m8, a9, h9, h10, hx, hlim]
            exact ⟨i + 1, by omega, by omega, by rw [hs]; simp [eLse], by rw [hs]; simp, by rw [inc64 h (by omega)]⟩
          · rw [if_neg (by rw [hc]; simp)] at hs
            simp only [go_sem, h0, h1, h8, m8, a9, h9, h10, hx, hlim]
            exact ⟨i + 1, by omega, by omega, by rw [hs], by rw [hs], by rw [inc64 h (by omega)]⟩
        · have h := eq_of hi h
          subst h
          rw [List.take_length] at a9 h9 hlim
          have hle2 : (t.filter fun x => decide (x.id < id)).length ≤ t.length := List.length_filter_le _ _
          simp only [eLse, oneL] at m8
          simp only [go_sem, h0, h1, h8, m8, a9, h9, h10, hlim]
          unfold l123_1
          refine wp_lp (fun (i : Nat) S => i ≤ t.length ∧ S.ρ 0 = eLses t ∧ S.ρ 1 = iz id ∧ S.A 9 = some (5, ((t.filter fun x => decide (x.id < id)) ++ oneL id a :: (t.take i).filter fun x => decide (id < x.id)).map eLse, .live) ∧
            S.ρ 9 = .own 9 5 ((t.filter fun x => decide (x.id < id)) ++ oneL id a :: (t.take i).filter fun x => decide (id < x.id)).length ∧ S.ρ 11 = iz i) (fun i => t.length - i) 0 ?_ ?_
          · simp [go_sem, oneL, h0, h1, a9, h9]
          · intro i S ⟨hi, h0, h1, a9, h9, h11⟩
            have hle3 : ((t.take i).filter fun x => decide (id < x.id)).length ≤ i := Nat.le_trans (List.length_filter_le _ _) (by simp; omega)
            have hlim : ((t.filter fun x => decide (x.id < id)) ++ oneL id a :: (t.take i).filter fun x => decide (id < x.id)).length + 1 ≤ lim := by
              simp only [lim, List.length_append, List.length_cons]; omega
            generalize hR : ((t.filter fun x => decide (x.id < id)) ++ oneL id a :: (t.take i).filter fun x => decide (id < x.id)) = R at a9 h9 hlim
            simp only [go_sem, h0, h1, a9, h9, h11]
            refine wpc_i (fun h => ?_) (fun h => ?_)
            · have h := lt_of h
              obtain ⟨x, hx, hd⟩ := drop_at h
              have hs := filt_s (p := fun x => decide (id < x.id)) hx
              simp only [go_sem, h0, h1, a9, h9, h11, hx]
              refine wpc_i (fun hc => ?_) (fun hc => ?_)
              · rw [if_pos hc] at hs
                have hR' : ((t.filter fun x => decide (x.id < id)) ++ oneL id a :: (t.take (i + 1)).filter fun x => decide (id < x.id)) = R ++ [x] := by rw [hs, ← hR]; simp
                simp only [go_sem, h0, h1, a9, h9, h11, hx, hlim]
                exact ⟨i + 1, by omega, by omega, by rw [hR']; simp [eLse], by have := congrArg List.length hR'; simp only [List.length_append, List.length_cons, List.length_nil] at this; congr 1; omega, by rw [inc64 h (by omega)]⟩
              · rw [if_neg (by rw [hc]; simp)] at hs
                have hR' : ((t.filter fun x => decide (x.id < id)) ++ oneL id a :: (t.take (i + 1)).filter fun x => decide (id < x.id)) = R := by rw [hs, ← hR]
                simp only [go_sem, h0, h1, a9, h9, h11, hx, hlim]
                exact ⟨i + 1, by omega, by omega, by rw [hR'], by have := congrArg List.length hR'; simp only [List.length_append, List.length_cons] at this; congr 1; omega, by rw [inc64 h (by omega)]⟩
            · have h := eq_of hi h
              subst h
              rw [List.take_length] at hR
              have : opened t id a = R := hR
              simp only [go_sem, h0, h1, a9, h9, h11, this]

def tickL (t : List Lse) : List Lse := (t.filter fun x => decide (1 < x.lft)).map fun x => ⟨x.id, x.lft - 1, x.at_⟩
def H115 (Pg : Nat → Option Fn) : Prop := Pg 115 = some (.code F115)
theorem tick_s {t : List Lse} {i : Nat} {x : Lse} (hx : t[i]? = some x) : tickL (t.take (i + 1)) = if 1 < x.lft then tickL (t.take i) ++ [⟨x.id, x.lft - 1, x.at_⟩] else tickL (t.take i) := by
  simp only [tickL, filt_s (p := fun x => decide (1 < x.lft)) hx]
  split <;> simp_all
theorem tick_len {t : List Lse} : (tickL t).length ≤ t.length := by
  simp only [tickL, List.length_map]; exact List.length_filter_le _ _
theorem K115 (h : H115 Pg) (t : List Lse) (hl : t.length ≤ 1000) (hr : rlR 0 t = true) : K' Pg 115 [eLses t] = some (eLses (tickL t)) := by
  refine K'_code h rfl ?_
  simp only [go_sem, mkA]
  unfold l115_0
  refine wp_lp (fun (i : Nat) S => i ≤ t.length ∧ S.ρ 0 = eLses t ∧ S.A 3 = some (5, (tickL (t.take i)).map eLse, .live) ∧ S.ρ 3 = .own 3 5 (tickL (t.take i)).length ∧ S.ρ 4 = iz i) (fun i => t.length - i) 0 ?_ ?_
  · simp [go_sem, tickL]
  · intro i S ⟨hi, h0, a3, h3, h4⟩
    have hle := tick_len (t := t.take i)
    have hlim : (tickL (t.take i)).length + 1 ≤ lim := by simp at hle; simp only [lim]; omega
    simp only [go_sem, h0, a3, h3, h4]
    refine wpc_i (fun h => ?_) (fun h => ?_)
    · have h := lt_of h
      obtain ⟨x, hx, hd⟩ := drop_at h
      have hs := tick_s hx
      have hok := rl_ok hr (List.mem_of_getElem? hx)
      simp only [okLse, Bool.and_eq_true, decide_eq_true_eq] at hok
      have hdec : IntKind.i64.wrap (x.lft - 1) = x.lft - 1 := wrap64 (by omega) (by omega)
      simp only [go_sem, h0, a3, h3, h4, hx]
      refine wpc_i (fun hc => ?_) (fun hc => ?_)
      · rw [if_pos (of_decide_eq_true hc)] at hs
        simp only [go_sem, h0, a3, h3, h4, hx, hlim, hdec]
        exact ⟨i + 1, by omega, by omega, by rw [hs]; simp [eLse], by rw [hs]; simp, by rw [inc64 h (by omega)]⟩
      · rw [if_neg (of_decide_eq_false hc)] at hs
        simp only [go_sem, h0, a3, h3, h4, hx, hlim]
        exact ⟨i + 1, by omega, by omega, by rw [hs], by rw [hs], by rw [inc64 h (by omega)]⟩
    · have h := eq_of hi h
      subst h
      rw [List.take_length] at a3 h3
      simp only [go_sem, h0, a3, h3, h4]

def H112 (Pg : Nat → Option Fn) : Prop := Pg 112 = some (.code F112) ∧ H126 Pg
theorem K112 (h : H112 Pg) (t : List Lse) (hl : t.length ≤ 1000) : K' Pg 112 [eLses t] = some (eLses (if rightL t then tickL t else [])) := by
  obtain ⟨h, h126⟩ := h
  have k126 := K126 h126 t (by omega)
  simp only [eLses] at k126
  refine K'_code h rfl ?_
  cases hrt : rightL t with
  | false => simp only [go_sem, k126, hrt]
  | true =>
    have hr := (rightL_rl hrt).1
    simp only [go_sem, k126, hrt, mkA]
    unfold l112_0
    refine wp_lp (fun (i : Nat) S => i ≤ t.length ∧ S.μ 5 = none ∧ S.A 3 = some (5, (tickL (t.take i)).map eLse, .live) ∧ S.ρ 3 = .own 3 5 (tickL (t.take i)).length ∧ S.ρ 9 = eLses t ∧ S.ρ 10 = iz t.length ∧ S.ρ 11 = iz i) (fun i => t.length - i) 0 ?_ ?_
    · simp [go_sem, tickL]
    · intro i S ⟨hi, m5, a3, h3, h9, h10, h11⟩
      have hle := tick_len (t := t.take i)
      have hlim : (tickL (t.take i)).length + 1 ≤ lim := by simp at hle; simp only [lim]; omega
      simp only [go_sem, m5, a3, h3, h9, h10, h11]
      refine wpc_i (fun h => ?_) (fun h => ?_)
      · have h := lt_of h
        obtain ⟨x, hx, hd⟩ := drop_at h
        have hs := tick_s hx
        have hok := rl_ok hr (List.mem_of_getElem? hx)
        simp only [okLse, Bool.and_eq_true, decide_eq_true_eq] at hok
        have hdec : IntKind.i64.wrap (x.lft - 1) = x.lft - 1 := wrap64 (by omega) (by omega)
        simp only [go_sem, m5, a3, h3, h9, h10, h11, hx, hdec]
        refine wpc_i (fun hc => ?_) (fun hc => ?_)
        · rw [if_pos (by have := of_decide_eq_true hc; omega)] at hs
          simp only [go_sem, m5, a3, h3, h9, h10, h11, hx, hlim, hdec]
          exact ⟨i + 1, by omega, by omega, by rw [hs]; simp [eLse], by rw [hs]; simp, by rw [inc64 h (by omega)]⟩
        · rw [if_neg (by have := of_decide_eq_false hc; omega)] at hs
          simp only [go_sem, m5, a3, h3, h9, h10, h11, hx, hlim]
          exact ⟨i + 1, by omega, by omega, by rw [hs], by rw [hs], by rw [inc64 h (by omega)]⟩
      · have h := eq_of hi h
        subst h
        rw [List.take_length] at a3 h3
        simp only [go_sem, a3, h3]

def soon (a b : Stamp) : Stamp := if 0 < stampCmp a b then b else a
def H131 (Pg : Nat → Option Fn) : Prop := Pg 131 = some (.code F131) ∧ H15 Pg
theorem K131 (h : H131 Pg) (a b : Stamp) : K' Pg 131 [.agg (eStamp a), .agg (eStamp b)] = some (.agg (eStamp (soon a b))) := by
  obtain ⟨h, h15⟩ := h
  refine K'_code h rfl ?_
  have k15 := K15 h15 a b
  simp only [eStamp] at k15
  simp only [go_sem, k15]
  refine wpc_i (fun hc => ?_) (fun hc => ?_)
  · have := of_decide_eq_true hc
    simp only [go_sem, soon, this]
  · have := of_decide_eq_false hc
    simp only [go_sem, soon, this]
theorem cmp_flip {a b : Stamp} : stampCmp b a < 0 ↔ 0 < stampCmp a b := by rw [cmp_lt, cmp_gt]
def H132 (Pg : Nat → Option Fn) : Prop := Pg 132 = some (.code F132) ∧ H6 Pg
theorem K132 (h : H132 Pg) (a b : Stamp) : K' Pg 132 [.agg (eStamp a), .agg (eStamp b)] = some (.agg (eStamp (soon a b))) := by
  obtain ⟨h, h6⟩ := h
  refine K'_code h rfl ?_
  have k6 := K6 h6 b a
  simp only [eStamp, before] at k6
  simp only [go_sem, k6]
  refine wpc_i (fun hc => ?_) (fun hc => ?_)
  · have := cmp_flip.1 (of_decide_eq_true hc)
    simp only [go_sem, soon, this]
  · have : ¬ 0 < stampCmp a b := fun h => of_decide_eq_false hc (cmp_flip.2 h)
    simp only [go_sem, soon, this]

/-- the soonest moment -/
def leastL (t : List Lse) : Option Stamp := if rightL t then (match t with | [] => none | a :: l => some ((a :: l).foldl (fun s x => soon s x.at_) a.at_)) else none
def zeroStamp : Stamp := ⟨0, 0, 0⟩
@[go_sem] def eOS (o : Option Stamp) : V := .tuple [.agg (eStamp (o.getD zeroStamp)), .bool o.isSome]
def H113 (Pg : Nat → Option Fn) : Prop := Pg 113 = some (.code F113) ∧ H126 Pg ∧ H131 Pg
theorem K113 (h : H113 Pg) (t : List Lse) (hl : t.length ≤ 1000) : K' Pg 113 [eLses t] = some (eOS (leastL t)) := by
  obtain ⟨h, h126, h131⟩ := h
  have k126 := K126 h126 t (by omega)
  have k131 := fun x y => K131 h131 x y
  simp only [eLses] at k126
  simp only [eStamp] at k131
  refine K'_code h rfl ?_
  cases hrt : rightL t with
  | false => simp only [go_sem, k126, hrt, leastL, zeroStamp, Option.isSome_none]
  | true =>
    cases t with
    | nil => simp only [List.map_nil] at k126; simp only [go_sem, k126, hrt, leastL, zeroStamp, Option.isSome_none]
    | cons a l =>
      simp only [List.map_cons] at k126
      have hz : decide (((l.length + 1 : Nat) : Int) = 0) = false := decide_eq_false (by omega)
      simp only [eLse] at k126
      have e : leastL (a :: l) = some ((a :: l).foldl (fun s x => soon s x.at_) a.at_) := by simp only [leastL, hrt]; rfl
      rw [e]
      simp only [go_sem, k126, hrt, hz]
      unfold l113_0
      refine wp_lp (fun (i : Nat) S => i ≤ (a :: l).length ∧ S.μ 6 = none ∧ S.ρ 2 = .lref 2 0 ∧ S.μ 2 = some (eStamp zeroStamp, false) ∧ S.ρ 4 = .lref 4 0 ∧ S.μ 4 = some (eStamp (((a :: l).take i).foldl (fun s x => soon s x.at_) a.at_), false) ∧ S.ρ 20 = eLses (a :: l) ∧ S.ρ 21 = iz (a :: l).length ∧ S.ρ 22 = iz i) (fun i => (a :: l).length - i) 0 ?_ ?_
      · simp [go_sem, zeroStamp]
      · intro i S ⟨hi, m6, h2, m2, h4, m4, h20, h21, h22⟩
        generalize hL : a :: l = L at *
        simp only [go_sem, m6, h2, m2, h4, m4, h20, h21, h22]
        refine wpc_i (fun h => ?_) (fun h => ?_)
        · have h := lt_of h
          obtain ⟨x, hx, hd⟩ := drop_at h
          simp only [go_sem, m6, h2, m2, h4, m4, h20, h21, h22, hx, k131]
          refine ⟨i + 1, by omega, by omega, ?_, by rw [inc64 h (by omega)]⟩
          rw [take_s hx, List.foldl_append]
          simp
        · have h := eq_of hi h
          subst h
          rw [List.take_length] at m4
          simp only [go_sem, h2, m2, h4, m4, Option.isSome_some]
end Sg
