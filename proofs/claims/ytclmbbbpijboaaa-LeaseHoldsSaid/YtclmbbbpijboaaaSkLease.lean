/- Leases: what the functions over their tables answer. -/
import Derived.Test.YtclmbbbpijboaaaScLease
import Derived.Test.YtclmbbbpijboaaaSkBase
import Derived.Test.YtclmbbbpijboaaaSkChain3
import Derived.Test.YtclmbbbpijboaaaSgRun2
import Derived.Test.YtclmbbbpijboaaaSgClone
namespace Sg
open _root_.Go (IntKind BinOp UnOp)
set_option linter.unusedSimpArgs false
set_option linter.unusedVariables false
set_option maxRecDepth 10000
variable {Pg : Nat → Option Fn}

structure Lse where
  id : Int
  lft : Int
  at_ : Stamp
  deriving DecidableEq
@[go_sem] def eLse (l : Lse) : List V := [iz l.id, iz l.lft, iz l.at_.wall, iz l.at_.tick, iz l.at_.node]
@[go_sem] def eLses (l : List Lse) : V := .slice 5 (l.map eLse)

def okLse (l : Lse) : Bool := decide (l.id ≤ 1099511627776) && (decide (1 ≤ l.lft) && (decide (l.lft ≤ 20) && stampRight l.at_))
def rlR : Int → List Lse → Bool
  | _, [] => true
  | p, d :: l => decide (p < d.id) && (okLse d && rlR d.id l)
def rightL (t : List Lse) : Bool := rlR 0 t && decide (t.length ≤ 4)
theorem rlR_cons {p : Int} {d : Lse} {l : List Lse} : rlR p (d :: l) = (decide (p < d.id) && (okLse d && rlR d.id l)) := rfl
def prevI (t : List Lse) (i : Nat) : Int := if i = 0 then 0 else (t[i - 1]?.map Lse.id).getD 0

theorem not_lt_d {a b : Int} : decide (b ≤ a) = !decide (a < b) := by by_cases h : a < b <;> simp [h] <;> omega
theorem not_le_d {a b : Int} : decide (b < a) = !decide (a ≤ b) := by by_cases h : a ≤ b <;> simp [h] <;> omega
theorem lt1_d {a : Int} : decide (a < 1) = !decide (1 ≤ a) := by by_cases h : 1 ≤ a <;> simp [h] <;> omega

def H126 (Pg : Nat → Option Fn) : Prop := Pg 126 = some (.code F126) ∧ H28 Pg
theorem K126 (h : H126 Pg) (t : List Lse) (hl : t.length < 2 ^ 60) : K' Pg 126 [eLses t] = some (.bool (rightL t)) := by
  obtain ⟨h, h28⟩ := h
  have k28 := fun x => K28 h28 x
  simp only [eStamp] at k28
  refine K'_code h rfl ?_
  simp only [go_sem]
  unfold l126_0
  refine wp_lp (fun (i : Nat) S => i ≤ t.length ∧ S.ρ 0 = eLses t ∧ S.μ 5 = none ∧ S.ρ 3 = iz (prevI t i) ∧ S.ρ 6 = eLses t ∧ S.ρ 7 = iz t.length ∧ S.ρ 8 = iz i ∧ rlR (prevI t i) (t.drop i) = rlR 0 t) (fun i => t.length - i) 0 ?_ ?_
  · simp [go_sem, prevI]
  · intro i S ⟨hi, h0, m5, h3, h6, h7, h8, ho⟩
    simp only [go_sem, h0, m5, h3, h6, h7, h8]
    refine wpc_i (fun h => ?_) (fun h => ?_)
    · have h := lt_of h
      obtain ⟨x, hx, hd⟩ := drop_at h
      have hnext : prevI t (i + 1) = x.id := by simp [prevI, hx]
      rw [hd, rlR_cons] at ho
      have e1 : decide (x.id ≤ prevI t i) = !decide (prevI t i < x.id) := not_lt_d
      have e2 : decide (1099511627776 < x.id) = !decide (x.id ≤ 1099511627776) := not_le_d
      have e3 : decide (x.lft < 1) = !decide (1 ≤ x.lft) := lt1_d
      have e4 : decide (20 < x.lft) = !decide (x.lft ≤ 20) := not_le_d
      simp only [go_sem, h0, m5, h3, h6, h7, h8, hx, e1, e2, e3, e4, k28]
      cases c1 : decide (prevI t i < x.id) with
      | false => rw [c1] at ho; simp only [go_sem, c1, rightL, ← ho]
      | true =>
      cases c2 : decide (x.id ≤ 1099511627776) with
      | false => simp only [okLse, c2, Bool.false_and, Bool.and_false] at ho; simp only [go_sem, c1, c2, e2, rightL, ← ho, h0, m5, h3, h6, h7, h8, hx, k28]
      | true =>
      cases c3 : decide (1 ≤ x.lft) with
      | false => simp only [okLse, c3, Bool.false_and, Bool.and_false] at ho; simp only [go_sem, c1, c2, c3, e2, e3, rightL, ← ho, h0, m5, h3, h6, h7, h8, hx, k28]
      | true =>
      cases c4 : decide (x.lft ≤ 20) with
      | false => simp only [okLse, c4, Bool.false_and, Bool.and_false] at ho; simp only [go_sem, c1, c2, c3, c4, e2, e3, e4, rightL, ← ho, h0, m5, h3, h6, h7, h8, hx, k28]
      | true =>
      cases c5 : stampRight x.at_ with
      | false => simp only [okLse, c5, Bool.false_and, Bool.and_false] at ho; simp only [go_sem, c1, c2, c3, c4, c5, e2, e3, e4, rightL, ← ho, h0, m5, h3, h6, h7, h8, hx, k28]
      | true =>
        simp only [okLse, c1, c2, c3, c4, c5, Bool.true_and] at ho
        simp only [go_sem, c1, c2, c3, c4, c5, e2, e3, e4, h0, m5, h3, h6, h7, h8, hx, k28]
        exact ⟨i + 1, by omega, by omega, by rw [hnext], by rw [inc64 h hl], by rw [hnext]; exact ho⟩
    · have h := eq_of hi h
      subst h
      simp only [List.drop_length, rlR] at ho
      have e8 : decide ((t.length : Int) ≤ 4) = decide (t.length ≤ 4) := decide_eq_decide.2 (by omega)
      simp only [go_sem, h0, rightL, ← ho, e8]

def H114 (Pg : Nat → Option Fn) : Prop := Pg 114 = some (.code F114) ∧ H24 Pg
theorem K114 (h : H114 Pg) (t : List Lse) (hl : t.length < 2 ^ 60) : K' Pg 114 [eLses t] = some (.bool (rightL t)) := by
  obtain ⟨h, h24⟩ := h
  have k24 := fun x => K24 h24 x
  simp only [eStamp] at k24
  refine K'_code h rfl ?_
  simp only [go_sem]
  refine wpc_i (fun hc => ?_) (fun hc => ?_)
  · have hc : ¬ t.length ≤ 4 := by have := of_decide_eq_true hc; omega
    simp only [go_sem, rightL, hc]
  have hc : t.length ≤ 4 := by have := of_decide_eq_false hc; omega
  have hrt : rightL t = rlR 0 t := by simp [rightL, hc]
  simp only [go_sem]
  unfold l114_0
  refine wp_lp (fun (i : Nat) S => i ≤ t.length ∧ S.ρ 0 = eLses t ∧ S.ρ 3 = iz i ∧ rlR (prevI t i) (t.drop i) = rlR 0 t ∧ 0 ≤ prevI t i) (fun i => t.length - i) 0 ?_ ?_
  · simp [go_sem, prevI]
  · intro i S ⟨hi, h0, h3, ho, hp0⟩
    simp only [go_sem, h0, h3]
    refine wpc_i (fun h => ?_) (fun h => ?_)
    · have h := lt_of h
      obtain ⟨x, hx, hd⟩ := drop_at h
      have hnext : prevI t (i + 1) = x.id := by simp [prevI, hx]
      rw [hd, rlR_cons] at ho
      have e0 : decide (x.id < 1) = !decide (1 ≤ x.id) := lt1_d
      have e2 : decide (1099511627776 < x.id) = !decide (x.id ≤ 1099511627776) := not_le_d
      have e3 : decide (x.lft < 1) = !decide (1 ≤ x.lft) := lt1_d
      have e4 : decide (20 < x.lft) = !decide (x.lft ≤ 20) := not_le_d
      simp only [go_sem, h0, h3, hx, e0, e2, e3, e4, k24]
      cases c1 : decide (1 ≤ x.id) with
      | false =>
        have : decide (prevI t i < x.id) = false := by have := of_decide_eq_false c1; simp; omega
        rw [this] at ho
        simp only [go_sem, c1, hrt, ← ho]
      | true =>
      cases c2 : decide (x.id ≤ 1099511627776) with
      | false => simp only [okLse, c2, Bool.false_and, Bool.and_false] at ho; simp only [go_sem, c1, c2, e2, hrt, ← ho, h0, h3, hx, k24]
      | true =>
      cases c3 : decide (1 ≤ x.lft) with
      | false => simp only [okLse, c3, Bool.false_and, Bool.and_false] at ho; simp only [go_sem, c1, c2, c3, e2, e3, hrt, ← ho, h0, h3, hx, k24]
      | true =>
      cases c4 : decide (x.lft ≤ 20) with
      | false => simp only [okLse, c4, Bool.false_and, Bool.and_false] at ho; simp only [go_sem, c1, c2, c3, c4, e2, e3, e4, hrt, ← ho, h0, h3, hx, k24]
      | true =>
      cases c5 : stampRight x.at_ with
      | false => simp only [okLse, c5, Bool.false_and, Bool.and_false] at ho; simp only [go_sem, c1, c2, c3, c4, c5, e2, e3, e4, hrt, ← ho, h0, h3, hx, k24]
      | true =>
        simp only [okLse, c2, c3, c4, c5, Bool.true_and] at ho
        have hx1 : 1 ≤ x.id := of_decide_eq_true c1
        simp only [go_sem, c1, c2, c3, c4, c5, e2, e3, e4, h0, h3, hx, k24, posd]
        rcases Nat.eq_zero_or_pos i with hz | hz
        · have hz' : decide (i = 0) = true := by simp [hz]
          have hp : decide (prevI t i < x.id) = true := by simp [prevI, hz]; omega
          rw [hp, Bool.true_and] at ho
          simp only [go_sem, hz', h0, h3, hx]
          exact ⟨i + 1, by omega, by omega, by rw [inc64 h hl], by rw [hnext]; exact ho, by rw [hnext]; omega⟩
        · have hz' : decide (i = 0) = false := by simp; omega
          obtain ⟨y, hy, -⟩ := drop_at (l := t) (i := i - 1) (by omega)
          have hp : prevI t i = y.id := by simp [prevI, hy]; omega
          have hdec := dec64 hz (by omega)
          rw [hp] at ho
          have e1 : decide (x.id ≤ y.id) = !decide (y.id < x.id) := not_lt_d
          simp only [go_sem, hz', h0, h3, hx, hdec, hy, e1]
          cases c1 : decide (y.id < x.id) with
          | false => rw [c1] at ho; simp only [go_sem, hrt, ← ho]
          | true =>
            rw [c1, Bool.true_and] at ho
            simp only [go_sem, h0, h3]
            exact ⟨i + 1, by omega, by omega, by rw [inc64 h hl], by rw [hnext]; exact ho, by rw [hnext]; omega⟩
    · have h := eq_of hi h
      subst h
      simp only [List.drop_length, rlR] at ho
      simp only [go_sem, hrt, ← ho]

def H116 (Pg : Nat → Option Fn) : Prop := Pg 116 = some (.code F116)
theorem K116 (h : H116 Pg) (t : List Lse) (hl : t.length < 2 ^ 60) : K' Pg 116 [eLses t, eLses t] = some (.bool true) := by
  refine K'_code h rfl ?_
  simp only [go_sem]
  unfold l116_0
  refine wp_lp (fun (i : Nat) S => i ≤ t.length ∧ S.ρ 0 = eLses t ∧ S.ρ 1 = eLses t ∧ S.ρ 5 = iz i) (fun i => t.length - i) 0 ?_ ?_
  · simp [go_sem]
  · intro i S ⟨hi, h0, h1, h5⟩
    simp only [go_sem, h0, h1, h5]
    refine wpc_i (fun h => ?_) (fun h => ?_)
    · have h := lt_of h
      obtain ⟨x, hx, hd⟩ := drop_at h
      simp only [go_sem, h0, h1, h5, hx]
      exact ⟨i + 1, by omega, by omega, by rw [inc64 h hl]⟩
    · simp only [go_sem]

def H138 (Pg : Nat → Option Fn) : Prop := Pg 138 = some (.code F138)
theorem K138 (h : H138 Pg) (d : Lse) (c : Int) : K' Pg 138 [.agg (eLse d), .cptr [iz c] 0] = some (.bool (decide (c ≤ d.id))) := by
  refine K'_code h rfl ?_
  simp only [go_sem]
def idxL : List Lse → (Lse → Bool) → Nat → Int
  | [], _, _ => -1
  | a :: l, p, i => if p a then i else idxL l p (i + 1)
def H139 (Pg : Nat → Option Fn) : Prop := Pg 139 = some (.code F139)
theorem K139 (h : H139 Pg) (l : List Lse) (g : Nat) (cap : List V) (p : Lse → Bool) (hl : l.length < 2 ^ 60) (hg : ∀ x ∈ l, K' Pg g (.agg (eLse x) :: cap) = some (.bool (p x))) :
    K' Pg 139 [eLses l, .func g cap] = some (iz (idxL l p 0)) := by
  refine K'_code h rfl ?_
  simp only [eLse] at hg
  simp only [go_sem]
  unfold l139_0
  refine wp_lp (fun (i : Nat) S => i ≤ l.length ∧ S.ρ 0 = eLses l ∧ S.ρ 1 = .func g cap ∧ S.ρ 7 = iz l.length ∧ S.ρ 8 = iz i ∧ idxL (l.drop i) p i = idxL l p 0) (fun i => l.length - i) 0 ?_ ?_
  · simp [go_sem]
  · intro i S ⟨hi, h0, h1, h7, h8, ho⟩
    simp only [go_sem, h0, h1, h7, h8]
    refine wpc_i (fun h => ?_) (fun h => ?_)
    · have h := lt_of h
      obtain ⟨x, hx, hd⟩ := drop_at h
      rw [hd] at ho
      have hgx := hg x (List.mem_of_getElem? hx)
      simp only [go_sem, h0, h1, h7, h8, hx, hgx]
      refine wpc_i (fun hc => ?_) (fun hc => ?_)
      · simp only [idxL, hc, if_true] at ho
        simp only [go_sem, ← ho]
      · simp only [idxL, hc, Bool.false_eq_true, if_false] at ho
        simp only [go_sem, h0, h1, h7, h8]
        exact ⟨i + 1, by omega, by omega, by rw [inc64 h hl], ho⟩
    · have h := eq_of hi h
      subst h
      simp only [List.drop_length, idxL] at ho
      simp only [go_sem, ← ho]

def cntL : List Lse → Int → Nat
  | [], _ => 0
  | d :: l, c => if c ≤ d.id then 0 else cntL l c + 1
theorem cntL_le {c : Int} : ∀ {l : List Lse}, cntL l c ≤ l.length
  | [] => by simp [cntL]
  | d :: l => by
    have := cntL_le (c := c) (l := l)
    simp only [cntL]; split <;> simp <;> omega
theorem idx_cntL {c : Int} : ∀ {l : List Lse} {i : Nat}, idxL l (fun d => decide (c ≤ d.id)) i = if cntL l c < l.length then ((i + cntL l c : Nat) : Int) else -1
  | [], i => by simp [idxL, cntL]
  | d :: l, i => by
    simp only [idxL, cntL]
    by_cases h : c ≤ d.id
    · simp [h]
    · simp only [h, decide_false, Bool.false_eq_true, if_false]
      rw [idx_cntL]
      simp only [List.length_cons, Nat.add_lt_add_iff_right]
      split
      · congr 1; omega
      · rfl
def isAtL (t : List Lse) (c : Int) : Bool := match t[cntL t c]? with | some d => decide (d.id = c) | none => false
def H133 (Pg : Nat → Option Fn) : Prop := Pg 133 = some (.code F133) ∧ H138 Pg ∧ H139 Pg
theorem K133 (h : H133 Pg) (t : List Lse) (c : Int) (hl : t.length < 2 ^ 60) : K' Pg 133 [eLses t, iz c] = some (.tuple [iz (cntL t c), .bool (isAtL t c)]) := by
  obtain ⟨h, h138, h139⟩ := h
  have k139 := K139 h139 t 138 [.cptr [iz c] 0] (fun d => decide (c ≤ d.id)) hl (fun x _ => K138 h138 x c)
  rw [idx_cntL] at k139
  simp only [eLses] at k139
  have hle := cntL_le (c := c) (l := t)
  refine K'_code h rfl ?_
  by_cases hc : cntL t c < t.length
  · obtain ⟨x, hx, -⟩ := drop_at hc
    have hn : decide (((cntL t c : Nat) : Int) < 0) = false := by simp
    simp only [hc, if_true, Nat.zero_add] at k139
    simp only [go_sem, k139, hn, hx, isAtL]
  · have he : cntL t c = t.length := by omega
    have hx : t[cntL t c]? = none := by rw [he]; simp
    have hat : isAtL t c = false := by simp only [isAtL, hx]
    simp only [hc, if_false] at k139
    simp only [go_sem, k139, hat]
    rw [he]

def rowL : List Lse → Int → Option Lse
  | [], _ => none
  | d :: l, c => if d.id = c then some d else rowL l c
theorem rl_tail {p : Int} {d : Lse} {l : List Lse} (h : rlR p (d :: l) = true) : p < d.id ∧ okLse d = true ∧ rlR d.id l = true := by
  simpa [rlR] using h
theorem rl_lt : ∀ {l : List Lse} {p : Int} {d : Lse}, rlR p l = true → d ∈ l → p < d.id
  | [], _, _, _, h => by simp at h
  | a :: l, p, d, h, hd => by
    obtain ⟨h1, -, h3⟩ := rl_tail h
    rcases List.mem_cons.1 hd with rfl | hd
    · exact h1
    · have := rl_lt h3 hd; omega
theorem rl_ok : ∀ {l : List Lse} {p : Int} {d : Lse}, rlR p l = true → d ∈ l → okLse d = true
  | [], _, _, _, h => by simp at h
  | a :: l, p, d, h, hd => by
    obtain ⟨-, h2, h3⟩ := rl_tail h
    rcases List.mem_cons.1 hd with rfl | hd
    · exact h2
    · exact rl_ok h3 hd
theorem rowL_none : ∀ {l : List Lse} {c : Int}, (∀ d ∈ l, d.id ≠ c) → rowL l c = none
  | [], _, _ => rfl
  | a :: l, c, h => by
    simp only [rowL, h a (List.mem_cons_self ..), if_false]
    exact rowL_none fun d hd => h d (List.mem_cons_of_mem _ hd)
theorem rowL_find {c : Int} : ∀ {l : List Lse} {p : Int}, rlR p l = true → rowL l c = if isAtL l c then l[cntL l c]? else none
  | [], _, _ => by simp [rowL, isAtL]
  | d :: l, p, h => by
    obtain ⟨h1, -, h3⟩ := rl_tail h
    by_cases hc : c ≤ d.id
    · by_cases he : d.id = c
      · simp [rowL, isAtL, cntL, he]
      · have : rowL l c = none := rowL_none fun x hx => by have := rl_lt h3 hx; omega
        simp [rowL, isAtL, cntL, hc, he, this]
    · have he : d.id ≠ c := by omega
      have := rowL_find (c := c) h3
      have e : isAtL (d :: l) c = isAtL l c := by simp only [isAtL, cntL, hc, if_false, List.getElem?_cons_succ]
      rw [e]
      simp only [rowL, he, if_false, this, cntL, hc, List.getElem?_cons_succ]
theorem rowL_some {l : List Lse} {c : Int} {d : Lse} (h : rowL l c = some d) : d.id = c ∧ d ∈ l := by
  induction l with
  | nil => simp [rowL] at h
  | cons a l ih =>
    simp only [rowL] at h
    split at h
    · simp at h; subst h; exact ⟨by assumption, List.mem_cons_self ..⟩
    · exact ⟨(ih h).1, List.mem_cons_of_mem _ (ih h).2⟩
theorem rowL_mem {l : List Lse} {p : Int} {d : Lse} (h : rlR p l = true) (hd : d ∈ l) : rowL l d.id = some d := by
  induction l generalizing p with
  | nil => simp at hd
  | cons a l ih =>
    obtain ⟨-, -, h3⟩ := rl_tail h
    rcases List.mem_cons.1 hd with rfl | hd
    · simp [rowL]
    · have := rl_lt h3 hd
      simp only [rowL]
      rw [if_neg (by omega)]
      exact ih h3 hd
theorem rightL_rl {t : List Lse} (h : rightL t = true) : rlR 0 t = true ∧ t.length ≤ 4 := by simpa [rightL] using h

def H125 (Pg : Nat → Option Fn) : Prop := Pg 125 = some (.code F125)
theorem K125 (h : H125 Pg) (t : List Lse) (c : Int) (hl : t.length < 2 ^ 60) : K' Pg 125 [eLses t, iz c] = some (.bool (rowL t c).isSome) := by
  refine K'_code h rfl ?_
  simp only [go_sem]
  unfold l125_0
  refine wp_lp (fun (i : Nat) S => i ≤ t.length ∧ S.ρ 0 = eLses t ∧ S.ρ 1 = iz c ∧ S.ρ 5 = iz i ∧ rowL (t.drop i) c = rowL t c) (fun i => t.length - i) 0 ?_ ?_
  · simp [go_sem]
  · intro i S ⟨hi, h0, h1, h5, ho⟩
    simp only [go_sem, h0, h1, h5]
    refine wpc_i (fun h => ?_) (fun h => ?_)
    · have h := lt_of h
      obtain ⟨x, hx, hd⟩ := drop_at h
      rw [hd] at ho
      simp only [go_sem, h0, h1, h5, hx]
      refine wpc_i (fun hc => ?_) (fun hc => ?_)
      · simp only [rowL, of_decide_eq_true hc, if_true] at ho
        simp only [go_sem, ← ho, Option.isSome_some]
      · simp only [rowL, of_decide_eq_false hc, if_false] at ho
        simp only [go_sem, h0, h1, h5, hx]
        exact ⟨i + 1, by omega, by omega, by rw [inc64 h hl], ho⟩
    · have h := eq_of hi h
      subst h
      simp only [List.drop_length, rowL] at ho
      simp only [go_sem, ← ho, Option.isSome_none]

def zeroLse : Lse := ⟨0, 0, ⟨0, 0, 0⟩⟩
@[go_sem] def eOL (o : Option Lse) : V := .tuple [.agg (eLse (o.getD zeroLse)), .bool o.isSome]
def findL (t : List Lse) (c : Int) : Option Lse := if rightL t then rowL t c else none
def H118 (Pg : Nat → Option Fn) : Prop := Pg 118 = some (.code F118) ∧ H126 Pg ∧ H133 Pg
theorem K118 (h : H118 Pg) (t : List Lse) (c : Int) (hl : t.length < 2 ^ 60) : K' Pg 118 [eLses t, iz c] = some (eOL (findL t c)) := by
  obtain ⟨h, h126, h133⟩ := h
  have k126 := K126 h126 t hl
  have k133 := K133 h133 t c hl
  simp only [eLses] at k126 k133
  refine K'_code h rfl ?_
  cases hr : rightL t with
  | false => simp only [go_sem, k126, hr, findL, zeroLse, Option.isSome_none]
  | true =>
    have hf := rowL_find (c := c) (rightL_rl hr).1
    cases ha : isAtL t c with
    | false =>
      rw [ha] at hf
      simp only [Bool.false_eq_true, if_false] at hf
      simp only [go_sem, k126, hr, k133, ha, findL, hf, zeroLse, Option.isSome_none]
    | true =>
      rw [ha] at hf
      simp only [if_true] at hf
      have hlt : cntL t c < t.length := by
        rcases Nat.lt_or_ge (cntL t c) t.length with h | h
        · exact h
        · simp only [isAtL, List.getElem?_eq_none h] at ha; simp at ha
      obtain ⟨x, hx, -⟩ := drop_at hlt
      rw [hx] at hf
      simp only [go_sem, k126, hr, k133, ha, findL, hf, hx, Option.isSome_some]
end Sg
