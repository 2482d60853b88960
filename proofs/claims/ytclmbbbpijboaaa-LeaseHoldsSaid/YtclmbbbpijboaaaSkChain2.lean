import Derived.Test.YtclmbbbpijboaaaSkChain
namespace Sg
open _root_.Go (IntKind BinOp UnOp)
set_option linter.unusedSimpArgs false
set_option linter.unusedVariables false
variable {Pg : Nat → Option Fn}

def before (a b : Stamp) : Bool := decide (stampCmp a b < 0)

def H6 (Pg : Nat → Option Fn) : Prop := Pg 6 = some (.code F6)
theorem K6 (h : H6 Pg) (a b : Stamp) : K' Pg 6 [.agg (eStamp a), .agg (eStamp b)] = some (.bool (before a b)) := by
  refine K'_code h rfl ?_
  simp only [go_sem]
  repeat' (refine wpc_i (fun h => ?_) (fun h => ?_) <;> simp only [go_sem])
  all_goals
    simp only [before, Option.some.injEq, V.bool.injEq, decide_eq_decide, cmp_lt, Bool.not_eq_true', Bool.not_eq_false', decide_eq_false_iff_not, decide_eq_true_eq] at *
    omega

def H24 (Pg : Nat → Option Fn) : Prop := Pg 24 = some (.code F24)
theorem K24 (h : H24 Pg) (a : Stamp) : K' Pg 24 [.agg (eStamp a)] = some (.bool (stampRight a)) := by
  refine K'_code h rfl ?_
  simp only [go_sem]
  repeat' (refine wrg_it (fun h => ?_) (fun h => ?_) <;> simp only [go_sem, h])
  all_goals simp_all [stampRight, within]
  all_goals (intros; omega)

def H5 (Pg : Nat → Option Fn) : Prop := Pg 5 = some (.code F5) ∧ H24 Pg
theorem K5 (h : H5 Pg) (v : Ver) : K' Pg 5 [.agg (eVer v)] = some (.bool (verRight v)) := by
  obtain ⟨h, h24⟩ := h
  refine K'_code h rfl ?_
  have k24 := K24 h24 v.at_
  simp only [eStamp] at k24
  simp only [go_sem, k24]
  repeat' (first | refine wrg_it (fun h => ?_) (fun h => ?_) <;> simp only [go_sem, h, k24] | refine wpc_i (fun h => ?_) (fun h => ?_) <;> simp only [go_sem, h, k24])
  all_goals
    simp only [verRight, Option.some.injEq, V.bool.injEq] at *
    cases hv : v.val <;> simp_all
  all_goals omega

def okPrev : Option Ver → Ver → Bool
  | none, _ => true
  | some q, x => decide (stampCmp q.at_ x.at_ < 0)
theorem chR_cons {p : Option Ver} {x : Ver} {l : List Ver} (h : verRight x = true) : chR p (x :: l) = (okPrev p x && chR (some x) l) := by
  cases p <;> simp [chR, okPrev, h]

def H4 (Pg : Nat → Option Fn) : Prop := Pg 4 = some (.code F4) ∧ H5 Pg ∧ H6 Pg
theorem K4 (h : H4 Pg) (l : List Ver) (hl : l.length < 2 ^ 60) : K' Pg 4 [eChain l] = some (.bool (chainRight l)) := by
  obtain ⟨h, h5', h6'⟩ := h
  refine K'_code h rfl ?_
  have k5 := fun x => K5 h5' x
  have k6 := fun x y => K6 h6' x y
  simp only [eVer, eStamp] at k5 k6
  simp only [go_sem, eChain]
  refine wpc_i (fun hc => ?_) (fun hc => ?_)
  · have hc : ¬ l.length ≤ 64 := by have := of_decide_eq_true hc; omega
    simp only [go_sem, chainRight, hc, decide_false]
  · have hc : l.length ≤ 64 := by have := of_decide_eq_false hc; omega
    have hcr : chainRight l = chR none l := by simp [chainRight, hc]
    simp only [go_sem, eChain]
    unfold l4_0
    refine wp_lp (fun (i : Nat) S => i ≤ l.length ∧ S.ρ 0 = eChain l ∧ S.ρ 3 = iz i ∧ chR (prevAt l i) (l.drop i) = chR none l) (fun i => l.length - i) 0 ?_ ?_
    · simp [go_sem, eChain, prevAt]
    · intro i S ⟨hi, h0, h3, ho⟩
      simp only [go_sem, h0, h3, eChain]
      refine wpc_i (fun h => ?_) (fun h => ?_)
      · simp only [decide_eq_true_eq, Int.ofNat_lt] at h
        obtain ⟨x, hx, hd⟩ := drop_at h
        have hnext : prevAt l (i + 1) = some x := by simp [prevAt, hx]
        have hinc : IntKind.i64.wrap ((i : Int) + 1) = ((i + 1 : Nat) : Int) := wrap64 (by omega) (by omega)
        have hbad : verRight x = false → chR none l = false := fun h => by rw [← ho, hd]; simp [chR, h]
        simp only [go_sem, h0, h3, hx, eChain, k5]
        refine wpc_i (fun hv => ?_) (fun hv => ?_)
        · have hv : verRight x = false := by simpa using hv
          simp only [go_sem, hcr, hbad hv]
        · have hv : verRight x = true := by simpa using hv
          simp only [go_sem, h0, h3, eChain]
          refine wrg_it (fun hz => ?_) (fun hz => ?_)
          · have hz' : 0 < i := by have := of_decide_eq_true hz; omega
            have hdec : IntKind.i64.wrap ((i : Int) - 1) = ((i - 1 : Nat) : Int) := by rw [wrap64 (by omega) (by omega)]; omega
            have hy : l[i - 1]? = some l[i - 1] := by simp
            have hp : prevAt l i = some l[i - 1] := by simp [prevAt, Nat.ne_of_gt hz']
            simp only [go_sem, h0, h3, hx, eChain, hz, hdec, hy, k6]
            refine wpc_i (fun hc => ?_) (fun hc => ?_)
            · have hb : ¬ stampCmp l[i - 1].at_ x.at_ < 0 := by simpa [before] using hc
              have : chR none l = false := by rw [← ho, hd, chR_cons hv, hp]; simp [okPrev, hb]
              simp only [go_sem, hcr, this]
            · have hb : stampCmp l[i - 1].at_ x.at_ < 0 := by simpa [before] using hc
              simp only [go_sem, h0, h3, eChain]
              refine ⟨i + 1, by omega, by omega, by rw [hinc], ?_⟩
              rw [hnext, ← ho, hd, chR_cons hv, hp]; simp [okPrev, hb]
          · have hz' : i = 0 := by have := of_decide_eq_false hz; omega
            simp only [go_sem, h0, h3, hx, eChain, hz]
            refine ⟨i + 1, by omega, by omega, by rw [hinc], ?_⟩
            rw [hnext, ← ho, hd, chR_cons hv]; simp [okPrev, prevAt, hz']
      · simp only [decide_eq_false_iff_not, Int.ofNat_lt] at h
        have : i = l.length := by omega
        subst this
        simp [chR] at ho
        simp only [go_sem, hcr, ho]

def eqV8 (a b : List Ver) : Bool := decide (a = b)
def H8 (Pg : Nat → Option Fn) : Prop := Pg 8 = some (.code F8)
theorem K8 (h : H8 Pg) (a b : List Ver) (hl : a.length < 2 ^ 60) : K' Pg 8 [eChain a, eChain b] = some (.bool (decide (a = b))) := by
  refine K'_code h rfl ?_
  simp only [go_sem, eChain]
  refine wpc_i (fun hc => ?_) (fun hc => ?_)
  · have hc : ¬ a.length = b.length := by intro e; simp [e] at hc
    have : a ≠ b := fun e => hc (by rw [e])
    simp only [go_sem, this, decide_false]
  · have hc : a.length = b.length := by simp at hc; omega
    simp only [go_sem, eChain]
    unfold l8_0
    refine wp_lp (fun (i : Nat) S => i ≤ a.length ∧ S.ρ 0 = eChain a ∧ S.ρ 1 = eChain b ∧ S.ρ 5 = iz i ∧ a.take i = b.take i) (fun i => a.length - i) 0 ?_ ?_
    · simp [go_sem, eChain]
    · intro i S ⟨hi, h0, h1, h5, ho⟩
      simp only [go_sem, h0, h1, h5, eChain]
      refine wpc_i (fun h => ?_) (fun h => ?_)
      · simp only [decide_eq_true_eq, Int.ofNat_lt] at h
        obtain ⟨x, hx, hd⟩ := drop_at h
        obtain ⟨y, hy, hd'⟩ := drop_at (l := b) (i := i) (by omega)
        have hinc : IntKind.i64.wrap ((i : Int) + 1) = ((i + 1 : Nat) : Int) := wrap64 (by omega) (by omega)
        simp only [go_sem, h0, h1, h5, hx, hy, eChain]
        have heq : (decide (x.at_.wall = y.at_.wall) && (decide (x.at_.tick = y.at_.tick) && (decide (x.at_.node = y.at_.node) && ((x.gone == y.gone) && decide (x.val = y.val))))) = decide (x = y) := by
          cases x; cases y; rename_i a1 _ _ a2 _ _; cases a1; cases a2
          simp only [Ver.mk.injEq, Stamp.mk.injEq, Bool.decide_and]
          simp [and_assoc, Bool.and_assoc, Bool.beq_eq_decide_eq]
        simp only [heq]
        refine wpc_i (fun hc => ?_) (fun hc => ?_)
        · have hne : x ≠ y := by simpa using hc
          have : a ≠ b := fun e => hne (by subst e; rw [hx] at hy; simpa using hy)
          simp only [go_sem, this, decide_false]
        · have he : x = y := by simpa using hc
          simp only [go_sem, h0, h1, h5, eChain]
          refine ⟨i + 1, by omega, by omega, by rw [hinc], ?_⟩
          rw [List.take_add_one, List.take_add_one, hx, hy, ho, he]
      · simp only [decide_eq_false_iff_not, Int.ofNat_lt] at h
        have : i = a.length := by omega
        subst this
        have : a = b := by rw [List.take_length, hc, List.take_length] at ho; exact ho
        simp only [go_sem, this, decide_true]
end Sg
