/- The other laws of the chain: what they answer. -/
import Derived.Test.YtmjljioejabmiaaSkLaw07
namespace Sg
open _root_.Go (IntKind BinOp UnOp)
set_option linter.unusedSimpArgs false
set_option linter.unusedVariables false
variable {Pg : Nat → Option Fn}

theorem chR_mem : ∀ {l : List Ver} {p : Option Ver} {v : Ver}, chR p l = true → v ∈ l → verRight v = true
  | [], _, _, _, h => by simp at h
  | w :: l, p, v, h, hv => by
    simp only [chR, Bool.and_eq_true] at h
    rcases List.mem_cons.1 hv with rfl | hv
    · exact h.1.1
    · exact chR_mem h.2 hv
theorem gone_val {v : Ver} (h : verRight v = true) (hg : v.gone = true) : v.val = [] := by
  simp [verRight, hg] at h; exact h.2
theorem atC_right {s : Stamp} {l : List Ver} {v : Ver} (h : atC s l = some v) : verRight v = true := by
  simp only [atC] at h
  split at h
  · rename_i hr
    split at h
    · simp at h
    · exact chR_mem (right_chR hr).1 (List.mem_of_getElem? h)
  · simp at h
theorem valC_getD {s : Stamp} {l : List Ver} : (valC s l).getD [] = (match atC s l with | some v => v.val | none => []) := by
  simp only [valC]
  cases h : atC s l with
  | none => rfl
  | some v =>
    cases hg : v.gone with
    | true => simp [hg, gone_val (atC_right h) hg]
    | false => simp [hg]
theorem valC_isSome {s : Stamp} {l : List Ver} : (valC s l).isSome = (match atC s l with | some v => !v.gone | none => false) := by
  simp only [valC]
  cases h : atC s l with
  | none => rfl
  | some v => cases hg : v.gone <;> simp [hg]
/-- chain.Value in the document's words -/
theorem K12' (h : H12 Pg) (l : List Ver) (s : Stamp) (hl : l.length < 2 ^ 60) : K' Pg 12 [eChain l, .agg (eStamp s)] = some (.tuple [.str ((valC s l).getD []), .bool (valC s l).isSome]) := by
  rw [K12 h l s hl, valC_getD, valC_isSome]
  cases atC s l <;> rfl

def H9 (Pg : Nat → Option Fn) : Prop := Pg 9 = some (.code F9) ∧ H2 Pg ∧ H10 Pg ∧ H11 Pg ∧ H12 Pg ∧ H13 Pg
theorem K9 (h : H9 Pg) (l : List Ver) (s : Stamp) : K' Pg 9 [eChain l, .agg (eStamp s)] = some (.bool true) := by
  obtain ⟨h, h2, h10, h11, h12, h13⟩ := h
  refine K'_code h rfl ?_
  have k2 := K2 h2
  by_cases hc : l.length ≤ 100
  · have hgt : decide ((100 : Int) < (l.length : Int)) = false := by simp; omega
    have k10 := K10 h10 l s (by omega)
    have k11 := K11 h11 l s (by omega)
    have k12 := K12' h12 l s (by omega)
    have k13 := K13 h13 l s (by omega)
    simp only [eChain, eStamp, eOV, eVer] at k10 k11 k12 k13
    simp only [go_sem, eChain, hgt, k2, k10, k11, k12, k13]
  · have hgt : decide ((100 : Int) < (l.length : Int)) = true := by simp; omega
    simp only [go_sem, eChain, hgt, k2]

theorem chR_app {v : Ver} : ∀ {l : List Ver} {p : Option Ver}, chR p l = true → verRight v = true → okPrev (l.getLast?.or p) v = true → chR p (l ++ [v]) = true
  | [], p, _, hv, h => by simp at h; simp [chR_cons hv, h, chR]
  | w :: l, p, hl, hv, h => by
    have hw := chR_mem hl (List.mem_cons_self ..)
    rw [List.cons_append, chR_cons hw]
    rw [chR_cons hw] at hl
    simp only [Bool.and_eq_true] at hl ⊢
    refine ⟨hl.1, chR_app hl.2 hv ?_⟩
    cases l with
    | nil => simpa using h
    | cons a l => simpa [List.getLast?_cons] using h

theorem addC_ok {l : List Ver} {v : Ver} (h : (addC l v).2 = 0) : addC l v = (l ++ [v], 0) ∧ chainRight l = true ∧ verRight v = true ∧ chainRight (l ++ [v]) = true := by
  cases h1 : chainRight l with
  | false => simp [addC, h1] at h
  | true =>
  cases h1' : verRight v with
  | false => simp [addC, h1'] at h
  | true =>
  have hr := right_chR h1
  cases hg : l.getLast? with
  | none =>
    have : l = [] := by simpa using hg
    subst this
    exact ⟨by simp [addC, h1, h1'], rfl, rfl, by simp [chainRight, chR, h1']⟩
  | some q =>
    simp only [addC, h1, h1', hg] at h ⊢
    by_cases h2 : 0 ≤ stampCmp q.at_ v.at_
    · simp [h2] at h
    · by_cases h3 : l.length = 64
      · simp [h2, h3] at h
      · refine ⟨by simp [h2, h3], trivial, trivial, ?_⟩
        simp only [chainRight, Bool.and_eq_true, decide_eq_true_eq, List.length_append, List.length_singleton]
        exact ⟨chR_app hr.1 h1' (by rw [hg]; simp [okPrev]; omega), by omega⟩

theorem upC_all {s : Stamp} {v : Ver} (hs : stampCmp v.at_ s ≤ 0) : ∀ {l : List Ver} {p : Option Ver}, chR p (l ++ [v]) = true → upC s (l ++ [v]) = l.length + 1
  | [], p, _ => by simp [upC, hs]
  | w :: l, p, h => by
    have h1 := chR_tail h
    have h2 := chR_lt h1 (v := v) (by simp)
    have : stampCmp w.at_ s ≤ 0 := by
      have h3 : stampCmp v.at_ s < 0 ∨ stampCmp v.at_ s = 0 := by omega
      have h4 : stampCmp w.at_ s < 0 := by
        rw [cmp_lt, cmp_eq] at h3
        rw [cmp_lt] at h2 ⊢
        omega
      omega
    simp [upC, this, upC_all hs h1]
theorem upC_app {s : Stamp} {v : Ver} (hs : ¬ stampCmp v.at_ s ≤ 0) : ∀ {l : List Ver}, upC s (l ++ [v]) = upC s l
  | [] => by simp [upC, hs]
  | w :: l => by simp [upC, upC_app hs]

theorem cmp_neg {a b : Stamp} : 0 ≤ stampCmp a b ↔ stampCmp b a ≤ 0 := by
  have h1 := @cmp_lt a b
  have h2 := @cmp_gt b a
  have : stampCmp a b < 0 ↔ 0 < stampCmp b a := by rw [h1, h2]
  omega

def H14 (Pg : Nat → Option Fn) : Prop := Pg 14 = some (.code F14) ∧ H2 Pg ∧ H3 Pg ∧ H12 Pg ∧ H15 Pg ∧ H7 Pg
theorem K14 (h : H14 Pg) (l : List Ver) (v : Ver) (s : Stamp) : K' Pg 14 [eChain l, .agg (eVer v), .agg (eStamp s)] = some (.bool true) := by
  obtain ⟨h, h2, h3, h12, h15, h7⟩ := h
  refine K'_code h rfl ?_
  have k2 := K2 h2
  by_cases hc : l.length ≤ 100
  · have hgt : decide ((100 : Int) < (l.length : Int)) = false := by simp; omega
    have k3 := K3 h3 l v (by omega)
    have k12 := fun (d : List Ver) (hd : d.length ≤ 101) => K12' h12 d s (by omega)
    have k15 := K15 h15 s v.at_
    have k7 := fun (d : List Ver) (hd : d.length ≤ 101) => K7 h7 d (by omega)
    simp only [eChain, eStamp, eOV, eVer] at k3 k12 k15 k7
    by_cases he : (addC l v).2 = 0
    · obtain ⟨ha, hr, hv, hra⟩ := addC_ok he
      rw [ha] at k3
      have k12a := k12 (l ++ [v]) (by simp; omega)
      have k12b := k12 l (by omega)
      have k7a := k7 (l ++ [v]) (by simp; omega)
      simp only [go_sem, eChain, hgt, k2, k3, k12a, k15]
      refine wpc_i (fun hs => ?_) (fun hs => ?_)
      · have hs := cmp_neg.1 (of_decide_eq_true hs)
        have hu := upC_all hs (right_chR hra).1
        have hat : atC s (l ++ [v]) = some v := by simp [atC, hra, hu]
        have e1 : (valC s (l ++ [v])).getD [] = v.val := by rw [valC_getD, hat]
        have e2 : (valC s (l ++ [v])).isSome = !v.gone := by rw [valC_isSome, hat]
        simp only [go_sem, eChain, e1, e2, k7a, hra, k2]
      · have hs' := of_decide_eq_false hs
        have hs : ¬ stampCmp v.at_ s ≤ 0 := fun e => hs' (cmp_neg.2 e)
        have hu := upC_app hs (l := l)
        have hle := upC_le s l
        have hat : atC s (l ++ [v]) = atC s l := by
          simp only [atC, hra, hr, if_true, hu]
          split
          · rfl
          · rw [List.getElem?_append_left (by omega)]
        have e1 : valC s (l ++ [v]) = valC s l := by simp only [valC, hat]
        simp only [go_sem, eChain, e1, k12b, k2]
    · have ha : (addC l v).1 = [] := by
        simp only [addC] at he ⊢
        repeat' split
        all_goals simp_all
      have h0 : decide ((addC l v).2 = 0) = false := by simp [he]
      rw [ha] at k3
      simp only [go_sem, eChain, hgt, k2, k3, h0]
  · have hgt : decide ((100 : Int) < (l.length : Int)) = true := by simp; omega
    simp only [go_sem, eChain, hgt, k2]

theorem filter_drop {α : Type} {p : α → Bool} : ∀ {l : List α} {n : Nat}, (∀ i x, l[i]? = some x → p x = decide (n ≤ i)) → l.filter p = l.drop n
  | [], n, _ => by simp
  | x :: l, 0, h => by
    rw [List.drop_zero, List.filter_eq_self]
    intro a ha
    obtain ⟨i, hi⟩ := List.mem_iff_getElem?.1 ha
    simpa using h i a hi
  | x :: l, n + 1, h => by
    have h0 := h 0 x rfl
    simp only [List.filter_cons, h0, List.drop_succ_cons]
    exact filter_drop (fun i y hy => by rw [h (i + 1) y (by simpa using hy)]; simp)

theorem prune_filter {l : List Ver} {s : Stamp} (hr : chainRight l = true) : l.filter (keepR (atC s l)) = pruneC s l := by
  have hc := (right_chR hr).1
  have hle := upC_le s l
  simp only [pruneC, hr, if_true]
  refine filter_drop fun i x hx => ?_
  have hil : i < l.length := by
    rcases Nat.lt_or_ge i l.length with h | h
    · exact h
    · rw [List.getElem?_eq_none h] at hx; simp at hx
  by_cases hu : upC s l = 0
  · simp [atC, hr, hu, keepR, pruneN]
  · have hv : l[upC s l - 1]? = some l[upC s l - 1] := by simp
    have hat : atC s l = some l[upC s l - 1] := by simp [atC, hr, hu]
    rw [hat]
    generalize l[upC s l - 1] = v at hv
    simp only [keepR, pruneN, hu, if_false, hv]
    rcases Nat.lt_trichotomy i (upC s l - 1) with h | h | h
    · have := chR_get hc h hx hv
      have hn : ¬ (if v.gone = true then upC s l else upC s l - 1) ≤ i := by split <;> omega
      simp [before, this, hn]
    · subst h
      rw [hx] at hv
      have hv : x = v := by simpa using hv
      subst hv
      have h0 : stampCmp x.at_ x.at_ = 0 := by rw [cmp_eq]; simp
      cases hg : x.gone with
      | true => simp [before, h0, hg]; omega
      | false => simp [before, h0, hg]
    · have := chR_get hc h hv hx
      have h1 : ¬ stampCmp x.at_ v.at_ < 0 := by rw [cmp_lt] at this ⊢; omega
      have h2 : ¬ x.at_ = v.at_ := fun e => by
        rw [e] at this
        have : stampCmp v.at_ v.at_ = 0 := by rw [cmp_eq]; simp
        omega
      have hn : (if v.gone = true then upC s l else upC s l - 1) ≤ i := by split <;> omega
      simp [before, h1, h2, hn]

def H16 (Pg : Nat → Option Fn) : Prop := Pg 16 = some (.code F16) ∧ H2 Pg ∧ H17 Pg ∧ H4 Pg ∧ H18 Pg ∧ H8 Pg
theorem K16 (h : H16 Pg) (l : List Ver) (s : Stamp) : K' Pg 16 [eChain l, .agg (eStamp s)] = some (.bool true) := by
  obtain ⟨h, h2, h17, h4, h18, h8⟩ := h
  refine K'_code h rfl ?_
  have k2 := K2 h2
  by_cases hc : l.length ≤ 100
  · have hgt : decide ((100 : Int) < (l.length : Int)) = false := by simp; omega
    have k17 := K17 h17 l s (by omega)
    have k4 := K4 h4 l (by omega)
    have k18 := K18 h18 l s hc
    have hlen : (pruneC s l).length < 2 ^ 60 := by
      simp only [pruneC]; split
      · simp; omega
      · simp
    have k8 := K8 h8 (pruneC s l) (pruneC s l) hlen
    cases hr : chainRight l with
    | false =>
      have hp : pruneC s l = [] := by simp [pruneC, hr]
      rw [hp] at k17
      simp only [eChain, eStamp, eOV, eVer] at k17 k4 k8
      simp only [go_sem, eChain, hgt, k2, k17, k4, hr]
    | true =>
      rw [prune_filter hr] at k18
      simp only [eChain, eStamp, eOV, eVer] at k17 k4 k8 k18
      simp only [go_sem, eChain, hgt, k2, k17, k4, k8, k18, hr]
  · have hgt : decide ((100 : Int) < (l.length : Int)) = true := by simp; omega
    simp only [go_sem, eChain, hgt, k2]

theorem upC_drop {m : Stamp} : ∀ {n : Nat} {l : List Ver} {p : Option Ver}, chR p l = true → upC m (l.drop n) = upC m l - n
  | 0, l, p, _ => by simp
  | n + 1, [], p, _ => by simp [upC]
  | n + 1, v :: l, p, h => by
    have h1 := chR_tail h
    rw [List.drop_succ_cons, upC_drop h1]
    simp only [upC]
    split
    · omega
    · rename_i hm
      cases l with
      | nil => simp [upC]
      | cons w l =>
        have h2 := chR_lt h1 (List.mem_cons_self ..)
        have : ¬ stampCmp w.at_ m ≤ 0 := by
          intro e
          have h3 : stampCmp w.at_ m < 0 ∨ stampCmp w.at_ m = 0 := by omega
          have h4 : 0 < stampCmp v.at_ m := by omega
          rw [cmp_lt, cmp_eq] at h3
          rw [cmp_lt] at h2
          rw [cmp_gt] at h4
          omega
        simp [upC, this]
theorem chR_drop : ∀ {n : Nat} {l : List Ver} {p : Option Ver}, chR p l = true → chR none (l.drop n) = true
  | 0, [], p, _ => rfl
  | 0, v :: l, p, h => by
    have hv := chR_mem h (List.mem_cons_self ..)
    rw [List.drop_zero, chR_cons hv]; rw [chR_cons hv] at h
    simp only [Bool.and_eq_true] at h
    simp [okPrev, h.2]
  | n + 1, [], p, _ => by simp [chR]
  | n + 1, v :: l, p, h => by rw [List.drop_succ_cons]; exact chR_drop (chR_tail h)
theorem right_drop {l : List Ver} {n : Nat} (h : chainRight l = true) : chainRight (l.drop n) = true := by
  have := right_chR h
  simp only [chainRight, Bool.and_eq_true, decide_eq_true_eq]
  exact ⟨chR_drop this.1, by simp; omega⟩
theorem upC_mono {a b : Stamp} (h : stampCmp a b ≤ 0) : ∀ {l : List Ver}, upC a l ≤ upC b l
  | [] => by simp [upC]
  | v :: l => by
    have := upC_mono h (l := l)
    simp only [upC]
    split
    · rename_i h1
      have : stampCmp v.at_ b ≤ 0 := by
        have e1 : stampCmp v.at_ a < 0 ∨ stampCmp v.at_ a = 0 := by omega
        have e2 : stampCmp a b < 0 ∨ stampCmp a b = 0 := by omega
        have e3 : stampCmp v.at_ b < 0 ∨ stampCmp v.at_ b = 0 := by
          rw [cmp_lt, cmp_eq] at *
          omega
        omega
      simp [this]; omega
    · omega
theorem pruneN_le {m : Stamp} {l : List Ver} : pruneN m l ≤ upC m l := by
  simp only [pruneN]
  repeat' split
  all_goals omega
theorem pruneN_ge {m : Stamp} {l : List Ver} : upC m l - 1 ≤ pruneN m l := by
  simp only [pruneN]
  split
  · omega
  · have hle := upC_le m l
    have : l[upC m l - 1]? = some (l[upC m l - 1]'(by omega)) := by simp
    rw [this]
    simp only
    split <;> omega
theorem prune_val {l : List Ver} {m s : Stamp} (hr : chainRight l = true) (hs : stampCmp m s ≤ 0) : valC s (pruneC m l) = valC s l := by
  have hc := (right_chR hr).1
  have hn := @pruneN_le m l
  have hn' := @pruneN_ge m l
  have hm := upC_mono hs (l := l)
  have hle := upC_le s l
  simp only [pruneC, hr, if_true, valC]
  simp only [atC, right_drop hr, hr, if_true, upC_drop hc]
  by_cases h : upC s l - pruneN m l = 0
  · by_cases h0 : upC s l = 0
    · simp [h0]
    · have e1 : upC m l = upC s l := by omega
      have e2 : pruneN m l = upC s l := by omega
      have hx : l[upC s l - 1]? = some (l[upC s l - 1]'(by omega)) := by simp
      simp only [e2, Nat.sub_self, if_true, h0, if_false]
      simp only [pruneN, e1, h0, if_false] at e2
      rw [hx] at e2 ⊢
      simp only at e2 ⊢
      split at e2
      · rename_i hg; simp [hg]
      · omega
  · have h0 : upC s l ≠ 0 := by omega
    simp only [h, h0, if_false, List.getElem?_drop]
    have : pruneN m l + (upC s l - pruneN m l - 1) = upC s l - 1 := by omega
    rw [this]

def H19 (Pg : Nat → Option Fn) : Prop := Pg 19 = some (.code F19) ∧ H2 Pg ∧ H7 Pg ∧ H15 Pg ∧ H17 Pg ∧ H12 Pg
theorem K19 (h : H19 Pg) (l : List Ver) (m s : Stamp) : K' Pg 19 [eChain l, .agg (eStamp m), .agg (eStamp s)] = some (.bool true) := by
  obtain ⟨h, h2, h7, h15, h17, h12⟩ := h
  refine K'_code h rfl ?_
  have k2 := K2 h2
  by_cases hc : l.length ≤ 100
  · have hgt : decide ((100 : Int) < (l.length : Int)) = false := by simp; omega
    have hpl : (pruneC m l).length ≤ l.length := by
      simp only [pruneC]; split <;> simp
    have k7 := K7 h7 l (by omega)
    have k7' := K7 h7 (pruneC m l) (by omega)
    have k15 := K15 h15 s m
    have k17 := K17 h17 l m (by omega)
    have k12 := K12' h12 l s (by omega)
    have k12' := K12' h12 (pruneC m l) s (by omega)
    simp only [eChain, eStamp, eOV, eVer] at k7 k7' k15 k17 k12 k12'
    cases hr : chainRight l with
    | false => simp only [go_sem, eChain, hgt, k2, k7, hr]
    | true =>
      have hrp : chainRight (pruneC m l) = true := by simp only [pruneC, hr, if_true]; exact right_drop hr
      rw [hrp] at k7'
      have hd : decide (((pruneC m l).length : Int) ≤ (l.length : Int)) = true := by simp; omega
      simp only [go_sem, eChain, hgt, k2, k7, hr, k15]
      refine wpc_i (fun hs => ?_) (fun hs => ?_)
      · simp only [go_sem, k2]
      · have hs := of_decide_eq_false hs
        have hv := prune_val (m := m) (s := s) hr (cmp_neg.1 (by omega))
        rw [hv] at k12'
        simp only [go_sem, eChain, k2, k17, k12, k12', k7', hd]
  · have hgt : decide ((100 : Int) < (l.length : Int)) = true := by simp; omega
    simp only [go_sem, eChain, hgt, k2]

theorem prune_prune {l : List Ver} {a b : Stamp} (hr : chainRight l = true) : pruneC b (pruneC a l) = l.drop (max (pruneN a l) (pruneN b l)) := by
  have hc := (right_chR hr).1
  have e : pruneC b (pruneC a l) = l.drop (pruneN a l + pruneN b (l.drop (pruneN a l))) := by
    simp only [pruneC, hr, if_true, right_drop hr, List.drop_drop]
  rw [e]
  congr 1
  have hb := @pruneN_le b l
  have hb' := @pruneN_ge b l
  have hle := upC_le b l
  simp only [pruneN.eq_1 b (l.drop _), upC_drop hc, List.getElem?_drop]
  generalize pruneN a l = na
  by_cases h : upC b l - na = 0
  · simp only [h, if_true]; omega
  · simp only [h, if_false]
    have h0 : upC b l ≠ 0 := by omega
    have e1 : na + (upC b l - na - 1) = upC b l - 1 := by omega
    rw [e1]
    have hx : l[upC b l - 1]? = some (l[upC b l - 1]'(by omega)) := by simp
    have e2 : pruneN b l = if (l[upC b l - 1]'(by omega)).gone then upC b l else upC b l - 1 := by
      simp only [pruneN, h0, if_false, hx]
    rw [hx, e2]
    simp only
    split <;> omega
theorem pruneN_mono {l : List Ver} {a b : Stamp} (h : stampCmp a b ≤ 0) : pruneN a l ≤ pruneN b l := by
  have := upC_mono h (l := l)
  have h1 := @pruneN_le a l
  have h2 := @pruneN_ge b l
  by_cases e : upC a l = upC b l
  · simp [pruneN, e]
  · omega
theorem prune_later {l : List Ver} {a b : Stamp} (hr : chainRight l = true) : pruneC (later a b) l = l.drop (max (pruneN a l) (pruneN b l)) := by
  simp only [pruneC, hr, if_true, later]
  congr 1
  split
  · have := pruneN_mono (a := a) (b := b) (l := l) (by omega); omega
  · have := pruneN_mono (a := b) (b := a) (l := l) (cmp_neg.1 (by omega)); omega

def H20 (Pg : Nat → Option Fn) : Prop := Pg 20 = some (.code F20) ∧ H2 Pg ∧ H7 Pg ∧ H17 Pg ∧ H21 Pg ∧ H8 Pg
theorem K20 (h : H20 Pg) (l : List Ver) (a b : Stamp) : K' Pg 20 [eChain l, .agg (eStamp a), .agg (eStamp b)] = some (.bool true) := by
  obtain ⟨h, h2, h7, h17, h21, h8⟩ := h
  refine K'_code h rfl ?_
  have k2 := K2 h2
  by_cases hc : l.length ≤ 100
  · have hgt : decide ((100 : Int) < (l.length : Int)) = false := by simp; omega
    have hpl : ∀ m (d : List Ver), (pruneC m d).length ≤ d.length := fun m d => by
      simp only [pruneC]; split <;> simp
    have k7 := K7 h7 l (by omega)
    have k17a := K17 h17 l a (by omega)
    have k17b := K17 h17 l b (by omega)
    have k17ab := K17 h17 (pruneC a l) b (by have := hpl a l; omega)
    have k17ba := K17 h17 (pruneC b l) a (by have := hpl b l; omega)
    have k17l := K17 h17 l (later a b) (by omega)
    have k21 := K21 h21 a b
    cases hr : chainRight l with
    | false =>
      simp only [eChain, eStamp, eOV, eVer] at k7
      simp only [go_sem, eChain, hgt, k2, k7, hr]
    | true =>
      rw [prune_prune hr] at k17ab k17ba
      rw [prune_later hr] at k17l
      rw [Nat.max_comm] at k17ba
      have k8 := K8 h8 (l.drop (max (pruneN a l) (pruneN b l))) (l.drop (max (pruneN a l) (pruneN b l))) (by simp; omega)
      simp only [eChain, eStamp, eOV, eVer] at k7 k17a k17b k17ab k17ba k17l k21 k8
      simp only [go_sem, eChain, hgt, k2, k7, hr, k17a, k17b, k17ab, k17ba, k17l, k21, k8]
  · have hgt : decide ((100 : Int) < (l.length : Int)) = true := by simp; omega
    simp only [go_sem, eChain, hgt, k2]
end Sg
