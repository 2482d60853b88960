/- The laws of the tables of what clients asked last. -/
import Derived.Test.YtnippnihhppchaaSkDedup5
namespace Sg
open _root_.Go (IntKind BinOp UnOp)
set_option linter.unusedSimpArgs false
set_option linter.unusedVariables false
set_option maxRecDepth 10000
variable {Pg : Nat → Option Fn}

def H79 (Pg : Nat → Option Fn) : Prop := Pg 79 = some (.code F79) ∧ H88 Pg ∧ H82 Pg
theorem K79 (h : H79 Pg) : K' Pg 79 [] = some (.bool true) := by
  obtain ⟨h, h88, h82⟩ := h
  refine K'_code h rfl ?_
  have k88 := K88 h88 [] ⟨3, 5, zeroDone.ans⟩ (by simp)
  have e1 : putT [] ⟨3, 5, zeroDone.ans⟩ = ([⟨3, 5, zeroDone.ans⟩], 0) := by decide
  rw [e1] at k88
  have k6 := K82 h82 [⟨3, 5, zeroDone.ans⟩] 3 6 (by simp)
  have k5 := K82 h82 [⟨3, 5, zeroDone.ans⟩] 3 5 (by simp)
  have k4 := K82 h82 [⟨3, 5, zeroDone.ans⟩] 3 4 (by simp)
  have j6 : judgeT [⟨3, 5, zeroDone.ans⟩] 3 6 = 1 := by decide
  have j5 : judgeT [⟨3, 5, zeroDone.ans⟩] 3 5 = 2 := by decide
  have j4 : judgeT [⟨3, 5, zeroDone.ans⟩] 3 4 = 3 := by decide
  rw [j6] at k6
  rw [j5] at k5
  rw [j4] at k4
  have one : decide (((1 : Nat) : Int) = 1) = true := rfl
  simp only [eTE, eDones, eDone, eItems, zeroDone, List.map_cons, List.map_nil] at k88 k6 k5 k4
  simp only [go_sem, k88, k6, k5, k4, one]

theorem small_len {t : List Done} (h : smallT t = true) : t.length ≤ 40 ∧ ∀ d ∈ t, d.ans.items.length < 2 ^ 60 := by
  simp only [smallT, Bool.and_eq_true, decide_eq_true_eq, List.all_eq_true] at h
  exact ⟨h.1, fun d hd => by have := h.2 d hd; omega⟩

def H77 (Pg : Nat → Option Fn) : Prop := Pg 77 = some (.code F77) ∧ H78 Pg ∧ H79 Pg ∧ H80 Pg ∧ H81 Pg ∧ H82 Pg ∧ H83 Pg ∧ H84 Pg ∧ H85 Pg ∧ H86 Pg
theorem K77 (h : H77 Pg) (t : List Done) (c r : Int) : K' Pg 77 [eDones t, iz c, iz r] = some (.bool true) := by
  obtain ⟨h, h78, h79, h80, h81, h82, h83, h84, h85, h86⟩ := h
  have k78 := K78 h78 t
  have k79 := K79 h79
  simp only [eDones] at k78
  refine K'_code h rfl ?_
  cases hs : smallT t with
  | false => simp only [go_sem, k78, hs, k79]
  | true =>
    obtain ⟨hl, hi⟩ := small_len hs
    have k80 := K80 h80 t (by omega)
    have k81 := K81 h81 t (by omega)
    have k82 := K82 h82 t c r (by omega)
    have k83 := K83 h83 t c r (by omega)
    have k84 := K84 h84 t c (by omega)
    have k85 := K85 h85 t c (by omega)
    have kz := K86 h86 [zeroDone] (by simp) (fun d hd => by have : d = zeroDone := by simpa using hd
                                                            subst this; simp [zeroDone])
    simp only [eDones, eOD] at k80 k81 k82 k83 k84 k85
    simp only [eDones, eDone, eItems, List.map_cons, List.map_nil, zeroDone] at kz
    cases hr : rightT t with
    | false =>
      simp only [toldT, hr, Bool.false_eq_true, if_false, Option.getD_none, Option.isSome_none, eDone, eItems, zeroDone, List.map_nil] at k84
      cases hw : doneAt t c with
      | none =>
        simp only [hw, Option.getD_none, Option.isSome_none, eDone, eItems, zeroDone, List.map_nil] at k85
        simp only [go_sem, k78, hs, k79, k80, k81, k82, k83, k84, k85, kz, hr]
      | some d =>
        simp only [hw, Option.getD_some, Option.isSome_some, eDone, eItems] at k85
        simp only [go_sem, k78, hs, k79, k80, k81, k82, k83, k84, k85, kz, hr]
    | true =>
      simp only [toldT, hr, if_true] at k84
      cases hw : doneAt t c with
      | none =>
        simp only [hw, Option.getD_none, Option.isSome_none, eDone, eItems, zeroDone, List.map_nil] at k84 k85
        simp only [go_sem, k78, hs, k79, k80, k81, k82, k83, k84, k85, kz, hr]
      | some d =>
        have kd := K86 h86 [d] (by simp) (fun x hx => by have : x = d := by simpa using hx
                                                         subst this; exact hi x (rowT_some hw).2)
        simp only [hw, Option.getD_some, Option.isSome_some, eDone, eItems] at k84 k85
        simp only [eDones, eDone, eItems, List.map_cons, List.map_nil] at kd
        simp only [go_sem, k78, hs, k79, k80, k81, k82, k83, k84, k85, kd, hr]

theorem ins_mem {d : Done} : ∀ {t : List Done} {x : Done}, x ∈ insD t d → x = d ∨ x ∈ t
  | [], x, h => by simp [insD] at h; exact .inl h
  | a :: l, x, h => by
    simp only [insD] at h
    split at h
    · rcases List.mem_cons.1 h with h | h
      · exact .inl h
      · exact .inr h
    · split at h
      · rcases List.mem_cons.1 h with h | h
        · exact .inl h
        · exact .inr (List.mem_cons_of_mem _ h)
      · rcases List.mem_cons.1 h with h | h
        · exact .inr (by rw [h]; exact List.mem_cons_self ..)
        · exact (ins_mem h).imp id (List.mem_cons_of_mem _)
theorem put_small {t : List Done} {d : Done} (ht : ∀ d ∈ t, d.ans.items.length < 2 ^ 60) (hd : d.ans.items.length < 2 ^ 60) : (putT t d).1.length < 2 ^ 60 ∧ ∀ x ∈ (putT t d).1, x.ans.items.length < 2 ^ 60 := by
  by_cases h : rightT t = true ∧ rowR d = true
  · rw [put_eq_ins h.1 h.2]
    split
    · simp
    · split
      · simp
      · refine ⟨by simp only; omega, fun x hx => ?_⟩
        rcases ins_mem hx with e | hx
        · rw [e]; exact hd
        · exact ht x hx
  · have : putT t d = ([], 1) := by
      simp only [putT]
      rw [if_neg (by simpa [Bool.and_eq_true] using h)]
    rw [this]; simp

def H87 (Pg : Nat → Option Fn) : Prop := Pg 87 = some (.code F87) ∧ H78 Pg ∧ H79 Pg ∧ H88 Pg ∧ H89 Pg ∧ H86 Pg
theorem K87 (h : H87 Pg) (t : List Done) (d : Done) : K' Pg 87 [eDones t, .agg (eDone d)] = some (.bool true) := by
  obtain ⟨h, h78, h79, h88, h89, h86⟩ := h
  have k78 := K78 h78 t
  have k78d := K78 h78 [d]
  have k79 := K79 h79
  simp only [eDones, eDone, eItems, List.map_cons, List.map_nil] at k78 k78d
  refine K'_code h rfl ?_
  cases hs : smallT t with
  | false => simp only [go_sem, k78, hs, k79]
  | true =>
  cases hsd : smallT [d] with
  | false => simp only [go_sem, k78, hs, k78d, hsd, k79]
  | true =>
    obtain ⟨hl, hi⟩ := small_len hs
    obtain ⟨-, hid⟩ := small_len hsd
    have k88 := K88 h88 t d (by omega)
    have k89 := K89 h89 t d (by omega)
    have hp := put_small hi (hid d (by simp))
    have k86 := K86 h86 (putT t d).1 hp.1 hp.2
    generalize putT t d = x at k88 k89 k86
    obtain ⟨u, e⟩ := x
    simp only [eTE, eDones, eDone, eItems] at k88 k89 k86
    simp only [go_sem, k78, hs, k78d, hsd, k79, k88, k89, k86]

theorem merge_sub : ∀ {a b : List Done} {x : Done}, x ∈ mergeD a b → x ∈ a ∨ x ∈ b
  | [], b, x, h => by simp [mergeD] at h; exact .inr h
  | y :: a, [], x, h => by rw [merge_nil] at h; exact .inl h
  | y :: a, z :: b, x, h => by
    simp only [mergeD] at h
    split at h
    · rcases List.mem_cons.1 h with h | h
      · exact .inl (by rw [h]; exact List.mem_cons_self ..)
      · exact (merge_sub h).imp (List.mem_cons_of_mem _) id
    · split at h
      · rcases List.mem_cons.1 h with h | h
        · exact .inr (by rw [h]; exact List.mem_cons_self ..)
        · exact (merge_sub h).imp id (List.mem_cons_of_mem _)
      · split at h
        · rcases List.mem_cons.1 h with h | h
          · exact .inl (by rw [h]; exact List.mem_cons_self ..)
          · exact (merge_sub h).imp (List.mem_cons_of_mem _) (List.mem_cons_of_mem _)
        · rcases List.mem_cons.1 h with h | h
          · exact .inr (by rw [h]; exact List.mem_cons_self ..)
          · exact (merge_sub h).imp (List.mem_cons_of_mem _) (List.mem_cons_of_mem _)
  termination_by a b => a.length + b.length
theorem merge_small {a b : List Done} (ha : ∀ d ∈ a, d.ans.items.length < 2 ^ 60) (hb : ∀ d ∈ b, d.ans.items.length < 2 ^ 60) : (mergeT a b).1.length < 2 ^ 60 ∧ ∀ x ∈ (mergeT a b).1, x.ans.items.length < 2 ^ 60 := by
  simp only [mergeT]
  split
  · split
    · simp
    · refine ⟨by simp only; omega, fun x hx => (merge_sub hx).elim (ha x) (hb x)⟩
  · simp

def H90 (Pg : Nat → Option Fn) : Prop := Pg 90 = some (.code F90) ∧ H78 Pg ∧ H79 Pg ∧ H91 Pg ∧ H92 Pg ∧ H86 Pg
theorem K90 (h : H90 Pg) (a b : List Done) : K' Pg 90 [eDones a, eDones b] = some (.bool true) := by
  obtain ⟨h, h78, h79, h91, h92, h86⟩ := h
  have k78 := K78 h78 a
  have k78b := K78 h78 b
  have k79 := K79 h79
  simp only [eDones] at k78 k78b
  refine K'_code h rfl ?_
  cases hs : smallT a with
  | false => simp only [go_sem, k78, hs, k79]
  | true =>
  cases hsb : smallT b with
  | false => simp only [go_sem, k78, hs, k78b, hsb, k79]
  | true =>
    obtain ⟨hl, hi⟩ := small_len hs
    obtain ⟨hlb, hib⟩ := small_len hsb
    have k91 := K91 h91 a b (by omega) (by omega)
    have k92 := K92 h92 a b (by omega) (by omega)
    have hp := merge_small hi hib
    have k86 := K86 h86 (mergeT a b).1 hp.1 hp.2
    generalize mergeT a b = x at k91 k92 k86
    obtain ⟨u, e⟩ := x
    simp only [eTE, eDones] at k91 k92 k86
    simp only [go_sem, k78, hs, k78b, hsb, k79, k91, k92, k86]

theorem merge_self : ∀ (t : List Done), mergeD t t = t
  | [] => by simp [mergeD]
  | x :: t => by
    have h := merge_self t
    simp [mergeD, h]
def H94 (Pg : Nat → Option Fn) : Prop := Pg 94 = some (.code F94) ∧ H78 Pg ∧ H79 Pg ∧ H81 Pg ∧ H91 Pg ∧ H86 Pg
theorem K94 (h : H94 Pg) (t : List Done) : K' Pg 94 [eDones t] = some (.bool true) := by
  obtain ⟨h, h78, h79, h81, h91, h86⟩ := h
  have k78 := K78 h78 t
  have k79 := K79 h79
  simp only [eDones] at k78
  refine K'_code h rfl ?_
  cases hs : smallT t with
  | false => simp only [go_sem, k78, hs, k79]
  | true =>
    obtain ⟨hl, hi⟩ := small_len hs
    have k81 := K81 h81 t (by omega)
    simp only [eDones] at k81
    cases hr : rightT t with
    | false => simp only [go_sem, k78, hs, k79, k81, hr]
    | true =>
      obtain ⟨hrt, h8⟩ := right_rt hr
      have k1 := K91 h91 t t (by omega) (by omega)
      have k2 := K91 h91 t [] (by omega) (by simp)
      have k3 := K91 h91 [] t (by simp) (by omega)
      have k86 := K86 h86 t (by omega) hi
      have r0 : rightT [] = true := by decide
      have n8 : ¬ 8 < t.length := by omega
      have e1 : mergeT t t = (t, 0) := by simp [mergeT, hr, merge_self, n8]
      have e2 : mergeT t [] = (t, 0) := by simp [mergeT, hr, r0, merge_nil, n8]
      have e3 : mergeT [] t = (t, 0) := by simp [mergeT, hr, r0, mergeD, n8]
      rw [e1] at k1
      rw [e2] at k2
      rw [e3] at k3
      simp only [eTE, eDones, List.map_nil] at k1 k2 k3 k86
      simp only [go_sem, k78, hs, k79, k81, hr, k1, k2, k3, k86]

theorem judge_ge {t : List Done} {d : Done} (hr : rightT t = true) (hd : rowR d = true) (hq : d.req ≤ reqT t d.client) : decide (judgeT t d.client d.req < 2) = false := by
  have hn : numD d.client = true ∧ numD d.req = true := by simp only [rowR, Bool.and_eq_true] at hd; exact ⟨hd.1, hd.2.1⟩
  have h1 : 1 ≤ d.req := by have := hn.2; simp only [numD, Bool.and_eq_true, decide_eq_true_eq] at this; omega
  rw [req_row] at hq
  simp only [judgeT, hr, hn.1, hn.2, Bool.and_self, if_true]
  cases hw : doneAt t d.client with
  | none => rw [hw] at hq; simp only at hq; omega
  | some x =>
    rw [hw] at hq
    simp only at hq ⊢
    have hn : ¬ x.req < d.req := by omega
    simp only [hn, if_false]
    split <;> rfl
theorem put_ok {t : List Done} {d : Done} (h : (putT t d).2 = 0) : rightT t = true ∧ rowR d = true ∧ (putT t d).1 = insD t d ∧ rightT (insD t d) = true ∧ reqT t d.client < d.req := by
  by_cases hc : rightT t = true ∧ rowR d = true
  · obtain ⟨hr, hd⟩ := hc
    rw [put_eq_ins hr hd] at h ⊢
    have h0 : 0 < d.client := by simp only [rowR, numD, Bool.and_eq_true, decide_eq_true_eq] at hd; omega
    split at h
    · simp at h
    · split at h
      · simp at h
      · rename_i h1 h2
        refine ⟨hr, hd, by rw [if_neg h1, if_neg h2], ?_, by omega⟩
        simp only [rightT, ins_rt hd (right_rt hr).1 h0, Bool.true_and, decide_eq_true_eq]; omega
  · have : putT t d = ([], 1) := by
      simp only [putT]
      rw [if_neg (by simpa [Bool.and_eq_true] using hc)]
    rw [this] at h; simp at h
theorem put_err {t : List Done} {d : Done} (h : (putT t d).2 ≠ 0) : (putT t d).1 = [] := by
  simp only [putT] at h ⊢
  repeat' split
  all_goals simp_all
theorem ins_req {t : List Done} {x d : Done} (hr : rightT t = true) (hx : reqT t x.client < x.req) (hq : d.req ≤ reqT t d.client) : d.req ≤ reqT (insD t x) d.client := by
  rw [req_row, ins_row (right_rt hr).1]
  by_cases e : x.client = d.client
  · rw [if_pos e]
    rw [e] at hx
    simp only; omega
  · rw [if_neg e, ← req_row]; exact hq
theorem merge_req {a b : List Done} {d : Done} (ha : rightT a = true) (hb : rightT b = true) (hd : 1 ≤ d.req) (h : d.req ≤ reqT a d.client ∨ d.req ≤ reqT b d.client) : d.req ≤ reqT (mergeD a b) d.client := by
  rw [req_row, merge_row a b 0 _ (right_rt ha).1 (right_rt hb).1]
  rw [req_row, req_row] at h
  cases h1 : doneAt a d.client with
  | none =>
    rw [h1] at h
    simp only at h ⊢
    rcases h with h | h
    · omega
    · exact h
  | some x =>
    rw [h1] at h
    cases h2 : doneAt b d.client with
    | none =>
      rw [h2] at h
      simp only at h ⊢
      rcases h with h | h
      · exact h
      · omega
    | some y =>
      rw [h2] at h
      simp only at h ⊢
      by_cases hc : y.req ≤ x.req
      · rw [if_pos hc]; simp only; omega
      · rw [if_neg hc]; simp only; omega
theorem merge_ok {a b : List Done} (h : (mergeT a b).2 = 0) : rightT a = true ∧ rightT b = true ∧ (mergeT a b).1 = mergeD a b ∧ rightT (mergeD a b) = true := by
  simp only [mergeT] at h ⊢
  split at h
  · rename_i hc
    simp only [Bool.and_eq_true] at hc
    split at h
    · simp at h
    · rename_i h8
      refine ⟨hc.1, hc.2, by rw [if_pos (by simp [hc.1, hc.2]), if_neg h8], ?_⟩
      simp only [rightT, merge_rt a b 0 (right_rt hc.1).1 (right_rt hc.2).1, Bool.true_and, decide_eq_true_eq]; omega
  · simp at h

def H93 (Pg : Nat → Option Fn) : Prop := Pg 93 = some (.code F93) ∧ H78 Pg ∧ H79 Pg ∧ H81 Pg ∧ H82 Pg ∧ H88 Pg ∧ H91 Pg
theorem K93 (h : H93 Pg) (t : List Done) (d : Done) (l other : List Done) : K' Pg 93 [eDones t, .agg (eDone d), eDones l, eDones other] = some (.bool true) := by
  obtain ⟨h, h78, h79, h81, h82, h88, h91⟩ := h
  have k78 := K78 h78 t
  have k78d := K78 h78 [d]
  have k78o := K78 h78 other
  have k79 := K79 h79
  simp only [eDones, eDone, eItems, List.map_cons, List.map_nil] at k78 k78d k78o
  refine K'_code h rfl ?_
  cases hs : smallT t with
  | false => simp only [go_sem, k78, hs, k79]
  | true =>
  cases hso : smallT other with
  | false => simp only [go_sem, k78, hs, k78o, hso, k79]
  | true =>
  cases hsd : smallT [d] with
  | false => simp only [go_sem, k78, hs, k78o, hso, k78d, hsd, k79]
  | true =>
    obtain ⟨hl, -⟩ := small_len hs
    obtain ⟨hlo, -⟩ := small_len hso
    have k88 := K88 h88 t d (by omega)
    simp only [eTE, eDones, eDone, eItems] at k88
    by_cases he : (putT t d).2 = 0
    · obtain ⟨hr, hd, hp, hrp, hlt⟩ := put_ok he
      rw [hp, he] at k88
      have hd1 : 1 ≤ d.req := by simp only [rowR, numD, Bool.and_eq_true, decide_eq_true_eq] at hd; omega
      have hreq : d.req ≤ reqT (insD t d) d.client := by
        rw [req_row, ins_row (right_rt hr).1, if_pos rfl]; exact Int.le_refl _
      simp only [go_sem, k78, hs, k78o, hso, k78d, hsd, k79, k88]
      unfold l93_0
      refine wp_lp (fun (p : Nat × List Done) S => p.1 ≤ l.length ∧ p.1 ≤ 30 ∧ S.ρ 0 = eDones p.2 ∧ S.ρ 2 = eDones l ∧ S.ρ 3 = eDones other ∧ S.ρ 5 = .lref 5 0 ∧ S.μ 5 = some (eDone d, false) ∧ S.ρ 10 = iz p.1 ∧
        rightT p.2 = true ∧ d.req ≤ reqT p.2 d.client) (fun p => 30 - p.1) (0, insD t d) ?_ ?_
      · simp only [go_sem, eDones, eDone, eItems]
        exact ⟨hrp, hreq⟩
      · intro ⟨i, u⟩ S ⟨hi, hi30, h0, h2, h3, h5, m5, h10, hru, hqu⟩
        simp only at hi hi30 h0 h10 hru hqu
        have hul := (right_rt hru).2
        have e30 : decide ((i : Int) < 30) = decide (i < 30) := decide_eq_decide.2 (by omega)
        simp only [go_sem, h0, h2, h3, h5, m5, h10, e30, ltd]
        by_cases hc : i < l.length ∧ i < 30
        · obtain ⟨hc1, hc2⟩ := hc
          obtain ⟨x, hx, hdr⟩ := drop_at hc1
          have hinc := inc64 hc1 (n := l.length)
          have hinc' : IntKind.i64.wrap ((i : Int) + 1) = ((i + 1 : Nat) : Int) := wrap64 (by omega) (by omega)
          simp only [go_sem, h0, h2, h3, h5, m5, h10, e30, ltd, hc1, hc2, hx]
          refine wpc_i (fun hb => ?_) (fun hb => ?_)
          · simp only [go_sem, h0, h2, h3, h5, m5, h10]
            exact ⟨(i + 1, u), by simp only; omega, by simp only; omega, by simp only; omega, rfl, by rw [hinc'], hru, hqu⟩
          · have k88x := K88 h88 u x (by omega)
            simp only [eTE, eDones, eDone, eItems] at k88x
            by_cases hp : (putT u x).2 = 0
            · obtain ⟨-, hrx, hpx, hru', hlx⟩ := put_ok hp
              rw [hpx, hp] at k88x
              have hq' := ins_req hru hlx hqu
              have k82 := K82 h82 (insD u x) d.client d.req (by have := (right_rt hru').2; omega)
              have hj := judge_ge hru' hd hq'
              simp only [eDones] at k82
              simp only [go_sem, h0, h2, h3, h5, m5, h10, hx, k88x, k82, hj]
              exact ⟨(i + 1, insD u x), by simp only; omega, by simp only; omega, by simp only; omega, rfl, by rw [hinc'], hru', hq'⟩
            · have hp0 : decide ((putT u x).2 = 0) = false := decide_eq_false hp
              have k82 := K82 h82 u d.client d.req (by omega)
              have hj := judge_ge hru hd hqu
              simp only [eDones] at k82
              simp only [go_sem, h0, h2, h3, h5, m5, h10, hx, k88x, hp0, k82, hj]
              exact ⟨(i + 1, u), by simp only; omega, by simp only; omega, by simp only; omega, rfl, by rw [hinc'], hru, hqu⟩
        · have hcd : (decide (i < l.length) && decide (i < 30)) = false := by
            simp only [Bool.and_eq_false_iff, decide_eq_false_iff_not]; omega
          have km := K91 h91 u other (by omega) (by omega)
          have km' := K91 h91 other u (by omega) (by omega)
          simp only [eTE, eDones] at km km'
          have hend : decide (i < l.length) = false ∨ decide (i < l.length) = true ∧ decide (i < 30) = false := by
            by_cases h1 : i < l.length
            · exact .inr ⟨by simp [h1], by simp; omega⟩
            · exact .inl (by simp [h1])
          have last : ∀ x : Bool, (if x then True else True) := fun x => by cases x <;> trivial
          -- the second merge
          have two : (mergeT other u).2 = 0 → rightT (mergeD other u) = true ∧ (mergeT other u).1 = mergeD other u ∧ decide (judgeT (mergeD other u) d.client d.req < 2) = false := fun h => by
            obtain ⟨q1, q2, q3, q4⟩ := merge_ok h
            exact ⟨q4, q3, judge_ge q4 hd (merge_req q1 q2 hd1 (.inr hqu))⟩
          have one' : (mergeT u other).2 = 0 → rightT (mergeD u other) = true ∧ (mergeT u other).1 = mergeD u other ∧ decide (judgeT (mergeD u other) d.client d.req < 2) = false := fun h => by
            obtain ⟨q1, q2, q3, q4⟩ := merge_ok h
            exact ⟨q4, q3, judge_ge q4 hd (merge_req q1 q2 hd1 (.inl hqu))⟩
          have k82a := K82 h82 (mergeD u other) d.client d.req (by have := merge_len u other; omega)
          have k81a := K81 h81 (mergeD u other) (by have := merge_len u other; omega)
          have k82b := K82 h82 (mergeD other u) d.client d.req (by have := merge_len other u; omega)
          simp only [eDones] at k82a k81a k82b
          rcases hend with hend | ⟨hend, hend2⟩ <;>
          · simp only [go_sem, h0, h2, h3, h5, m5, h10, e30, ltd, hend]
            try simp only [go_sem, hend2]
            by_cases p1 : (mergeT u other).2 = 0
            · obtain ⟨r1, r2, r3⟩ := one' p1
              rw [r2, p1] at km
              rw [r1] at k81a
              by_cases p2 : (mergeT other u).2 = 0
              · obtain ⟨s1, s2, s3⟩ := two p2
                rw [s2, p2] at km'
                simp only [go_sem, h0, h2, h3, h5, m5, h10, km, km', k82a, k81a, k82b, r3, s3, k79]
              · have p2' := decide_eq_false p2
                simp only [go_sem, h0, h2, h3, h5, m5, h10, km, km', k82a, k81a, k82b, r3, p2', k79]
            · have p1' := decide_eq_false p1
              by_cases p2 : (mergeT other u).2 = 0
              · obtain ⟨s1, s2, s3⟩ := two p2
                rw [s2, p2] at km'
                simp only [go_sem, h0, h2, h3, h5, m5, h10, km, km', k82a, k81a, k82b, p1', s3, k79]
              · have p2' := decide_eq_false p2
                simp only [go_sem, h0, h2, h3, h5, m5, h10, km, km', k82a, k81a, k82b, p1', p2', k79]
    · have h0 : decide ((putT t d).2 = 0) = false := by simp [he]
      rw [put_err he] at k88
      simp only [go_sem, k78, hs, k78o, hso, k78d, hsd, k79, k88, h0]
end Sg
