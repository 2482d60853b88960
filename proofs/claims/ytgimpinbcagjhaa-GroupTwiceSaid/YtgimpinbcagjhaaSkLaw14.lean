/- The laws of the group: what they answer. -/
import Derived.Test.YtgimpinbcagjhaaSkGroup7
namespace Sg
open _root_.Go (IntKind BinOp UnOp)
set_option linter.unusedSimpArgs false
set_option linter.unusedVariables false
variable {Pg : Nat → Option Fn}

theorem gt100' {n : Nat} : decide ((100 : Int) < (n : Int)) = !decide (n ≤ 100) := by
  by_cases h : n ≤ 100 <;> simp [h] <;> omega
theorem small_iff {r : Rep} (h : (decide (r.members.length ≤ 100) && decide (r.acks.length ≤ 100)) = true) : r.members.length ≤ 100 ∧ r.acks.length ≤ 100 := by
  simpa using h
theorem fix_len {r : Rep} : (fixR r).members = r.members ∧ (fixR r).acks = r.acks := by
  simp only [fixR]; split <;> exact ⟨rfl, rfl⟩
theorem ships_mem {r : Rep} {w : Word} (h : w ∈ shipsR r) : w.members = r.members := by
  simp only [shipsR, List.mem_map] at h
  obtain ⟨m, -, rfl⟩ := h; rfl
theorem shipsR_len {r : Rep} : (shipsR r).length ≤ r.members.length := by
  simp only [shipsR, List.length_map]; exact List.length_filter_le _ _

/-- short enough to be gone through -/
def WsOk (l : List Word) : Prop := l.length ≤ 1000 ∧ ∀ w ∈ l, w.members.length ≤ 1000
theorem ws_nil : WsOk [] := ⟨by simp, by simp⟩
theorem ws_ships {r : Rep} (h : r.members.length ≤ 1000) : WsOk (shipsR r) := ⟨Nat.le_trans shipsR_len h, fun w hw => by rw [ships_mem hw]; exact h⟩
theorem propose_ok {r : Rep} {t : List UInt8} (hm : r.members.length ≤ 1000) : (proposeR r t).1.Ok ∧ WsOk (proposeR r t).2.1 := by
  have z : zeroRep.Ok := ⟨by simp [zeroRep], by simp [zeroRep]⟩
  simp only [proposeR]
  repeat' split
  all_goals first | exact ⟨z, ws_nil⟩ | skip
  refine ⟨⟨?_, ?_⟩, ws_ships hm⟩
  · rw [fix_len.1]; simp only; omega
  · rw [fix_len.2]; simp

def H46 (Pg : Nat → Option Fn) : Prop := Pg 46 = some (.code F46) ∧ H34 Pg ∧ H35 Pg ∧ H47 Pg ∧ H48 Pg ∧ H36 Pg ∧ H45 Pg ∧ H49 Pg ∧ H50 Pg ∧ H51 Pg ∧ H41 Pg ∧ H52 Pg
theorem K46 (h : H46 Pg) (r : Rep) (t : List UInt8) : K' Pg 46 [.agg (eRep r), .str t] = some (.bool true) := by
  obtain ⟨h, h34, h35, h47, h48, h36, h45, h49, h50, h51, h41, h52⟩ := h
  have k34 := K34 h34 r
  have k35 := K35 h35
  simp only [eInts, eRep] at k34
  refine K'_code h rfl ?_
  cases hs : (decide (r.members.length ≤ 100) && decide (r.acks.length ≤ 100)) with
  | false => simp only [go_sem, k34, hs, k35]
  | true =>
    obtain ⟨hm, ha⟩ := small_iff hs
    have ok : r.Ok := ⟨by omega, by omega⟩
    have k47 := K47 h47 r t ok (by omega)
    have k48 := K48 h48 r t ok (by omega)
    have k36 := K36 h36 r
    have k51 := K51 h51 r ok (by omega)
    have k41 := K41 h41 r ok
    have k52 := K52 h52 r ok (by omega)
    have hp := propose_ok (r := r) (t := t) (by omega)
    generalize proposeR r t = x at k47 k48 hp
    obtain ⟨a, l, e⟩ := x
    have k36a := K36 h36 a
    have k45 := K45 h45 a hp.1
    have k49 := K49 h49 l hp.2.1
    have k50 := K50 h50 l (by have := hp.2.1; simp only at this; omega) (fun w hw => by have := hp.2.2 w hw; omega)
    simp only [eInts, eRep, eRWE, eWords] at k47 k48 k36 k51 k41 k52 k36a k45 k49 k50
    cases hb : busyR r with
    | false => simp only [go_sem, k34, hs, k35, k47, k48, k36, k51, k41, k36a, k45, k49, k50, hb]
    | true =>
      have ws := ws_ships (r := r) (by omega)
      have k49' := K49 h49 (shipsR r) ws.1
      have k50' := K50 h50 (shipsR r) (by have := ws.1; omega) (fun w hw => by have := ws.2 w hw; omega)
      simp only [eWords] at k49' k50'
      simp only [go_sem, k34, hs, k35, k47, k48, k36, k51, k41, k36a, k45, k49, k50, hb, k49', k50', k52]

theorem lead_ok {r : Rep} {view : Int} {l : List Int} (ok : r.Ok) (hm : r.members.length ≤ 1000) (hl : l.length ≤ 1000) : (leadR r view l).1.Ok ∧ WsOk (leadR r view l).2.1 := by
  have z : zeroRep.Ok := ⟨by simp [zeroRep], by simp [zeroRep]⟩
  simp only [leadR]
  repeat' split
  all_goals first | exact ⟨z, ws_nil⟩ | skip
  · exact ⟨ok, ws_ships hm⟩
  · exact ⟨⟨by simp only [leadNew]; omega, by simp [leadNew]⟩, ws_ships hl⟩

def H53 (Pg : Nat → Option Fn) : Prop := Pg 53 = some (.code F53) ∧ H34 Pg ∧ H35 Pg ∧ H54 Pg ∧ H55 Pg ∧ H36 Pg ∧ H45 Pg ∧ H49 Pg ∧ H50 Pg
theorem K53 (h : H53 Pg) (r : Rep) (view : Int) (m : List Int) : K' Pg 53 [.agg (eRep r), iz view, eInts m] = some (.bool true) := by
  obtain ⟨h, h34, h35, h54, h55, h36, h45, h49, h50⟩ := h
  have k34 := K34 h34 r
  have k35 := K35 h35
  simp only [eInts, eRep] at k34
  refine K'_code h rfl ?_
  cases hs : (decide (r.members.length ≤ 100) && decide (r.acks.length ≤ 100)) with
  | false => simp only [go_sem, k34, hs, k35]
  | true =>
  by_cases hml : m.length ≤ 100
  · obtain ⟨hm, ha⟩ := small_iff hs
    have ok : r.Ok := ⟨by omega, by omega⟩
    have k54 := K54 h54 r view m ok (by omega) (by omega)
    have k55 := K55 h55 r view m ok (by omega) (by omega)
    have k36 := K36 h36 r
    have hp := lead_ok (r := r) (view := view) (l := m) ok (by omega) (by omega)
    generalize leadR r view m = x at k54 k55 hp
    obtain ⟨a, l, e⟩ := x
    have k36a := K36 h36 a
    have k45 := K45 h45 a hp.1
    have k49 := K49 h49 l hp.2.1
    have k50 := K50 h50 l (by have := hp.2.1; simp only at this; omega) (fun w hw => by have := hp.2.2 w hw; omega)
    simp only [eInts, eRep, eRWE, eWords] at k54 k55 k36 k36a k45 k49 k50
    simp only [go_sem, k34, hs, k35, gt100', hml, k54, k55, k36, k36a, k45, k49, k50]
  · simp only [go_sem, k34, hs, k35, gt100', hml]

theorem ship_ok {r : Rep} {w : Word} (ok : r.Ok) (hw : w.members.length ≤ 1000) : (shipR r w).1.Ok ∧ WsOk (shipR r w).2 := by
  have ws1 : ∀ k f t v n, WsOk [⟨k, f, t, v, n, [], []⟩] := fun k f t v n => ⟨by simp, by simp⟩
  simp only [shipR, shipT]
  repeat' split
  all_goals first | exact ⟨ok, ws_nil⟩ | exact ⟨ok, ws1 ..⟩ | exact ⟨⟨by simp only [shipN]; omega, by simp [shipN]⟩, ws1 ..⟩
theorem hear_ok {r : Rep} {w : Word} (ok : r.Ok) (ha : r.acks.length ≤ 1000) (hw : w.members.length ≤ 1000) : (hearR r w).1.Ok ∧ WsOk (hearR r w).2 := by
  simp only [hearR]
  repeat' split
  all_goals first | exact ⟨ok, ws_nil⟩ | exact ship_ok ok hw | skip
  · refine ⟨⟨?_, ?_⟩, ws_nil⟩
    · rw [fix_len.1]; exact ok.m
    · rw [fix_len.2]; simp only [ackR, List.length_append, List.length_singleton]; omega
  · exact ⟨⟨by simp [pastR], by simp [pastR]⟩, ws_nil⟩

def H56 (Pg : Nat → Option Fn) : Prop := Pg 56 = some (.code F56) ∧ H34 Pg ∧ H35 Pg ∧ H57 Pg ∧ H58 Pg ∧ H36 Pg ∧ H45 Pg ∧ H49 Pg ∧ H50 Pg
theorem K56 (h : H56 Pg) (r : Rep) (w : Word) : K' Pg 56 [.agg (eRep r), .agg (eWord w)] = some (.bool true) := by
  obtain ⟨h, h34, h35, h57, h58, h36, h45, h49, h50⟩ := h
  have k34 := K34 h34 r
  have k35 := K35 h35
  simp only [eInts, eRep] at k34
  refine K'_code h rfl ?_
  cases hs : (decide (r.members.length ≤ 100) && decide (r.acks.length ≤ 100)) with
  | false => simp only [go_sem, k34, hs, k35]
  | true =>
  by_cases hml : w.members.length ≤ 100
  · obtain ⟨hm, ha⟩ := small_iff hs
    have ok : r.Ok := ⟨by omega, by omega⟩
    have k57 := K57 h57 r w ok (by omega) (by omega)
    have k58 := K58 h58 r w ok (by omega) (by omega)
    have k36 := K36 h36 r
    have hp := hear_ok (r := r) (w := w) ok (by omega) (by omega)
    generalize hearR r w = x at k57 k58 hp
    obtain ⟨a, l⟩ := x
    have k36a := K36 h36 a
    have k45 := K45 h45 a hp.1
    have k49 := K49 h49 l hp.2.1
    have k50 := K50 h50 l (by have := hp.2.1; simp only at this; omega) (fun w hw => by have := hp.2.2 w hw; omega)
    simp only [eInts, eRep, eRW, eWord, eWords] at k57 k58 k36 k36a k45 k49 k50
    simp only [go_sem, k34, hs, k35, gt100', hml, k57, k58, k36, k36a, k45, k49, k50]
  · simp only [go_sem, k34, hs, k35, gt100', hml]

/-- a word that comes twice -/
theorem ship_twice {r : Rep} {w : Word} (hr : rightB r = true) : (shipT (shipN r w) w).1 = shipN r w ∨ leadsR (shipN r w) = true := by
  cases hl : leadsR (shipN r w) with
  | true => exact .inr rfl
  | false =>
    left
    have e1 : ¬ w.view < (shipN r w).view := by simp [shipN]
    have e2 : ¬ w.n < (shipN r w).n := by simp [shipN]
    have e3 : ¬ (w.view ≠ (shipN r w).view ∨ (shipN r w).n < w.n) := by simp [shipN]
    simp only [shipT]
    rw [if_neg e1, if_neg (by rw [hl]; simp; omega), if_neg e3]

theorem twice {r : Rep} {w : Word} : (hearR (hearR r w).1 w).1 = (hearR r w).1 := by
  cases hr : rightB r with
  | false =>
    have e : (hearR r w).1 = r := by simp [hearR, hr]
    rw [e, e]
  | true =>
  by_cases ht : w.to = r.id
  · by_cases k1 : w.kind = 1
    · have e : hearR r w = shipR r w := by simp only [hearR]; rw [if_pos hr, if_pos ht, if_pos k1]
      rw [e]
      by_cases hsame : (shipR r w).1 = r
      · rw [hsame, e, hsame]
      · -- it was taken
        have c1 : decide (w.frm = r.id) = false := by
          cases c : decide (w.frm = r.id) with
          | false => rfl
          | true => exact absurd (by simp only [shipR, c]; rfl) hsame
        have c2 : membR w.members r.id w.frm = true := by
          cases c : membR w.members r.id w.frm with
          | true => rfl
          | false => exact absurd (by simp only [shipR, c1, c]; rfl) hsame
        have c3 : numG w.view 1 = true := by
          cases c : numG w.view 1 with
          | true => rfl
          | false => exact absurd (by simp only [shipR, c1, c2, c]; rfl) hsame
        have c4 : numG w.n 1 = true := by
          cases c : numG w.n 1 with
          | true => rfl
          | false => exact absurd (by simp only [shipR, c1, c2, c3, c]; rfl) hsame
        have e1 : shipR r w = shipT r w := by simp only [shipR, c1, c2, c3, c4]; rfl
        have e2 : (shipT r w).1 = shipN r w := by
          rw [e1] at hsame
          simp only [shipT] at hsame ⊢
          split at hsame
          · exact absurd rfl hsame
          · rename_i h1
            split at hsame
            · exact absurd rfl hsame
            · rename_i h2
              split at hsame
              · rename_i h3
                rw [if_neg h1, if_neg h2, if_pos h3]
              · exact absurd rfl hsame
        rw [e1, e2]
        -- again
        cases hr2 : rightB (shipN r w) with
        | false => simp [hearR, hr2]
        | true =>
          have e3 : hearR (shipN r w) w = shipR (shipN r w) w := by simp only [hearR]; rw [if_pos hr2, if_pos (show w.to = (shipN r w).id from ht), if_pos k1]
          have hid : (shipN r w).id = r.id := rfl
          have e4 : shipR (shipN r w) w = shipT (shipN r w) w := by simp only [shipR, hid, c1, c2, c3, c4]; rfl
          rw [e3, e4]
          rcases ship_twice (w := w) hr with h | h
          · exact h
          · exfalso
            simp only [membR, Bool.and_eq_true, decide_eq_true_eq] at c2
            have hh := c2.2.2
            have hm : (shipN r w).members = w.members := rfl
            simp only [leadsR, hm] at h
            cases hw : w.members with
            | nil => rw [hw] at h; simp at h
            | cons a l =>
              rw [hw] at h hh
              have h1 : a = r.id := of_decide_eq_true h
              have h2 : a = w.frm := by simpa using hh
              exact of_decide_eq_false c1 (h2.symm.trans h1)
    · by_cases k2 : w.kind = 2
      · have e : ∀ x, rightB x = true → w.to = x.id → hearR x w = (if ackB x w then (fixR (ackR x w), []) else (x, [])) := fun x h1 h2 => by
          simp only [hearR]; rw [if_pos h1, if_pos h2, if_neg k1, if_pos k2]
        cases ha : ackB r w with
        | false => have e0 : (hearR r w).1 = r := by rw [e r hr ht, ha]; rfl
                   rw [e0, e0]
        | true =>
          have e1 : (hearR r w).1 = fixR (ackR r w) := by rw [e r hr ht, ha]; rfl
          rw [e1]
          cases hr2 : rightB (fixR (ackR r w)) with
          | false => simp [hearR, hr2]
          | true =>
            have hid : (fixR (ackR r w)).id = r.id := by simp only [fixR]; split <;> rfl
            have hb : ackB (fixR (ackR r w)) w = false := by
              have : w.frm ∈ (fixR (ackR r w)).acks := by rw [fix_len.2]; simp [ackR]
              simp [ackB, this]
            rw [e _ hr2 (by rw [hid]; exact ht), hb]; rfl
      · by_cases k3 : w.kind = 3
        · have e : ∀ x, rightB x = true → w.to = x.id → hearR x w = (if x.view < w.view then (pastR x, []) else (x, [])) := fun x h1 h2 => by
            simp only [hearR]; rw [if_pos h1, if_pos h2, if_neg k1, if_neg k2, if_pos k3]
          by_cases hv : r.view < w.view
          · have e1 : (hearR r w).1 = pastR r := by rw [e r hr ht, if_pos hv]
            rw [e1]
            cases hr2 : rightB (pastR r) with
            | false => simp [hearR, hr2]
            | true => rw [e (pastR r) hr2 ht, if_pos (show (pastR r).view < w.view from hv)]; rfl
          · have e0 : (hearR r w).1 = r := by rw [e r hr ht, if_neg hv]
            rw [e0, e0]
        · have e0 : (hearR r w).1 = r := by simp only [hearR]; rw [if_pos hr, if_pos ht, if_neg k1, if_neg k2, if_neg k3]
          rw [e0, e0]
  · have e0 : (hearR r w).1 = r := by simp only [hearR]; rw [if_pos hr, if_neg ht]
    rw [e0, e0]

def H59 (Pg : Nat → Option Fn) : Prop := Pg 59 = some (.code F59) ∧ H34 Pg ∧ H35 Pg ∧ H57 Pg ∧ H36 Pg ∧ H45 Pg
theorem K59 (h : H59 Pg) (r : Rep) (w : Word) : K' Pg 59 [.agg (eRep r), .agg (eWord w)] = some (.bool true) := by
  obtain ⟨h, h34, h35, h57, h36, h45⟩ := h
  have k34 := K34 h34 r
  have k35 := K35 h35
  simp only [eInts, eRep] at k34
  refine K'_code h rfl ?_
  cases hs : (decide (r.members.length ≤ 100) && decide (r.acks.length ≤ 100)) with
  | false => simp only [go_sem, k34, hs, k35]
  | true =>
  by_cases hml : w.members.length ≤ 100
  · obtain ⟨hm, ha⟩ := small_iff hs
    have ok : r.Ok := ⟨by omega, by omega⟩
    have k57 := K57 h57 r w ok (by omega) (by omega)
    have hp := hear_ok (r := r) (w := w) ok (by omega) (by omega)
    have hal : (hearR r w).1.acks.length ≤ 1000 := by
      simp only [hearR, shipR, shipT]
      repeat' split
      all_goals first | (simp only; omega) | skip
      · simp [shipN]
      · rw [fix_len.2]; simp only [ackR, List.length_append, List.length_singleton]; omega
      · simp [pastR]
    have k57b := K57 h57 (hearR r w).1 w hp.1 hal (by omega)
    have ht := twice (r := r) (w := w)
    generalize hx : hearR r w = x at k57 hp k57b ht
    obtain ⟨a, l⟩ := x
    simp only at k57b ht
    generalize hearR a w = y at k57b ht
    obtain ⟨b, l'⟩ := y
    simp only at ht
    subst ht
    have k36a := K36 h36 b
    have k45 := K45 h45 b hp.1
    simp only [eInts, eRep, eRW, eWord, eWords] at k57 k57b k36a k45
    simp only [go_sem, k34, hs, k35, gt100', hml, k57, k57b, k36a, k45]
  · simp only [go_sem, k34, hs, k35, gt100', hml]

theorem new_len {id : Int} {m : List Int} {t : List UInt8} (hm : m.length ≤ 1000) : (newR id m t).1.Ok := by
  simp only [newR]
  split
  · exact ⟨by simp only; omega, by simp only; split <;> simp; omega⟩
  · exact ⟨by simp [zeroRep], by simp [zeroRep]⟩

def H33 (Pg : Nat → Option Fn) : Prop := Pg 33 = some (.code F33) ∧ H34 Pg ∧ H35 Pg ∧ H36 Pg ∧ H37 Pg ∧ H38 Pg ∧ H39 Pg ∧ H40 Pg ∧ H41 Pg ∧ H42 Pg ∧ H43 Pg ∧ H44 Pg ∧ H45 Pg
theorem K33 (h : H33 Pg) (r : Rep) (id : Int) (m : List Int) (t : List UInt8) : K' Pg 33 [.agg (eRep r), iz id, eInts m, .str t] = some (.bool true) := by
  obtain ⟨h, h34, h35, h36, h37, h38, h39, h40, h41, h42, h43, h44, h45⟩ := h
  have k34 := K34 h34 r
  have k35 := K35 h35
  simp only [eInts, eRep] at k34
  refine K'_code h rfl ?_
  cases hs : (decide (r.members.length ≤ 100) && decide (r.acks.length ≤ 100)) with
  | false => simp only [go_sem, k34, hs, k35]
  | true =>
  by_cases hml : m.length ≤ 100
  · obtain ⟨hm, ha⟩ := small_iff hs
    have ok : r.Ok := ⟨by omega, by omega⟩
    have k36 := K36 h36 r
    have k37 := K37 h37 r ok
    have k38 := K38 h38 r
    have k39 := K39 h39 r ok
    have k40 := K40 h40 r ok
    have k41 := K41 h41 r ok
    have k42 := K42 h42 r ok
    have k43 := K43 h43 id m t (by omega)
    have k44 := K44 h44 id m t (by omega)
    have nl := new_len (id := id) (m := m) (t := t) (by omega)
    generalize newR id m t = x at k43 k44 nl
    obtain ⟨a, e⟩ := x
    have k36a := K36 h36 a
    have k45 := K45 h45 a nl
    simp only [eInts, eRep, eRE] at k36 k37 k38 k39 k40 k41 k42 k43 k44 k36a k45
    cases hr : rightB r with
    | false =>
      have hb : busyR r = false := by simp [busyR, hr]
      simp only [go_sem, k34, hs, k35, gt100', hml, k36, k37, k38, k39, k40, k41, k42, k43, k44, k36a, k45, hr, hb]
    | true =>
      cases hl : leadsR r with
      | false =>
        have hb : busyR r = false := by simp [busyR, hr, hl]
        simp only [go_sem, k34, hs, k35, gt100', hml, k36, k37, k38, k39, k40, k41, k42, k43, k44, k36a, k45, hr, hl, hb]
      | true =>
        have hb : busyR r = !allR r := by simp [busyR, hr, hl]
        cases hal : allR r <;> simp only [go_sem, k34, hs, k35, gt100', hml, k36, k37, k38, k39, k40, k41, k42, k43, k44, k36a, k45, hr, hl, hb, hal]
  · simp only [go_sem, k34, hs, k35, gt100', hml]
end Sg
