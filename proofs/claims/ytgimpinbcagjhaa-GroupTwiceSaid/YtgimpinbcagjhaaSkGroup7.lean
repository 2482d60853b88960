import Derived.Test.YtgimpinbcagjhaaSkGroup6
namespace Sg
open _root_.Go (IntKind BinOp UnOp)
set_option linter.unusedSimpArgs false
set_option linter.unusedVariables false
set_option maxRecDepth 10000
variable {Pg : Nat → Option Fn}

def shipN (r : Rep) (w : Word) : Rep := ⟨r.id, w.view, w.members, w.n, w.text, w.text, []⟩
/-- a text comes that may be taken -/
def shipT (r : Rep) (w : Word) : Rep × List Word :=
  if w.view < r.view then (r, [⟨3, r.id, w.frm, r.view, 0, [], []⟩])
  else if w.view = r.view ∧ (leadsR r = true ∨ w.n < r.n) then (r, [])
  else if w.view ≠ r.view ∨ r.n < w.n then (shipN r w, [⟨2, r.id, w.frm, w.view, w.n, [], []⟩])
  else (r, [⟨2, r.id, w.frm, r.view, r.n, [], []⟩])
def shipR (r : Rep) (w : Word) : Rep × List Word :=
  if decide (w.frm = r.id) then (r, []) else if membR w.members r.id w.frm then (if numG w.view 1 then (if numG w.n 1 then shipT r w else (r, [])) else (r, [])) else (r, [])

def H74 (Pg : Nat → Option Fn) : Prop := Pg 74 = some (.code F74) ∧ H73 Pg ∧ H63 Pg ∧ H68 Pg ∧ H69 Pg
theorem K74 (h : H74 Pg) (r : Rep) (w : Word) (hw : w.members.length ≤ 1000) : K' Pg 74 [.agg (eRep r), .agg (eWord w)] = some (eRW (shipR r w)) := by
  obtain ⟨h, h73, h63, h68, h69⟩ := h
  have k73 := K73 h73 w.members r.id w.frm hw
  have k63v := K63 h63 w.view 1
  have k63n := K63 h63 w.n 1
  have k68 := K68 h68 r
  have k69 := K69 h69 w.members (by omega)
  simp only [eInts, eRep] at k73 k63v k63n k68 k69
  refine K'_code h rfl ?_
  cases c1 : decide (w.frm = r.id) with
  | true => simp only [go_sem, c1, shipR]
  | false =>
  cases c2 : membR w.members r.id w.frm with
  | false => simp only [go_sem, c1, k73, c2, shipR]
  | true =>
  cases c3 : numG w.view 1 with
  | false => simp only [go_sem, c1, k73, c2, k63v, c3, shipR]
  | true =>
  cases c4 : numG w.n 1 with
  | false => simp only [go_sem, c1, k73, c2, k63v, c3, k63n, c4, shipR]
  | true =>
  have e : shipR r w = shipT r w := by simp only [shipR, c1, c2, c3, c4]; rfl
  rw [e]
  by_cases d1 : w.view < r.view
  · have e : shipT r w = (r, [⟨3, r.id, w.frm, r.view, 0, [], []⟩]) := by simp only [shipT, d1, if_true]
    rw [e]
    simp only [go_sem, c1, k73, c2, k63v, c3, k63n, c4, d1]
  · by_cases d2 : w.view = r.view
    · have d2' := decide_eq_true d2
      cases hl : leadsR r with
      | true =>
        have e : shipT r w = (r, []) := by simp only [shipT]; rw [if_neg d1, if_pos ⟨d2, .inl hl⟩]
        rw [e]
        simp only [go_sem, c1, k73, c2, k63v, c3, k63n, c4, d1, d2', k68, hl]
      | false =>
        by_cases d3 : w.n < r.n
        · have e : shipT r w = (r, []) := by simp only [shipT]; rw [if_neg d1, if_pos ⟨d2, .inr d3⟩]
          rw [e]
          simp only [go_sem, c1, k73, c2, k63v, c3, k63n, c4, d1, d2', k68, hl, d3]
        · by_cases d4 : r.n < w.n
          · have e : shipT r w = (shipN r w, [⟨2, r.id, w.frm, w.view, w.n, [], []⟩]) := by simp only [shipT]; rw [if_neg d1, if_neg (by rw [hl]; simp; omega), if_pos (.inr d4)]
            rw [e]
            simp only [go_sem, c1, k73, c2, k63v, c3, k63n, c4, d1, d2', k68, hl, d3, d4, k69, shipN]
          · have e : shipT r w = (r, [⟨2, r.id, w.frm, r.view, r.n, [], []⟩]) := by simp only [shipT]; rw [if_neg d1, if_neg (by rw [hl]; simp; omega), if_neg (by omega)]
            rw [e]
            simp only [go_sem, c1, k73, c2, k63v, c3, k63n, c4, d1, d2', k68, hl, d3, d4, k69]
    · have d2' := decide_eq_false d2
      have e : shipT r w = (shipN r w, [⟨2, r.id, w.frm, w.view, w.n, [], []⟩]) := by simp only [shipT]; rw [if_neg d1, if_neg (fun x => d2 x.1), if_pos (.inl d2)]
      rw [e]
      simp only [go_sem, c1, k73, c2, k63v, c3, k63n, c4, d1, d2', k68, k69, shipN]

def ackR (r : Rep) (w : Word) : Rep := ⟨r.id, r.view, r.members, r.n, r.base, r.text, r.acks ++ [w.frm]⟩
def pastR (r : Rep) : Rep := ⟨r.id, r.view, [], r.n, r.text, r.text, []⟩
def ackB (r : Rep) (w : Word) : Bool := leadsR r && (decide (w.view = r.view) && (decide (w.n = r.n) && (decide (w.frm ∈ r.members) && !decide (w.frm ∈ r.acks))))
def hearR (r : Rep) (w : Word) : Rep × List Word :=
  if rightB r then (if w.to = r.id then (if w.kind = 1 then shipR r w else if w.kind = 2 then (if ackB r w then (fixR (ackR r w), []) else (r, []))
    else if w.kind = 3 then (if r.view < w.view then (pastR r, []) else (r, [])) else (r, [])) else (r, [])) else (r, [])

def H57 (Pg : Nat → Option Fn) : Prop := Pg 57 = some (.code F57) ∧ H39 Pg ∧ H74 Pg ∧ H68 Pg ∧ H65 Pg ∧ H69 Pg ∧ H71 Pg
theorem K57 (h : H57 Pg) (r : Rep) (w : Word) (ok : r.Ok) (ha : r.acks.length ≤ 1000) (hw : w.members.length ≤ 1000) : K' Pg 57 [.agg (eRep r), .agg (eWord w)] = some (eRW (hearR r w)) := by
  obtain ⟨h, h39, h74, h68, h65, h69, h71⟩ := h
  have k39 := K39 h39 r ok
  have k74 := K74 h74 r w hw
  have k68 := K68 h68 r
  have k65m := K65 h65 r.members w.frm ok.m
  have k65a := K65 h65 r.acks w.frm ok.a
  have k69 := K69 h69 r.acks (by omega)
  have k71 := K71 h71 (ackR r w)
  have hlim : r.acks.length + 1 ≤ lim := by simp only [lim]; omega
  simp only [eInts, eRep, eWord, eRW, eWords] at k39 k74 k68 k65m k65a k69
  simp only [eInts, eRep, ackR, List.map_append, List.map_cons, List.map_nil] at k71
  refine K'_code h rfl ?_
  cases c1 : rightB r with
  | false => simp only [go_sem, k39, c1, hearR]
  | true =>
  by_cases c2 : w.to = r.id
  · have c2' := decide_eq_true c2
    by_cases d1 : w.kind = 1
    · have d1' := decide_eq_true d1
      have e : hearR r w = shipR r w := by simp only [hearR, c1, c2, d1, if_true]
      rw [e]
      simp only [go_sem, k39, c1, c2', d1', k74]
    · have d1' := decide_eq_false d1
      by_cases d2 : w.kind = 2
      · have d2' := decide_eq_true d2
        have e : hearR r w = (if ackB r w then (fixR (ackR r w), []) else (r, [])) := by simp only [hearR]; rw [if_pos c1, if_pos c2, if_neg d1, if_pos d2]
        rw [e]
        cases b1 : leadsR r with
        | false => simp only [go_sem, k39, c1, c2', d1', d2', k68, b1, ackB]
        | true =>
        cases b2 : decide (w.view = r.view) with
        | false => simp only [go_sem, k39, c1, c2', d1', d2', k68, b1, b2, ackB]
        | true =>
        cases b3 : decide (w.n = r.n) with
        | false => simp only [go_sem, k39, c1, c2', d1', d2', k68, b1, b2, b3, ackB]
        | true =>
        cases b4 : decide (w.frm ∈ r.members) with
        | false => simp only [go_sem, k39, c1, c2', d1', d2', k68, b1, b2, b3, k65m, b4, ackB]
        | true =>
        cases b5 : decide (w.frm ∈ r.acks) with
        | true => simp only [go_sem, k39, c1, c2', d1', d2', k68, b1, b2, b3, k65m, k65a, b4, b5, ackB]
        | false => simp only [go_sem, k39, c1, c2', d1', d2', k68, b1, b2, b3, k65m, k65a, b4, b5, ackB, k69, hlim, k71, ackR]
      · have d2' := decide_eq_false d2
        by_cases d3 : w.kind = 3
        · have d3' := decide_eq_true d3
          have e : hearR r w = (if r.view < w.view then (pastR r, []) else (r, [])) := by simp only [hearR]; rw [if_pos c1, if_pos c2, if_neg d1, if_neg d2, if_pos d3]
          rw [e]
          by_cases b : r.view < w.view <;> simp only [go_sem, k39, c1, c2', d1', d2', d3', b, pastR]
        · have d3' := decide_eq_false d3
          have e : hearR r w = (r, []) := by simp only [hearR]; rw [if_pos c1, if_pos c2, if_neg d1, if_neg d2, if_neg d3]
          rw [e]
          simp only [go_sem, k39, c1, c2', d1', d2', d3']
  · have c2' := decide_eq_false c2
    have e : hearR r w = (r, []) := by simp only [hearR, c1, c2, if_true, if_false]
    rw [e]
    simp only [go_sem, k39, c1, c2']

theorem ack_fix {r : Rep} {w : Word} (hr : rightB r = true) (ha : ackB r w = true) : fixR (ackR r w) = if allR (ackR r w) then { ackR r w with base := r.text } else ackR r w := by
  obtain ⟨h1, h2, h3, -⟩ := right_parts hr
  simp only [ackB, Bool.and_eq_true, decide_eq_true_eq, Bool.not_eq_true', decide_eq_false_iff_not] at ha
  obtain ⟨-, -, -, h4, h5⟩ := ha
  have hn : (r.acks ++ [w.frm]).Nodup := by
    rw [List.nodup_append]
    refine ⟨h2.2.2, by simp, fun a ha b hb e => ?_⟩
    have : b = w.frm := by simpa using hb
    rw [← this, ← e] at h5
    exact h5 ha
  have hsub : ∀ x ∈ r.acks ++ [w.frm], x ∈ r.members := fun x hx => by
    rcases List.mem_append.1 hx with hx | hx
    · exact h3 x hx
    · have : x = w.frm := by simpa using hx
      rw [this]; exact h4
  have hle := nodup_len hn hsub
  have hset : SetP (ackR r w).acks := ⟨Nat.le_trans hle h1.1, fun m hm => h1.2.1 m (hsub m hm), hn⟩
  have hl := all_len (r := ackR r w) h1 hset hsub
  cases ha : allR (ackR r w) with
  | true =>
    rw [ha] at hl
    have : (ackR r w).acks.length = (ackR r w).members.length := by
      have h1 : ¬ ((ackR r w).acks.length : Int) < (ackR r w).members.length := by simpa using hl
      have h2 : (ackR r w).acks.length ≤ (ackR r w).members.length := hle
      omega
    simp only [fixR, this, if_true]; rfl
  | false =>
    rw [ha] at hl
    have : ¬ (ackR r w).acks.length = (ackR r w).members.length := by
      have h1 : ((ackR r w).acks.length : Int) < (ackR r w).members.length := by simpa using hl
      omega
    simp only [fixR, this, if_false]; rfl

def H58 (Pg : Nat → Option Fn) : Prop := Pg 58 = some (.code F58) ∧ H37 Pg ∧ H38 Pg ∧ H62 Pg ∧ H42 Pg ∧ H61 Pg ∧ H60 Pg
theorem K58 (h : H58 Pg) (r : Rep) (w : Word) (ok : r.Ok) (ha : r.acks.length ≤ 1000) (hw : w.members.length ≤ 1000) : K' Pg 58 [.agg (eRep r), .agg (eWord w)] = some (eRW (hearR r w)) := by
  obtain ⟨h, h37, h38, h62, h42, h61, h60⟩ := h
  have k37 := K37 h37 r ok
  have k38 := K38 h38 r
  have k62m := K62 h62 r.members w.frm ok.m
  have k62a := K62 h62 r.acks w.frm ok.a
  have k62w := K62 h62 w.members r.id (by omega)
  have k42 := K42 h42 (ackR r w) ⟨ok.m, by simp only [ackR, List.length_append, List.length_singleton]; omega⟩
  have k61 := K61 h61 w.members
  have k60v := K60 h60 w.view
  have k60n := K60 h60 w.n
  have hlim : r.acks.length + 1 ≤ lim := by simp only [lim]; omega
  have hlim0 : r.acks.length ≤ lim := by simp only [lim]; omega
  simp only [eInts, eRep, eWord] at k37 k38 k62m k62a k62w k61 k60v k60n
  simp only [eInts, eRep, ackR, List.map_append, List.map_cons, List.map_nil] at k42
  refine K'_code h rfl ?_
  cases c1 : rightB r with
  | false => simp only [go_sem, k37, c1, hearR]
  | true =>
  by_cases c2 : w.to = r.id
  · have c2' := decide_eq_true c2
    by_cases d1 : w.kind = 1
    · have d1' := decide_eq_true d1
      have d2' : decide (w.kind = 2) = false := by simp [d1]
      have d3' : decide (w.kind = 3) = false := by simp [d1]
      have e : hearR r w = shipR r w := by simp only [hearR, c1, c2, d1, if_true]
      rw [e]
      cases b1 : decide (SetP w.members) with
      | false =>
        have e : shipR r w = (r, []) := by simp only [shipR, membR, b1]; simp
        rw [e]
        simp only [go_sem, k37, c1, c2', d1', d2', d3', k61, b1]
      | true =>
      cases b2 : decide (r.id ∈ w.members) with
      | false =>
        have e : shipR r w = (r, []) := by simp only [shipR, membR, b1, b2]; simp
        rw [e]
        simp only [go_sem, k37, c1, c2', d1', d2', d3', k61, b1, k62w, b2]
      | true =>
      obtain ⟨a, l, hal⟩ : ∃ a l', w.members = a :: l' := by
        cases hw : w.members with
        | nil => rw [hw] at b2; simp at b2
        | cons a l => exact ⟨a, l, rfl⟩
      have h0 : iadV 1 (V.slice 1 (List.map (fun a => [iz a]) w.members)) (iz 0) = some (.cptr [iz a] 0) := by rw [hal]; rfl
      by_cases b3 : a = w.frm
      · have b3' := decide_eq_true b3
        cases b4 : decide (w.frm = r.id) with
        | true =>
          have e : shipR r w = (r, []) := by simp only [shipR, b4, if_true]
          rw [e]
          simp only [go_sem, k37, c1, c2', d1', d2', d3', k61, b1, k62w, b2, h0, b3', b4]
        | false =>
        have hm : membR w.members r.id w.frm = true := by simp only [membR, b1, b2]; simp [hal, b3]
        cases b5 : numG w.view 1 with
        | false =>
          have e : shipR r w = (r, []) := by simp only [shipR, b4, hm, b5]; simp
          rw [e]
          simp only [go_sem, k37, c1, c2', d1', d2', d3', k61, b1, k62w, b2, h0, b3', b4, k60v, b5]
        | true =>
        cases b6 : numG w.n 1 with
        | false =>
          have e : shipR r w = (r, []) := by simp only [shipR, b4, hm, b5, b6]; simp
          rw [e]
          simp only [go_sem, k37, c1, c2', d1', d2', d3', k61, b1, k62w, b2, h0, b3', b4, k60v, b5, k60n, b6]
        | true =>
        have e : shipR r w = shipT r w := by simp only [shipR, b4, hm, b5, b6]; rfl
        rw [e]
        by_cases f1 : w.view < r.view
        · have e : shipT r w = (r, [⟨3, r.id, w.frm, r.view, 0, [], []⟩]) := by simp only [shipT, f1, if_true]
          rw [e]
          simp only [go_sem, k37, c1, c2', d1', d2', d3', k61, b1, k62w, b2, h0, b3', b4, k60v, b5, k60n, b6, f1]
        · by_cases f2 : w.view = r.view
          · have f2' := decide_eq_true f2
            have f5 : decide (r.view < w.view) = false := by simp; omega
            cases hl : leadsR r with
            | true =>
              have e : shipT r w = (r, []) := by simp only [shipT]; rw [if_neg f1, if_pos ⟨f2, .inl hl⟩]
              rw [e]
              simp only [go_sem, k37, c1, c2', d1', d2', d3', k61, b1, k62w, b2, h0, b3', b4, k60v, b5, k60n, b6, f1, f2', k38, hl]
            | false =>
              by_cases f3 : w.n < r.n
              · have e : shipT r w = (r, []) := by simp only [shipT]; rw [if_neg f1, if_pos ⟨f2, .inr f3⟩]
                rw [e]
                simp only [go_sem, k37, c1, c2', d1', d2', d3', k61, b1, k62w, b2, h0, b3', b4, k60v, b5, k60n, b6, f1, f2', k38, hl, f3]
              · by_cases f4 : r.n < w.n
                · have e : shipT r w = (shipN r w, [⟨2, r.id, w.frm, w.view, w.n, [], []⟩]) := by simp only [shipT]; rw [if_neg f1, if_neg (by rw [hl]; simp; omega), if_pos (.inr f4)]
                  rw [e]
                  simp only [go_sem, k37, c1, c2', d1', d2', d3', k61, b1, k62w, b2, h0, b3', b4, k60v, b5, k60n, b6, f1, f2', k38, hl, f3, f4, f5, shipN]
                · have e : shipT r w = (r, [⟨2, r.id, w.frm, w.view, w.n, [], []⟩]) := by
                    have : w.n = r.n := by omega
                    simp only [shipT]; rw [if_neg f1, if_neg (by rw [hl]; simp; omega), if_neg (by omega), this, f2]
                  rw [e]
                  simp only [go_sem, k37, c1, c2', d1', d2', d3', k61, b1, k62w, b2, h0, b3', b4, k60v, b5, k60n, b6, f1, f2', k38, hl, f3, f4, f5]
          · have f2' := decide_eq_false f2
            have f5 : decide (r.view < w.view) = true := by simp; omega
            have e : shipT r w = (shipN r w, [⟨2, r.id, w.frm, w.view, w.n, [], []⟩]) := by simp only [shipT]; rw [if_neg f1, if_neg (fun x => f2 x.1), if_pos (.inl f2)]
            rw [e]
            simp only [go_sem, k37, c1, c2', d1', d2', d3', k61, b1, k62w, b2, h0, b3', b4, k60v, b5, k60n, b6, f1, f2', f5, shipN]
      · have b3' := decide_eq_false b3
        have hm : membR w.members r.id w.frm = false := by simp only [membR, b1, b2, hal]; simp [b3]
        have e : shipR r w = (r, []) := by simp only [shipR, hm]; simp
        rw [e]
        simp only [go_sem, k37, c1, c2', d1', d2', d3', k61, b1, k62w, b2, h0, b3']
    · have d1' := decide_eq_false d1
      by_cases d2 : w.kind = 2
      · have d2' := decide_eq_true d2
        have d3' : decide (w.kind = 3) = false := by simp [d2]
        have e : hearR r w = (if ackB r w then (fixR (ackR r w), []) else (r, [])) := by simp only [hearR]; rw [if_pos c1, if_pos c2, if_neg d1, if_pos d2]
        rw [e]
        cases b1 : leadsR r with
        | false => simp only [go_sem, k37, c1, c2', d1', d2', d3', k38, b1, ackB]
        | true =>
        cases b2 : decide (w.view = r.view) with
        | false => simp only [go_sem, k37, c1, c2', d1', d2', d3', k38, b1, b2, ackB]
        | true =>
        cases b3 : decide (w.n = r.n) with
        | false => simp only [go_sem, k37, c1, c2', d1', d2', d3', k38, b1, b2, b3, ackB]
        | true =>
        cases b4 : decide (w.frm ∈ r.members) with
        | false => simp only [go_sem, k37, c1, c2', d1', d2', d3', k38, b1, b2, b3, k62m, b4, ackB]
        | true =>
        cases b5 : decide (w.frm ∈ r.acks) with
        | true => simp only [go_sem, k37, c1, c2', d1', d2', d3', k38, b1, b2, b3, k62m, k62a, b4, b5, ackB]
        | false =>
          have hb : ackB r w = true := by simp only [ackB, b1, b2, b3, b4, b5]; rfl
          rw [if_pos hb, ack_fix c1 hb]
          cases hall : allR (ackR r w) with
          | true =>
            simp only [ackR] at hall
            simp only [go_sem, k37, c1, c2', d1', d2', d3', k38, b1, b2, b3, k62m, k62a, b4, b5, mkA, hlim, hlim0, k42, hall, ackR, List.map_append]
          | false =>
            simp only [ackR] at hall
            simp only [go_sem, k37, c1, c2', d1', d2', d3', k38, b1, b2, b3, k62m, k62a, b4, b5, mkA, hlim, hlim0, k42, hall, ackR, List.map_append]
      · have d2' := decide_eq_false d2
        by_cases d3 : w.kind = 3
        · have d3' := decide_eq_true d3
          have e : hearR r w = (if r.view < w.view then (pastR r, []) else (r, [])) := by simp only [hearR]; rw [if_pos c1, if_pos c2, if_neg d1, if_neg d2, if_pos d3]
          rw [e]
          by_cases b : r.view < w.view <;> simp only [go_sem, k37, c1, c2', d1', d2', d3', b, pastR]
        · have d3' := decide_eq_false d3
          have e : hearR r w = (r, []) := by simp only [hearR]; rw [if_pos c1, if_pos c2, if_neg d1, if_neg d2, if_neg d3]
          rw [e]
          simp only [go_sem, k37, c1, c2', d1', d2', d3']
  · have c2' := decide_eq_false c2
    have e : hearR r w = (r, []) := by simp only [hearR, c1, c2, if_true, if_false]
    rw [e]
    simp only [go_sem, k37, c1, c2']
end Sg
