import Derived.Test.YtgimpinbcagjhaaSkGroup4
namespace Sg
open _root_.Go (IntKind BinOp UnOp)
set_option linter.unusedSimpArgs false
set_option linter.unusedVariables false
variable {Pg : Nat → Option Fn}

def zeroRep : Rep := ⟨0, 0, [], 0, [], [], []⟩
@[go_sem] def eRWE (x : Rep × List Word × Int) : V := .tuple [.agg (eRep x.1), eWords x.2.1, iz x.2.2]
@[go_sem] def eRW (x : Rep × List Word) : V := .tuple [.agg (eRep x.1), eWords x.2]
@[go_sem] def eRE (x : Rep × Int) : V := .tuple [.agg (eRep x.1), iz x.2]

def proposeR (r : Rep) (t : List UInt8) : Rep × List Word × Int :=
  if rightB r then (if leadsR r then (if allR r then (if r.n = 1099511627776 then (zeroRep, [], 6) else
    (fixR ⟨r.id, r.view, r.members, r.n + 1, r.base, t, [r.id]⟩, shipsR ⟨r.id, r.view, r.members, r.n + 1, r.base, t, [r.id]⟩, 0)) else (zeroRep, [], 11)) else (zeroRep, [], 10)) else (zeroRep, [], 1)

def H47 (Pg : Nat → Option Fn) : Prop := Pg 47 = some (.code F47) ∧ H39 Pg ∧ H68 Pg ∧ H41 Pg ∧ H71 Pg ∧ H72 Pg
theorem K47 (h : H47 Pg) (r : Rep) (t : List UInt8) (ok : r.Ok) (hm : r.members.length ≤ 1000) : K' Pg 47 [.agg (eRep r), .str t] = some (eRWE (proposeR r t)) := by
  obtain ⟨h, h39, h68, h41, h71, h72⟩ := h
  have k39 := K39 h39 r ok
  have k68 := K68 h68 r
  have k41 := K41 h41 r ok
  have k71 := K71 h71 ⟨r.id, r.view, r.members, r.n + 1, r.base, t, [r.id]⟩
  have k72 := K72 h72 ⟨r.id, r.view, r.members, r.n + 1, r.base, t, [r.id]⟩ ⟨ok.m, by simp⟩ hm
  simp only [eInts, eRep, List.map_cons, List.map_nil] at k39 k68 k41 k71 k72
  refine K'_code h rfl ?_
  cases hr : rightB r with
  | false => simp only [go_sem, k39, proposeR, hr, zeroRep]
  | true =>
    cases hl : leadsR r with
    | false => simp only [go_sem, k39, k68, proposeR, hr, hl, zeroRep]
    | true =>
      cases ha : allR r with
      | false =>
        have hb : busyR r = true := by simp [busyR, hr, hl, ha]
        simp only [go_sem, k39, k68, k41, hb, proposeR, hr, hl, ha, zeroRep]
      | true =>
        have hb : busyR r = false := by simp [busyR, ha]
        by_cases hn : r.n = 1099511627776
        · have e : proposeR r t = (zeroRep, [], 6) := by simp [proposeR, hr, hl, ha, hn]
          have hd := decide_eq_true hn
          simp only [go_sem, k39, k68, k41, hb, e, hr, hl, ha, hd, zeroRep]
        · obtain ⟨-, -, -, -, -, -, -, h1, h2⟩ := right_parts hr
          have hinc : IntKind.i64.wrap (r.n + 1) = r.n + 1 := wrap64 (by omega) (by omega)
          simp only [go_sem, k39, k68, k41, hb, proposeR, hr, hl, ha, hn, hinc, k71, k72]

def H48 (Pg : Nat → Option Fn) : Prop := Pg 48 = some (.code F48) ∧ H37 Pg ∧ H38 Pg ∧ H42 Pg ∧ H52 Pg
theorem K48 (h : H48 Pg) (r : Rep) (t : List UInt8) (ok : r.Ok) (hm : r.members.length ≤ 1000) : K' Pg 48 [.agg (eRep r), .str t] = some (eRWE (proposeR r t)) := by
  obtain ⟨h, h37, h38, h42, h52⟩ := h
  have k37 := K37 h37 r ok
  have k38 := K38 h38 r
  have k42 := K42 h42 r ok
  have k52 := fun b => K52 h52 ⟨r.id, r.view, r.members, r.n + 1, b, t, [r.id]⟩ ⟨ok.m, by simp⟩ hm
  simp only [eInts, eRep, List.map_cons, List.map_nil] at k37 k38 k42 k52
  refine K'_code h rfl ?_
  cases hr : rightB r with
  | false => simp only [go_sem, k37, proposeR, hr, zeroRep]
  | true =>
    cases hl : leadsR r with
    | false => simp only [go_sem, k37, k38, proposeR, hr, hl, zeroRep]
    | true =>
      cases ha : allR r with
      | false => simp only [go_sem, k37, k38, k42, proposeR, hr, hl, ha, zeroRep]
      | true =>
        obtain ⟨-, -, -, -, -, -, -, h1, h2⟩ := right_parts hr
        by_cases hn : r.n = 1099511627776
        · have e : proposeR r t = (zeroRep, [], 6) := by simp [proposeR, hr, hl, ha, hn]
          have hd : decide ((1099511627776 : Int) ≤ r.n) = true := by simp; omega
          simp only [go_sem, k37, k38, k42, e, hr, hl, ha, hd, zeroRep]
        · have hinc : IntKind.i64.wrap (r.n + 1) = r.n + 1 := wrap64 (by omega) (by omega)
          have hge : decide ((1099511627776 : Int) ≤ r.n) = false := by simp; omega
          have e : ∀ b, shipsR ⟨r.id, r.view, r.members, r.n + 1, b, t, [r.id]⟩ = shipsR ⟨r.id, r.view, r.members, r.n + 1, r.base, t, [r.id]⟩ := fun b => rfl
          simp only [go_sem, k37, k38, k42, proposeR, hr, hl, ha, hn, hinc, hge]
          refine wpc_i (fun hc => ?_) (fun hc => ?_)
          · have hc : 1 = r.members.length := by have := of_decide_eq_true hc; omega
            simp only [go_sem, k52, e, fixR, ← hc]
          · have hc : ¬ 1 = r.members.length := by have := of_decide_eq_false hc; omega
            simp only [go_sem, k52, e, fixR, hc]

def H51 (Pg : Nat → Option Fn) : Prop := Pg 51 = some (.code F51) ∧ H41 Pg ∧ H72 Pg
theorem K51 (h : H51 Pg) (r : Rep) (ok : r.Ok) (hm : r.members.length ≤ 1000) : K' Pg 51 [.agg (eRep r)] = some (eWords (if busyR r then shipsR r else [])) := by
  obtain ⟨h, h41, h72⟩ := h
  have k41 := K41 h41 r ok
  have k72 := K72 h72 r ok hm
  simp only [eInts, eRep] at k41 k72
  refine K'_code h rfl ?_
  cases hb : busyR r <;> simp only [go_sem, k41, k72, hb]

def newR (id : Int) (l : List Int) (t : List UInt8) : Rep × Int :=
  if 1 ≤ id ∧ id ≤ 255 ∧ SetP l ∧ id ∈ l then (⟨id, 1, l, 1, t, t, if l.head? = some id then l else []⟩, 0) else (zeroRep, 1)

theorem new_right {id : Int} {l acks : List Int} {t : List UInt8} (h0 : l ≠ []) (h : acks = l ∧ l.head? = some id ∨ acks = [] ∧ l.head? ≠ some id) :
    rightB ⟨id, 1, l, 1, t, t, acks⟩ = decide (1 ≤ id ∧ id ≤ 255 ∧ SetP l ∧ id ∈ l) := by
  rw [← rightG_eq]
  have n1 : numG 1 0 = true := rfl
  have hz : decide ((0 : Int) < (l.length : Int)) = true := by
    cases l with
    | nil => exact absurd rfl h0
    | cons a l => exact pos_len
  by_cases a1 : id < 1
  · have : ¬ 1 ≤ id := by omega
    simp [rightG, a1, this]
  · by_cases a2 : 255 < id
    · have : ¬ id ≤ 255 := by omega
      simp [rightG, a2, this]
    · have b1 : 1 ≤ id := by omega
      have b2 : id ≤ 255 := by omega
      by_cases a3 : SetP l
      · by_cases a4 : id ∈ l
        · rcases h with ⟨rfl, hh⟩ | ⟨rfl, hh⟩
          · have hl : leadsR ⟨id, 1, acks, 1, t, t, acks⟩ = true := by
              cases acks with
              | nil => simp at hh
              | cons a l => simp at hh; simp [leadsR, hh]
            simp [rightG, a1, a2, a3, a4, b1, b2, n1, hz, hl]
          · have hl : leadsR ⟨id, 1, l, 1, t, t, []⟩ = false := by
              cases l with
              | nil => rfl
              | cons a l => simp at hh; simp [leadsR, hh]
            have s0 : SetP [] := by decide
            simp [rightG, a1, a2, a3, a4, b1, b2, n1, hz, hl, s0]
        · simp only [rightG, a4, hz]; simp
      · simp [rightG, a3]

def H43 (Pg : Nat → Option Fn) : Prop := Pg 43 = some (.code F43) ∧ H69 Pg ∧ H68 Pg ∧ H39 Pg
theorem K43 (h : H43 Pg) (id : Int) (l : List Int) (t : List UInt8) (hl : l.length ≤ 1000) : K' Pg 43 [iz id, eInts l, .str t] = some (eRE (newR id l t)) := by
  obtain ⟨h, h69, h68, h39⟩ := h
  have k69 := K69 h69 l (by omega)
  have k68 := K68 h68 ⟨id, 1, l, 1, t, t, []⟩
  have k39 := fun a ha => K39 h39 ⟨id, 1, l, 1, t, t, a⟩ ⟨by simp only; omega, ha⟩
  refine K'_code h rfl ?_
  cases l with
  | nil =>
    simp only [eInts, eRep, List.map_nil] at k69 k68 k39
    have e : leadsR ⟨id, 1, [], 1, t, t, []⟩ = false := rfl
    simp only [go_sem, k69, k68, e, newR, zeroRep, List.not_mem_nil, and_false]
  | cons m l =>
    simp only [eInts, eRep, List.map_cons, List.map_nil] at k69 k68 k39
    have hz : decide (((l.length + 1 : Nat) : Int) = 0) = false := by simp; omega
    by_cases hm : m = id
    · subst hm
      have e : leadsR ⟨m, 1, m :: l, 1, t, t, []⟩ = true := by simp [leadsR]
      have k := k39 (m :: l) (by simp only [List.length_cons] at hl ⊢; omega)
      simp only [List.map_cons] at k
      rw [new_right (by simp) (.inl ⟨rfl, by simp⟩)] at k
      by_cases hc : 1 ≤ m ∧ m ≤ 255 ∧ SetP (m :: l) ∧ m ∈ m :: l
      · simp only [hc, and_self, decide_true] at k
        simp only [go_sem, k69, k68, e, hz, k, newR, zeroRep, hc, List.head?_cons]
      · simp only [hc, decide_false] at k
        simp only [go_sem, k69, k68, e, hz, k, newR, zeroRep, hc]
    · have e : leadsR ⟨id, 1, m :: l, 1, t, t, []⟩ = false := by simp [leadsR, hm]
      have k := k39 [] (by simp)
      simp only [List.map_nil] at k
      rw [new_right (by simp) (.inr ⟨rfl, by simp [hm]⟩)] at k
      by_cases hc : 1 ≤ id ∧ id ≤ 255 ∧ SetP (m :: l) ∧ id ∈ m :: l
      · simp only [hc, and_self, decide_true] at k
        simp only [go_sem, k69, k68, e, hz, k, newR, zeroRep, hc, hm, List.head?_cons, Option.some.injEq]
      · simp only [hc, decide_false] at k
        simp only [go_sem, k69, k68, e, hz, k, newR, zeroRep, hc]

def H44 (Pg : Nat → Option Fn) : Prop := Pg 44 = some (.code F44) ∧ H61 Pg ∧ H62 Pg
theorem K44 (h : H44 Pg) (id : Int) (l : List Int) (t : List UInt8) (hl : l.length ≤ 1000) : K' Pg 44 [iz id, eInts l, .str t] = some (eRE (newR id l t)) := by
  obtain ⟨h, h61, h62⟩ := h
  have k61 := K61 h61 l
  have k62 := fun x => K62 h62 l x (by omega)
  simp only [eInts] at k61 k62
  refine K'_code h rfl ?_
  by_cases hc : 1 ≤ id ∧ id ≤ 255 ∧ SetP l ∧ id ∈ l
  · obtain ⟨a1, a2, a3, a4⟩ := hc
    have b1 : ¬ id < 1 := by omega
    have b2 : ¬ 255 < id := by omega
    cases l with
    | nil => simp at a4
    | cons m l =>
      have h0 : iadV 1 (V.slice 1 ([iz m] :: List.map (fun a => [iz a]) l)) (iz 0) = some (.cptr [iz m] 0) := rfl
      simp only [List.map_cons] at k61 k62
      by_cases hm : m = id
      · subst hm
        simp only [go_sem, k61, k62, a1, a2, a3, a4, b1, b2, h0, newR, List.head?_cons]
      · simp only [go_sem, k61, k62, a1, a2, a3, a4, b1, b2, h0, hm, newR, List.head?_cons, Option.some.injEq]
  · have e : newR id l t = (zeroRep, 1) := by simp only [newR, hc, if_false]
    by_cases b1 : id < 1
    · simp only [go_sem, k61, k62, b1, e, zeroRep]
    · by_cases b2 : 255 < id
      · simp only [go_sem, k61, k62, b1, b2, e, zeroRep]
      · by_cases b3 : SetP l
        · have b4 : id ∉ l := fun b4 => hc ⟨by omega, by omega, b3, b4⟩
          simp only [go_sem, k61, k62, b1, b2, b3, b4, e, zeroRep]
        · simp only [go_sem, k61, k62, b1, b2, b3, e, zeroRep]

def H35 (Pg : Nat → Option Fn) : Prop := Pg 35 = some (.code F35) ∧ H43 Pg ∧ H47 Pg ∧ H41 Pg ∧ H40 Pg
theorem K35 (h : H35 Pg) : K' Pg 35 [] = some (.bool true) := by
  obtain ⟨h, h43, h47, h41, h40⟩ := h
  refine K'_code h rfl ?_
  have k43 := K43 h43 1 [1, 2] [120] (by simp)
  have k47 := K47 h47 ⟨1, 1, [1, 2], 1, [120], [120], [1, 2]⟩ [121] ⟨by simp, by simp⟩ (by simp)
  have k41 := K41 h41 ⟨1, 1, [1, 2], 2, [120], [121], [1]⟩ ⟨by simp, by simp⟩
  have k40 := K40 h40 ⟨1, 1, [1, 2], 1, [120], [120], [1, 2]⟩ ⟨by simp, by simp⟩
  have e1 : newR 1 [1, 2] [120] = (⟨1, 1, [1, 2], 1, [120], [120], [1, 2]⟩, 0) := by decide
  have e2 : proposeR ⟨1, 1, [1, 2], 1, [120], [120], [1, 2]⟩ [121] = (⟨1, 1, [1, 2], 2, [120], [121], [1]⟩, [⟨1, 1, 2, 1, 2, [1, 2], [121]⟩], 0) := by decide
  have e3 : busyR ⟨1, 1, [1, 2], 2, [120], [121], [1]⟩ = true := by decide
  have e4 : (rightB ⟨1, 1, [1, 2], 1, [120], [120], [1, 2]⟩ && leadsR ⟨1, 1, [1, 2], 1, [120], [120], [1, 2]⟩) = true := by decide
  rw [e1] at k43
  rw [e2] at k47
  rw [e3] at k41
  rw [e4] at k40
  simp only [eRE, eRWE, eRep, eInts, eWords, eWord, List.map_cons, List.map_nil] at k43 k47 k41 k40
  have one : decide (((1 : Nat) : Int) = 1) = true := rfl
  have h0 : ∀ x : List V, iadV 7 (V.slice 7 [x]) (iz 0) = some (.cptr x 0) := fun x => rfl
  simp only [go_sem, k43, k47, k41, k40, one, h0]
end Sg
