/- AtlasTurns, at every input: proved over a checked abstract run of the translated code; no condition. Part 4 of 4. -/
import Derived.Test.YtoklilggickleaaDoorCards
import Derived.Test.YtoklilggickleaaDoorTie
import Derived.ProofKit
import Derived.OpenShut
import Derived.Lib.LaidIn
import Derived.Lib.LaidTab
import Derived.Deep.DeepHandedRow
import Derived.Deep.DeepWitnessRowRef
import Derived.Test.YtoklilggickleaaDoorRows
import Derived.Test.YtoklilggickleaaDoorAtlasTurnsA3
namespace Sg
open _root_.Go (IntKind BinOp UnOp)
set_option linter.unusedSimpArgs false
set_option linter.unusedVariables false
set_option maxRecDepth 10000
variable {Pg : Nat → Option Fn}
structure Place where
  span : Span
  shard : Int
  cell : Int
  epoch : Int
  deriving DecidableEq
@[go_sem] def ePl (p : Place) : List V := [.str p.span.lo, .str p.span.hi, iz p.shard, iz p.cell, iz p.epoch]
@[go_sem] def ePls (l : List Place) : V := .slice 5 (l.map ePl)
def numA (n : Int) : Bool := decide (1 ≤ n) && decide (n ≤ 1099511627776)
def celA (n : Int) : Bool := decide (1 ≤ n) && decide (n ≤ 3)
def okPl (p : Place) : Bool := numA p.shard && (numA p.epoch && celA p.cell)
def gR : List Place → Bool
  | [] => true
  | p :: l => okPl p && (!(l.any fun q => decide (q.shard = p.shard)) && gR l)
def gA : List Place → List Place → Bool
  | _, [] => true
  | seen, p :: l => okPl p && (!(seen.any fun q => decide (q.shard = p.shard)) && gA (seen ++ [p]) l)
theorem gA_gR : ∀ (l seen : List Place), gA seen l = (gR l && l.all fun p => !(seen.any fun q => decide (q.shard = p.shard)))
  | [], seen => by simp [gA, gR]
  | p :: l, seen => by
    have h1 : (l.all fun q => !((seen ++ [p]).any fun r => decide (r.shard = q.shard))) = ((l.all fun q => !(seen.any fun r => decide (r.shard = q.shard))) && !(l.any fun q => decide (q.shard = p.shard))) := by
      rw [List.not_any_eq_all_not]
      rw [Bool.eq_iff_iff]
      simp only [Bool.and_eq_true, List.all_eq_true, Bool.not_eq_true', List.any_append, List.any_cons, List.any_nil, Bool.or_false, Bool.or_eq_false_iff, decide_eq_false_iff_not]
      exact ⟨fun h => ⟨fun q hq => (h q hq).1, fun q hq => fun e => (h q hq).2 e.symm⟩, fun h q hq => ⟨h.1 q hq, fun e => h.2 q hq e.symm⟩⟩
    simp only [gA, gR, List.all_cons, gA_gR l (seen ++ [p]), h1]
    cases okPl p <;> cases (seen.any fun q => decide (q.shard = p.shard)) <;> cases (l.any fun q => decide (q.shard = p.shard)) <;> cases gR l <;> simp
def rightA (l : List Place) : Bool := decide (l.length ≤ 8) && (gR l && wholeS (l.map Place.span))
theorem gR_A {l : List Place} : gA [] l = gR l := by
  rw [gA_gR]; simp
def H162 (Pg : Nat → Option Fn) : Prop := Pg 162 = some (.code F162)
theorem K162 (h : H162 Pg) (n : Int) : K' Pg 162 [iz n] = some (.bool (numA n)) := by
  refine K'_code h rfl ?_
  simp only [go_sem]
  cases c1 : decide (1 ≤ n) <;> simp only [go_sem, c1, numA]
def H163 (Pg : Nat → Option Fn) : Prop := Pg 163 = some (.code F163)
theorem K163 (h : H163 Pg) (n : Int) : K' Pg 163 [iz n] = some (.bool (celA n)) := by
  refine K'_code h rfl ?_
  simp only [go_sem]
  cases c1 : decide (1 ≤ n) <;> simp only [go_sem, c1, celA]
theorem pos_1 {n : Int} : decide (0 < n) = decide (1 ≤ n) := decide_eq_decide.2 (by omega)
def H173 (Pg : Nat → Option Fn) : Prop := Pg 173 = some (.code F173)
theorem K173 (h : H173 Pg) (n : Int) : K' Pg 173 [iz n] = some (.bool (numA n)) := by
  refine K'_code h rfl ?_
  simp only [go_sem, pos_1]
  cases c1 : decide (1 ≤ n) <;> simp only [go_sem, c1, numA]
def H164 (Pg : Nat → Option Fn) : Prop := Pg 164 = some (.code F164)
theorem K164 (h : H164 Pg) (q p : Place) : K' Pg 164 [.agg (ePl q), .cptr (ePl p) 0] = some (.bool (decide (q.shard = p.shard))) := by
  refine K'_code h rfl ?_
  simp only [go_sem]
def H194 (Pg : Nat → Option Fn) : Prop := Pg 194 = some (.code F194)
theorem K194 (h : H194 Pg) (q : Place) (n : Int) : K' Pg 194 [.agg (ePl q), .cptr [iz n] 0] = some (.bool (decide (q.shard = n))) := by
  refine K'_code h rfl ?_
  simp only [go_sem]
def idxP : List Place → (Place → Bool) → Nat → Int
  | [], _, _ => -1
  | a :: l, p, i => if p a then i else idxP l p (i + 1)
theorem idxP_any : ∀ {l : List Place} {p : Place → Bool} {i : Nat}, decide (0 ≤ idxP l p i) = l.any p
  | [], p, i => by simp [idxP]
  | a :: l, p, i => by
    simp only [idxP]
    split
    · rename_i h; simp [h]
    · rename_i h; rw [idxP_any]; simp [h]
def H185 (Pg : Nat → Option Fn) : Prop := Pg 185 = some (.code F185)
theorem K185 (h : H185 Pg) (l : List Place) (g : Nat) (cap : List V) (p : Place → Bool) (hl : l.length < 2 ^ 60) (hg : ∀ x ∈ l, K' Pg g (.agg (ePl x) :: cap) = some (.bool (p x))) :
    K' Pg 185 [ePls l, .func g cap] = some (iz (idxP l p 0)) := by
  refine K'_code h rfl ?_
  simp only [ePl] at hg
  simp only [go_sem]
  unfold l185_0
  refine wp_lp (fun (i : Nat) S => i ≤ l.length ∧ S.ρ 0 = ePls l ∧ S.ρ 1 = .func g cap ∧ S.ρ 7 = iz l.length ∧ S.ρ 8 = iz i ∧ idxP (l.drop i) p i = idxP l p 0) (fun i => l.length - i) 0 ?_ ?_
  · simp [go_sem]
  · intro i S ⟨hi, h0, h1, h7, h8, ho⟩
    simp only [go_sem, h0, h1, h7, h8]
    refine wpc_i (fun h => ?_) (fun h => ?_)
    · have h := lt_of h
      obtain ⟨x, hx, hd⟩ := drop_at h
      rw [hd] at ho
      have hgx := hg x (List.mem_of_getElem? hx)
      simp only [go_sem, h0, h1, h7, h8, hx, hgx]
      refine wpc_i (fun hc => ?_) (fun hc => ?_)
      · simp only [idxP, hc, if_true] at ho
        simp only [go_sem, ← ho]
      · simp only [idxP, hc, Bool.false_eq_true, if_false] at ho
        simp only [go_sem, h0, h1, h7, h8]
        exact ⟨i + 1, by omega, by omega, by rw [inc64 h hl], ho⟩
    · have h := eq_of hi h
      subst h
      simp only [List.drop_length, idxP] at ho
      simp only [go_sem, ← ho]
def H165 (Pg : Nat → Option Fn) : Prop := Pg 165 = some (.code F165) ∧ H185 Pg
theorem K165 (h : H165 Pg) (l : List Place) (g : Nat) (cap : List V) (p : Place → Bool) (hl : l.length < 2 ^ 60) (hg : ∀ x ∈ l, K' Pg g (.agg (ePl x) :: cap) = some (.bool (p x))) :
    K' Pg 165 [ePls l, .func g cap] = some (.bool (l.any p)) := by
  obtain ⟨h, h185⟩ := h
  have k := K185 h185 l g cap p hl hg
  simp only [ePls] at k
  refine K'_code h rfl ?_
  simp only [go_sem, k, idxP_any]
def H141 (Pg : Nat → Option Fn) : Prop := Pg 141 = some (.code F141) ∧ H162 Pg ∧ H163 Pg ∧ H164 Pg ∧ H165 Pg ∧ H166 Pg
theorem K141 (h : H141 Pg) (l : List Place) : K' Pg 141 [ePls l] = some (.bool (rightA l)) := by
  obtain ⟨h, h162, h163, h164, h165, h166⟩ := h
  have k162 := fun x => K162 h162 x
  have k163 := fun x => K163 h163 x
  refine K'_code h rfl ?_
  simp only [go_sem]
  refine wpc_i (fun hc => ?_) (fun hc => ?_)
  · have hc : ¬ l.length ≤ 8 := by have := of_decide_eq_true hc; omega
    simp only [go_sem, rightA, hc]
  have hc : l.length ≤ 8 := by have := of_decide_eq_false hc; omega
  have hr : rightA l = (gR l && wholeS (l.map Place.span)) := by simp [rightA, hc]
  rw [hr]
  have k166 := K166 h166 (l.map Place.span) (by simp; omega)
  simp only [eSpans] at k166
  simp only [go_sem, mkA]
  unfold l141_0
  refine wp_lp (fun (i : Nat) S => i ≤ l.length ∧ S.ρ 0 = ePls l ∧ S.μ 5 = none ∧ S.A 3 = some (2, ((l.take i).map Place.span).map eSpan, .live) ∧ S.ρ 3 = .own 3 2 i ∧ S.ρ 9 = ePls l ∧ S.ρ 10 = iz l.length ∧ S.ρ 11 = iz i ∧ gA (l.take i) (l.drop i) = gR l) (fun i => l.length - i) 0 ?_ ?_
  · simp [go_sem, gR_A]
  · intro i S ⟨hi, h0, m5, a3, h3, h9, h10, h11, ho⟩
    have hlim : ((List.map Place.span (List.take i l)).map eSpan).length + 1 ≤ lim := by simp [lim]; omega
    have hil : ((List.map Place.span (List.take i l)).map eSpan).length = i := by simp; omega
    have hlim : i + 1 ≤ lim := by simp [lim]; omega
    simp only [go_sem, h0, m5, a3, h3, h9, h10, h11]
    refine wpc_i (fun h => ?_) (fun h => ?_)
    · have h := lt_of h
      obtain ⟨x, hx, hd⟩ := drop_at h
      rw [hd] at ho
      simp only [gA] at ho
      have kc := K165 h165 (l.take i) 164 [.cptr (ePl x) 0] (fun q => decide (q.shard = x.shard)) (by simp; omega) (fun q _ => K164 h164 q x)
      simp only [ePls, ePl, List.map_take] at kc
      simp only [go_sem, h0, m5, a3, h3, h9, h10, h11, hx, k162, k163]
      cases c1 : numA x.shard with
      | false =>
        simp only [okPl, c1, Bool.false_and] at ho
        simp only [go_sem, c1, ← ho, h0, m5, a3, h3, h9, h10, h11, hx, k162, k163]
      | true =>
      cases c2 : numA x.epoch with
      | false =>
        simp only [okPl, c1, c2, Bool.false_and, Bool.and_false] at ho
        simp only [go_sem, c1, c2, ← ho, h0, m5, a3, h3, h9, h10, h11, hx, k162, k163]
      | true =>
      cases c3 : celA x.cell with
      | false =>
        simp only [okPl, c1, c2, c3, Bool.false_and, Bool.and_false] at ho
        simp only [go_sem, c1, c2, c3, ← ho, h0, m5, a3, h3, h9, h10, h11, hx, k162, k163]
      | true =>
      simp only [okPl, c1, c2, c3, Bool.true_and] at ho
      simp only [go_sem, c1, c2, c3, h0, m5, a3, h3, h9, h10, h11, hx, k162, k163, hi, kc]
      cases c4 : (l.take i).any (fun q => decide (q.shard = x.shard)) with
      | true =>
        rw [c4] at ho
        simp only [Bool.not_true, Bool.false_and] at ho
        simp only [go_sem, c4, ← ho]
      | false =>
        rw [c4] at ho
        simp only [Bool.not_false, Bool.true_and] at ho
        simp only [go_sem, c4, h0, m5, a3, h3, h9, h10, h11, hx, hil, hlim]
        refine ⟨i + 1, by omega, by omega, ?_, ?_, by rw [inc64 h (by omega)], by rw [take_s hx]; exact ho⟩
        · rw [take_s hx]; simp [eSpan]
        · rfl
    · have h := eq_of hi h
      subst h
      rw [List.take_length] at a3 ho
      rw [List.drop_length] at ho
      have ho : true = gR l := ho
      simp only [go_sem, h0, a3, h3, k166, ← ho]
theorem lt1_num {n : Int} : decide (n < 1) = !decide (1 ≤ n) := by by_cases h : 1 ≤ n <;> simp [h] <;> omega
theorem gt3_cel {n : Int} : decide (3 < n) = !decide (n ≤ 3) := by by_cases h : n ≤ 3 <;> simp [h] <;> omega
def H147 (Pg : Nat → Option Fn) : Prop := Pg 147 = some (.code F147) ∧ H173 Pg ∧ H174 Pg
theorem K147 (h : H147 Pg) (l : List Place) : K' Pg 147 [ePls l] = some (.bool (rightA l)) := by
  obtain ⟨h, h173, h174⟩ := h
  have k173 := fun x => K173 h173 x
  refine K'_code h rfl ?_
  simp only [go_sem]
  refine wpc_i (fun hc => ?_) (fun hc => ?_)
  · have hc : ¬ l.length ≤ 8 := by have := of_decide_eq_true hc; omega
    simp only [go_sem, rightA, hc]
  have hc : l.length ≤ 8 := by have := of_decide_eq_false hc; omega
  have hr : rightA l = (gR l && wholeS (l.map Place.span)) := by simp [rightA, hc]
  rw [hr]
  have k174 := K174 h174 (l.map Place.span) (by simp; omega)
  simp only [eSpans] at k174
  simp only [go_sem, mkA]
  unfold l147_0
  refine wp_lp (fun (i : Nat) S => i ≤ l.length ∧ S.ρ 0 = ePls l ∧ S.A 3 = some (2, ((l.take i).map Place.span).map eSpan, .live) ∧ S.ρ 3 = .own 3 2 i ∧ S.ρ 4 = iz i ∧ gR (l.drop i) = gR l) (fun i => l.length - i) 0 ?_ ?_
  · simp [go_sem]
  · intro i S ⟨hi, h0, a3, h3, h4, ho⟩
    have hil : ((List.map Place.span (List.take i l)).map eSpan).length = i := by simp; omega
    have hlim : i + 1 ≤ lim := by simp [lim]; omega
    simp only [go_sem, h0, a3, h3, h4]
    refine wpc_i (fun h => ?_) (fun h => ?_)
    · have h := lt_of h
      obtain ⟨x, hx, hd⟩ := drop_at h
      rw [hd] at ho
      simp only [gR] at ho
      simp only [go_sem, h0, a3, h3, h4, hx, k173, hil, hlim]
      cases c1 : numA x.shard with
      | false =>
        simp only [okPl, c1, Bool.false_and] at ho
        simp only [go_sem, c1, ← ho, h0, a3, h3, h4, hx, k173]
      | true =>
      cases c2 : numA x.epoch with
      | false =>
        simp only [okPl, c1, c2, Bool.false_and, Bool.and_false] at ho
        simp only [go_sem, c1, c2, ← ho, h0, a3, h3, h4, hx, k173]
      | true =>
      cases c3 : decide (1 ≤ x.cell) with
      | false =>
        simp only [okPl, celA, c1, c2, c3, Bool.false_and, Bool.and_false] at ho
        simp only [go_sem, c1, c2, c3, ← ho, h0, a3, h3, h4, hx, k173, lt1_num, gt3_cel]
      | true =>
      cases c4 : decide (x.cell ≤ 3) with
      | false =>
        simp only [okPl, celA, c1, c2, c3, c4, Bool.false_and, Bool.and_false] at ho
        simp only [go_sem, c1, c2, c3, c4, ← ho, h0, a3, h3, h4, hx, k173, lt1_num, gt3_cel]
      | true =>
      simp only [okPl, celA, c1, c2, c3, c4, Bool.true_and, Bool.and_true] at ho
      have hinc : IntKind.i64.wrap ((i : Int) + 1) = ((i + 1 : Nat) : Int) := inc64 h (by omega)
      simp only [go_sem, c1, c2, c3, c4, h0, a3, h3, h4, hx, k173, lt1_num, gt3_cel, hinc]
      unfold l147_1
      refine wp_lp (fun (j : Nat) S => (i + 1 ≤ j ∧ j ≤ l.length) ∧ S.ρ 0 = ePls l ∧ S.A 3 = some (2, ((l.take (i + 1)).map Place.span).map eSpan, .live) ∧ S.ρ 3 = .own 3 2 (i + 1) ∧ S.ρ 4 = iz i ∧ S.ρ 5 = iz j ∧ ((l.drop (i + 1)).any fun q => decide (q.shard = x.shard)) = ((l.drop j).any fun q => decide (q.shard = x.shard))) (fun j => l.length - j) (i + 1) ?_ ?_
      · simp [go_sem, h0, h3, h4]
        refine ⟨by omega, ?_⟩
        rw [← List.map_take, ← List.map_take, take_s hx]; simp [eSpan]
      · intro j S ⟨hj, h0, a3, h3, h4, h5, hw⟩
        simp only [go_sem, h0, a3, h3, h4, h5]
        refine wpc_i (fun h' => ?_) (fun h' => ?_)
        · have h' := lt_of h'
          obtain ⟨y, hy, hd'⟩ := drop_at h'
          rw [hd'] at hw
          simp only [List.any_cons] at hw
          simp only [go_sem, h0, a3, h3, h4, h5, hx, hy]
          refine wpc_i (fun he => ?_) (fun he => ?_)
          · rw [he, Bool.true_or] at hw
            rw [hw] at ho
            simp only [Bool.not_true, Bool.false_and] at ho
            simp only [go_sem, ← ho]
          · rw [he, Bool.false_or] at hw
            simp only [go_sem, h0, a3, h3, h4, h5]
            exact ⟨j + 1, by omega, by omega, by rw [inc64 h' (by omega)], hw⟩
        · have h' : j = l.length := by have := of_decide_eq_false h'; omega
          have hw : ((l.drop (i + 1)).any fun q => decide (q.shard = x.shard)) = false := by rw [hw, h', List.drop_length]; rfl
          rw [hw] at ho
          simp only [Bool.not_false, Bool.true_and] at ho
          simp only [go_sem, h0, a3, h3, h4, h5]
          exact ⟨i + 1, by omega, by omega, rfl, rfl, by rw [hinc], ho⟩
    · have h := eq_of hi h
      subst h
      rw [List.take_length] at a3
      rw [List.drop_length] at ho
      have ho : true = gR l := ho
      simp only [go_sem, h0, a3, h3, k174, ← ho]
def zeroPl : Place := ⟨⟨[], []⟩, 0, 0, 0⟩
@[go_sem] def eOP (o : Option Place) : V := .tuple [.agg (ePl (o.getD zeroPl)), .bool o.isSome]
def findA (l : List Place) (k : List UInt8) : Option Place := l.find? fun p => decide (k = []) || hasS p.span k
def keyE (k : List UInt8) : Bool := decide (k = []) || keyR k
def H144 (Pg : Nat → Option Fn) : Prop := Pg 144 = some (.code F144) ∧ H141 Pg ∧ H170 Pg ∧ H171 Pg
theorem K144 (h : H144 Pg) (l : List Place) (k : List UInt8) (hl : l.length < 2 ^ 60) : K' Pg 144 [ePls l, .str k] = some (eOP (if rightA l && keyE k then findA l k else none)) := by
  obtain ⟨h, h141, h170, h171⟩ := h
  have k141 := K141 h141 l
  have k170 := K170 h170 k
  have k171 := fun s => K171 h171 s k
  simp only [ePls] at k141
  simp only [eSpan] at k171
  refine K'_code h rfl ?_
  have main : (rightA l && keyE k) = true → ∀ S : St, S.ρ 0 = ePls l → S.ρ 1 = .str k → True := fun _ _ _ _ => trivial
  cases c1 : rightA l with
  | false => simp only [go_sem, c1, k141, zeroPl, Option.isSome_none]
  | true =>
  cases c2 : decide (k = []) with
  | true =>
    have e : (true && keyE k) = true := by simp [keyE, c2]
    rw [if_pos e]
    simp only [go_sem, c1, c2, k141, k170]
    unfold l144_0
    refine wp_lp (fun (i : Nat) S => i ≤ l.length ∧ S.ρ 1 = .str k ∧ S.ρ 4 = .lref 4 0 ∧ S.μ 4 = some (ePl zeroPl, false) ∧ S.μ 7 = none ∧ S.ρ 21 = ePls l ∧ S.ρ 22 = iz l.length ∧ S.ρ 23 = iz i ∧ findA (l.drop i) k = findA l k) (fun i => l.length - i) 0 ?_ ?_
    · simp [go_sem, zeroPl]
    · intro i S ⟨hi, h1, h4, m4, m7, h21, h22, h23, ho⟩
      simp only [go_sem, h1, h4, m4, m7, h21, h22, h23]
      refine wpc_i (fun h => ?_) (fun h => ?_)
      · have h := lt_of h
        obtain ⟨x, hx, hd⟩ := drop_at h
        rw [hd] at ho
        simp only [findA, List.find?_cons, c2, Bool.true_or] at ho
        simp only [go_sem, h1, h4, m4, m7, h21, h22, h23, hx, c2, findA, ← ho, Option.isSome_some, zeroPl]
      · have h := eq_of hi h
        subst h
        rw [List.drop_length] at ho
        have ho : none = findA l k := ho
        simp only [go_sem, h1, h4, m4, m7, h21, h22, h23, ← ho, zeroPl, Option.isSome_none]
  | false =>
  cases c3 : keyR k with
  | false =>
    have e : ¬ (true && keyE k) = true := by simp [keyE, c2, c3]
    rw [if_neg e]
    simp only [go_sem, c1, c2, c3, k141, k170, zeroPl, Option.isSome_none]
  | true =>
    have e : (true && keyE k) = true := by simp [keyE, c2, c3]
    rw [if_pos e]
    simp only [go_sem, c1, c2, c3, k141, k170]
    unfold l144_0
    refine wp_lp (fun (i : Nat) S => i ≤ l.length ∧ S.ρ 1 = .str k ∧ S.ρ 4 = .lref 4 0 ∧ S.μ 4 = some (ePl zeroPl, false) ∧ S.μ 7 = none ∧ S.ρ 21 = ePls l ∧ S.ρ 22 = iz l.length ∧ S.ρ 23 = iz i ∧ findA (l.drop i) k = findA l k) (fun i => l.length - i) 0 ?_ ?_
    · simp [go_sem, zeroPl]
    · intro i S ⟨hi, h1, h4, m4, m7, h21, h22, h23, ho⟩
      simp only [go_sem, h1, h4, m4, m7, h21, h22, h23]
      refine wpc_i (fun h => ?_) (fun h => ?_)
      · have h := lt_of h
        obtain ⟨x, hx, hd⟩ := drop_at h
        rw [hd] at ho
        simp only [findA, List.find?_cons, c2, Bool.false_or] at ho
        simp only [go_sem, h1, h4, m4, m7, h21, h22, h23, hx, c2, k171]
        cases c4 : hasS x.span k with
        | true =>
          rw [c4] at ho
          simp only at ho
          simp only [go_sem, c4, h1, h4, m4, m7, h21, h22, h23, hx, findA, c2, Bool.false_or, ← ho, Option.isSome_some, zeroPl]
        | false =>
          rw [c4] at ho
          simp only at ho
          simp only [go_sem, c4, h1, h4, m4, m7, h21, h22, h23, hx]
          refine ⟨i + 1, by omega, by omega, by rw [inc64 h hl], ?_⟩
          simp only [findA, c2, Bool.false_or]
          exact ho
      · have h := eq_of hi h
        subst h
        rw [List.drop_length] at ho
        have ho : none = findA l k := ho
        simp only [go_sem, h1, h4, m4, m7, h21, h22, h23, ← ho, zeroPl, Option.isSome_none]
end Sg
namespace Sg
open _root_.Go (IntKind BinOp UnOp)
set_option linter.unusedSimpArgs false
set_option linter.unusedVariables false
set_option maxRecDepth 10000
variable {Pg : Nat → Option Fn}
def idxA (l : List Place) (n : Int) : Int := idxP l (fun p => decide (p.shard = n)) 0
def H175 (Pg : Nat → Option Fn) : Prop := Pg 175 = some (.code F175) ∧ H185 Pg ∧ H194 Pg
theorem K175 (h : H175 Pg) (l : List Place) (n : Int) (hl : l.length < 2 ^ 60) : K' Pg 175 [ePls l, iz n] = some (iz (idxA l n)) := by
  obtain ⟨h, h185, h194⟩ := h
  have k := K185 h185 l 194 [.cptr [iz n] 0] (fun p => decide (p.shard = n)) hl (fun p _ => K194 h194 p n)
  simp only [ePls] at k
  refine K'_code h rfl ?_
  simp only [go_sem, k, idxA]
def H151 (Pg : Nat → Option Fn) : Prop := Pg 151 = some (.code F151)
theorem K151 (h : H151 Pg) (l : List Place) (n : Int) (hl : l.length < 2 ^ 60) : K' Pg 151 [ePls l, iz n] = some (iz (idxA l n)) := by
  refine K'_code h rfl ?_
  simp only [go_sem, idxA]
  unfold l151_0
  refine wp_lp (fun (i : Nat) S => i ≤ l.length ∧ S.ρ 0 = ePls l ∧ S.ρ 1 = iz n ∧ S.ρ 5 = iz i ∧ idxP (l.drop i) (fun p => decide (p.shard = n)) i = idxP l (fun p => decide (p.shard = n)) 0) (fun i => l.length - i) 0 ?_ ?_
  · simp [go_sem]
  · intro i S ⟨hi, h0, h1, h5, ho⟩
    simp only [go_sem, h0, h1, h5]
    refine wpc_i (fun h => ?_) (fun h => ?_)
    · have h := lt_of h
      obtain ⟨x, hx, hd⟩ := drop_at h
      rw [hd] at ho
      simp only [go_sem, h0, h1, h5, hx]
      refine wpc_i (fun hc => ?_) (fun hc => ?_)
      · simp only [idxP, hc, if_true] at ho
        simp only [go_sem, ← ho, h5]
      · simp only [idxP, hc, Bool.false_eq_true, if_false] at ho
        simp only [go_sem, h0, h1, h5]
        exact ⟨i + 1, by omega, by omega, by rw [inc64 h hl], ho⟩
    · have h := eq_of hi h
      subst h
      simp only [List.drop_length, idxP] at ho
      simp only [go_sem, ← ho]
theorem idxP_spec : ∀ (l : List Place) (p : Place → Bool) (i : Nat), (idxP l p i = -1 ∧ l.find? p = none ∧ ∀ x ∈ l, p x = false) ∨ (∃ j x, idxP l p i = ((i + j : Nat) : Int) ∧ l[j]? = some x ∧ l.find? p = some x ∧ p x = true ∧ ∀ y ∈ l.take j, p y = false)
  | [], p, i => .inl ⟨rfl, rfl, by simp⟩
  | a :: l, p, i => by
    by_cases h : p a = true
    · right
      exact ⟨0, a, by simp [idxP, h], rfl, by simp [h], h, by simp⟩
    · have h : p a = false := by simpa using h
      rcases idxP_spec l p (i + 1) with ⟨h1, h2, h3⟩ | ⟨j, x, h1, h2, h3, h4, h5⟩
      · left
        refine ⟨by simp [idxP, h, h1], by simp [h, h2], fun y hy => ?_⟩
        rcases List.mem_cons.1 hy with rfl | hy
        · exact h
        · exact h3 y hy
      · right
        have e1 : i + 1 + j = i + (j + 1) := by omega
        refine ⟨j + 1, x, by simp only [idxP, h, Bool.false_eq_true, if_false, h1, e1], by simpa using h2, by simp [h, h3], h4, ?_⟩
        intro y hy
        simp only [List.take_succ_cons] at hy
        rcases List.mem_cons.1 hy with rfl | hy
        · exact h
        · exact h5 y hy
def ofA (l : List Place) (n : Int) : Option Place := l.find? fun p => decide (p.shard = n)
theorem idxA_spec (l : List Place) (n : Int) : (idxA l n = -1 ∧ ofA l n = none) ∨ (∃ (j : Nat) (x : Place), idxA l n = (j : Int) ∧ l[j]? = some x ∧ ofA l n = some x ∧ x.shard = n ∧ ∀ y ∈ l.take j, y.shard ≠ n) := by
  rcases idxP_spec l (fun p => decide (p.shard = n)) 0 with ⟨h1, h2, -⟩ | ⟨j, x, h1, h2, h3, h4, h5⟩
  · exact .inl ⟨h1, h2⟩
  · exact .inr ⟨j, x, by simpa [idxA] using h1, h2, h3, by simpa using h4, fun y hy => by simpa using h5 y hy⟩
def H153 (Pg : Nat → Option Fn) : Prop := Pg 153 = some (.code F153)
theorem K153 (h : H153 Pg) (t : List Place) (hl : t.length < 2 ^ 60) : K' Pg 153 [ePls t, ePls t] = some (.bool true) := by
  refine K'_code h rfl ?_
  simp only [go_sem]
  unfold l153_0
  refine wp_lp (fun (i : Nat) S => i ≤ t.length ∧ S.ρ 0 = ePls t ∧ S.ρ 1 = ePls t ∧ S.ρ 5 = iz i) (fun i => t.length - i) 0 ?_ ?_
  · simp [go_sem]
  · intro i S ⟨hi, h0, h1, h5⟩
    simp only [go_sem, h0, h1, h5]
    refine wpc_i (fun h => ?_) (fun h => ?_)
    · have h := lt_of h
      obtain ⟨x, hx, hd⟩ := drop_at h
      simp only [go_sem, h0, h1, h5, hx]
      exact ⟨i + 1, by omega, by omega, by rw [inc64 h hl]⟩
    · simp only [go_sem]
def firstA : List Place := [⟨⟨[], []⟩, 1, 1, 1⟩]
def H154 (Pg : Nat → Option Fn) : Prop := Pg 154 = some (.code F154)
theorem K154 (h : H154 Pg) : K' Pg 154 [] = some (ePls firstA) := by
  refine K'_code h rfl ?_
  simp only [go_sem, firstA]
end Sg
namespace Sg
open _root_.Go (IntKind BinOp UnOp)
set_option linter.unusedSimpArgs false
set_option linter.unusedVariables false
set_option maxRecDepth 10000
variable {Pg : Nat → Option Fn}
@[go_sem] def ePE (x : List Place × Int) : V := .tuple [ePls x.1, iz x.2]
@[go_sem] def eII (x : Int × Int) : V := .tuple [iz x.1, iz x.2]
def readyA (l : List Place) (shard epoch : Int) : Int × Int :=
  if rightA l && numA epoch then (match ofA l shard with | none => (0, 7) | some p => if epoch ≤ p.epoch then (0, 9) else (idxA l shard, 0)) else (0, 1)
def H177 (Pg : Nat → Option Fn) : Prop := Pg 177 = some (.code F177) ∧ H141 Pg ∧ H162 Pg ∧ H175 Pg
theorem K177 (h : H177 Pg) (l : List Place) (n e : Int) (hl : l.length < 2 ^ 60) : K' Pg 177 [ePls l, iz n, iz e] = some (eII (readyA l n e)) := by
  obtain ⟨h, h141, h162, h175⟩ := h
  have k141 := K141 h141 l
  have k162 := K162 h162 e
  have k175 := K175 h175 l n hl
  simp only [ePls] at k141 k175
  refine K'_code h rfl ?_
  cases c1 : rightA l with
  | false => simp only [go_sem, k141, k175, c1, readyA]
  | true =>
  cases c2 : numA e with
  | false => simp only [go_sem, k141, k162, k175, c1, c2, readyA]
  | true =>
  rcases idxA_spec l n with ⟨e1, e2⟩ | ⟨j, x, e1, e2, e3, -⟩
  · rw [e1] at k175
    simp only [go_sem, k141, k162, k175, c1, c2, readyA, e2]
  · rw [e1] at k175
    have hj : decide ((j : Int) < 0) = false := decide_eq_false (by omega)
    cases c3 : decide (e ≤ x.epoch) with
    | true =>
      have c3' := of_decide_eq_true c3
      simp only [go_sem, k141, k162, k175, c1, c2, c3, c3', hj, e1, e2, e3, readyA]
    | false =>
      have c3' := of_decide_eq_false c3
      simp only [go_sem, k141, k162, k175, c1, c2, c3, c3', hj, e1, e2, e3, readyA]
def movedA (l : List Place) (n to e : Int) : List Place × Int :=
  if celA to then (if (readyA l n e).2 = 0 then (match ofA l n with
    | none => ([], 0)
    | some p => if p.cell = to then ([], 8) else (l.set (idxA l n).toNat ⟨p.span, p.shard, to, e⟩, 0)) else ([], (readyA l n e).2)) else ([], 1)
theorem ready_0 {l : List Place} {n e : Int} (h : (readyA l n e).2 = 0) : rightA l = true ∧ numA e = true ∧ ∃ (j : Nat) (x : Place), idxA l n = (j : Int) ∧ l[j]? = some x ∧ ofA l n = some x ∧ x.shard = n ∧ (∀ y ∈ l.take j, y.shard ≠ n) ∧ ¬ e ≤ x.epoch ∧ readyA l n e = ((j : Int), 0) := by
  simp only [readyA] at h ⊢
  split at h
  · rename_i hc
    rw [Bool.and_eq_true] at hc
    rcases idxA_spec l n with ⟨e1, e2⟩ | ⟨j, x, e1, e2, e3, e4, e5⟩
    · rw [e2] at h; simp at h
    · rw [e3] at h
      simp only at h
      split at h
      · simp at h
      · rename_i he
        refine ⟨hc.1, hc.2, j, x, e1, e2, e3, e4, e5, he, ?_⟩
        rw [e3]
        simp only [hc.1, hc.2, e1, he, if_false]
        rfl
  · simp at h
def H179 (Pg : Nat → Option Fn) : Prop := Pg 179 = some (.prim (some 0) (cloneQ 5))
theorem K179 (h : H179 Pg) (rows : List (List V)) (hl : rows.length ≤ lim) : K' Pg 179 [.slice 5 rows] = some (.slice 5 rows) := by
  rw [K'_prim h]; simp [cloneQ, hl]
def H159 (Pg : Nat → Option Fn) : Prop := Pg 159 = some (.code F159) ∧ H163 Pg ∧ H177 Pg ∧ H179 Pg
theorem K159 (h : H159 Pg) (l : List Place) (n to e : Int) (hl : l.length ≤ 1000) : K' Pg 159 [ePls l, iz n, iz to, iz e] = some (ePE (movedA l n to e)) := by
  obtain ⟨h, h163, h177, h179⟩ := h
  have k163 := K163 h163 to
  have k177 := K177 h177 l n e (by omega)
  have k179 := K179 h179 (l.map ePl) (by simp [lim]; omega)
  simp only [ePls, eII] at k177
  refine K'_code h rfl ?_
  cases c1 : celA to with
  | false => simp only [go_sem, k163, k177, c1, movedA]
  | true =>
  cases c2 : decide ((readyA l n e).2 = 0) with
  | false =>
    have h2 := of_decide_eq_false c2
    simp only [go_sem, k163, k177, c1, c2, movedA, h2]
  | true =>
    have h2 := of_decide_eq_true c2
    obtain ⟨-, -, j, x, e1, e2, e3, e4, -, e5, e6⟩ := ready_0 h2
    have hj : j < l.length := (List.getElem?_eq_some_iff.1 e2).1
    rw [e6] at k177
    simp only at k177
    cases c3 : decide (x.cell = to) with
    | true =>
      have c3' := of_decide_eq_true c3
      simp only [go_sem, k163, k177, c1, movedA, h2, e1, e2, e3, c3, c3']
    | false =>
      have c3' := of_decide_eq_false c3
      have hm : movedA l n to e = (l.set j ⟨x.span, x.shard, to, e⟩, 0) := by
        simp only [movedA, c1, h2, e1, e3, c3', if_true, if_false]; rfl
      have hs : ∀ r, ((l.map ePl).set j r)[j]? = some r := fun r => by simp [hj]
      have hz : ∀ r, ((l.map ePl).set j r).length = l.length := fun r => by simp
      have hf : (l.set j ⟨x.span, x.shard, to, e⟩).map ePl = (l.map ePl).set j (ePl ⟨x.span, x.shard, to, e⟩) := by rw [List.map_set]
      simp only [ePl] at hf
      rw [hm]
      simp only [go_sem, k163, k177, k179, c1, e2, c3, hj, hs, hz, hf, List.set_set]
theorem ins_get {α : Type} {L : List α} {j : Nat} {x new : α} (h : L[j]? = some x) : (L.take (j + 1) ++ new :: L.drop (j + 1))[j]? = some x := by
  have hj := (List.getElem?_eq_some_iff.1 h).1
  rw [List.getElem?_append_left (by rw [List.length_take]; omega), List.getElem?_take_of_lt (by omega), h]
theorem ins_set {α : Type} {L : List α} {j : Nat} {x new r : α} (h : L[j]? = some x) : (L.take (j + 1) ++ new :: L.drop (j + 1)).set j r = L.take j ++ r :: new :: L.drop (j + 1) := by
  have hj := (List.getElem?_eq_some_iff.1 h).1
  rw [take_s h, List.append_assoc, List.set_append_right _ _ (by rw [List.length_take]; omega)]
  have : j - (L.take j).length = 0 := by rw [List.length_take]; omega
  rw [this]; rfl
theorem mid_get {α : Type} {L D : List α} {j : Nat} {r : α} (h : j ≤ L.length) : (L.take j ++ r :: D)[j]? = some r := by
  have e : (L.take j).length = j := by rw [List.length_take]; omega
  rw [List.getElem?_append_right (by omega), e]; simp
theorem mid_set {α : Type} {L D : List α} {j : Nat} {r r' : α} (h : j ≤ L.length) : (L.take j ++ r :: D).set j r' = L.take j ++ r' :: D := by
  have e : (L.take j).length = j := by rw [List.length_take]; omega
  rw [List.set_append_right _ _ (by omega), e]; simp
def partedL (l : List Place) (j : Nat) (p : Place) (low high : Span) (o e : Int) : List Place := l.take j ++ ⟨low, p.shard, p.cell, e⟩ :: ⟨high, o, p.cell, e⟩ :: l.drop (j + 1)
def partedA (l : List Place) (n : Int) (k : List UInt8) (o e : Int) : List Place × Int :=
  if numA o then (if (readyA l n e).2 = 0 then (match ofA l n with
    | none => ([], 0)
    | some p => if 0 ≤ idxA l o then ([], 8) else if l.length = 8 then ([], 6) else
      if (cutS p.span k).2.2 = 0 then (partedL l (idxA l n).toNat p (cutS p.span k).1 (cutS p.span k).2.1 o e, 0) else ([], (cutS p.span k).2.2)) else ([], (readyA l n e).2)) else ([], 1)
def H156 (Pg : Nat → Option Fn) : Prop := Pg 156 = some (.code F156) ∧ H162 Pg ∧ H175 Pg ∧ H177 Pg ∧ H178 Pg ∧ H179 Pg
theorem K156 (h : H156 Pg) (l : List Place) (n : Int) (k : List UInt8) (o e : Int) (hl : l.length ≤ 1000) : K' Pg 156 [ePls l, iz n, .str k, iz o, iz e] = some (ePE (partedA l n k o e)) := by
  obtain ⟨h, h162, h175, h177, h178, h179⟩ := h
  have k162 := K162 h162 o
  have k175 := K175 h175 l o (by omega)
  have k177 := K177 h177 l n e (by omega)
  have k178 := fun s => K178 h178 s k
  have k179 := K179 h179 (l.map ePl) (by simp [lim]; omega)
  simp only [ePls, eII] at k177 k175
  simp only [eSpan, eSSE] at k178
  refine K'_code h rfl ?_
  cases c1 : numA o with
  | false => simp only [go_sem, k162, k177, c1, partedA]
  | true =>
  cases c2 : decide ((readyA l n e).2 = 0) with
  | false =>
    have h2 := of_decide_eq_false c2
    simp only [go_sem, k162, k177, c1, c2, partedA, h2]
  | true =>
    have h2 := of_decide_eq_true c2
    obtain ⟨-, -, j, x, e1, e2, e3, e4, -, e5, e6⟩ := ready_0 h2
    have hj : j < l.length := (List.getElem?_eq_some_iff.1 e2).1
    rw [e6] at k177
    simp only at k177
    cases c3 : decide (0 ≤ idxA l o) with
    | true =>
      have hm : partedA l n k o e = ([], 8) := by
        simp only [partedA, c1, h2, e3, of_decide_eq_true c3, if_true]
      rw [hm]
      simp only [go_sem, k162, k175, k177, c1, e2, c3]
    | false =>
    have c3' := of_decide_eq_false c3
    cases c4 : decide ((l.length : Int) = 8) with
    | true =>
      have c4' : l.length = 8 := by have := of_decide_eq_true c4; omega
      have hm : partedA l n k o e = ([], 6) := by
        simp only [partedA, c1, h2, e3, c3', c4', if_true, if_false]
      rw [hm]
      simp only [go_sem, k162, k175, k177, c1, e2, c3, c4]
    | false =>
    have c4' : ¬ l.length = 8 := by have := of_decide_eq_false c4; omega
    cases c5 : decide ((cutS x.span k).2.2 = 0) with
    | false =>
      have hm : partedA l n k o e = ([], (cutS x.span k).2.2) := by
        simp only [partedA, c1, h2, e3, c3', c4', of_decide_eq_false c5, if_true, if_false]
      rw [hm]
      simp only [go_sem, k162, k175, k177, k178, c1, e2, c3, c4, c5]
    | true =>
      have hm : partedA l n k o e = (partedL l j x (cutS x.span k).1 (cutS x.span k).2.1 o e, 0) := by
        simp only [partedA, c1, h2, e1, e3, c3', c4', of_decide_eq_true c5, if_true, if_false]; rfl
      rw [hm]
      have hlim : l.length + 1 ≤ lim := by simp only [lim]; omega
      have hinc : IntKind.i64.wrap ((j : Int) + 1) = ((j + 1 : Nat) : Int) := inc64 hj (by omega)
      have hj1 : j + 1 ≤ l.length := hj
      simp only [go_sem, k162, k175, k177, k178, k179, c1, e2, c3, c4, c5, hinc, hlim, hj, hj1]
      have hx : (l.map ePl)[j]? = some (ePl x) := by simp [e2]
      have hjl : j ≤ (l.map ePl).length := by simp; omega
      have q1 : ∀ new, ((l.map ePl).take (j + 1) ++ new :: (l.map ePl).drop (j + 1))[j]? = some (ePl x) := fun new => ins_get hx
      have q2 : ∀ new r, ((l.map ePl).take (j + 1) ++ new :: (l.map ePl).drop (j + 1)).set j r = (l.map ePl).take j ++ r :: new :: (l.map ePl).drop (j + 1) := fun new r => ins_set hx
      have q3 : ∀ r D, ((l.map ePl).take j ++ r :: D)[j]? = some r := fun r D => mid_get hjl
      have q4 : ∀ r r' D, ((l.map ePl).take j ++ r :: D).set j r' = (l.map ePl).take j ++ r' :: D := fun r r' D => mid_set hjl
      have q5 : (List.take (j + 1) (List.map ePl l)).length + ((List.drop (j + 1) (List.map ePl l)).length + 1) = l.length + 1 := by
        rw [List.length_take, List.length_drop, List.length_map]; omega
      have q6 : (List.take j (List.map ePl l)).length + ((List.drop (j + 1) (List.map ePl l)).length + 1 + 1) = l.length + 1 := by
        rw [List.length_take, List.length_drop, List.length_map]; omega
      have q7 : (partedL l j x (cutS x.span k).1 (cutS x.span k).2.1 o e).map ePl = (l.map ePl).take j ++ ePl ⟨(cutS x.span k).1, x.shard, x.cell, e⟩ :: ePl ⟨(cutS x.span k).2.1, o, x.cell, e⟩ :: (l.map ePl).drop (j + 1) := by
        simp [partedL]
      simp only [ePl] at q1 q7
      rw [q7]
      have hj2 : j < l.length + 1 := by omega
      simp only [go_sem, q1, q2, q3, q4, q5, q6, hj2]
theorem del_get {α : Type} {L D : List α} {j : Nat} {x : α} (h : L[j]? = some x) : (L.take (j + 1) ++ D)[j]? = some x := by
  have hj := (List.getElem?_eq_some_iff.1 h).1
  rw [List.getElem?_append_left (by rw [List.length_take]; omega), List.getElem?_take_of_lt (by omega), h]
theorem del_set {α : Type} {L D : List α} {j : Nat} {x r : α} (h : L[j]? = some x) : (L.take (j + 1) ++ D).set j r = L.take j ++ r :: D := by
  have hj := (List.getElem?_eq_some_iff.1 h).1
  rw [take_s h, List.append_assoc, List.set_append_right _ _ (by rw [List.length_take]; omega)]
  have : j - (L.take j).length = 0 := by rw [List.length_take]; omega
  rw [this]; rfl
def joinedL (l : List Place) (j : Nat) (p q : Place) (e : Int) : List Place := l.take j ++ ⟨⟨p.span.lo, q.span.hi⟩, p.shard, p.cell, e⟩ :: l.drop (j + 2)
def joinedA (l : List Place) (n o e : Int) : List Place × Int :=
  if numA o then (if (readyA l n e).2 = 0 then (match ofA l n with
    | none => ([], 0)
    | some p => match ofA l o with
      | none => ([], 7)
      | some q => if idxA l o = idxA l n + 1 ∧ p.cell = q.cell ∧ ¬ e ≤ q.epoch then (joinedL l (idxA l n).toNat p q e, 0) else ([], 9)) else ([], (readyA l n e).2)) else ([], 1)
def H157 (Pg : Nat → Option Fn) : Prop := Pg 157 = some (.code F157) ∧ H162 Pg ∧ H175 Pg ∧ H177 Pg ∧ H179 Pg
theorem K157 (h : H157 Pg) (l : List Place) (n o e : Int) (hl : l.length ≤ 1000) : K' Pg 157 [ePls l, iz n, iz o, iz e] = some (ePE (joinedA l n o e)) := by
  obtain ⟨h, h162, h175, h177, h179⟩ := h
  have k162 := K162 h162 o
  have k175 := K175 h175 l o (by omega)
  have k177 := K177 h177 l n e (by omega)
  have k179 := K179 h179 (l.map ePl) (by simp [lim]; omega)
  simp only [ePls, eII] at k177 k175
  refine K'_code h rfl ?_
  cases c1 : numA o with
  | false => simp only [go_sem, k162, k175, k177, c1, joinedA]
  | true =>
  cases c2 : decide ((readyA l n e).2 = 0) with
  | false =>
    have h2 := of_decide_eq_false c2
    simp only [go_sem, k162, k175, k177, c1, c2, joinedA, h2]
  | true =>
    have h2 := of_decide_eq_true c2
    obtain ⟨-, -, j, x, e1, e2, e3, e4, -, e5, e6⟩ := ready_0 h2
    have hj : j < l.length := (List.getElem?_eq_some_iff.1 e2).1
    rw [e6] at k177
    simp only at k177
    rcases idxA_spec l o with ⟨d1, d2⟩ | ⟨i, y, d1, d2, d3, d4, -⟩
    · rw [d1] at k175
      have hm : joinedA l n o e = ([], 7) := by simp only [joinedA, c1, h2, e3, d2, if_true]
      rw [hm]
      simp only [go_sem, k162, k175, k177, c1, e2]
    · rw [d1] at k175
      have hinc : IntKind.i64.wrap ((j : Int) + 1) = (j : Int) + 1 := by rw [inc64 hj (by omega)]; omega
      have hi0 : decide ((i : Int) < 0) = false := decide_eq_false (by omega)
      have hil : i < l.length := (List.getElem?_eq_some_iff.1 d2).1
      have hc : ∀ b, (decide ((i : Int) = (j : Int) + 1) && (decide (x.cell = y.cell) && !decide (e ≤ y.epoch))) = b → joinedA l n o e = if b then (joinedL l j x y e, 0) else ([], 9) := fun b hb => by
        simp only [joinedA, c1, h2, e3, d3, d1, e1, if_true]
        have : ((i : Int) = (j : Int) + 1 ∧ x.cell = y.cell ∧ ¬ e ≤ y.epoch) ↔ b = true := by
          rw [← hb]; simp
        by_cases hbt : b = true
        · rw [if_pos (this.2 hbt), if_pos hbt]; rfl
        · rw [if_neg (fun h => hbt (this.1 h)), if_neg hbt]
      cases f1 : decide ((i : Int) = (j : Int) + 1) with
      | false =>
        rw [hc false (by rw [f1]; rfl)]
        simp only [go_sem, k162, k175, k177, c1, e2, d2, hi0, hinc, f1]
      | true =>
      cases f2 : decide (x.cell = y.cell) with
      | false =>
        rw [hc false (by rw [f1, f2]; rfl)]
        simp only [go_sem, k162, k175, k177, c1, e2, d2, hi0, hinc, f1, f2]
      | true =>
      cases f3 : decide (e ≤ y.epoch) with
      | true =>
        rw [hc false (by rw [f1, f2, f3]; rfl)]
        simp only [go_sem, k162, k175, k177, c1, e2, d2, hi0, hinc, f1, f2, f3]
      | false =>
        rw [hc true (by rw [f1, f2, f3]; rfl)]
        obtain rfl : i = j + 1 := by have := of_decide_eq_true f1; omega
        have hinc2 : IntKind.i64.wrap (((j + 1 : Nat) : Int) + 1) = ((j + 1 + 1 : Nat) : Int) := inc64 hil (by omega)
        have hlim : l.length ≤ lim := by simp only [lim]; omega
        have hx : (l.map ePl)[j]? = some (ePl x) := by simp [e2]
        have hjl : j ≤ (l.map ePl).length := by simp; omega
        have q1 : ∀ D, ((l.map ePl).take (j + 1) ++ D)[j]? = some (ePl x) := fun D => del_get hx
        have q2 : ∀ r D, ((l.map ePl).take (j + 1) ++ D).set j r = (l.map ePl).take j ++ r :: D := fun r D => del_set hx
        have q3 : ∀ r D, ((l.map ePl).take j ++ r :: D)[j]? = some r := fun r D => mid_get hjl
        have q4 : ∀ r r' D, ((l.map ePl).take j ++ r :: D).set j r' = (l.map ePl).take j ++ r' :: D := fun r r' D => mid_set hjl
        have q5 : (List.take (j + 1) (List.map ePl l)).length + (List.drop (j + 1 + 1) (List.map ePl l)).length = l.length - 1 := by
          rw [List.length_take, List.length_drop, List.length_map]; omega
        have q6 : (List.take j (List.map ePl l)).length + ((List.drop (j + 1 + 1) (List.map ePl l)).length + 1) = l.length - 1 := by
          rw [List.length_take, List.length_drop, List.length_map]; omega
        have q7 : (joinedL l j x y e).map ePl = (l.map ePl).take j ++ ePl ⟨⟨x.span.lo, y.span.hi⟩, x.shard, x.cell, e⟩ :: (l.map ePl).drop (j + 1 + 1) := by
          simp [joinedL]
        have hj2 : j < l.length - 1 := by omega
        have hle1 : j + 1 ≤ j + 1 + 1 := by omega
        have hle2 : j + 1 + 1 ≤ l.length := hil
        simp only [ePl] at q1 q7
        simp only [go_sem, k162, k175, k177, k179, c1, e2, d2, hi0, hinc, hinc2, f1, f2, f3, hlim, hle1, hle2, q1, q2, q3, q4, q5, q6, q7, hj2]
end Sg
namespace Sg
open _root_.Go (IntKind BinOp UnOp)
set_option linter.unusedSimpArgs false
set_option linter.unusedVariables false
set_option maxRecDepth 10000
variable {Pg : Nat → Option Fn}
def turnA (l : List Place) (n : Int) (os : List Place) : List Place := l.flatMap fun p => if p.shard = n then os else [p]
theorem turn_s {l : List Place} {n : Int} {os : List Place} {i : Nat} {x : Place} (hx : l[i]? = some x) : turnA (l.take (i + 1)) n os = turnA (l.take i) n os ++ if x.shard = n then os else [x] := by
  rw [take_s hx]; simp [turnA]
theorem turn_len {l : List Place} {n : Int} {os : List Place} (ho : os.length ≤ 2) : (turnA l n os).length ≤ 2 * l.length := by
  induction l with
  | nil => simp [turnA]
  | cons a l ih =>
    have : turnA (a :: l) n os = (if a.shard = n then os else [a]) ++ turnA l n os := by simp [turnA]
    rw [this]
    simp only [List.length_append, List.length_cons]
    split
    · omega
    · simp; omega
def H182 (Pg : Nat → Option Fn) : Prop := Pg 182 = some (.code F182)
theorem K182 (h : H182 Pg) (l : List Place) (n : Int) (os : List Place) (hl : l.length ≤ 10000) (ho : os.length ≤ 2) : K' Pg 182 [ePls l, iz n, ePls os] = some (ePls (turnA l n os)) := by
  refine K'_code h rfl ?_
  simp only [go_sem, mkA]
  unfold l182_0
  refine wp_lp (fun (i : Nat) S => i ≤ l.length ∧ S.ρ 0 = ePls l ∧ S.ρ 1 = iz n ∧ S.ρ 2 = ePls os ∧ S.A 7 = some (5, (turnA (l.take i) n os).map ePl, .live) ∧ S.ρ 7 = .own 7 5 (turnA (l.take i) n os).length ∧ S.ρ 8 = iz i) (fun i => l.length - i) 0 ?_ ?_
  · simp [go_sem, turnA]
  · intro i S ⟨hi, h0, h1, h2, a7, h7, h8⟩
    have hle := turn_len (l := l.take i) (n := n) ho
    have hlim : (turnA (l.take i) n os).length + os.length ≤ lim := by simp only [lim, List.length_take] at *; omega
    have hlim1 : (turnA (l.take i) n os).length + 1 ≤ lim := by simp only [lim, List.length_take] at *; omega
    simp only [go_sem, h0, h1, h2, a7, h7, h8]
    refine wpc_i (fun h => ?_) (fun h => ?_)
    · have h := lt_of h
      obtain ⟨x, hx, hd⟩ := drop_at h
      have hs := turn_s (n := n) (os := os) hx
      simp only [go_sem, h0, h1, h2, a7, h7, h8, hx]
      refine wpc_i (fun hc => ?_) (fun hc => ?_)
      · rw [if_pos (of_decide_eq_true hc)] at hs
        simp only [go_sem, h0, h1, h2, a7, h7, h8, hx, hlim]
        exact ⟨i + 1, by omega, by omega, by rw [hs]; simp, by rw [hs]; simp, by rw [inc64 h (by omega)]⟩
      · rw [if_neg (of_decide_eq_false hc)] at hs
        simp only [go_sem, h0, h1, h2, a7, h7, h8, hx, hlim1]
        exact ⟨i + 1, by omega, by omega, by rw [hs]; simp [ePl], by rw [hs]; simp, by rw [inc64 h (by omega)]⟩
    · have h := eq_of hi h
      subst h
      rw [List.take_length] at a7 h7
      simp only [go_sem, a7, h7]
def change0 (l : List Place) (n to e : Int) : List Place × Int :=
  if rightA l && (numA e && celA to) then (match ofA l n with
    | none => ([], 7)
    | some p => if e ≤ p.epoch then ([], 9) else if p.cell = to then ([], 8) else (turnA l n [⟨p.span, p.shard, to, e⟩], 0)) else ([], 1)
def change1 (l : List Place) (n o : Int) (k : List UInt8) (e : Int) : List Place × Int :=
  if rightA l && (numA e && numA o) then (match ofA l n with
    | none => ([], 7)
    | some p => if e ≤ p.epoch then ([], 9) else if 0 ≤ idxA l o then ([], 8) else if 7 < l.length then ([], 6) else
      if (cutS p.span k).2.2 = 0 then (turnA l n [⟨(cutS p.span k).1, p.shard, p.cell, e⟩, ⟨(cutS p.span k).2.1, o, p.cell, e⟩], 0) else ([], (cutS p.span k).2.2)) else ([], 1)
def change2 (l : List Place) (n o e : Int) : List Place × Int :=
  if rightA l && (numA e && numA o) then (match ofA l n with
    | none => ([], 7)
    | some p => if e ≤ p.epoch then ([], 9) else match ofA l o with
      | none => ([], 7)
      | some q => if (joinS p.span q.span).2 = 0 ∧ p.cell = q.cell ∧ ¬ e ≤ q.epoch then (turnA (turnA l o []) n [⟨(joinS p.span q.span).1, p.shard, p.cell, e⟩], 0) else ([], 9)) else ([], 1)
def H160 (Pg : Nat → Option Fn) : Prop := Pg 160 = some (.code F160) ∧ H147 Pg ∧ H151 Pg ∧ H173 Pg ∧ H182 Pg ∧ H183 Pg ∧ H184 Pg
theorem cel_num {n : Int} (h1 : decide (1 ≤ n) = true) (h3 : decide (n ≤ 3) = true) : numA n = true := by
  simp only [numA, h1, Bool.true_and]; exact decide_eq_true (by have := of_decide_eq_true h3; omega)
theorem K160_0 (h : H160 Pg) (l : List Place) (n to e : Int) (k : List UInt8) (hl : l.length ≤ 1000) : K' Pg 160 [ePls l, iz 0, iz n, iz to, .str k, iz e] = some (ePE (change0 l n to e)) := by
  obtain ⟨h, h147, h151, h173, h182, h183, h184⟩ := h
  have k147 := K147 h147 l
  have k151 := K151 h151 l n (by omega)
  have k173 := fun x => K173 h173 x
  simp only [ePls] at k147 k151
  refine K'_code h rfl ?_
  cases c1 : rightA l with
  | false => simp only [go_sem, k147, c1, change0]
  | true =>
  cases c2 : numA e with
  | false => simp only [go_sem, k147, k173, c1, c2, change0]
  | true =>
  cases c3 : decide (1 ≤ to) with
  | false => simp only [go_sem, k147, k173, c1, c2, c3, lt1_num, celA, change0]
  | true =>
  cases c4 : decide (to ≤ 3) with
  | false => simp only [go_sem, k147, k173, c1, c2, c3, c4, lt1_num, gt3_cel, celA, change0]
  | true =>
  have c5 := cel_num c3 c4
  rcases idxA_spec l n with ⟨e1, e2⟩ | ⟨j, x, e1, e2, e3, e4, -⟩
  · rw [e1] at k151
    simp only [go_sem, k147, k151, k173, c1, c2, c3, c4, c5, lt1_num, gt3_cel, celA, change0, e2]
  · rw [e1] at k151
    have hj0 : decide ((j : Int) < 0) = false := decide_eq_false (by omega)
    cases c6 : decide (e ≤ x.epoch) with
    | true =>
      have hm : change0 l n to e = ([], 9) := by simp only [change0, c1, c2, celA, c3, c4, e3, of_decide_eq_true c6, if_true]; rfl
      rw [hm]
      simp only [go_sem, k147, k151, k173, c1, c2, c3, c4, c5, c6, lt1_num, gt3_cel, e2, hj0]
    | false =>
    cases c7 : decide (x.cell = to) with
    | true =>
      have hm : change0 l n to e = ([], 8) := by simp only [change0, c1, c2, celA, c3, c4, e3, of_decide_eq_false c6, of_decide_eq_true c7, if_true, if_false]; rfl
      rw [hm]
      simp only [go_sem, k147, k151, k173, c1, c2, c3, c4, c5, c6, c7, lt1_num, gt3_cel, e2, hj0]
    | false =>
      have hm : change0 l n to e = (turnA l n [⟨x.span, x.shard, to, e⟩], 0) := by simp only [change0, c1, c2, celA, c3, c4, e3, of_decide_eq_false c6, of_decide_eq_false c7, if_true, if_false]; rfl
      rw [hm]
      have k182 := K182 h182 l n [⟨x.span, x.shard, to, e⟩] (by omega) (by simp)
      simp only [ePls, List.map_cons, List.map_nil, ePl] at k182
      simp only [go_sem, k147, k151, k173, k182, c1, c2, c3, c4, c5, c6, c7, lt1_num, gt3_cel, e2, hj0]
end Sg
namespace Sg
open _root_.Go (IntKind BinOp UnOp)
set_option linter.unusedSimpArgs false
set_option linter.unusedVariables false
set_option maxRecDepth 10000
variable {Pg : Nat → Option Fn}
theorem gt7 {n : Nat} : decide ((7 : Int) < (n : Int)) = decide (7 < n) := decide_eq_decide.2 (by omega)
theorem K160_1 (h : H160 Pg) (l : List Place) (n o e : Int) (k : List UInt8) (hl : l.length ≤ 1000) : K' Pg 160 [ePls l, iz 1, iz n, iz o, .str k, iz e] = some (ePE (change1 l n o k e)) := by
  obtain ⟨h, h147, h151, h173, h182, h183, h184⟩ := h
  have k147 := K147 h147 l
  have k151 := K151 h151 l n (by omega)
  have k151o := K151 h151 l o (by omega)
  have k173 := fun x => K173 h173 x
  have k183 := fun s => K183 h183 s k
  simp only [ePls] at k147 k151 k151o
  simp only [eSpan, eSSE] at k183
  refine K'_code h rfl ?_
  cases c1 : rightA l with
  | false => simp only [go_sem, k147, c1, change1]
  | true =>
  cases c2 : numA e with
  | false => simp only [go_sem, k147, k173, c1, c2, change1]
  | true =>
  cases c3 : numA o with
  | false => simp only [go_sem, k147, k173, c1, c2, c3, change1]
  | true =>
  rcases idxA_spec l n with ⟨e1, e2⟩ | ⟨j, x, e1, e2, e3, e4, -⟩
  · rw [e1] at k151
    simp only [go_sem, k147, k151, k173, c1, c2, c3, change1, e2]
  · rw [e1] at k151
    have hj0 : decide ((j : Int) < 0) = false := decide_eq_false (by omega)
    cases c6 : decide (e ≤ x.epoch) with
    | true =>
      have hm : change1 l n o k e = ([], 9) := by simp only [change1, c1, c2, c3, e3, of_decide_eq_true c6, if_true]; rfl
      rw [hm]
      simp only [go_sem, k147, k151, k173, c1, c2, c3, c6, e2, hj0]
    | false =>
    cases c7 : decide (0 ≤ idxA l o) with
    | true =>
      have hm : change1 l n o k e = ([], 8) := by simp only [change1, c1, c2, c3, e3, of_decide_eq_false c6, of_decide_eq_true c7, if_true, if_false]; rfl
      rw [hm]
      simp only [go_sem, k147, k151, k151o, k173, c1, c2, c3, c6, c7, e2, hj0]
    | false =>
    cases c8 : decide (7 < l.length) with
    | true =>
      have hm : change1 l n o k e = ([], 6) := by simp only [change1, c1, c2, c3, e3, of_decide_eq_false c6, of_decide_eq_false c7, of_decide_eq_true c8, if_true, if_false]; rfl
      rw [hm]
      simp only [go_sem, k147, k151, k151o, k173, c1, c2, c3, c6, c7, c8, e2, hj0, gt7]
    | false =>
    cases c9 : decide ((cutS x.span k).2.2 = 0) with
    | false =>
      have hm : change1 l n o k e = ([], (cutS x.span k).2.2) := by simp only [change1, c1, c2, c3, e3, of_decide_eq_false c6, of_decide_eq_false c7, of_decide_eq_false c8, of_decide_eq_false c9, if_true, if_false]; rfl
      rw [hm]
      simp only [go_sem, k147, k151, k151o, k173, k183, c1, c2, c3, c6, c7, c8, c9, e2, hj0, gt7]
    | true =>
      have hm : change1 l n o k e = (turnA l n [⟨(cutS x.span k).1, x.shard, x.cell, e⟩, ⟨(cutS x.span k).2.1, o, x.cell, e⟩], 0) := by simp only [change1, c1, c2, c3, e3, of_decide_eq_false c6, of_decide_eq_false c7, of_decide_eq_false c8, of_decide_eq_true c9, if_true, if_false]; rfl
      rw [hm]
      have k182 := K182 h182 l n [⟨(cutS x.span k).1, x.shard, x.cell, e⟩, ⟨(cutS x.span k).2.1, o, x.cell, e⟩] (by omega) (by simp)
      simp only [ePls, List.map_cons, List.map_nil, ePl] at k182
      simp only [go_sem, k147, k151, k151o, k173, k183, k182, c1, c2, c3, c6, c7, c8, c9, e2, hj0, gt7]
theorem K160_2 (h : H160 Pg) (l : List Place) (n o e : Int) (k : List UInt8) (hl : l.length ≤ 1000) : K' Pg 160 [ePls l, iz 2, iz n, iz o, .str k, iz e] = some (ePE (change2 l n o e)) := by
  obtain ⟨h, h147, h151, h173, h182, h183, h184⟩ := h
  have k147 := K147 h147 l
  have k151 := K151 h151 l n (by omega)
  have k151o := K151 h151 l o (by omega)
  have k173 := fun x => K173 h173 x
  have k184 := fun a b => K184 h184 a b
  have k182a := K182 h182 l o [] (by omega) (by simp)
  simp only [ePls] at k147 k151 k151o
  simp only [ePls, List.map_nil] at k182a
  simp only [eSpan, eSE] at k184
  refine K'_code h rfl ?_
  cases c1 : rightA l with
  | false => simp only [go_sem, k147, c1, change2]
  | true =>
  cases c2 : numA e with
  | false => simp only [go_sem, k147, k173, c1, c2, change2]
  | true =>
  cases c3 : numA o with
  | false => simp only [go_sem, k147, k173, c1, c2, c3, change2]
  | true =>
  rcases idxA_spec l n with ⟨e1, e2⟩ | ⟨j, x, e1, e2, e3, e4, -⟩
  · rw [e1] at k151
    simp only [go_sem, k147, k151, k173, c1, c2, c3, change2, e2]
  · rw [e1] at k151
    have hj0 : decide ((j : Int) < 0) = false := decide_eq_false (by omega)
    cases c6 : decide (e ≤ x.epoch) with
    | true =>
      have hm : change2 l n o e = ([], 9) := by simp only [change2, c1, c2, c3, e3, of_decide_eq_true c6, if_true]; rfl
      rw [hm]
      simp only [go_sem, k147, k151, k173, c1, c2, c3, c6, e2, hj0]
    | false =>
    rcases idxA_spec l o with ⟨d1, d2⟩ | ⟨i, y, d1, d2, d3, d4, -⟩
    · rw [d1] at k151o
      have hm : change2 l n o e = ([], 7) := by simp only [change2, c1, c2, c3, e3, of_decide_eq_false c6, d2, if_true, if_false]; rfl
      rw [hm]
      simp only [go_sem, k147, k151, k151o, k173, c1, c2, c3, c6, e2, hj0]
    · rw [d1] at k151o
      have hi0 : decide ((i : Int) < 0) = false := decide_eq_false (by omega)
      have hc : ∀ b, (decide ((joinS x.span y.span).2 = 0) && (decide (x.cell = y.cell) && !decide (e ≤ y.epoch))) = b → change2 l n o e = if b then (turnA (turnA l o []) n [⟨(joinS x.span y.span).1, x.shard, x.cell, e⟩], 0) else ([], 9) := fun b hb => by
        have : ((joinS x.span y.span).2 = 0 ∧ x.cell = y.cell ∧ ¬ e ≤ y.epoch) ↔ b = true := by
          rw [← hb]; simp
        by_cases hbt : b = true
        · simp only [change2, c1, c2, c3, e3, d3, of_decide_eq_false c6, if_false, if_pos (this.2 hbt), if_pos hbt]; rfl
        · simp only [change2, c1, c2, c3, e3, d3, of_decide_eq_false c6, if_false, if_neg (fun h => hbt (this.1 h)), if_neg hbt]; rfl
      cases f1 : decide ((joinS x.span y.span).2 = 0) with
      | false =>
        rw [hc false (by rw [f1]; rfl)]
        simp only [go_sem, k147, k151, k151o, k173, k184, c1, c2, c3, c6, e2, d2, hj0, hi0, f1]
      | true =>
      cases f2 : decide (x.cell = y.cell) with
      | false =>
        rw [hc false (by rw [f1, f2]; rfl)]
        simp only [go_sem, k147, k151, k151o, k173, k184, c1, c2, c3, c6, e2, d2, hj0, hi0, f1, f2]
      | true =>
      cases f3 : decide (e ≤ y.epoch) with
      | true =>
        rw [hc false (by rw [f1, f2, f3]; rfl)]
        simp only [go_sem, k147, k151, k151o, k173, k184, c1, c2, c3, c6, e2, d2, hj0, hi0, f1, f2, f3]
      | false =>
        rw [hc true (by rw [f1, f2, f3]; rfl)]
        have hle := turn_len (l := l) (n := o) (os := []) (by simp)
        have k182 := K182 h182 (turnA l o []) n [⟨(joinS x.span y.span).1, x.shard, x.cell, e⟩] (by omega) (by simp)
        simp only [ePls, List.map_cons, List.map_nil, ePl] at k182
        simp only [go_sem, k147, k151, k151o, k173, k184, k182, k182a, c1, c2, c3, c6, e2, d2, hj0, hi0, f1, f2, f3]
theorem right_iff {l : List Place} : rightA l = true ↔ l.length ≤ 8 ∧ gR l = true ∧ wholeS (l.map Place.span) = true := by simp [rightA]
theorem gR_iff : ∀ {l : List Place}, gR l = true ↔ (∀ p ∈ l, okPl p = true) ∧ l.Pairwise (fun p q => p.shard ≠ q.shard)
  | [] => by simp [gR]
  | p :: l => by
    simp only [gR, Bool.and_eq_true, gR_iff (l := l), List.pairwise_cons, List.mem_cons, forall_eq_or_imp, Bool.not_eq_true', List.any_eq_false, decide_eq_true_eq]
    constructor
    · intro ⟨h1, h2, h3, h4⟩
      exact ⟨⟨h1, h3⟩, fun q hq e => h2 q hq e.symm, h4⟩
    · intro ⟨⟨h1, h3⟩, h2, h4⟩
      exact ⟨h1, fun q hq e => h2 q hq e.symm, h3, h4⟩
theorem at_split {l : List Place} {j : Nat} {x : Place} (h : l[j]? = some x) : l = l.take j ++ x :: l.drop (j + 1) := by
  have hj := (List.getElem?_eq_some_iff.1 h).1
  have := List.take_append_drop (j + 1) l
  rw [take_s h, List.append_assoc] at this
  exact this.symm
theorem turn_not {l : List Place} {n : Int} {os : List Place} (h : ∀ p ∈ l, p.shard ≠ n) : turnA l n os = l := by
  induction l with
  | nil => rfl
  | cons a l ih =>
    have : turnA (a :: l) n os = (if a.shard = n then os else [a]) ++ turnA l n os := by simp [turnA]
    rw [this, if_neg (h a (by simp)), ih fun p hp => h p (by simp [hp])]; rfl
theorem turn_app {a b : List Place} {n : Int} {os : List Place} : turnA (a ++ b) n os = turnA a n os ++ turnA b n os := by simp [turnA]
theorem turn_at {l : List Place} {n : Int} {os : List Place} {j : Nat} {x : Place} (hg : gR l = true) (h : l[j]? = some x) (hx : x.shard = n) : turnA l n os = l.take j ++ (os ++ l.drop (j + 1)) := by
  have hs := at_split h
  obtain ⟨-, hp⟩ := gR_iff.1 hg
  rw [hs] at hp
  obtain ⟨-, h2, h3⟩ := List.pairwise_append.1 hp
  obtain ⟨h4, -⟩ := List.pairwise_cons.1 h2
  have e1 : turnA (l.take j) n os = l.take j := turn_not fun p hp => by
    rw [← hx]; exact h3 p hp x (by simp)
  have e2 : turnA (l.drop (j + 1)) n os = l.drop (j + 1) := turn_not fun p hp => by
    rw [← hx]; exact fun e => h4 p hp e.symm
  have e3 : turnA (x :: l.drop (j + 1)) n os = os ++ turnA (l.drop (j + 1)) n os := by simp [turnA, hx]
  conv => lhs; rw [hs]
  rw [turn_app, e1, e3, e2]
theorem moved_eq (l : List Place) (n to e : Int) : movedA l n to e = change0 l n to e := by
  simp only [movedA, change0]
  cases c1 : celA to with
  | false => simp
  | true =>
  by_cases h2 : (readyA l n e).2 = 0
  · obtain ⟨r1, r2, j, x, e1, e2, e3, e4, -, e5, e6⟩ := ready_0 h2
    rw [right_iff] at r1
    have ht := turn_at (os := [⟨x.span, x.shard, to, e⟩]) r1.2.1 e2 e4
    have hj := (List.getElem?_eq_some_iff.1 e2).1
    have hset : l.set j ⟨x.span, x.shard, to, e⟩ = l.take j ++ ([⟨x.span, x.shard, to, e⟩] ++ l.drop (j + 1)) := by
      rw [List.set_eq_take_append_cons_drop, if_pos hj]; rfl
    have e1' : (idxA l n).toNat = j := by rw [e1]; rfl
    simp only [h2, e3, e1', if_true, right_iff.2 r1, r2, e5, if_false, hset, ht, Bool.true_and]
  · simp only [h2, if_true, if_false]
    simp only [readyA] at h2 ⊢
    cases c2 : rightA l with
    | false => rfl
    | true =>
    cases c3 : numA e with
    | false => rfl
    | true =>
      rw [c2, c3] at h2
      cases ho : ofA l n with
      | none => rfl
      | some p =>
        rw [ho] at h2
        simp only [Bool.true_and, if_true] at h2 ⊢
        by_cases hp : e ≤ p.epoch
        · simp only [hp, if_true]
        · simp only [hp, if_false] at h2; simp at h2
theorem parted_eq (l : List Place) (n : Int) (k : List UInt8) (o e : Int) : partedA l n k o e = change1 l n o k e := by
  simp only [partedA, change1]
  cases c1 : numA o with
  | false => simp
  | true =>
  by_cases h2 : (readyA l n e).2 = 0
  · obtain ⟨r1, r2, j, x, e1, e2, e3, e4, -, e5, e6⟩ := ready_0 h2
    have r1' := right_iff.1 r1
    have ht := fun os => turn_at (os := os) r1'.2.1 e2 e4
    have e1' : (idxA l n).toNat = j := by rw [e1]; rfl
    have h8 : (l.length = 8) = (7 < l.length) := by have := r1'.1; exact propext ⟨fun h => by omega, fun h => by omega⟩
    simp only [h2, e3, e1', if_true, r1, r2, e5, if_false, ht, Bool.true_and, partedL, h8]
    rfl
  · simp only [h2, if_true, if_false]
    simp only [readyA] at h2 ⊢
    cases c2 : rightA l with
    | false => rfl
    | true =>
    cases c3 : numA e with
    | false => rfl
    | true =>
      rw [c2, c3] at h2
      cases ho : ofA l n with
      | none => rfl
      | some p =>
        rw [ho] at h2
        simp only [Bool.true_and, if_true] at h2 ⊢
        by_cases hp : e ≤ p.epoch
        · simp only [hp, if_true]
        · simp only [hp, if_false] at h2; simp at h2
end Sg
namespace Sg
open _root_.Go (IntKind BinOp UnOp)
set_option linter.unusedSimpArgs false
set_option linter.unusedVariables false
set_option maxRecDepth 10000
variable {Pg : Nat → Option Fn}
theorem wg_cons {f : Bool} {last : List UInt8} {x : Span} {l : List Span} : wg f last (x :: l) = true ↔ spanR x = true ∧ x.lo = last ∧ (f = true ∨ last ≠ []) ∧ wg false x.hi l = true := by
  simp [wg]
theorem wg_nilhi {l : List Span} (h : wg false [] l = true) : l = [] := by
  cases l with
  | nil => rfl
  | cons x l => simp [wg] at h
theorem wg_all : ∀ {l : List Span} {f : Bool} {last : List UInt8}, wg f last l = true → ∀ x ∈ l, spanR x = true
  | [], _, _, _ => by simp
  | x :: l, f, last, h => by
    obtain ⟨h1, h2, h3, h4⟩ := wg_cons.1 h
    intro y hy
    rcases List.mem_cons.1 hy with rfl | hy
    · exact h1
    · exact wg_all h4 y hy
theorem wg_step : ∀ {l : List Span} {f : Bool} {last : List UInt8} {i : Nat} {p q : Span}, wg f last l = true → l[i]? = some p → l[i + 1]? = some q → p.hi ≠ [] ∧ p.hi = q.lo
  | [], _, _, _, _, _, _, h, _ => by simp at h
  | x :: l, f, last, 0, p, q, h, hp, hq => by
    obtain ⟨h1, h2, h3, h4⟩ := wg_cons.1 h
    obtain rfl : x = p := by simpa using hp
    cases l with
    | nil => simp at hq
    | cons y l =>
      obtain rfl : y = q := by simpa using hq
      obtain ⟨g1, g2, g3, g4⟩ := wg_cons.1 h4
      rcases g3 with g | g
      · simp at g
      · exact ⟨g, g2.symm⟩
  | x :: l, f, last, i + 1, p, q, h, hp, hq => by
    obtain ⟨h1, h2, h3, h4⟩ := wg_cons.1 h
    exact wg_step h4 (by simpa using hp) (by simpa using hq)
theorem wg_next : ∀ {l : List Span} {f : Bool} {last : List UInt8} {i : Nat} {p : Span}, wg f last l = true → l[i]? = some p → p.hi ≠ [] → ∃ q, l[i + 1]? = some q
  | [], _, _, _, _, _, h, _ => by simp at h
  | x :: l, f, last, 0, p, h, hp, hn => by
    obtain ⟨h1, h2, h3, h4⟩ := wg_cons.1 h
    obtain rfl : x = p := by simpa using hp
    cases l with
    | nil => simp [wg, hn] at h4
    | cons y l => exact ⟨y, rfl⟩
  | x :: l, f, last, i + 1, p, h, hp, hn => by
    obtain ⟨h1, h2, h3, h4⟩ := wg_cons.1 h
    obtain ⟨q, hq⟩ := wg_next h4 (by simpa using hp : l[i]? = some p) hn
    exact ⟨q, by simpa using hq⟩
theorem wg_ge : ∀ {l : List Span} {f : Bool} {last : List UInt8}, wg f last l = true → ∀ y ∈ l, cmpL (lets last) (lets y.lo) ≤ 0
  | [], _, _, _ => by simp
  | x :: l, f, last, h => by
    obtain ⟨h1, h2, h3, h4⟩ := wg_cons.1 h
    intro y hy
    rcases List.mem_cons.1 hy with rfl | hy
    · rw [h2, cmpL_rfl]; omega
    · have := wg_ge h4 y hy
      rcases spanR_hi h1 with e | ⟨-, e⟩
      · rw [e] at h4; rw [wg_nilhi h4] at hy; simp at hy
      · rw [h2] at e; have := lt_tr' e this; omega
theorem wg_pw : ∀ {l : List Span} {f : Bool} {last : List UInt8}, wg f last l = true → l.Pairwise fun a b => cmpL (lets a.lo) (lets b.lo) < 0
  | [], _, _, _ => .nil
  | x :: l, f, last, h => by
    obtain ⟨h1, h2, h3, h4⟩ := wg_cons.1 h
    refine List.pairwise_cons.2 ⟨fun y hy => ?_, wg_pw h4⟩
    rcases spanR_hi h1 with e | ⟨-, e⟩
    · rw [e] at h4; rw [wg_nilhi h4] at hy; simp at hy
    · exact lt_tr' e (wg_ge h4 y hy)
theorem wg_lo {l : List Span} {f : Bool} {last : List UInt8} (h : wg f last l = true) {i j : Nat} {p q : Span} (hp : l[i]? = some p) (hq : l[j]? = some q) (e : p.lo = q.lo) : i = j := by
  have hw := List.pairwise_iff_getElem.1 (wg_pw h)
  obtain ⟨hi, rfl⟩ := List.getElem?_eq_some_iff.1 hp
  obtain ⟨hj, rfl⟩ := List.getElem?_eq_some_iff.1 hq
  rcases Nat.lt_trichotomy i j with c | c | c
  · have := hw i j hi hj c; rw [e, cmpL_rfl] at this; omega
  · exact c
  · have := hw j i hj hi c; rw [e, cmpL_rfl] at this; omega
theorem right_iff' {l : List Place} : rightA l = true ↔ l.length ≤ 8 ∧ (∀ p ∈ l, okPl p = true) ∧ (l.map Place.shard).Nodup ∧ l ≠ [] ∧ wg true [] (l.map Place.span) = true := by
  rw [right_iff, gR_iff, List.Nodup, List.pairwise_map]
  simp only [wholeS, Bool.and_eq_true, Bool.not_eq_true', decide_eq_false_iff_not, List.map_eq_nil_iff]
  exact ⟨fun ⟨a, ⟨b, c⟩, d, e⟩ => ⟨a, b, c, d, e⟩, fun ⟨a, b, c, d, e⟩ => ⟨a, ⟨b, c⟩, d, e⟩⟩
theorem join_iff {l : List Place} (hr : rightA l = true) {i j : Nat} {p q : Place} (hp : l[i]? = some p) (hq : l[j]? = some q) : (joinS p.span q.span).2 = 0 ↔ j = i + 1 := by
  obtain ⟨-, -, -, -, hw⟩ := right_iff'.1 hr
  have hp' : (l.map Place.span)[i]? = some p.span := by simp [hp]
  have hq' : (l.map Place.span)[j]? = some q.span := by simp [hq]
  have r1 := wg_all hw p.span (List.mem_of_getElem? hp')
  have r2 := wg_all hw q.span (List.mem_of_getElem? hq')
  have e : (joinS p.span q.span).2 = 0 ↔ (p.span.hi ≠ [] ∧ p.span.hi = q.span.lo) := by
    simp only [joinS, r1, r2, Bool.and_self, if_true]
    by_cases c1 : p.span.hi = [] <;> by_cases c2 : p.span.hi = q.span.lo <;> simp [c1, c2] <;> simp_all
  rw [e]
  constructor
  · intro ⟨h1, h2⟩
    obtain ⟨q', hq2⟩ := wg_next hw hp' h1
    have := (wg_step hw hp' hq2).2
    exact (wg_lo hw hq2 hq' (by rw [← this, h2])).symm
  · rintro rfl
    exact wg_step hw hp' hq'
theorem join_fst {a b : Span} (h : (joinS a b).2 = 0) : (joinS a b).1 = ⟨a.lo, b.hi⟩ := by
  unfold joinS at h ⊢
  split at h
  · split at h
    · simp at h
    · rename_i h1 h2; rw [if_pos h1, if_neg h2]
  · simp at h
theorem joined_eq (l : List Place) (n o e : Int) : joinedA l n o e = change2 l n o e := by
  simp only [joinedA, change2]
  cases c1 : numA o with
  | false => simp
  | true =>
  by_cases h2 : (readyA l n e).2 = 0
  · obtain ⟨r1, r2, i, p, e1, e2, e3, e4, -, e5, e6⟩ := ready_0 h2
    simp only [h2, e3, e1, if_true, r1, r2, e5, if_false, Bool.and_self]
    rcases idxA_spec l o with ⟨d1, d2⟩ | ⟨j, q, d1, d2, d3, d4, -⟩
    · simp only [d2]
    · simp only [d3, d1]
      have hj : ((j : Int) = (i : Int) + 1) = ((joinS p.span q.span).2 = 0) := propext ((by omega : ((j : Int) = (i : Int) + 1) ↔ j = i + 1).trans (join_iff r1 e2 d2).symm)
      simp only [hj]
      split
      · rename_i hc
        obtain rfl := (join_iff r1 e2 d2).1 hc.1
        obtain ⟨-, -, hn, -, -⟩ := right_iff'.1 r1
        have r1' := right_iff.1 r1
        have t1 := turn_at (os := []) r1'.2.1 d2 d4
        have hi := (List.getElem?_eq_some_iff.1 e2).1
        have hs : l.take (i + 1) ++ ([] ++ l.drop (i + 1 + 1)) = l.take i ++ p :: l.drop (i + 2) := by rw [take_s e2]; simp
        rw [t1, hs]
        have hsub : (l.take i ++ p :: l.drop (i + 2)).Sublist l := by
          rw [← hs]
          conv => rhs; rw [at_split d2]
          exact List.Sublist.append_left (List.sublist_cons_self _ _) _
        have hg : gR (l.take i ++ p :: l.drop (i + 2)) = true := by
          have := gR_iff.1 r1'.2.1
          exact gR_iff.2 ⟨fun x hx => this.1 x (hsub.subset hx), this.2.sublist hsub⟩
        have hlen : (l.take i).length = i := by rw [List.length_take]; omega
        have hat : (l.take i ++ p :: l.drop (i + 2))[i]? = some p := by rw [List.getElem?_append_right (by omega), hlen]; simp
        rw [turn_at hg hat e4, join_fst hc.1]
        have k1 : (l.take i ++ p :: l.drop (i + 2)).take i = l.take i := by rw [List.take_append_of_le_length (by omega), List.take_of_length_le (by omega)]
        have k2 : (l.take i ++ p :: l.drop (i + 2)).drop (i + 1) = l.drop (i + 2) := by
          rw [List.drop_append, hlen, List.drop_of_length_le (by omega)]
          have : i + 1 - i = 1 := by omega
          rw [this]; rfl
        rw [k1, k2]
        rfl
      · rfl
  · simp only [h2, if_true, if_false]
    simp only [readyA] at h2 ⊢
    cases c2 : rightA l with
    | false => rfl
    | true =>
    cases c3 : numA e with
    | false => rfl
    | true =>
      rw [c2, c3] at h2
      cases ho : ofA l n with
      | none => rfl
      | some p =>
        rw [ho] at h2
        simp only [Bool.true_and, if_true] at h2 ⊢
        by_cases hp : e ≤ p.epoch
        · simp only [hp, if_true]
        · simp only [hp, if_false] at h2; simp at h2
end Sg
namespace Sg
open _root_.Go (IntKind BinOp UnOp)
set_option linter.unusedSimpArgs false
set_option linter.unusedVariables false
set_option maxRecDepth 10000
variable {Pg : Nat → Option Fn}
def pairA : List Place := [⟨⟨[], [109]⟩, 1, 1, 2⟩, ⟨⟨[109], []⟩, 2, 1, 2⟩]
def H143 (Pg : Nat → Option Fn) : Prop := Pg 143 = some (.code F143) ∧ H144 Pg ∧ H154 Pg ∧ H156 Pg
theorem K143 (h : H143 Pg) : K' Pg 143 [] = some (.bool true) := by
  obtain ⟨h, h144, h154, h156⟩ := h
  have k154 := K154 h154
  have k156 := K156 h156 firstA 1 [109] 2 2 (by decide)
  have k144 := K144 h144 pairA [122] (by decide)
  rw [show partedA firstA 1 [109] 2 2 = (pairA, 0) by decide +kernel] at k156
  rw [show (if rightA pairA && keyE [122] then findA pairA [122] else none) = some ⟨⟨[109], []⟩, 2, 1, 2⟩ by decide +kernel] at k144
  simp only [ePls, firstA, pairA, ePE, eOP, List.map_cons, List.map_nil, ePl, Option.getD_some, Option.isSome_some] at k154 k156 k144
  refine K'_code h rfl ?_
  simp only [go_sem, k154, k156, k144]
theorem ch0_len {l : List Place} {n to e : Int} : (change0 l n to e).1.length ≤ 2 * l.length := by
  unfold change0
  repeat' split
  all_goals first | exact Nat.zero_le _ | exact turn_len (by simp)
theorem ch1_len {l : List Place} {n o e : Int} {k : List UInt8} : (change1 l n o k e).1.length ≤ 2 * l.length := by
  unfold change1
  repeat' split
  all_goals first | exact Nat.zero_le _ | exact turn_len (by simp)
theorem ch2_len {l : List Place} {n o e : Int} : (change2 l n o e).1.length ≤ 2 * (2 * l.length) := by
  unfold change2
  repeat' split
  all_goals first | exact Nat.zero_le _ | exact Nat.le_trans (turn_len (by simp)) (Nat.mul_le_mul_left _ (turn_len (by simp)))
def H158 (Pg : Nat → Option Fn) : Prop := Pg 158 = some (.code F158) ∧ H143 Pg ∧ H153 Pg ∧ H156 Pg ∧ H157 Pg ∧ H159 Pg ∧ H160 Pg
theorem K158 (h : H158 Pg) (l : List Place) (n o : Int) (k : List UInt8) (e : Int) : K' Pg 158 [ePls l, iz n, iz o, .str k, iz e] = some (.bool true) := by
  obtain ⟨h, h143, h153, h156, h157, h159, h160⟩ := h
  have k143 := K143 h143
  refine K'_code h rfl ?_
  cases c0 : decide ((40 : Int) < (l.length : Int)) with
  | true => simp only [go_sem, c0, k143]
  | false =>
  have hl : l.length ≤ 40 := by have := of_decide_eq_false c0; omega
  have k159 := K159 h159 l n o e (by omega)
  have k156 := K156 h156 l n k o e (by omega)
  have k157 := K157 h157 l n o e (by omega)
  have k0 := K160_0 h160 l n o e k (by omega)
  have k1 := K160_1 h160 l n o e k (by omega)
  have k2 := K160_2 h160 l n o e k (by omega)
  rw [moved_eq] at k159
  rw [parted_eq] at k156
  rw [joined_eq] at k157
  have l0 := ch0_len (l := l) (n := n) (to := o) (e := e)
  have l1 := ch1_len (l := l) (n := n) (o := o) (e := e) (k := k)
  have l2 := ch2_len (l := l) (n := n) (o := o) (e := e)
  have q0 := K153 h153 (change0 l n o e).1 (by omega)
  have q1 := K153 h153 (change1 l n o k e).1 (by omega)
  have q2 := K153 h153 (change2 l n o e).1 (by omega)
  simp only [ePls, ePE] at k159 k156 k157 k0 k1 k2 q0 q1 q2
  simp only [go_sem, c0, k159, k156, k157, k0, k1, k2, q0, q1, q2, k143]
structure AAct where
  kind : Int
  shard : Int
  n : Int
  epoch : Int
  key : List UInt8
@[go_sem] def eAAct (a : AAct) : List V := [iz a.kind, iz a.shard, iz a.n, iz a.epoch, .str a.key]
@[go_sem] def eAActs (l : List AAct) : V := .slice 5 (l.map eAAct)
def OnN (P : St → Prop) : Ex → St → Prop := fun ex S => ex = .norm ∧ P S
@[go_sem] theorem onN_n {P : St → Prop} {S : St} : OnN P .norm S = P S := by simp [OnN]
def OnE (id : Nat) (P : St → Prop) : Ex → St → Prop := fun ex S => (ex = .norm ∨ ex = .exit id) ∧ P S
@[go_sem] theorem onE_n {id : Nat} {P : St → Prop} {S : St} : OnE id P .norm S = P S := by simp [OnE]
@[go_sem] theorem onE_e {id : Nat} {P : St → Prop} {S : St} : OnE id P (.exit id) S = P S := by simp [OnE]
@[go_sem] def N161 (l : List AAct) (k : List UInt8) (i : Nat) (S : St) : Prop := S.ρ 0 = eAActs l ∧ S.ρ 1 = .str k ∧ (∃ a, rightA a = true ∧ S.ρ 5 = ePls a) ∧ S.ρ 6 = iz i
end Sg
namespace Sg
open _root_.Go
set_option linter.unusedSimpArgs false
set_option linter.unusedVariables false
abbrev tPl : List CT := [.str, .str, .int .i64, .int .i64, .int .i64]
theorem row_Pl {xs : List V} (h : HasRow tPl xs) : ∃ s, xs = ePl s := by
  obtain ⟨hl, hj⟩ := h
  match xs, hl with
  | [x0, x1, x2, x3, x4], _ =>
    obtain ⟨y0, h0, -⟩ := has_str (hj 0 (by simp))
    obtain ⟨y1, h1, -⟩ := has_str (hj 1 (by simp))
    obtain ⟨y2, h2, -⟩ := has_int (hj 2 (by simp))
    obtain ⟨y3, h3, -⟩ := has_int (hj 3 (by simp))
    obtain ⟨y4, h4, -⟩ := has_int (hj 4 (by simp))
    simp [gv] at h0 h1 h2 h3 h4
    subst h0; subst h1; subst h2; subst h3; subst h4
    exact ⟨⟨⟨y0, y1⟩, y2, y3, y4⟩, rfl⟩
theorem has_Pls {x : V} (h : Has (.slice tPl) x) : ∃ l, x = ePls l ∧ l.length ≤ maxLen := by
  obtain ⟨rows, rfl, hl, hr⟩ := has_slice h
  obtain ⟨l, rfl, -⟩ := rows_enc (enc := ePl) (Q := fun _ => True) (fun row hrow => by obtain ⟨v, hv⟩ := row_Pl (hr row hrow); exact ⟨v, hv, trivial⟩)
  exact ⟨l, rfl, by simpa using hl⟩
theorem arg_Pls {x : V} (h : ArgV (false, [.slice tPl]) x) : ∃ l, x = ePls l ∧ l.length ≤ maxLen := by
  obtain ⟨c, hc, h⟩ := h
  simp only [List.cons.injEq, and_true] at hc
  subst hc
  exact has_Pls h
end Sg
namespace Sg
open _root_.Go _root_.Go.Proofs
set_option linter.unusedSimpArgs false
set_option maxRecDepth 100000
theorem t162 : H162 (look atlasTab) := rfl
theorem t163 : H163 (look atlasTab) := rfl
theorem t164 : H164 (look atlasTab) := rfl
theorem t185 : H185 (look atlasTab) := rfl
theorem t165 : H165 (look atlasTab) := ⟨rfl, t185⟩
theorem t170 : H170 (look atlasTab) := rfl
theorem t190 : H190 (look atlasTab) := rfl
theorem t192 : H192 (look atlasTab) := ⟨rfl, t190⟩
theorem t186 : H186 (look atlasTab) := ⟨rfl, t170, t192⟩
theorem t166 : H166 (look atlasTab) := ⟨rfl, t186⟩
theorem t141 : H141 (look atlasTab) := ⟨rfl, t162, t163, t164, t165, t166⟩
theorem t171 : H171 (look atlasTab) := ⟨rfl, t186, t170, t192⟩
theorem t144 : H144 (look atlasTab) := ⟨rfl, t141, t170, t171⟩
theorem t154 : H154 (look atlasTab) := rfl
theorem t194 : H194 (look atlasTab) := rfl
theorem t175 : H175 (look atlasTab) := ⟨rfl, t185, t194⟩
theorem t177 : H177 (look atlasTab) := ⟨rfl, t141, t162, t175⟩
theorem t178 : H178 (look atlasTab) := ⟨rfl, t186, t170, t171⟩
theorem t179 : H179 (look atlasTab) := rfl
theorem t156 : H156 (look atlasTab) := ⟨rfl, t162, t175, t177, t178, t179⟩
theorem t143 : H143 (look atlasTab) := ⟨rfl, t144, t154, t156⟩
theorem t153 : H153 (look atlasTab) := rfl
theorem t157 : H157 (look atlasTab) := ⟨rfl, t162, t175, t177, t179⟩
theorem t159 : H159 (look atlasTab) := ⟨rfl, t163, t177, t179⟩
theorem t173 : H173 (look atlasTab) := rfl
theorem t188 : H188 (look atlasTab) := rfl
theorem t189 : H189 (look atlasTab) := rfl
theorem t168 : H168 (look atlasTab) := ⟨rfl, t188, t189⟩
theorem t195 : H195 (look atlasTab) := ⟨rfl, t188⟩
theorem t187 : H187 (look atlasTab) := ⟨rfl, t195⟩
theorem t167 : H167 (look atlasTab) := ⟨rfl, t168, t187⟩
theorem t184 : H184 (look atlasTab) := ⟨rfl, t167⟩
theorem t174 : H174 (look atlasTab) := ⟨rfl, t167, t184⟩
theorem t147 : H147 (look atlasTab) := ⟨rfl, t173, t174⟩
theorem t151 : H151 (look atlasTab) := rfl
theorem t182 : H182 (look atlasTab) := rfl
theorem t183 : H183 (look atlasTab) := ⟨rfl, t167, t168⟩
theorem t160 : H160 (look atlasTab) := ⟨rfl, t147, t151, t173, t182, t183, t184⟩
theorem t158 : H158 (look atlasTab) := ⟨rfl, t143, t153, t156, t157, t159, t160⟩
theorem all_ctr (f : Nat) (args : List V) (r : V) (h : K' (look atlasTab) f args = some r) : Ctr Tryd.prog (cxU atlasFm) (ownOf (look atlasTab) f) f args r := by
  obtain ⟨n, hn⟩ := K'_iff.1 h
  refine callN_sound (by kernel_rfl) (tab_code okAll) (fun f own p hp => ?_) (fun f z p hlt hp => ?_) (fun f z p hp => ?_) n f args r hn
  · have hm := look_mem hp
    simp only [atlasTab, List.mem_cons, Prod.mk.injEq, reduceCtorEq, and_false, false_and, false_or, Fn.prim.injEq, Option.some.injEq, List.not_mem_nil, or_false] at hm
    rcases hm with ⟨rfl, hz, rfl⟩ | ⟨rfl, hz, rfl⟩ | ⟨rfl, hz, rfl⟩ | ⟨rfl, hz, rfl⟩ | ⟨rfl, hz, rfl⟩
    · subst hz
      exact clone_ctr (zero := [.str [], .str [], .int .i64 0, .int .i64 0, .int .i64 0]) (by kernel_rfl) okClone179
    · intro args r h
      simp [noQ] at h
    · intro args r h
      simp [noQ] at h
    · subst hz
      exact keyCt _ 170 rfl
    · subst hz
      exact decCt _ 190 rfl
  · have hm := look_mem hp
    simp only [atlasTab, List.mem_cons, Prod.mk.injEq, reduceCtorEq, and_false, false_and, false_or, Fn.prim.injEq, Option.some.injEq, List.not_mem_nil, or_false] at hm
    rcases hm with ⟨rfl, hz, rfl⟩ | ⟨rfl, hz, rfl⟩ | ⟨rfl, hz, rfl⟩
    · omega
    · obtain rfl : z = 5 := by omega
      exact ⟨_, _, insC42⟩
    · omega
  · have hm := look_mem hp
    simp only [atlasTab, List.mem_cons, Prod.mk.injEq, reduceCtorEq, and_false, false_and, false_or, Fn.prim.injEq, Option.some.injEq, List.not_mem_nil, or_false] at hm
    rcases hm with ⟨rfl, hz, rfl⟩ | ⟨rfl, hz, rfl⟩ | ⟨rfl, hz, rfl⟩
    · omega
    · omega
    · obtain rfl : z = 5 := by omega
      exact delC44
end Sg
namespace Go.Proofs.YtoklilggickleaaDoor
open Sg Go.RowKit
theorem own : ownKnob Tryd.prog.godebug = none := by kernel_rfl
theorem laid : laidOutB Tryd.prog = true := by kernel_rfl
theorem atlasTurns_ctr (xs : List V) (h : ArgsV [(false, [.slice tPl]), (false, [.int .i64]), (false, [.int .i64]), (false, [.str]), (false, [.int .i64])] xs) : Ctr Tryd.prog (cxU atlasFm) (ownOf (Sg.look atlasTab) 158) 158 xs (.bool true) := by
  match xs, h with
  | [x0, x1, x2, x3, x4], h =>
    obtain ⟨h0, h1, h2, h3, h4, -⟩ := h
    obtain ⟨a0, rfl, l0⟩ := arg_Pls h0
    obtain ⟨a1, rfl, w1⟩ := arg_int h1
    obtain ⟨a2, rfl, w2⟩ := arg_int h2
    obtain ⟨a3, rfl, l3⟩ := arg_str h3
    obtain ⟨a4, rfl, w4⟩ := arg_int h4
    exact all_ctr _ _ _ (K158 t158 a0 a1 a2 a3 a4)
noncomputable def laidWorld (os : Os) : World :=
  let w0 := World.holding Tryd.prog os ⟨#[], #[], []⟩
  let put (h : Array Obj) (g : Nat) (cs : Array Value) : Array Obj := h.modify g fun
    | .cells _ t frozen => .cells cs t frozen
    | o => o
  let h1 := put w0.heap 0 (Lib.firstTab.map fun z => Value.int .u8 z).toArray
  let h2 := put h1 1 ((List.range 16).flatMap fun i => [Value.int .u8 (Lib.accLo i), Value.int .u8 (Lib.accHi i)]).toArray
  { w0 with heap := h2 }
theorem tabs_of {W : World} (hL : laidMetH Tryd.prog Rows.atlasTurnsRow.laid W) : Lib.Utf8Tabs 0 1 W :=
  utf8Tabs_of_reads (ρ := renU) { lays197 with } ⟨by kernel_rfl, by kernel_rfl, by kernel_rfl, by kernel_rfl, by kernel_rfl, by kernel_rfl, by kernel_rfl⟩
    ((show Go.Pinned.utf8First = Lib.firstData by kernel_rfl) ▸ Lib.laidMet.reads hL (.tail _ (.head _))) ((show Rows.laid_unicode_utf8_acceptRanges = Lib.acceptData by kernel_rfl) ▸ Lib.laidMet.reads hL (.head _))
theorem size_of {W : World} (h : Lib.Utf8Tabs 0 1 W) : 2 ≤ W.heap.size := by
  have lt : ∀ g o v, W.cell? ⟨g, o, none⟩ = some v → g < W.heap.size := fun g o v e => by
    rcases Nat.lt_or_ge g W.heap.size with h | h
    · exact h
    · simp [World.cell?, Array.getElem?_eq_none h] at e
  have h1 := lt _ _ _ (h.1 0 (by decide))
  have h2 := lt _ _ _ (h.2 0 (by decide)).1
  omega
theorem laid_met (os : Os) (args : Array Value) : laidMet Tryd.prog Rows.atlasTurnsRow.laid ((laidWorld os).forCall (fun _ _ => 0) ⟨#[], args, []⟩).memory :=
  (LaidIn.of_run (l := Rows.atlasTurnsRow.laid) [1, 0] 8 (by kernel_rfl) (by kernel_rfl) (by kernel_rfl) (by kernel_rfl)).met
set_option maxRecDepth 100000 in
theorem atlasTurns_reads (os : Os) {H : Type} (enc : TypeId × Value → H) :
    (OpenSpec.ofChange Rows.atlasTurnsSpec).preRow enc Tryd.prog Tryd.f6 Rows.atlasTurnsRow.domain false Rows.atlasTurnsRow.laid ((laidWorld os).forCall (fun _ _ => 0) ⟨#[], #[Value.slice none 0 0, Value.int .i64 0, Value.int .i64 0, Value.string ⟨#[]⟩, Value.int .i64 0], []⟩).memory #[Value.slice none 0 0, Value.int .i64 0, Value.int .i64 0, Value.string ⟨#[]⟩, Value.int .i64 0] := by
  have hw : (DataW.whole enc Tryd.prog ((laidWorld os).forCall (fun _ _ => 0) ⟨#[], #[Value.slice none 0 0, Value.int .i64 0, Value.int .i64 0, Value.string ⟨#[]⟩, Value.int .i64 0], []⟩).memory Tryd.f6.params.toList Rows.atlasTurnsSpec.vars false #[Value.slice none 0 0, Value.int .i64 0, Value.int .i64 0, Value.string ⟨#[]⟩, Value.int .i64 0].toList 8).isSome = true := by kernel_rfl
  obtain ⟨⟨x1, x2, x3⟩, hx⟩ := Option.isSome_iff_exists.1 hw
  have hl : x1.length = 5 := by
    have := congrArg (Option.map fun x => x.1.length) hx
    have e : (DataW.whole enc Tryd.prog ((laidWorld os).forCall (fun _ _ => 0) ⟨#[], #[Value.slice none 0 0, Value.int .i64 0, Value.int .i64 0, Value.string ⟨#[]⟩, Value.int .i64 0], []⟩).memory Tryd.f6.params.toList Rows.atlasTurnsSpec.vars false #[Value.slice none 0 0, Value.int .i64 0, Value.int .i64 0, Value.string ⟨#[]⟩, Value.int .i64 0].toList 8).map (fun x => x.1.length) = some 5 := by kernel_rfl
    rw [hx] at e
    simpa using e
  exact OpenSpec.preRow_of_cond 8 hx (by kernel_rfl) (fun k hk => by cases hk) (by kernel_rfl) (laid_met os _)
theorem atlasTurns_lifted (os : Os) (started : os.Started) (H : Type) (enc : TypeId × Value → H) (F : Stop.Interp) :
    ReturnsInHanded {} Tryd.checked os 6 .any ((OpenSpec.ofChange Rows.atlasTurnsSpec).preRow enc Tryd.prog Tryd.f6 Rows.atlasTurnsRow.domain false Rows.atlasTurnsRow.laid) (((OpenSpec.ofChange Rows.atlasTurnsSpec).at F).post enc Tryd.prog Tryd.f6 false true false false) := by
  refine returnsInHanded_of_row (C := Tryd.checked) (s := OpenSpec.ofChange Rows.atlasTurnsSpec) own started (by kernel_rfl) Tryd.func6
    (witness_row_at (enc := enc) (C := Tryd.checked) false (laidWorld os) #[Value.slice none 0 0, Value.int .i64 0, Value.int .i64 0, Value.string ⟨#[]⟩, Value.int .i64 0] rfl (by kernel_rfl) (by kernel_rfl) (by kernel_rfl) (atlasTurns_reads os enc)) ?_
  intro W base args ds gs before hval hW _ _ _ hL _ _
  have hT := tabs_of hL
  exact lift (s := Rows.atlasTurnsSpec) (conds := []) (cx := cxU atlasFm) (own := ownOf (Sg.look atlasTab) 158) (fid := 158) (ss := [(false, [.slice tPl]), (false, [.int .i64]), (false, [.int .i64]), (false, [.str]), (false, [.int .i64])]) (tb := 4) (by kernel_rfl) (by kernel_rfl) (by kernel_rfl) laid rfl (by kernel_rfl) (by kernel_rfl)
    (fun ds h => by
      have h2 : Tryd.f6.params.toList.length = 5 := by kernel_rfl
      rw [h2] at h
      match ds, h with
      | [d0, d1, d2, d3, d4], _ => rfl) atlasTurns_ctr W (size_of hT) hT base args ds gs before hval hW
theorem atlasTurns_said : Rows.AtlasTurnsSaid :=
  OpenClaim.holds_of_cond 6 Tryd.f6 rfl rfl rfl rfl rfl rfl rfl ⟨rfl, rfl, rfl, rfl, rfl⟩ rfl rfl rfl rfl rfl (by kernel_rfl) Tryd.func6 (by kernel_rfl)
    (of_decide_eq_true (by kernel_rfl)) (by unfold Func.isWrapper; first | (rw [if_pos (by decide +kernel)]; kernel_rfl) | (rw [if_neg (by decide +kernel)]; exact ⟨rfl, rfl⟩))
    (fun os started H enc _ F => by rw [OpenClaim.pre_eq_preRow]; exact atlasTurns_lifted os started H enc F)
theorem atlasTurns_plain (f : FuncId) (fn : Func) (hf : Tryd.pinned.checked.prog.funcNamed "stratigraph/stratigraphlaw15.AtlasTurns" = some f) (hfn : Tryd.pinned.checked.prog.funcs[f]? = some fn) :
    false = Tryd.pinned.checked.prog.looks [] ∧ ∀ (j : Nat) t, fn.params[j]? = some t → Tryd.pinned.checked.prog.wantsStandIn t = false := by
  obtain rfl : f = 6 := Option.some.inj ((show Tryd.prog.funcNamed "stratigraph/stratigraphlaw15.AtlasTurns" = some 6 by kernel_rfl).symm.trans hf) |>.symm
  obtain rfl : fn = Tryd.f6 := (Option.some.inj (Tryd.func6.symm.trans hfn)).symm
  refine ⟨by kernel_rfl, fun j t ht => ?_⟩
  rw [Tryd.params6] at ht
  have hm := Array.mem_of_getElem? ht
  simp only [List.mem_toArray, List.mem_cons, List.not_mem_nil, or_false] at hm
  rcases hm with rfl | rfl | rfl | rfl | rfl
  · exact (show Tryd.prog.wantsStandIn 22 = false by kernel_rfl)
  · exact (show Tryd.prog.wantsStandIn 3 = false by kernel_rfl)
  · exact (show Tryd.prog.wantsStandIn 3 = false by kernel_rfl)
  · exact (show Tryd.prog.wantsStandIn 9 = false by kernel_rfl)
  · exact (show Tryd.prog.wantsStandIn 3 = false by kernel_rfl)
theorem atlasTurns_holds : Rows.AtlasTurnsCardSaid :=
  Claim7.holds_tied_plain_at .later [] _ _ _ _ atlasTurns_said (fun _ h => by cases h) (by kernel_rfl) (fun _ h => by cases h) atlasTurns_row_tie rfl ⟨rfl, rfl⟩ (by kernel_rfl) rfl atlasTurns_plain (by kernel_rfl)
#print axioms atlasTurns_holds
end Go.Proofs.YtoklilggickleaaDoor
