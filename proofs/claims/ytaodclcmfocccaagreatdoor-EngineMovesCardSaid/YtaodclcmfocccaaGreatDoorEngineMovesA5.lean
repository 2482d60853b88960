/- EngineMoves, at every input: proved over a checked abstract run of the translated code; no condition. A part. -/
import Derived.Test.YtaodclcmfocccaaGreatDoorCards
import Derived.Test.YtaodclcmfocccaaGreatDoorTie
import Derived.ProofKit
import Derived.OpenShut
import Derived.Lib.LaidIn
import Derived.Lib.LaidTab
import Derived.Deep.DeepHandedRow
import Derived.Deep.DeepWitnessRowRef
import Derived.Test.YtaodclcmfocccaaGreatDoorRows
import Derived.Test.YtaodclcmfocccaaGreatDoorEngineMovesA4
import Derived.Test.YtaodclcmfocccaaGreatDoorEngineMovesJ
namespace Sg
open _root_.Go (IntKind BinOp UnOp)
set_option linter.unusedSimpArgs false
set_option linter.unusedVariables false
set_option maxRecDepth 10000
variable {Pg : Nat → Option Fn}
theorem cel_shR' {c : Cel} (h : celR c = true) {s : Shd} (hs : s ∈ c.shards) : shR s = true := ((celR_iff.1 h).2.2.2.2 s hs).2.1
theorem shR_hold {s : Shd} (h : shR s = true) : 0 ≤ s.hold := by
  simp only [shR, shR0, nou, Bool.and_eq_true, decide_eq_true_eq] at h
  omega
theorem by2 {s : Shd} {m : Int} (h : 1 ≤ s.id) : byC s 2 m = frozenC s m := by
  have : decide (0 < s.id) = true := decide_eq_true (by omega)
  simp only [byC, frozenC, this, Bool.true_and]
theorem by3 {s : Shd} {m : Int} (h : 1 ≤ s.id) : byC s 3 m = readyC s m := by
  have : decide (0 < s.id) = true := decide_eq_true (by omega)
  simp only [byC, readyC, this, Bool.true_and]
theorem by0 {p m : Int} : byC zeroShd p m = false := rfl
def H269 (Pg : Nat → Option Fn) : Prop := Pg 269 = some (.code F269) ∧ H246 Pg ∧ H248 Pg ∧ H292 Pg ∧ H297 Pg ∧ H305 Pg
theorem K269a (h : H269 Pg) (c : Cel) (n e m : Int) (hc : SmC c) :
   K' Pg 269 [.agg (eCel c), iz 0, iz n, iz e, iz m] = some (eCB (freezeC c n e m)) := by
  obtain ⟨h, h246, h248, h292, h297, h305⟩ := h
  have k246 := K246 h246 c hc
  have k248 := K248 h248 c n hc.1
  have kn := K292 h292 n
  have ke := K292 h292 e
  have km := K292 h292 m
  simp only [eCel, eShds] at k246 k248
  clear h246 h248 h292
  refine K'_code h rfl ?_
  clear h
  cases c1 : celR c with
  | false =>
    have m : freezeC c n e m = (c, false) := by simp only [freezeC, find_not c1]
    rw [m]
    simp only [go_sem, k246, c1]
  | true =>
  cases c2 : numD n with
  | false =>
    have m : freezeC c n e m = (c, false) := by simp only [freezeC, find_nox c2]
    rw [m]
    simp only [go_sem, k246, kn, c1, c2]
  | true =>
  cases c3 : numD m with
  | false =>
    have m : freezeC c n e m = (c, false) := by
      simp only [freezeC]
      split
      · rfl
      · simp only [c3, Bool.and_false, Bool.false_eq_true, if_false]
    rw [m]
    simp only [go_sem, k246, kn, km, c1, c2, c3]
  | true =>
  cases c4 : numD e with
  | false =>
    have m : freezeC c n e m = (c, false) := by
      simp only [freezeC]
      split
      · rfl
      · simp only [c4, Bool.false_and, Bool.false_eq_true, if_false]
    rw [m]
    simp only [go_sem, k246, kn, km, ke, c1, c2, c3, c4]
  | true =>
  cases q : getC c.shards n with
  | none =>
    have k305 := K305 h305 zeroShd 2 m
    have e : freezeC c n e m = (c, false) := by simp only [freezeC, find_is c1 c2, q]
    rw [e]
    rw [by0] at k305
    simp only [zeroShd, eShd, eEnts, eDones, List.map_nil] at k305
    simp only [q, Option.getD_none, zeroShd, eShd, eEnts, eDones, List.map_nil] at k248
    simp only [go_sem, k246, k248, k305, kn, ke, km, c1, c2, c3, c4]
  | some s =>
  obtain ⟨-, -, -, ho, -, hi1, hi2, hmem⟩ := find_some ((find_is c1 c2).trans q)
  have k297 := K297 h297 c { s with phase := 2, move := m, top := c.top } false hc.1
  rw [rpS_f ho.1] at k297
  have k305 := K305 h305 s 2 m
  rw [by2 hi1] at k305
  have hid := ne_id hi1
  have hle : decide (m ≤ s.closed) = !decide (s.closed < m) := leN
  have hh : decide (0 < s.hold) = !decide (s.hold = 0) := by
    have := shR_hold (cel_shR' c1 hmem)
    by_cases h : s.hold = 0 <;> simp [h]
    omega
  simp only [eShd, eEnts, eDones] at k305
  simp only [eCel, eShds, eShd, eEnts, eDones] at k297
  simp only [q, Option.getD_some, eShd, eEnts, eDones] at k248
  simp only [freezeC, find_is c1 c2, q, withC, c3, c4, Bool.and_self, if_true]
  clear q hc h297 h305 ho hi1 hi2 hmem
  cases c5 : frozenC s m with
  | true => simp only [go_sem, Bool.and_true, *]
  | false =>
  cases c6 : decide (s.epoch = e) with
  | false => simp only [go_sem, Bool.and_true, *]
  | true =>
  cases c7 : decide (s.phase = 1) with
  | false => simp only [go_sem, Bool.and_true, *]
  | true =>
  cases c8 : decide (s.hold = 0) with
  | false => simp only [go_sem, Bool.and_true, *]
  | true =>
  cases c9 : decide (s.closed < m) <;> simp only [go_sem, *]
theorem K269b (h : H269 Pg) (c : Cel) (n e m : Int) (hc : SmC c) :
    K' Pg 269 [.agg (eCel c), iz 1, iz n, iz e, iz m] = some (eCB (thawC c n m)) := by
  obtain ⟨h, h246, h248, h292, h297, h305⟩ := h
  have k246 := K246 h246 c hc
  have k248 := K248 h248 c n hc.1
  have kn := K292 h292 n
  have ke := K292 h292 e
  have km := K292 h292 m
  simp only [eCel, eShds] at k246 k248
  clear h246 h248 h292
  refine K'_code h rfl ?_
  clear h
  cases c1 : celR c with
  | false =>
    have m : thawC c n m = (c, false) := by simp only [thawC, find_not c1]
    rw [m]
    simp only [go_sem, k246, c1]
  | true =>
  cases c2 : numD n with
  | false =>
    have m : thawC c n m = (c, false) := by simp only [thawC, find_nox c2]
    rw [m]
    simp only [go_sem, k246, kn, c1, c2]
  | true =>
  cases c3 : numD m with
  | false =>
    have m : thawC c n m = (c, false) := by 
      simp only [thawC]
      split
      · rfl
      · simp only [c3, Bool.false_and, Bool.false_eq_true, if_false]
    rw [m]
    simp only [go_sem, k246, kn, km, c1, c2, c3]
  | true =>
  cases q : getC c.shards n with
  | none =>
    have e : thawC c n m = (c, false) := by simp only [thawC, find_is c1 c2, q]
    rw [e]
    simp only [q, Option.getD_none, zeroShd, eShd, eEnts, eDones, List.map_nil] at k248
    simp only [go_sem, k246, k248, kn, km, c1, c2, c3]
  | some s =>
  obtain ⟨-, -, -, ho, -, hi1, hi2, hmem⟩ := find_some ((find_is c1 c2).trans q)
  have k297 := fun p => K297 h297 c { s with closed := m, phase := p } false hc.1
  have hr := fun p => rpS_f (s := { s with closed := m, phase := p }) ho.1
  simp only [hr] at k297
  have k305 := K305 h305 s 2 m
  rw [by2 hi1] at k305
  have hid := ne_id hi1
  simp only [eShd, eEnts, eDones] at k305
  simp only [eCel, eShds, eShd, eEnts, eDones] at k297
  simp only [q, Option.getD_some, eShd, eEnts, eDones] at k248
  simp only [thawC, find_is c1 c2, q, withC, c3, if_true]
  clear q hc h297 h305 ho hi1 hi2 hmem hr
  cases c5 : decide (m ≤ s.closed) with
  | true => simp only [go_sem, Bool.true_or, *]
  | false =>
  cases c6 : decide (s.phase = 2) with
  | false =>
    have hf : frozenC s m = false := by simp only [frozenC, c6, Bool.false_and]
    simp only [go_sem, *]
  | true =>
  cases c7 : decide (s.move = m) with
  | false => simp only [go_sem, *]
  | true =>
    have hf : frozenC s m = true := by simp only [frozenC, c6, c7, Bool.and_self]
    simp only [go_sem, *]
theorem K269c (h : H269 Pg) (c : Cel) (n e m : Int) (hc : SmC c) :
    K' Pg 269 [.agg (eCel c), iz 2, iz n, iz e, iz m] = some (eCB (retireC c n m)) := by
  obtain ⟨h, h246, h248, h292, h297, h305⟩ := h
  have k246 := K246 h246 c hc
  have k248 := K248 h248 c n hc.1
  have kn := K292 h292 n
  have ke := K292 h292 e
  have km := K292 h292 m
  simp only [eCel, eShds] at k246 k248
  clear h246 h248 h292
  refine K'_code h rfl ?_
  clear h
  cases c1 : celR c with
  | false =>
    have m : retireC c n m = (c, false) := by simp only [retireC, c1, Bool.false_and, Bool.false_eq_true, if_false]
    rw [m]
    simp only [go_sem, k246, c1]
  | true =>
  cases c2 : numD n with
  | false =>
    have m : retireC c n m = (c, false) := by simp only [retireC, c2, Bool.false_and, Bool.and_false, Bool.false_eq_true, if_false]
    rw [m]
    simp only [go_sem, k246, kn, c1, c2]
  | true =>
  cases c3 : numD m with
  | false =>
    have m : retireC c n m = (c, false) := by simp only [retireC, c3, Bool.and_false, Bool.false_eq_true, if_false]
    rw [m]
    simp only [go_sem, k246, kn, km, c1, c2, c3]
  | true =>
  simp only [retireC, c1, c2, c3, Bool.and_self, if_true]
  cases q : getC c.shards n with
  | none =>
    simp only [q, Option.getD_none, zeroShd, eShd, eEnts, eDones, List.map_nil] at k248
    simp only [go_sem, k246, k248, kn, km, c1, c2, c3]
  | some s =>
  obtain ⟨-, -, -, ho, hsn, hi1, hi2, hmem⟩ := find_some ((find_is c1 c2).trans q)
  have k297 := K297 h297 c s true hc.1
  rw [rpS_t, hsn] at k297
  have k305 := K305 h305 s 2 m
  rw [by2 hi1] at k305
  have hid := ne_id hi1
  simp only [eShd, eEnts, eDones] at k305
  simp only [eCel, eShds, eShd, eEnts, eDones] at k297
  simp only [q, Option.getD_some, eShd, eEnts, eDones] at k248
  clear q hc h297 h305 ho hi1 hi2 hmem hsn
  cases c5 : frozenC s m <;> simp only [go_sem, *]
theorem K269d (h : H269 Pg) (c : Cel) (n e m : Int) (hc : SmC c) :
    K' Pg 269 [.agg (eCel c), iz 3, iz n, iz e, iz m] = some (eCB (serveC c n m e)) := by
  obtain ⟨h, h246, h248, h292, h297, h305⟩ := h
  have k246 := K246 h246 c hc
  have k248 := K248 h248 c n hc.1
  have kn := K292 h292 n
  have ke := K292 h292 e
  have km := K292 h292 m
  simp only [eCel, eShds] at k246 k248
  clear h246 h248 h292
  refine K'_code h rfl ?_
  clear h
  cases c1 : celR c with
  | false =>
    have m : serveC c n m e = (c, false) := by simp only [serveC, find_not c1]
    rw [m]
    simp only [go_sem, k246, c1]
  | true =>
  cases c2 : numD n with
  | false =>
    have m : serveC c n m e = (c, false) := by simp only [serveC, find_nox c2]
    rw [m]
    simp only [go_sem, k246, kn, c1, c2]
  | true =>
  cases c3 : numD m with
  | false =>
    have m : serveC c n m e = (c, false) := by 
      simp only [serveC]
      split
      · rfl
      · simp only [c3, Bool.false_and, Bool.false_eq_true, if_false]
    rw [m]
    simp only [go_sem, k246, kn, km, c1, c2, c3]
  | true =>
  cases c4 : numD e with
  | false =>
    have e : serveC c n m e = (c, false) := by
      simp only [serveC]
      split
      · rfl
      · simp only [c4, Bool.and_false, Bool.false_eq_true, if_false]
    rw [e]
    simp only [go_sem, k246, kn, km, ke, c1, c2, c3, c4]
  | true =>
  cases q : getC c.shards n with
  | none =>
    have k305 := K305 h305 zeroShd 3 m
    have e : serveC c n m e = (c, false) := by simp only [serveC, find_is c1 c2, q]
    rw [e]
    rw [by0] at k305
    simp only [zeroShd, eShd, eEnts, eDones, List.map_nil] at k305
    simp only [q, Option.getD_none, zeroShd, eShd, eEnts, eDones, List.map_nil] at k248
    simp only [go_sem, k246, k248, k305, kn, ke, km, c1, c2, c3, c4]
  | some s =>
  obtain ⟨-, -, -, ho, hsn, hi1, hi2, hmem⟩ := find_some ((find_is c1 c2).trans q)
  have k297 := K297 h297 c { s with phase := 1, epoch := e, closed := m } false hc.1
  rw [rpS_f ho.1] at k297
  have k305 := K305 h305 s 3 m
  rw [by3 hi1] at k305
  have hpos : decide (0 < s.id) = true := decide_eq_true (by omega)
  have hle : decide (e ≤ s.epoch) = !decide (s.epoch < e) := leN
  have hmx : max c.dropped m = if c.dropped < m then m else c.dropped := mxI.symm
  simp only [eShd, eEnts, eDones] at k305
  simp only [eCel, eShds, eShd, eEnts, eDones] at k297
  simp only [q, Option.getD_some, eShd, eEnts, eDones] at k248
  simp only [serveC, find_is c1 c2, q, c3, c4, Bool.and_self, if_true]
  clear q hc h297 h305 ho hi1 hi2 hmem hsn
  have go : ∀ b : Bool, decide (c.dropped < m) = b → (if c.dropped < m then m else c.dropped) = if b then m else c.dropped := fun b hb => by subst hb; by_cases h : c.dropped < m <;> simp [h]
  cases c5 : decide (s.phase = 1) with
  | false =>
    cases c6 : readyC s m with
    | false => simp only [go_sem, Bool.and_true, *]
    | true =>
    cases c7 : decide (s.epoch < e) with
    | false => simp only [go_sem, Bool.and_true, *]
    | true =>
    cases c8 : decide (c.dropped < m) with
    | false =>
      have hz := go _ c8
      simp only [hz] at hmx
      clear go hz
      simp only [Bool.false_eq_true, if_false] at hmx
      simp only [go_sem, *]
    | true =>
      have hz := go _ c8
      simp only [hz] at hmx
      clear go hz
      simp only [if_true] at hmx
      simp only [go_sem, *]
  | true =>
    clear go
    have hr : readyC s m = false := by
      have := of_decide_eq_true c5
      simp [readyC, this]
    cases c6 : decide (s.epoch = e) with
    | false => simp only [go_sem, *]
    | true => cases c7 : decide (s.closed = m) <;> simp only [go_sem, *]
theorem K269e (h : H269 Pg) (c : Cel) (n e m : Int) (hc : SmC c) :
    K' Pg 269 [.agg (eCel c), iz 4, iz n, iz e, iz m] = some (eCB (dropC c n m)) := by
  obtain ⟨h, h246, h248, h292, h297, h305⟩ := h
  have k246 := K246 h246 c hc
  have k248 := K248 h248 c n hc.1
  have kn := K292 h292 n
  have ke := K292 h292 e
  have km := K292 h292 m
  simp only [eCel, eShds] at k246 k248
  clear h246 h248 h292
  refine K'_code h rfl ?_
  clear h
  cases c1 : celR c with
  | false =>
    have m : dropC c n m = (c, false) := by simp only [dropC, c1, Bool.false_and, Bool.false_eq_true, if_false]
    rw [m]
    simp only [go_sem, k246, c1]
  | true =>
  cases c2 : numD n with
  | false =>
    have m : dropC c n m = (c, false) := by simp only [dropC, c2, Bool.false_and, Bool.and_false, Bool.false_eq_true, if_false]
    rw [m]
    simp only [go_sem, k246, kn, c1, c2]
  | true =>
  cases c3 : numD m with
  | false =>
    have m : dropC c n m = (c, false) := by simp only [dropC, c3, Bool.and_false, Bool.false_eq_true, if_false]
    rw [m]
    simp only [go_sem, k246, kn, km, c1, c2, c3]
  | true =>
  simp only [dropC, c1, c2, c3, Bool.and_self, if_true]
  have hmx : max c.dropped m = if decide (c.dropped < m) then m else c.dropped := by rw [← mxI]; by_cases h : c.dropped < m <;> simp [h]
  cases q : getC c.shards n with
  | none =>
    have k305 := K305 h305 zeroShd 3 m
    rw [by0] at k305
    simp only [zeroShd, eShd, eEnts, eDones, List.map_nil] at k305
    simp only [q, Option.getD_none, zeroShd, eShd, eEnts, eDones, List.map_nil] at k248
    cases c8 : decide (c.dropped < m) <;> simp only [go_sem, k246, k248, k305, kn, km, c1, c2, c3, c8, hmx]
  | some s =>
  obtain ⟨-, -, -, ho, hsn, hi1, hi2, hmem⟩ := find_some ((find_is c1 c2).trans q)
  have k297 := K297 h297 c s true hc.1
  rw [rpS_t, hsn] at k297
  have k305 := K305 h305 s 3 m
  rw [by3 hi1] at k305
  simp only [eShd, eEnts, eDones] at k305
  simp only [eCel, eShds, eShd, eEnts, eDones] at k297
  simp only [q, Option.getD_some, eShd, eEnts, eDones] at k248
  clear q hc h297 h305 ho hi1 hi2 hmem hsn
  cases c5 : readyC s m with
  | false => cases c8 : decide (c.dropped < m) <;> simp only [go_sem, *]
  | true => cases c8 : decide (c.dropped < m) <;> simp only [go_sem, *]
end Sg
namespace Sg
open _root_.Go (IntKind BinOp UnOp)
set_option linter.unusedSimpArgs false
set_option linter.unusedVariables false
set_option maxRecDepth 10000
variable {Pg : Nat → Option Fn}
theorem del_smC {l : List Shd} {n : Int} {t : Stamp} {d : Int} (hl : l.length ≤ 900) (hc : ∀ x ∈ l, SmS x) : SmC ⟨delC l n, t, d⟩ :=
  ⟨by have := List.length_filter_le (fun s : Shd => !decide (s.id = n)) l; simp only [delC]; omega, fun x hx => hc x (List.mem_filter.1 hx).1⟩
theorem freeze_sm {c : Cel} {n e m : Int} (hc : SmC c) (hl : c.shards.length ≤ 12) : SmC (freezeC c n e m).1 := by
  unfold freezeC
  cases q : findC c n with
  | none => exact hc
  | some s =>
    have hs := hc.2 s (find_some q).2.2.2.2.2.2.2
    simp only
    split
    · split
      · exact hc
      · split
        · exact put_smC (by omega) hc.2 hs
        · exact hc
    · exact hc
theorem thaw_sm {c : Cel} {n m : Int} (hc : SmC c) (hl : c.shards.length ≤ 12) : SmC (thawC c n m).1 := by
  unfold thawC
  cases q : findC c n with
  | none => exact hc
  | some s =>
    have hs := hc.2 s (find_some q).2.2.2.2.2.2.2
    simp only
    split
    · split
      · exact hc
      · exact put_smC (by omega) hc.2 hs
    · exact hc
theorem retire_sm {c : Cel} {n m : Int} (hc : SmC c) (hl : c.shards.length ≤ 12) : SmC (retireC c n m).1 := by
  unfold retireC
  split
  · cases q : getC c.shards n with
    | none => exact hc
    | some s =>
      simp only
      split
      · exact del_smC (by omega) hc.2
      · exact hc
  · exact hc
theorem serve_sm {c : Cel} {n m e : Int} (hc : SmC c) (hl : c.shards.length ≤ 12) : SmC (serveC c n m e).1 := by
  unfold serveC
  cases q : findC c n with
  | none => exact hc
  | some s =>
    have hs := hc.2 s (find_some q).2.2.2.2.2.2.2
    simp only
    split
    · split
      · exact hc
      · split
        · exact put_smC (by omega) hc.2 hs
        · exact hc
    · exact hc
theorem drop_sm {c : Cel} {n m : Int} (hc : SmC c) (hl : c.shards.length ≤ 12) : SmC (dropC c n m).1 := by
  unfold dropC
  split
  · cases q : getC c.shards n with
    | none => exact hc
    | some s =>
      simp only
      split
      · exact del_smC (by omega) hc.2
      · exact hc
  · exact hc
def H268 (Pg : Nat → Option Fn) : Prop := Pg 268 = some (.code F268) ∧ H238 Pg ∧ H239 Pg ∧ H242 Pg ∧ H265 Pg ∧ H266 Pg ∧ H267 Pg ∧ H269 Pg ∧ H270 Pg ∧ H271 Pg
theorem K268 (h : H268 Pg) (c : Cel) (n e m : Int) : K' Pg 268 [.agg (eCel c), iz n, iz e, iz m] = some (.bool true) := by
  obtain ⟨h, h238, h239, h242, h265, h266, h267, h269, h270, h271⟩ := h
  have k238 := K238 h238 c
  have k239 := K239 h239
  simp only [eCel, eShds] at k238
  refine K'_code h rfl ?_
  cases c0 : smallC c with
  | false => simp only [go_sem, k238, k239, c0]
  | true =>
  obtain ⟨hc, hl⟩ := small_C c0
  have r0 := K269a h269 c n e m hc
  have r1 := K269b h269 c n e m hc
  have r2 := K269c h269 c n e m hc
  have r3 := K269d h269 c n e m hc
  have r4 := K269e h269 c n e m hc
  have s0 := K265 h265 c n e m hc
  have s1 := K270 h270 c n m hc
  have s2 := K267 h267 c n m hc
  have s3 := K266 h266 c n m e hc
  have s4 := K271 h271 c n m hc
  have t0 := K242 h242 _ (freeze_sm (n := n) (e := e) (m := m) hc hl)
  have t1 := K242 h242 _ (thaw_sm (n := n) (m := m) hc hl)
  have t2 := K242 h242 _ (retire_sm (n := n) (m := m) hc hl)
  have t3 := K242 h242 _ (serve_sm (n := n) (m := m) (e := e) hc hl)
  have t4 := K242 h242 _ (drop_sm (n := n) (m := m) hc hl)
  generalize freezeC c n e m = x0 at *
  generalize thawC c n m = x1 at *
  generalize retireC c n m = x2 at *
  generalize serveC c n m e = x3 at *
  generalize dropC c n m = x4 at *
  clear h242 h265 h266 h267 h269 h270 h271 h238 h239
  simp only [eCB, eCel, eShds] at r0 r1 r2 r3 r4 s0 s1 s2 s3 s4 t0 t1 t2 t3 t4
  simp only [go_sem, k238, c0]
  unfold l268_0
  refine wp_lp (fun (i : Nat) S => i ≤ 5 ∧ S.ρ 1 = iz n ∧ S.ρ 2 = iz e ∧ S.ρ 3 = iz m ∧ S.ρ 4 = .lref 4 0 ∧ S.μ 4 = some (eCel c, false) ∧ S.ρ 18 = iz i ∧ S.μ 10 = none ∧ S.μ 12 = none) (fun i => 5 - i) 0 ?_ ?_
  · simp [go_sem]
  · intro i S ⟨hi, h1, h2, h3, h4, m4, h18, m10, m12⟩
    match i, hi, h18 with
    | 0, _, h18 =>
      have h18 : S.ρ 18 = iz 0 := h18
      have d : decide ((0 : Int) < 5) = true := rfl
      have e1 : decide ((0 : Int) = 1) = false := rfl
      have e2 : decide ((0 : Int) = 2) = false := rfl
      have e3 : decide ((0 : Int) = 3) = false := rfl
      have e4 : decide ((0 : Int) = 4) = false := rfl
      have w : IntKind.i64.wrap ((0 : Int) + 1) = 1 := by decide
      simp only [go_sem, h1, h2, h3, h4, m4, h18, m10, m12, d, e1, e2, e3, e4, w, r0, s0, s0, t0]
      exact ⟨1, by omega, by omega, rfl⟩
    | 1, _, h18 =>
      have h18 : S.ρ 18 = iz 1 := h18
      have d : decide ((1 : Int) < 5) = true := rfl
      have e1 : decide ((1 : Int) = 1) = true := rfl
      have e2 : decide ((1 : Int) = 2) = false := rfl
      have e3 : decide ((1 : Int) = 3) = false := rfl
      have e4 : decide ((1 : Int) = 4) = false := rfl
      have w : IntKind.i64.wrap ((1 : Int) + 1) = 2 := by decide
      simp only [go_sem, h1, h2, h3, h4, m4, h18, m10, m12, d, e1, e2, e3, e4, w, r1, s0, s1, t1]
      exact ⟨2, by omega, by omega, rfl⟩
    | 2, _, h18 =>
      have h18 : S.ρ 18 = iz 2 := h18
      have d : decide ((2 : Int) < 5) = true := rfl
      have e1 : decide ((2 : Int) = 1) = false := rfl
      have e2 : decide ((2 : Int) = 2) = true := rfl
      have e3 : decide ((2 : Int) = 3) = false := rfl
      have e4 : decide ((2 : Int) = 4) = false := rfl
      have w : IntKind.i64.wrap ((2 : Int) + 1) = 3 := by decide
      simp only [go_sem, h1, h2, h3, h4, m4, h18, m10, m12, d, e1, e2, e3, e4, w, r2, s0, s2, t2]
      exact ⟨3, by omega, by omega, rfl⟩
    | 3, _, h18 =>
      have h18 : S.ρ 18 = iz 3 := h18
      have d : decide ((3 : Int) < 5) = true := rfl
      have e1 : decide ((3 : Int) = 1) = false := rfl
      have e2 : decide ((3 : Int) = 2) = false := rfl
      have e3 : decide ((3 : Int) = 3) = true := rfl
      have e4 : decide ((3 : Int) = 4) = false := rfl
      have w : IntKind.i64.wrap ((3 : Int) + 1) = 4 := by decide
      simp only [go_sem, h1, h2, h3, h4, m4, h18, m10, m12, d, e1, e2, e3, e4, w, r3, s0, s3, t3]
      exact ⟨4, by omega, by omega, rfl⟩
    | 4, _, h18 =>
      have h18 : S.ρ 18 = iz 4 := h18
      have d : decide ((4 : Int) < 5) = true := rfl
      have e1 : decide ((4 : Int) = 1) = false := rfl
      have e2 : decide ((4 : Int) = 2) = false := rfl
      have e3 : decide ((4 : Int) = 3) = false := rfl
      have e4 : decide ((4 : Int) = 4) = true := rfl
      have w : IntKind.i64.wrap ((4 : Int) + 1) = 5 := by decide
      simp only [go_sem, h1, h2, h3, h4, m4, h18, m10, m12, d, e1, e2, e3, e4, w, r4, s0, s4, t4]
      exact ⟨5, by omega, by omega, rfl⟩
    | 5, _, h18 =>
      have h18 : S.ρ 18 = iz 5 := h18
      have d : decide ((5 : Int) < 5) = false := rfl
      simp only [go_sem, h1, h2, h3, h4, m4, h18, m10, m12, d, k239]
end Sg
namespace Sg
open _root_.Go (IntKind BinOp UnOp)
set_option linter.unusedSimpArgs false
set_option linter.unusedVariables false
set_option maxRecDepth 10000
variable {Pg : Nat → Option Fn}
def i64 (n : Int) : Prop := -9223372036854775808 ≤ n ∧ n ≤ 9223372036854775807
end Sg
namespace Sg
open _root_.Go (IntKind BinOp UnOp)
set_option linter.unusedSimpArgs false
set_option linter.unusedVariables false
set_option maxRecDepth 10000
variable {Pg : Nat → Option Fn}
end Sg
namespace Sg
open _root_.Go (IntKind BinOp UnOp)
set_option linter.unusedSimpArgs false
set_option linter.unusedVariables false
set_option maxRecDepth 10000
variable {Pg : Nat → Option Fn}
end Sg
namespace Sg
open _root_.Go (IntKind BinOp UnOp)
set_option linter.unusedSimpArgs false
set_option linter.unusedVariables false
set_option maxRecDepth 10000
variable {Pg : Nat → Option Fn}
end Sg
namespace Sg
open _root_.Go (IntKind BinOp UnOp)
set_option linter.unusedSimpArgs false
set_option linter.unusedVariables false
set_option maxRecDepth 10000
variable {Pg : Nat → Option Fn}
end Sg
namespace Sg
open _root_.Go _root_.Go.Proofs
set_option linter.unusedSimpArgs false
set_option maxRecDepth 100000
theorem t78 : H78 (look engineTab) := rfl
theorem t198 : H198 (look engineTab) := rfl
theorem t252 : H252 (look engineTab) := ⟨rfl, t78, t198⟩
theorem t238 : H238 (look engineTab) := ⟨rfl, t252⟩
theorem t9240 : H9240 (look engineTab) := rfl
theorem t9244 : H9244 (look engineTab) := rfl
theorem t9249 : H9249 (look engineTab) := rfl
theorem t9028 : H9028 (look engineTab) := rfl
theorem t9015 : H9015 (look engineTab) := rfl
theorem t9283 : H9283 (look engineTab) := rfl
theorem t9284 : H9284 (look engineTab) := rfl
theorem t9285 : H9285 (look engineTab) := rfl
theorem t9287 : H9287 (look engineTab) := rfl
theorem t9171 : H9171 (look engineTab) := rfl
theorem t9288 : H9288 (look engineTab) := rfl
theorem t9289 : H9289 (look engineTab) := rfl
theorem t9290 : H9290 (look engineTab) := rfl
theorem t9186 : H9186 (look engineTab) := rfl
theorem t9203 : H9203 (look engineTab) := rfl
theorem t9081 : H9081 (look engineTab) := rfl
theorem t9298 : H9298 (look engineTab) := rfl
theorem t9299 : H9299 (look engineTab) := rfl
theorem t9301 : H9301 (look engineTab) := rfl
theorem t9304 : H9304 (look engineTab) := rfl
theorem t9032 : H9032 (look engineTab) := rfl
theorem t9026 : H9026 (look engineTab) := rfl
theorem t9027 : H9027 (look engineTab) := rfl
theorem t9312 : H9312 (look engineTab) := rfl
theorem t9313 : H9313 (look engineTab) := rfl
theorem t9067 : H9067 (look engineTab) := rfl
theorem t9314 : H9314 (look engineTab) := rfl
theorem t9192 : H9192 (look engineTab) := rfl
theorem t9082 : H9082 (look engineTab) := rfl
theorem t9084 : H9084 (look engineTab) := rfl
theorem t9200 : H9200 (look engineTab) := rfl
theorem t9088 : H9088 (look engineTab) := rfl
theorem t9007 : H9007 (look engineTab) := rfl
theorem t9097 : H9097 (look engineTab) := rfl
theorem t9098 : H9098 (look engineTab) := rfl
theorem t9315 : H9315 (look engineTab) := rfl
theorem t9316 : H9316 (look engineTab) := rfl
theorem t9031 : H9031 (look engineTab) := rfl
theorem t9220 : H9220 (look engineTab) := rfl
theorem t9221 : H9221 (look engineTab) := rfl
theorem t9010 : H9010 (look engineTab) := rfl
theorem t9076 : H9076 (look engineTab) := rfl
theorem t9319 : H9319 (look engineTab) := rfl
theorem t9320 : H9320 (look engineTab) := rfl
theorem t9100 : H9100 (look engineTab) := rfl
theorem t9003 : H9003 (look engineTab) := rfl
theorem t9022 : H9022 (look engineTab) := rfl
theorem t9025 : H9025 (look engineTab) := rfl
theorem t9225 : H9225 (look engineTab) := rfl
theorem t9226 : H9226 (look engineTab) := rfl
theorem t9106 : H9106 (look engineTab) := rfl
theorem t9029 : H9029 (look engineTab) := rfl
theorem t9030 : H9030 (look engineTab) := rfl
theorem t9307 : H9307 (look engineTab) := rfl
theorem t9170 : H9170 (look engineTab) := rfl
theorem t9190 : H9190 (look engineTab) := rfl
theorem t9102 : H9102 (look engineTab) := rfl
theorem t9023 : H9023 (look engineTab) := rfl
theorem t9227 : H9227 (look engineTab) := rfl
theorem t239 : H239 (look engineTab) := ⟨rfl, t9240, t9244, t9249, t9028, t9015, t9283, t9284, t9285, t9287, t9171, t9288, t9289, t9290, t9186, t9203, t9081, t9298, t9299, t9301, t9304, t9032, t9026, t9027, t9312, t9313, t9067, t9314, t9192, t9082, t9084, t9200, t9088, t9007, t9097, t9098, t9315, t9316, t9031, t9220, t9221, t9010, t9076, t9319, t9320, t9100, t9003, t9022, t9025, t9225, t9226, t9106, t9029, t9030, t9307, t9170, t9190, t9102, t9023, t9227⟩
theorem t101 : H101 (look engineTab) := rfl
theorem t86 : H86 (look engineTab) := ⟨rfl, t101⟩
theorem t8 : H8 (look engineTab) := rfl
theorem t202 : H202 (look engineTab) := ⟨rfl, t8⟩
theorem t250 : H250 (look engineTab) := ⟨rfl, t86, t202⟩
theorem t242 : H242 (look engineTab) := ⟨rfl, t250⟩
theorem t32 : H32 (look engineTab) := rfl
theorem t28 : H28 (look engineTab) := ⟨rfl, t32⟩
theorem t97 : H97 (look engineTab) := rfl
theorem t98 : H98 (look engineTab) := ⟨rfl, t28⟩
theorem t81 : H81 (look engineTab) := ⟨rfl, t97, t98⟩
theorem t170 : H170 (look engineTab) := rfl
theorem t190 : H190 (look engineTab) := rfl
theorem t192 : H192 (look engineTab) := ⟨rfl, t190⟩
theorem t186 : H186 (look engineTab) := ⟨rfl, t170, t192⟩
theorem t22 : H22 (look engineTab) := ⟨rfl, t28⟩
theorem t31 : H31 (look engineTab) := rfl
theorem t26 : H26 (look engineTab) := ⟨rfl, t31⟩
theorem t27 : H27 (look engineTab) := rfl
theorem t15 : H15 (look engineTab) := ⟨rfl, t26, t27⟩
theorem t7 : H7 (look engineTab) := ⟨rfl, t22, t15⟩
theorem t203 : H203 (look engineTab) := ⟨rfl, t7, t170, t192⟩
theorem t76 : H76 (look engineTab) := rfl
theorem t67 : H67 (look engineTab) := ⟨rfl, t76⟩
theorem t313 : H313 (look engineTab) := rfl
theorem t284 : H284 (look engineTab) := ⟨rfl, t67, t313⟩
theorem t171 : H171 (look engineTab) := ⟨rfl, t186, t170, t192⟩
theorem t298 : H298 (look engineTab) := ⟨rfl, t171⟩
theorem t315 : H315 (look engineTab) := rfl
theorem t299 : H299 (look engineTab) := ⟨rfl, t315⟩
theorem t244 : H244 (look engineTab) := ⟨rfl, t28, t81, t186, t203, t284, t298, t299⟩
theorem t316 : H316 (look engineTab) := ⟨rfl, t15⟩
theorem t301 : H301 (look engineTab) := ⟨rfl, t299, t316⟩
theorem t249 : H249 (look engineTab) := ⟨rfl, t28, t244, t284, t301⟩
theorem t319 : H319 (look engineTab) := rfl
theorem t320 : H320 (look engineTab) := rfl
theorem t314 : H314 (look engineTab) := ⟨rfl, t319, t320⟩
theorem t287 : H287 (look engineTab) := ⟨rfl, t314⟩
theorem t247 : H247 (look engineTab) := ⟨rfl, t249, t284, t287⟩
theorem t303 : H303 (look engineTab) := rfl
theorem t307 : H307 (look engineTab) := rfl
theorem t304 : H304 (look engineTab) := ⟨rfl, t307, t314⟩
theorem t265 : H265 (look engineTab) := ⟨rfl, t247, t284, t303, t304⟩
theorem t302 : H302 (look engineTab) := rfl
theorem t266 : H266 (look engineTab) := ⟨rfl, t247, t284, t302, t304⟩
theorem t308 : H308 (look engineTab) := ⟨rfl, t307, t314⟩
theorem t267 : H267 (look engineTab) := ⟨rfl, t249, t284, t287, t303, t308⟩
theorem t24 : H24 (look engineTab) := rfl
theorem t95 : H95 (look engineTab) := rfl
theorem t96 : H96 (look engineTab) := ⟨rfl, t24⟩
theorem t80 : H80 (look engineTab) := ⟨rfl, t95, t96⟩
theorem t188 : H188 (look engineTab) := rfl
theorem t189 : H189 (look engineTab) := rfl
theorem t168 : H168 (look engineTab) := ⟨rfl, t188, t189⟩
theorem t195 : H195 (look engineTab) := ⟨rfl, t188⟩
theorem t187 : H187 (look engineTab) := ⟨rfl, t195⟩
theorem t167 : H167 (look engineTab) := ⟨rfl, t168, t187⟩
theorem t169 : H169 (look engineTab) := ⟨rfl, t187⟩
theorem t142 : H142 (look engineTab) := ⟨rfl, t167, t168, t169⟩
theorem t5 : H5 (look engineTab) := ⟨rfl, t24⟩
theorem t6 : H6 (look engineTab) := rfl
theorem t4 : H4 (look engineTab) := ⟨rfl, t5, t6⟩
theorem t204 : H204 (look engineTab) := ⟨rfl, t4, t168, t187⟩
theorem t292 : H292 (look engineTab) := rfl
theorem t293 : H293 (look engineTab) := ⟨rfl, t292⟩
theorem t245 : H245 (look engineTab) := ⟨rfl, t24, t80, t142, t167, t204, t292, t293⟩
theorem t300 : H300 (look engineTab) := ⟨rfl, t6⟩
theorem t246 : H246 (look engineTab) := ⟨rfl, t24, t245, t293, t300⟩
theorem t248 : H248 (look engineTab) := rfl
theorem t297 : H297 (look engineTab) := rfl
theorem t305 : H305 (look engineTab) := rfl
theorem t269 : H269 (look engineTab) := ⟨rfl, t246, t248, t292, t297, t305⟩
theorem t270 : H270 (look engineTab) := ⟨rfl, t247, t284, t303, t304⟩
theorem t271 : H271 (look engineTab) := ⟨rfl, t249, t284, t287, t302, t308⟩
theorem t268 : H268 (look engineTab) := ⟨rfl, t238, t239, t242, t265, t266, t267, t269, t270, t271⟩
theorem all_ctr (f : Nat) (args : List V) (r : V) (h : K' (look engineTab) f args = some r) : Ctr Tryz.prog (cxU engineFm) (ownOf (look engineTab) f) f args r := by
  obtain ⟨n, hn⟩ := K'_iff.1 h
  refine callN_sound (by kernel_rfl) (tab_code okAll) (fun f own p hp => ?_) (fun f z p hlt hp => ?_) (fun f z p hp => ?_) n f args r hn
  · have hm := look_mem hp
    simp only [engineTab, List.mem_cons, Prod.mk.injEq, reduceCtorEq, and_false, false_and, false_or, Fn.prim.injEq, Option.some.injEq, List.not_mem_nil, or_false] at hm
    rcases hm with ⟨rfl, hz, rfl⟩ | ⟨rfl, hz, rfl⟩ | ⟨rfl, hz, rfl⟩ | ⟨rfl, hz, rfl⟩ | ⟨rfl, hz, rfl⟩ | ⟨rfl, hz, rfl⟩ | ⟨rfl, hz, rfl⟩ | ⟨rfl, hz, rfl⟩ | ⟨rfl, hz, rfl⟩ | ⟨rfl, hz, rfl⟩
    · subst hz
      exact clone_ctr (zero := [.int .i64 0, .int .i64 0, .str [], .str [], .int .i64 0, .slice 2 [], .int .i64 0, .int .i64 0, .int .i64 0, .int .i64 0, .int .i64 0, .int .i64 0, .slice 11 [], .int .i64 0, .int .i64 0, .int .i64 0, .int .i64 0]) (by kernel_rfl) okClone307
    · intro args r h
      simp [noQ] at h
    · intro args r h
      simp [noQ] at h
    · subst hz
      exact keyCt _ 170 rfl
    · subst hz
      exact decCt _ 190 rfl
    · intro args r h
      simp [noQ] at h
    · subst hz
      exact clone_ctr (zero := [.int .i64 0, .int .i64 0, .int .i64 0, .int .i64 0, .int .i64 0, .int .i64 0, .bool false, .str [], .slice 2 [], .str [], .bool false]) (by kernel_rfl) okClone102
    · intro args r h
      simp [noQ] at h
    · subst hz
      exact clone_ctr (zero := [.int .i64 0, .int .i64 0, .int .i64 0, .bool false, .str []]) (by kernel_rfl) okClone23
    · subst hz
      exact clone_ctr (zero := [.str [], .slice 5 []]) (by kernel_rfl) okClone227
  · have hm := look_mem hp
    simp only [engineTab, List.mem_cons, Prod.mk.injEq, reduceCtorEq, and_false, false_and, false_or, Fn.prim.injEq, Option.some.injEq, List.not_mem_nil, or_false] at hm
    rcases hm with ⟨rfl, hz, rfl⟩ | ⟨rfl, hz, rfl⟩ | ⟨rfl, hz, rfl⟩ | ⟨rfl, hz, rfl⟩ | ⟨rfl, hz, rfl⟩ | ⟨rfl, hz, rfl⟩ | ⟨rfl, hz, rfl⟩ | ⟨rfl, hz, rfl⟩
    · omega
    · obtain rfl : z = 17 := by omega
      exact ⟨_, _, insC143⟩
    · omega
    · obtain rfl : z = 2 := by omega
      exact ⟨_, _, insC159⟩
    · omega
    · obtain rfl : z = 11 := by omega
      exact ⟨_, _, insC161⟩
    · omega
    · omega
  · have hm := look_mem hp
    simp only [engineTab, List.mem_cons, Prod.mk.injEq, reduceCtorEq, and_false, false_and, false_or, Fn.prim.injEq, Option.some.injEq, List.not_mem_nil, or_false] at hm
    rcases hm with ⟨rfl, hz, rfl⟩ | ⟨rfl, hz, rfl⟩ | ⟨rfl, hz, rfl⟩ | ⟨rfl, hz, rfl⟩ | ⟨rfl, hz, rfl⟩ | ⟨rfl, hz, rfl⟩ | ⟨rfl, hz, rfl⟩ | ⟨rfl, hz, rfl⟩
    · omega
    · omega
    · obtain rfl : z = 17 := by omega
      exact delC147
    · omega
    · omega
    · omega
    · omega
    · omega
end Sg
namespace Go.Proofs.YtaodclcmfocccaaGreatDoor
open Sg Go.RowKit
set_option maxRecDepth 100000
theorem own : ownKnob Tryz.prog.godebug = none := by kernel_rfl
theorem laid : laidOutB Tryz.prog = true := by kernel_rfl
theorem engineMoves_ctr (xs : List V) (h : ArgsV [(true, tCel), (false, [.int .i64]), (false, [.int .i64]), (false, [.int .i64])] xs) : Ctr Tryz.prog (cxU engineFm) (ownOf (Sg.look engineTab) 268) 268 xs (.bool true) := by
  match xs, h with
  | [x0, x1, x2, x3], h =>
    obtain ⟨h0, h1, h2, h3, -⟩ := h
    obtain ⟨a0, rfl⟩ := arg_Cel h0
    obtain ⟨a1, rfl, w1⟩ := arg_int h1
    obtain ⟨a2, rfl, w2⟩ := arg_int h2
    obtain ⟨a3, rfl, w3⟩ := arg_int h3
    exact all_ctr _ _ _ (K268 t268 a0 a1 a2 a3)
noncomputable def laidWorld (os : Os) : World :=
  let w0 := World.holding Tryz.prog os ⟨#[], #[], []⟩
  let put (h : Array Obj) (g : Nat) (cs : Array Value) : Array Obj := h.modify g fun
    | .cells _ t frozen => .cells cs t frozen
    | o => o
  let h1 := put w0.heap 0 (Lib.firstTab.map fun z => Value.int .u8 z).toArray
  let h2 := put h1 1 ((List.range 16).flatMap fun i => [Value.int .u8 (Lib.accLo i), Value.int .u8 (Lib.accHi i)]).toArray
  { w0 with heap := h2 }
theorem tabs_of {W : World} (hL : laidMetH Tryz.prog Rows.engineMovesRow.laid W) : Lib.Utf8Tabs 0 1 W :=
  utf8Tabs_of_reads (ρ := renU) { lays197 with } ⟨by kernel_rfl, by kernel_rfl, by kernel_rfl, by kernel_rfl, by kernel_rfl, by kernel_rfl, by kernel_rfl⟩
    ((show Go.Pinned.utf8First = Lib.firstData by kernel_rfl) ▸ Lib.laidMet.reads hL (.tail _ (.head _))) ((show Rows.laid_unicode_utf8_acceptRanges = Lib.acceptData by kernel_rfl) ▸ Lib.laidMet.reads hL (.head _))
theorem size_of {W : World} (h : Lib.Utf8Tabs 0 1 W) : 2 ≤ W.heap.size := by
  have lt : ∀ g o v, W.cell? ⟨g, o, none⟩ = some v → g < W.heap.size := fun g o v e => by
    rcases Nat.lt_or_ge g W.heap.size with h | h
    · exact h
    · simp [World.cell?, Array.getElem?_eq_none h] at e
  have h1 := lt _ _ _ (h.1 0 (by decide))
  have h2 := lt _ _ _ (h.2 0 (by decide)).1
  omega
theorem laid_met (os : Os) (args : Array Value) : laidMet Tryz.prog Rows.engineMovesRow.laid ((laidWorld os).forCall (fun _ _ => 0) ⟨#[], args, []⟩).memory :=
  (LaidIn.of_run (l := Rows.engineMovesRow.laid) [1, 0] 8 (by kernel_rfl) (by kernel_rfl) (by kernel_rfl) (by kernel_rfl)).met
set_option maxRecDepth 100000 in
theorem engineMoves_reads (os : Os) {H : Type} (enc : TypeId × Value → H) :
    (OpenSpec.ofChange Rows.engineMovesSpec).preRow enc Tryz.prog Tryz.f9 Rows.engineMovesRow.domain false Rows.engineMovesRow.laid ((laidWorld os).forCall (fun _ _ => 0) ⟨#[], #[Value.agg #[.slice none 0 0, .int .i64 0, .int .i64 0, .int .i64 0, .int .i64 0], Value.int .i64 0, Value.int .i64 0, Value.int .i64 0], []⟩).memory #[Value.agg #[.slice none 0 0, .int .i64 0, .int .i64 0, .int .i64 0, .int .i64 0], Value.int .i64 0, Value.int .i64 0, Value.int .i64 0] := by
  have hw : (DataW.whole enc Tryz.prog ((laidWorld os).forCall (fun _ _ => 0) ⟨#[], #[Value.agg #[.slice none 0 0, .int .i64 0, .int .i64 0, .int .i64 0, .int .i64 0], Value.int .i64 0, Value.int .i64 0, Value.int .i64 0], []⟩).memory Tryz.f9.params.toList Rows.engineMovesSpec.vars false #[Value.agg #[.slice none 0 0, .int .i64 0, .int .i64 0, .int .i64 0, .int .i64 0], Value.int .i64 0, Value.int .i64 0, Value.int .i64 0].toList 8).isSome = true := by kernel_rfl
  obtain ⟨⟨x1, x2, x3⟩, hx⟩ := Option.isSome_iff_exists.1 hw
  have hl : x1.length = 4 := by
    have := congrArg (Option.map fun x => x.1.length) hx
    have e : (DataW.whole enc Tryz.prog ((laidWorld os).forCall (fun _ _ => 0) ⟨#[], #[Value.agg #[.slice none 0 0, .int .i64 0, .int .i64 0, .int .i64 0, .int .i64 0], Value.int .i64 0, Value.int .i64 0, Value.int .i64 0], []⟩).memory Tryz.f9.params.toList Rows.engineMovesSpec.vars false #[Value.agg #[.slice none 0 0, .int .i64 0, .int .i64 0, .int .i64 0, .int .i64 0], Value.int .i64 0, Value.int .i64 0, Value.int .i64 0].toList 8).map (fun x => x.1.length) = some 4 := by kernel_rfl
    rw [hx] at e
    simpa using e
  exact OpenSpec.preRow_of_cond 8 hx (by kernel_rfl) (fun k hk => by cases hk) (by kernel_rfl) (laid_met os _)
theorem engineMoves_lifted (os : Os) (started : os.Started) (H : Type) (enc : TypeId × Value → H) (F : Stop.Interp) :
    ReturnsInHanded {} Tryz.checked os 9 .any ((OpenSpec.ofChange Rows.engineMovesSpec).preRow enc Tryz.prog Tryz.f9 Rows.engineMovesRow.domain false Rows.engineMovesRow.laid) (((OpenSpec.ofChange Rows.engineMovesSpec).at F).post enc Tryz.prog Tryz.f9 false true false false) := by
  refine returnsInHanded_of_row (C := Tryz.checked) (s := OpenSpec.ofChange Rows.engineMovesSpec) own started (by kernel_rfl) Tryz.func9
    (witness_row_at (enc := enc) (C := Tryz.checked) false (laidWorld os) #[Value.agg #[.slice none 0 0, .int .i64 0, .int .i64 0, .int .i64 0, .int .i64 0], Value.int .i64 0, Value.int .i64 0, Value.int .i64 0] rfl (by kernel_rfl) (by kernel_rfl) (by kernel_rfl) (engineMoves_reads os enc)) ?_
  intro W base args ds gs before hval hW _ _ _ hL _ _
  have hT := tabs_of hL
  exact lift (s := Rows.engineMovesSpec) (conds := []) (cx := cxU engineFm) (own := ownOf (Sg.look engineTab) 268) (fid := 268) (ss := [(true, tCel), (false, [.int .i64]), (false, [.int .i64]), (false, [.int .i64])]) (tb := 4) (by kernel_rfl) (by kernel_rfl) (by kernel_rfl) laid rfl (by kernel_rfl) (by kernel_rfl)
    (fun ds h => by
      have h2 : Tryz.f9.params.toList.length = 4 := by kernel_rfl
      rw [h2] at h
      match ds, h with
      | [d0, d1, d2, d3], _ => rfl) engineMoves_ctr W (size_of hT) hT base args ds gs before hval hW
theorem engineMoves_said : Rows.EngineMovesSaid :=
  OpenClaim.holds_of_cond 9 Tryz.f9 rfl rfl rfl rfl rfl rfl rfl ⟨rfl, rfl, rfl, rfl, rfl⟩ rfl rfl rfl rfl rfl (by kernel_rfl) Tryz.func9 facts
    (of_decide_eq_true (by kernel_rfl)) (by unfold Func.isWrapper; first | (rw [if_pos (by decide +kernel)]; kernel_rfl) | (rw [if_neg (by decide +kernel)]; exact ⟨rfl, rfl⟩))
    (fun os started H enc _ F => by rw [OpenClaim.pre_eq_preRow]; exact engineMoves_lifted os started H enc F)
theorem engineMoves_plain (f : FuncId) (fn : Func) (hf : Tryz.pinned.checked.prog.funcNamed "stratigraph/stratigraphlaw11.EngineMoves" = some f) (hfn : Tryz.pinned.checked.prog.funcs[f]? = some fn) :
    false = Tryz.pinned.checked.prog.looks [] ∧ ∀ (j : Nat) t, fn.params[j]? = some t → Tryz.pinned.checked.prog.wantsStandIn t = false := by
  obtain rfl : f = 9 := Option.some.inj ((show Tryz.prog.funcNamed "stratigraph/stratigraphlaw11.EngineMoves" = some 9 by kernel_rfl).symm.trans hf) |>.symm
  obtain rfl : fn = Tryz.f9 := (Option.some.inj (Tryz.func9.symm.trans hfn)).symm
  refine ⟨by kernel_rfl, fun j t ht => ?_⟩
  rw [Tryz.params9] at ht
  have hm := Array.mem_of_getElem? ht
  simp only [List.mem_toArray, List.mem_cons, List.not_mem_nil, or_false] at hm
  rcases hm with rfl | rfl | rfl | rfl
  · exact (show Tryz.prog.wantsStandIn 26 = false by kernel_rfl)
  · exact (show Tryz.prog.wantsStandIn 3 = false by kernel_rfl)
  · exact (show Tryz.prog.wantsStandIn 3 = false by kernel_rfl)
  · exact (show Tryz.prog.wantsStandIn 3 = false by kernel_rfl)
theorem engineMoves_holds : Rows.EngineMovesCardSaid :=
  Claim7.holds_tied_plain_at .later [] _ _ _ _ engineMoves_said (fun _ h => by cases h) (by kernel_rfl) (fun _ h => by cases h) engineMoves_row_tie rfl ⟨rfl, rfl⟩ (by kernel_rfl) rfl engineMoves_plain (by kernel_rfl)
#print axioms engineMoves_holds
end Go.Proofs.YtaodclcmfocccaaGreatDoor
