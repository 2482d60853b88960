import Derived.Test.YtclmbbbpijboaaaSkChain2
namespace Sg
open _root_.Go (IntKind BinOp UnOp)
set_option linter.unusedSimpArgs false
set_option linter.unusedVariables false
variable {Pg : Nat → Option Fn}

def atI (s : Stamp) (l : List Ver) (i : Nat) : Option Ver := if min i (upC s l) = 0 then none else l[min i (upC s l) - 1]?

def H11 (Pg : Nat → Option Fn) : Prop := Pg 11 = some (.code F11) ∧ H4 Pg ∧ H6 Pg
theorem K11 (h : H11 Pg) (l : List Ver) (s : Stamp) (hl : l.length < 2 ^ 60) : K' Pg 11 [eChain l, .agg (eStamp s)] = some (eOV (atC s l)) := by
  obtain ⟨h, h4', h6'⟩ := h
  refine K'_code h rfl ?_
  have k4 := K4 h4' l hl
  have k6 := fun x y => K6 h6' x y
  simp only [eStamp, eChain] at k4 k6
  simp only [go_sem, eChain]
  unfold l11_0
  have hle := upC_le s l
  refine wp_lp (fun (i : Nat) S => i ≤ l.length ∧ (chainRight l = false → i = 0) ∧ S.ρ 0 = eChain l ∧ S.ρ 3 = .lref 3 0 ∧ S.ρ 4 = .lref 4 0 ∧ S.ρ 6 = .lref 6 0 ∧ S.μ 3 = some (eStamp s, false) ∧ (∃ cs, S.μ 4 = some (cs, false) ∧ cs.length = 5) ∧
    S.μ 6 = some (eVer ((atI s l i).getD zeroVer), false) ∧ S.ρ 7 = .bool (atI s l i).isSome ∧ S.ρ 8 = iz i) (fun i => l.length - i) 0 ?_ ?_
  · simp [go_sem, eChain, atI, zeroVer]
  · intro i S ⟨hi, hnr, h0, h3, h4, h6, m3, ⟨cs, m4, hcs⟩, m6, h7, h8⟩
    have fin : i = l.length ∨ chainRight l = false → atI s l i = atC s l := by
      rintro (rfl | hf)
      · cases hr : chainRight l with
        | false => have := hnr hr; simp [atI, atC, hr, this]
        | true => simp only [atI, atC, hr, if_true, Nat.min_eq_right hle]
      · simp [atI, atC, hf, hnr hf]
    obtain ⟨c0, c1, c2, c3, c4, rfl⟩ : ∃ c0 c1 c2 c3 c4, cs = [c0, c1, c2, c3, c4] := by
      match cs, hcs with
      | [c0, c1, c2, c3, c4], _ => exact ⟨_, _, _, _, _, rfl⟩
    simp only [go_sem, h0, h3, h4, h6, m3, m4, m6, h7, h8, eChain, k4]
    refine wrg_it (fun h => ?_) (fun h => ?_)
    · simp only [decide_eq_true_eq, Int.ofNat_lt] at h
      cases hr : chainRight l with
      | false =>
        simp only [go_sem, h0, h3, h4, h6, m3, m4, m6, h7, h8, eChain, k4, hr, h, decide_true, Int.ofNat_lt]
        rw [fin (.inr hr)]; rfl
      | true =>
        obtain ⟨x, hx, hd⟩ := drop_at h
        have hinc : IntKind.i64.wrap ((i : Int) + 1) = ((i + 1 : Nat) : Int) := wrap64 (by omega) (by omega)
        simp only [go_sem, h0, h3, h4, h6, m3, m4, m6, h7, h8, eChain, k4, hr, h, decide_true, Int.ofNat_lt, hx, k6]
        refine wpc_i (fun hc => ?_) (fun hc => ?_)
        · have hb : ¬ stampCmp s x.at_ < 0 := by simpa [before] using hc
          have hiu : i < upC s l := by
            rcases Nat.lt_or_ge i (upC s l) with h' | h'
            · exact h'
            · have := upC_ge (right_chR hr).1 h' hx
              rw [cmp_gt] at this
              rw [cmp_lt] at hb
              omega
          have hat : atI s l (i + 1) = some x := by
            have : min (i + 1) (upC s l) = i + 1 := Nat.min_eq_left (by omega)
            simp [atI, this, hx]
          simp only [go_sem, h0, h3, h4, h6, m3, m4, m6, h7, h8, eChain, hx]
          refine ⟨i + 1, by omega, by omega, fun e => by simp at e, ⟨_, rfl, rfl⟩, ?_, ?_, by rw [hinc]⟩
          · simp [hat]
          · simp [hat]
        · have hb : stampCmp s x.at_ < 0 := by simpa [before] using hc
          have hiu : upC s l ≤ i := by
            rcases Nat.lt_or_ge i (upC s l) with h' | h'
            · have := upC_lt h' hx
              have h2 : stampCmp x.at_ s < 0 ∨ stampCmp x.at_ s = 0 := by omega
              rw [cmp_lt, cmp_eq] at h2
              rw [cmp_lt] at hb
              omega
            · exact h'
          have hat : atI s l (i + 1) = atI s l i := by
            simp only [atI, Nat.min_eq_right hiu, Nat.min_eq_right (by omega : upC s l ≤ i + 1)]
          simp only [go_sem, h0, h3, h4, h6, m3, m4, m6, h7, h8, eChain, hx]
          refine ⟨i + 1, by omega, by omega, fun e => by simp at e, ⟨_, rfl, rfl⟩, ?_, ?_, by rw [hinc]⟩
          · simp [hat]
          · simp [hat]
    · simp only [decide_eq_false_iff_not, Int.ofNat_lt] at h
      have : i = l.length := by omega
      simp only [go_sem, h0, h3, h4, h6, m3, m4, m6, h7, h8, eChain, h, decide_false, Int.ofNat_lt]
      rw [fin (.inl this)]; rfl

def H13 (Pg : Nat → Option Fn) : Prop := Pg 13 = some (.code F13) ∧ H11 Pg
theorem K13 (h : H13 Pg) (l : List Ver) (s : Stamp) (hl : l.length < 2 ^ 60) : K' Pg 13 [eChain l, .agg (eStamp s)] = some (.tuple [.str ((valC s l).getD []), .bool (valC s l).isSome]) := by
  obtain ⟨h, h11⟩ := h
  refine K'_code h rfl ?_
  have k11 := K11 h11 l s hl
  simp only [eChain, eStamp, eOV, eVer] at k11
  cases hr : atC s l with
  | none => simp only [hr, zeroVer, Option.getD_none, Option.isSome_none] at k11; simp only [go_sem, eChain, k11, Bool.not_false, valC, hr, Option.isSome_none]
  | some v =>
    simp only [hr, zeroVer, Option.getD_some, Option.isSome_some] at k11
    cases hg : v.gone with
    | true => simp only [go_sem, eChain, k11, valC, hr, hg, Bool.not_true, Option.isSome_none]
    | false => simp only [go_sem, eChain, k11, valC, hr, hg, Bool.not_true, Option.isSome_some, Bool.false_eq_true]

def later (a b : Stamp) : Stamp := if stampCmp a b < 0 then b else a
def H21 (Pg : Nat → Option Fn) : Prop := Pg 21 = some (.code F21) ∧ H15 Pg
theorem K21 (h : H21 Pg) (a b : Stamp) : K' Pg 21 [.agg (eStamp a), .agg (eStamp b)] = some (.agg (eStamp (later a b))) := by
  obtain ⟨h, h15⟩ := h
  refine K'_code h rfl ?_
  have k15 := K15 h15 a b
  simp only [eStamp] at k15
  simp only [go_sem, k15]
  refine wpc_i (fun hc => ?_) (fun hc => ?_)
  · have := of_decide_eq_true hc
    simp only [go_sem, later, this]
  · have := of_decide_eq_false hc
    simp only [go_sem, later, this]

def pruneN (s : Stamp) (c : List Ver) : Nat := if upC s c = 0 then 0 else match c[upC s c - 1]? with | some v => if v.gone then upC s c else upC s c - 1 | none => 0
def pruneC (s : Stamp) (c : List Ver) : List Ver := if chainRight c then c.drop (pruneN s c) else []

def H17 (Pg : Nat → Option Fn) : Prop := Pg 17 = some (.code F17) ∧ H7 Pg ∧ H25 Pg ∧ H23 Pg
theorem K17 (h : H17 Pg) (l : List Ver) (s : Stamp) (hl : l.length < 2 ^ 60) : K' Pg 17 [eChain l, .agg (eStamp s)] = some (eChain (pruneC s l)) := by
  obtain ⟨h, h7, h25, h23⟩ := h
  refine K'_code h rfl ?_
  have k7 := K7 h7 l hl
  simp only [eChain, eStamp] at k7
  cases hr : chainRight l with
  | false => simp only [go_sem, eChain, k7, hr, Bool.not_false, pruneC, Bool.false_eq_true]
  | true =>
    have k25 := K25 h25 l s hl (right_chR hr).1
    have hle := upC_le s l
    have hlen := (right_chR hr).2
    simp only [eChain, eStamp] at k25
    simp only [go_sem, eChain, k7, hr, Bool.not_true, k25]
    have k23 := fun n => K23 h23 ((l.map eVer).drop n) (by simp [lim]; omega)
    have htk : (l.map eVer).take l.length = l.map eVer := by simp [List.take_of_length_le]
    refine wrg_it (fun hc => ?_) (fun hc => ?_)
    · have hc' : upC s l ≠ 0 := by have := of_decide_eq_true hc; omega
      obtain ⟨x, hx, -⟩ := drop_at (l := l) (i := upC s l - 1) (by omega)
      have hdec : IntKind.i64.wrap ((upC s l : Int) - 1) = ((upC s l - 1 : Nat) : Int) := by rw [wrap64 (by omega) (by omega)]; omega
      have hle' : upC s l - 1 ≤ l.length := by omega
      cases hg : x.gone with
      | false =>
        have hn : pruneN s l = upC s l - 1 := by simp [pruneN, hc', hx, hg]
        simp only [go_sem, eChain, k25, hc, hdec, hx, hg, Bool.not_false, pruneC, hr, hn, hle', htk, Nat.le_refl, k23, List.map_drop]
      | true =>
        have hn : pruneN s l = upC s l := by simp [pruneN, hc', hx, hg]
        simp only [go_sem, eChain, k25, hc, hdec, hx, hg, Bool.not_true, pruneC, hr, hn, hle, htk, Nat.le_refl, k23, List.map_drop]
    · have hc' : upC s l = 0 := by have := of_decide_eq_false hc; omega
      have hn : pruneN s l = upC s l := by simp [pruneN, hc']
      simp only [go_sem, eChain, k25, hc, pruneC, hr, hn, hle, htk, Nat.le_refl, k23, List.map_drop]

/-- the document's answer for pruning -/
def keepR (o : Option Ver) (w : Ver) : Bool := match o with
  | none => true
  | some v => !(before w.at_ v.at_ || (v.gone && decide (w.at_ = v.at_)))

def H18 (Pg : Nat → Option Fn) : Prop := Pg 18 = some (.code F18) ∧ H11 Pg ∧ H6 Pg
theorem K18 (h : H18 Pg) (l : List Ver) (s : Stamp) (hl : l.length ≤ 100) : K' Pg 18 [eChain l, .agg (eStamp s)] = some (eChain (l.filter (keepR (atC s l)))) := by
  obtain ⟨h, h11, h6'⟩ := h
  refine K'_code h rfl ?_
  have k11 := K11 h11 l s (by omega)
  have k6 := fun x y => K6 h6' x y
  simp only [eChain, eStamp, eOV, eVer] at k11 k6
  simp only [go_sem, eChain, k11, mkA]
  unfold l18_0
  refine wp_lp (fun (i : Nat) S => i ≤ l.length ∧ S.ρ 0 = eChain l ∧ S.ρ 5 = .lref 5 0 ∧ S.μ 5 = some (eVer ((atC s l).getD zeroVer), false) ∧ S.ρ 6 = .bool (atC s l).isSome ∧
    S.A 7 = some (5, ((l.take i).filter (keepR (atC s l))).map eVer, .live) ∧ S.ρ 7 = .own 7 5 ((l.take i).filter (keepR (atC s l))).length ∧ S.ρ 8 = iz i) (fun i => l.length - i) 0 ?_ ?_
  · simp [go_sem, eChain, zeroVer]
  · intro i S ⟨hi, h0, h5, m5, h6, a7, h7, h8⟩
    simp only [go_sem, h0, h5, m5, h6, a7, h7, h8, eChain]
    refine wpc_i (fun h => ?_) (fun h => ?_)
    · simp only [decide_eq_true_eq, Int.ofNat_lt] at h
      obtain ⟨x, hx, hd⟩ := drop_at h
      have hinc : IntKind.i64.wrap ((i : Int) + 1) = ((i + 1 : Nat) : Int) := wrap64 (by omega) (by omega)
      have htk : l.take (i + 1) = l.take i ++ [x] := by rw [List.take_add_one, hx]; rfl
      have hcnt : ((l.take i).filter (keepR (atC s l))).length ≤ i := Nat.le_trans (List.length_filter_le _ _) (by simp; omega)
      have hlim : ((l.take i).filter (keepR (atC s l))).length + 1 ≤ lim := by simp only [lim]; omega
      have hyes : keepR (atC s l) x = true → ((l.take (i + 1)).filter (keepR (atC s l))) = ((l.take i).filter (keepR (atC s l))) ++ [x] := fun e => by
        rw [htk, List.filter_append]; simp [e]
      have hno : keepR (atC s l) x = false → ((l.take (i + 1)).filter (keepR (atC s l))) = ((l.take i).filter (keepR (atC s l))) := fun e => by
        rw [htk, List.filter_append]; simp [e]
      have yes : keepR (atC s l) x = true → ((((l.take i).filter (keepR (atC s l))).map eVer ++ [[iz x.at_.wall, iz x.at_.tick, iz x.at_.node, V.bool x.gone, V.str x.val]]) = ((l.take (i + 1)).filter (keepR (atC s l))).map eVer ∧
          ((l.take i).filter (keepR (atC s l))).length + 1 = ((l.take (i + 1)).filter (keepR (atC s l))).length) := fun e => by
        rw [hyes e]; simp [eVer]
      cases ha : atC s l with
      | none =>
        have hk : keepR (atC s l) x = true := by simp [keepR, ha]
        rw [ha] at hk yes hlim a7 h7
        obtain ⟨y1, y2⟩ := yes hk
        simp only [go_sem, h0, h5, m5, h6, a7, h7, h8, eChain, hx, ha, Option.isSome_none, hlim]
        exact ⟨i + 1, by omega, by omega, by rw [y1], by rw [y2], by rw [hinc]⟩
      | some v =>
        rw [ha] at hlim a7 h7 yes hno
        simp only [ha, Option.getD_some, Option.isSome_some] at m5 h6
        have heq : (decide (x.at_.wall = v.at_.wall) && (decide (x.at_.tick = v.at_.tick) && decide (x.at_.node = v.at_.node))) = decide (x.at_ = v.at_) := by
          cases hxa : x.at_; cases hva : v.at_
          simp only [Stamp.mk.injEq, Bool.decide_and]
        cases hb : before x.at_ v.at_ with
        | true =>
          have hk : keepR (some v) x = false := by simp [keepR, hb]
          simp only [go_sem, h0, h5, m5, h6, a7, h7, h8, eChain, hx, ha, Option.getD_some, Option.isSome_some, k6, hb, hlim]
          exact ⟨i + 1, by omega, by omega, by rw [hno hk], by rw [hno hk], by rw [hinc]⟩
        | false =>
          cases hg : v.gone with
          | false =>
            have hk : keepR (some v) x = true := by simp [keepR, hb, hg]
            obtain ⟨y1, y2⟩ := yes hk
            simp only [go_sem, h0, h5, m5, h6, a7, h7, h8, eChain, hx, ha, Option.getD_some, Option.isSome_some, k6, hb, hg, hlim]
            exact ⟨i + 1, by omega, by omega, by rw [y1], by rw [y2], by rw [hinc]⟩
          | true =>
            simp only [go_sem, h0, h5, m5, h6, a7, h7, h8, eChain, hx, ha, Option.getD_some, Option.isSome_some, k6, hb, hg, heq]
            refine wpc_i (fun hc => ?_) (fun hc => ?_)
            · have hk : keepR (some v) x = false := by simp [keepR, hb, hg, of_decide_eq_true hc]
              simp only [go_sem, h0, h5, m5, h6, a7, h7, h8, eChain, hx, ha, Option.getD_some, Option.isSome_some, hg]
              exact ⟨i + 1, by omega, by omega, by rw [hno hk], by rw [hno hk], by rw [hinc]⟩
            · have hk : keepR (some v) x = true := by simp [keepR, hb, hg, of_decide_eq_false hc]
              obtain ⟨y1, y2⟩ := yes hk
              simp only [go_sem, h0, h5, m5, h6, a7, h7, h8, eChain, hx, ha, Option.getD_some, Option.isSome_some, hg, hlim]
              exact ⟨i + 1, by omega, by omega, by rw [y1], by rw [y2], by rw [hinc]⟩
    · simp only [decide_eq_false_iff_not, Int.ofNat_lt] at h
      have : i = l.length := by omega
      subst this
      simp only [List.take_length] at a7 h7
      simp only [go_sem, h0, h5, m5, h6, a7, h7, h8, eChain]
end Sg
