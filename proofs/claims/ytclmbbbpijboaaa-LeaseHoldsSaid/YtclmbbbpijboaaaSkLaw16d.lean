/- The laws of the leases: the mark holds. -/
import Derived.Test.YtclmbbbpijboaaaSkLaw16c
namespace Sg
open _root_.Go (IntKind BinOp UnOp)
set_option linter.unusedSimpArgs false
set_option linter.unusedVariables false
set_option maxRecDepth 10000
variable {Pg : Nat → Option Fn}

theorem mark_law (mark : Stamp) (lows : List Stamp) (t : List Lse) : markP mark lows t = mark ∨
    (stampCmp mark (markP mark lows t) < 0 ∧ stampRight (markP mark lows t) = true ∧ (∀ s ∈ lows, stampCmp (markP mark lows t) s ≤ 0) ∧ ∀ x ∈ t, stampCmp (markP mark lows t) x.at_ ≤ 0) := by
  cases c1 : rightL t with
  | false => left; simp [markP, c1]
  | true =>
  cases lows with
  | nil => left; simp [markP]
  | cons a l =>
  cases c3 : stampRight mark with
  | false => left; simp [markP, c3]
  | true =>
  cases c4 : (a :: l).any fun s => !stampRight s with
  | true => left; simp only [markP, c4, Bool.not_true, Bool.and_false, Bool.false_eq_true, if_false]
  | false =>
    have eP : markP mark (a :: l) t = later mark (match leastL t with | some x => soon (l.foldl soon a) x | none => l.foldl soon a) := by
      have : decide (a :: l = []) = false := by simp
      simp only [markP, c1, c3, c4, this]
      rfl
    have hats : ∀ x ∈ t.map Lse.at_, stampRight x = true := fun x hx => by
      obtain ⟨y, hy, rfl⟩ := List.mem_map.1 hx
      have := rl_ok (rightL_rl c1).1 hy
      simp only [okLse, Bool.and_eq_true] at this
      exact this.2.2.2
    have hmin : IsMin (match leastL t with | some x => soon (l.foldl soon a) x | none => l.foldl soon a) ((a :: l) ++ t.map Lse.at_) := by
      cases hL : leastL t with
      | none => rw [least_none c1 hL]; simpa using fold_min
      | some x => exact soon_min fold_min (least_min hL).2
    rw [eP]
    generalize (match leastL t with | some x => soon (l.foldl soon a) x | none => l.foldl soon a) = m at hmin ⊢
    by_cases hb : stampCmp mark m < 0
    · right
      have hl : later mark m = m := by simp only [later, hb, if_true]
      rw [hl]
      refine ⟨hb, ?_, fun s hs => hmin.le s (List.mem_append_left _ hs), fun x hx => hmin.le _ (List.mem_append_right _ (List.mem_map.2 ⟨x, hx, rfl⟩))⟩
      rcases List.mem_append.1 hmin.mem with h | h
      · have := List.any_eq_false.1 c4 m h; simpa using this
      · exact hats m h
    · left; simp only [later, hb, if_false]

structure LAct where
  kind : Int
  id : Int
  more : Int
  lows : List Stamp
@[go_sem] def eAct (a : LAct) : List V := [iz a.kind, iz a.id, iz a.more, eStamps a.lows]
@[go_sem] def eActs (l : List LAct) : V := .slice 4 (l.map eAct)

def H127 (Pg : Nat → Option Fn) : Prop := Pg 127 = some (.code F127) ∧ H15 Pg ∧ H108 Pg ∧ H109 Pg ∧ H112 Pg ∧ H113 Pg ∧ H120 Pg ∧ H121 Pg ∧ H126 Pg
def InvL (mark : Stamp) (t : List Lse) : Prop := rightL t = true ∧ stampRight mark = true ∧ ∀ x ∈ t, stampCmp mark x.at_ ≤ 0
theorem closed_right {t : List Lse} {id : Int} (h : rightL t = true) : rightL (closed t id) = true := by
  obtain ⟨hrt, h4⟩ := rightL_rl h
  obtain ⟨hm, hp⟩ := rl_iff.1 hrt
  have hlen := List.length_filter_le (fun x : Lse => !decide (x.id = id)) t
  have : rlR 0 (closed t id) = true := by
    rw [rl_iff]
    exact ⟨fun d hd => hm d (List.mem_filter.1 hd).1, hp.filter _⟩
  simp only [rightL, this, Bool.true_and]
  exact decide_eq_true (by simp only [closed]; omega)
theorem closeL_0 {t : List Lse} {id : Int} (h : (closeL t id).2 = 0) : closeL t id = (closed t id, 0) := by
  simp only [closeL] at h ⊢
  repeat' split
  all_goals first | rfl | (simp_all)
theorem u64_nn {n : Int} : 0 ≤ IntKind.u64.wrap n := by simp [IntKind.wrap, IntKind.bits, IntKind.signed]; omega
theorem wall_of (mark : Stamp) (hm : stampRight mark = true) (x : Int) :
    ∃ W, (if 1099511627776 < IntKind.i64.wrap (mark.wall + IntKind.i64.wrap ((IntKind.u64.wrap x).tmod 100)) then 1099511627776 else IntKind.i64.wrap (mark.wall + IntKind.i64.wrap ((IntKind.u64.wrap x).tmod 100))) = W ∧ mark.wall ≤ W ∧ W ≤ 1099511627776 := by
  have hmw : 0 ≤ mark.wall ∧ mark.wall ≤ 1099511627776 := by
    simp only [stampRight, within, Bool.and_eq_true, decide_eq_true_eq] at hm
    omega
  have h1 : 0 ≤ (IntKind.u64.wrap x).tmod 100 := Int.tmod_nonneg _ u64_nn
  have h2 : (IntKind.u64.wrap x).tmod 100 < 100 := Int.tmod_lt_of_pos _ (by omega)
  have e1 : IntKind.i64.wrap ((IntKind.u64.wrap x).tmod 100) = (IntKind.u64.wrap x).tmod 100 := wrap64 (by omega) (by omega)
  have e2 : IntKind.i64.wrap (mark.wall + (IntKind.u64.wrap x).tmod 100) = mark.wall + (IntKind.u64.wrap x).tmod 100 := wrap64 (by omega) (by omega)
  rw [e1, e2]
  refine ⟨_, rfl, ?_⟩
  split <;> omega
theorem K127 (h : H127 Pg) (l : List LAct) : K' Pg 127 [eActs l] = some (.bool true) := by
  obtain ⟨h, h15, h108, h109, h112, h113, h120, h121, h126⟩ := h
  have k108 := K108 h108
  have k15 := fun x y => K15 h15 x y
  simp only [eStamp] at k15
  refine K'_code h rfl ?_
  simp only [go_sem]
  unfold l127_0
  refine wp_lp (fun (i : Nat) S => ∃ (t : List Lse) (mark : Stamp), i ≤ l.length ∧ i ≤ 60 ∧ InvL mark t ∧ S.ρ 0 = eActs l ∧ S.ρ 3 = eLses t ∧ S.ρ 4 = .lref 4 0 ∧ S.μ 4 = some (eStamp mark, false) ∧ S.ρ 5 = iz i ∧ S.μ 6 = none ∧ S.μ 7 = none ∧ S.μ 13 = none ∧ S.μ 14 = none) (fun i => 60 - i) 0 ?_ ?_
  · refine ⟨[], zeroStamp, ?_⟩
    simp [go_sem, InvL, zeroStamp]
    decide
  · intro i S ⟨t, mark, hi, hi6, hI, h0, h3, h4, m4, h5, m6, m7, m13, m14⟩
    obtain ⟨hr, hm, hat⟩ := hI
    have ht4 := (rightL_rl hr).2
    have k126 := K126 h126 t (by omega)
    simp only [go_sem, h0, h3, h4, m4, h5, m6, m7, m13, m14]
    by_cases hlt : i < l.length
    · have e1 : decide ((i : Int) < (l.length : Int)) = true := decide_eq_true (by omega)
      obtain ⟨a, ha, -⟩ := drop_at hlt
      by_cases h60 : i < 60
      · have e2 : decide ((i : Int) < 60) = true := decide_eq_true (by omega)
        simp only [go_sem, h0, h3, h4, m4, h5, m6, m7, m13, m14, e1, e2, ha]
        refine wpc_i (fun hc => ?_) (fun hc => ?_)
        · simp only [go_sem, h0, h3, h4, m4, h5, m6, m7, m13, m14, k108]
        · have hlo : a.lows.length ≤ 20 := by have := of_decide_eq_false hc; omega
          have hself : stampCmp mark mark = 0 := cmp_rfl
          have eq3 : True := trivial
          simp only [go_sem, h0, h3, h4, m4, h5, m6, m7, m13, m14, ha]
          refine wpc_i (fun c0 => ?_) (fun c0 => ?_)
          · -- open
            obtain ⟨W, hW, hW1, hW2⟩ := wall_of mark hm a.more
            have k120 := K120 h120 t a.id ⟨W, mark.tick, mark.node⟩ (by omega)
            by_cases he : (openL t a.id ⟨W, mark.tick, mark.node⟩).2 = 0
            · have ec := openL_0 he
              have hru := opened_right ec
              have hmu := hm
              have hatu : ∀ x ∈ opened t a.id ⟨W, mark.tick, mark.node⟩, stampCmp mark x.at_ ≤ 0 := fun x hx => by
                simp only [opened] at hx
                rcases List.mem_append.1 hx with hx | hx
                · exact hat x (List.mem_filter.1 hx).1
                · rcases List.mem_cons.1 hx with rfl | hx
                  · have : ¬ 0 < stampCmp mark ⟨W, mark.tick, mark.node⟩ := by rw [cmp_gt]; simp only; omega
                    simp only [oneL]
                    omega
                  · exact hat x (List.mem_filter.1 hx).1
              rw [ec] at k120
              simp only [eLses, eLE, eStamp] at k120
              simp only [go_sem, h0, h3, h4, m4, h5, m6, m7, m13, m14, ha, hW, k120]
              have hu4 := (rightL_rl hru).2
              have hu20 : ((opened t a.id ⟨W, mark.tick, mark.node⟩)).length ≤ 1000 := by omega
              have k126u := K126 h126 (opened t a.id ⟨W, mark.tick, mark.node⟩) (by omega)
              have k113u := K113 h113 (opened t a.id ⟨W, mark.tick, mark.node⟩) hu20
              rw [hru] at k126u
              have cm : decide (stampCmp mark mark < 0) = false := decide_eq_false (by omega)
              cases hL : leastL (opened t a.id ⟨W, mark.tick, mark.node⟩) with
              | none =>
                simp only [hL, eLses, eOS, Option.getD_none, Option.isSome_none, zeroStamp] at k113u k126u
                simp only [go_sem, h0, h3, h4, m4, h5, m6, m7, m13, m14, ha, k15, cm, k126u, k113u, eq3]
                exact ⟨i + 1, by omega, (opened t a.id ⟨W, mark.tick, mark.node⟩), mark, by omega, by omega, ⟨hru, hmu, hatu⟩, rfl, rfl, by rw [inc64 h60 (by omega)]⟩
              | some s =>
                have hmin := (least_min hL).2
                obtain ⟨z, hz, hzs⟩ := List.mem_map.1 hmin.mem
                have cs : decide ((0 : Int) < stampCmp mark s) = false := by
                  have := hatu z hz
                  rw [hzs] at this
                  exact decide_eq_false (by omega)
                simp only [hL, eLses, eOS, eStamp, Option.getD_some, Option.isSome_some] at k113u k126u
                simp only [go_sem, h0, h3, h4, m4, h5, m6, m7, m13, m14, ha, k15, cm, k126u, k113u, cs, eq3]
                exact ⟨i + 1, by omega, (opened t a.id ⟨W, mark.tick, mark.node⟩), mark, by omega, by omega, ⟨hru, hmu, hatu⟩, rfl, rfl, by rw [inc64 h60 (by omega)]⟩
            · have hru := hr
              have hmu := hm
              have hatu := hat
              have ec : decide ((openL t a.id ⟨W, mark.tick, mark.node⟩).2 = 0) = false := decide_eq_false he
              simp only [eLses, eLE, eStamp] at k120
              simp only [go_sem, h0, h3, h4, m4, h5, m6, m7, m13, m14, ha, hW, k120, ec]
              have hu4 := (rightL_rl hru).2
              have hu20 : (t).length ≤ 1000 := by omega
              have k126u := K126 h126 t (by omega)
              have k113u := K113 h113 t hu20
              rw [hru] at k126u
              have cm : decide (stampCmp mark mark < 0) = false := decide_eq_false (by omega)
              cases hL : leastL t with
              | none =>
                simp only [hL, eLses, eOS, Option.getD_none, Option.isSome_none, zeroStamp] at k113u k126u
                simp only [go_sem, h0, h3, h4, m4, h5, m6, m7, m13, m14, ha, k15, cm, k126u, k113u, eq3]
                exact ⟨i + 1, by omega, t, mark, by omega, by omega, ⟨hru, hmu, hatu⟩, rfl, rfl, by rw [inc64 h60 (by omega)]⟩
              | some s =>
                have hmin := (least_min hL).2
                obtain ⟨z, hz, hzs⟩ := List.mem_map.1 hmin.mem
                have cs : decide ((0 : Int) < stampCmp mark s) = false := by
                  have := hatu z hz
                  rw [hzs] at this
                  exact decide_eq_false (by omega)
                simp only [hL, eLses, eOS, eStamp, Option.getD_some, Option.isSome_some] at k113u k126u
                simp only [go_sem, h0, h3, h4, m4, h5, m6, m7, m13, m14, ha, k15, cm, k126u, k113u, cs, eq3]
                exact ⟨i + 1, by omega, t, mark, by omega, by omega, ⟨hru, hmu, hatu⟩, rfl, rfl, by rw [inc64 h60 (by omega)]⟩
          · simp only [go_sem, h0, h3, h4, m4, h5, m6, m7, m13, m14, ha]
            refine wpc_i (fun c1 => ?_) (fun c1 => ?_)
            · -- close
              have k121 := K121 h121 t a.id (by omega)
              by_cases he : (closeL t a.id).2 = 0
              · have hru : rightL (closed t a.id) = true := closed_right hr
                have hmu := hm
                have hatu : ∀ x ∈ closed t a.id, stampCmp mark x.at_ ≤ 0 := fun x hx => hat x (List.mem_filter.1 hx).1
                have ec : closeL t a.id = (closed t a.id, 0) := closeL_0 he
                rw [ec] at k121
                simp only [eLses, eLE] at k121
                simp only [go_sem, h0, h3, h4, m4, h5, m6, m7, m13, m14, ha, k121]
                have hu4 := (rightL_rl hru).2
                have hu20 : ((closed t a.id)).length ≤ 1000 := by omega
                have k126u := K126 h126 (closed t a.id) (by omega)
                have k113u := K113 h113 (closed t a.id) hu20
                rw [hru] at k126u
                have cm : decide (stampCmp mark mark < 0) = false := decide_eq_false (by omega)
                cases hL : leastL (closed t a.id) with
                | none =>
                  simp only [hL, eLses, eOS, Option.getD_none, Option.isSome_none, zeroStamp] at k113u k126u
                  simp only [go_sem, h0, h3, h4, m4, h5, m6, m7, m13, m14, ha, k15, cm, k126u, k113u, eq3]
                  exact ⟨i + 1, by omega, (closed t a.id), mark, by omega, by omega, ⟨hru, hmu, hatu⟩, rfl, rfl, by rw [inc64 h60 (by omega)]⟩
                | some s =>
                  have hmin := (least_min hL).2
                  obtain ⟨z, hz, hzs⟩ := List.mem_map.1 hmin.mem
                  have cs : decide ((0 : Int) < stampCmp mark s) = false := by
                    have := hatu z hz
                    rw [hzs] at this
                    exact decide_eq_false (by omega)
                  simp only [hL, eLses, eOS, eStamp, Option.getD_some, Option.isSome_some] at k113u k126u
                  simp only [go_sem, h0, h3, h4, m4, h5, m6, m7, m13, m14, ha, k15, cm, k126u, k113u, cs, eq3]
                  exact ⟨i + 1, by omega, (closed t a.id), mark, by omega, by omega, ⟨hru, hmu, hatu⟩, rfl, rfl, by rw [inc64 h60 (by omega)]⟩
              · have hru := hr
                have hmu := hm
                have hatu := hat
                have ec : decide ((closeL t a.id).2 = 0) = false := decide_eq_false he
                simp only [eLses, eLE] at k121
                simp only [go_sem, h0, h3, h4, m4, h5, m6, m7, m13, m14, ha, k121, ec]
                have hu4 := (rightL_rl hru).2
                have hu20 : (t).length ≤ 1000 := by omega
                have k126u := K126 h126 t (by omega)
                have k113u := K113 h113 t hu20
                rw [hru] at k126u
                have cm : decide (stampCmp mark mark < 0) = false := decide_eq_false (by omega)
                cases hL : leastL t with
                | none =>
                  simp only [hL, eLses, eOS, Option.getD_none, Option.isSome_none, zeroStamp] at k113u k126u
                  simp only [go_sem, h0, h3, h4, m4, h5, m6, m7, m13, m14, ha, k15, cm, k126u, k113u, eq3]
                  exact ⟨i + 1, by omega, t, mark, by omega, by omega, ⟨hru, hmu, hatu⟩, rfl, rfl, by rw [inc64 h60 (by omega)]⟩
                | some s =>
                  have hmin := (least_min hL).2
                  obtain ⟨z, hz, hzs⟩ := List.mem_map.1 hmin.mem
                  have cs : decide ((0 : Int) < stampCmp mark s) = false := by
                    have := hatu z hz
                    rw [hzs] at this
                    exact decide_eq_false (by omega)
                  simp only [hL, eLses, eOS, eStamp, Option.getD_some, Option.isSome_some] at k113u k126u
                  simp only [go_sem, h0, h3, h4, m4, h5, m6, m7, m13, m14, ha, k15, cm, k126u, k113u, cs, eq3]
                  exact ⟨i + 1, by omega, t, mark, by omega, by omega, ⟨hru, hmu, hatu⟩, rfl, rfl, by rw [inc64 h60 (by omega)]⟩
            · simp only [go_sem, h0, h3, h4, m4, h5, m6, m7, m13, m14, ha]
              refine wpc_i (fun c2 => ?_) (fun c2 => ?_)
              · -- tick
                have k112 := K112 h112 t (by omega)
                simp only [hr, if_true, eLses] at k112
                have hru := tick_right hr
                have hmu := hm
                have hatu : ∀ x ∈ tickL t, stampCmp mark x.at_ ≤ 0 := fun x hx => by
                  obtain ⟨y, hy, -, rfl⟩ := tick_mem hx
                  exact hat y hy
                simp only [go_sem, h0, h3, h4, m4, h5, m6, m7, m13, m14, ha, k112]
                have hu4 := (rightL_rl hru).2
                have hu20 : ((tickL t)).length ≤ 1000 := by omega
                have k126u := K126 h126 (tickL t) (by omega)
                have k113u := K113 h113 (tickL t) hu20
                rw [hru] at k126u
                have cm : decide (stampCmp mark mark < 0) = false := decide_eq_false (by omega)
                cases hL : leastL (tickL t) with
                | none =>
                  simp only [hL, eLses, eOS, Option.getD_none, Option.isSome_none, zeroStamp] at k113u k126u
                  simp only [go_sem, h0, h3, h4, m4, h5, m6, m7, m13, m14, ha, k15, cm, k126u, k113u, eq3]
                  exact ⟨i + 1, by omega, (tickL t), mark, by omega, by omega, ⟨hru, hmu, hatu⟩, rfl, rfl, by rw [inc64 h60 (by omega)]⟩
                | some s =>
                  have hmin := (least_min hL).2
                  obtain ⟨z, hz, hzs⟩ := List.mem_map.1 hmin.mem
                  have cs : decide ((0 : Int) < stampCmp mark s) = false := by
                    have := hatu z hz
                    rw [hzs] at this
                    exact decide_eq_false (by omega)
                  simp only [hL, eLses, eOS, eStamp, Option.getD_some, Option.isSome_some] at k113u k126u
                  simp only [go_sem, h0, h3, h4, m4, h5, m6, m7, m13, m14, ha, k15, cm, k126u, k113u, cs, eq3]
                  exact ⟨i + 1, by omega, (tickL t), mark, by omega, by omega, ⟨hru, hmu, hatu⟩, rfl, rfl, by rw [inc64 h60 (by omega)]⟩
              · -- the lows
                have k109 := K109 h109 mark a.lows t (by omega) (by omega)
                have hml := mark_law mark a.lows t
                generalize markP mark a.lows t = m at k109 hml
                have hru := hr
                have hmu : stampRight m = true := by
                  rcases hml with rfl | h
                  · exact hm
                  · exact h.2.1
                have hatu : ∀ x ∈ t, stampCmp m x.at_ ≤ 0 := fun x hx => by
                  rcases hml with rfl | h
                  · exact hat x hx
                  · exact h.2.2.2 x hx
                have hge : 0 ≤ stampCmp m mark := by
                  rcases hml with rfl | h
                  · rw [cmp_rfl]; omega
                  · exact cmp_ng.2 (by omega)
                simp only [eLses, eStamps, eStamp] at k109
                simp only [go_sem, h0, h3, h4, m4, h5, m6, m7, m13, m14, ha, k109]
                have hm0 : S.ρ 0 = S.ρ 0 := rfl
                unfold l127_1
                refine wp_lp (fun (j : Nat) S => j ≤ a.lows.length ∧ S.ρ 0 = eActs l ∧ S.ρ 3 = eLses t ∧ S.ρ 4 = .lref 4 0 ∧ S.μ 4 = some (eStamp m, false) ∧ S.ρ 5 = iz i ∧ S.ρ 6 = .lref 6 0 ∧ S.μ 6 = some (eStamp mark, false) ∧ S.μ 7 = none ∧ S.μ 13 = none ∧ S.μ 14 = none ∧ S.ρ 55 = eStamps a.lows ∧ S.ρ 56 = iz a.lows.length ∧ S.ρ 57 = iz j) (fun j => a.lows.length - j) 0 ?_ ?_
                · simp [go_sem, h0, h3, h4, h5, m7, m13, m14]
                · intro j S ⟨hj, h0, h3, h4, m4, h5, h6, m6, m7, m13, m14, h55, h56, h57⟩
                  simp only [go_sem, h0, h3, h4, m4, h5, h6, m6, m7, m13, m14, h55, h56, h57]
                  refine wpc_i (fun h => ?_) (fun h => ?_)
                  · have h := lt_of h
                    obtain ⟨x, hx, hd⟩ := drop_at h
                    have heq : (decide (m.wall = mark.wall) && (decide (m.tick = mark.tick) && decide (m.node = mark.node))) = decide (m = mark) := by
                      cases hxa : m; cases mark
                      simp only [Stamp.mk.injEq, Bool.decide_and]
                    simp only [go_sem, h0, h3, h4, m4, h5, h6, m6, m7, m13, m14, h55, h56, h57, hx, heq]
                    rcases hml with hm' | hm'
                    · have hd : decide (m = mark) = true := by simp [hm']
                      simp only [go_sem, hd, h0, h3, h4, m4, h5, h6, m6, m7, m13, m14, h55, h56, h57, hx]
                      exact ⟨j + 1, by omega, by omega, by rw [inc64 h (by omega)]⟩
                    · have hne : m ≠ mark := fun e => by rw [e, cmp_rfl] at hm'; omega
                      have hd : decide (m = mark) = false := decide_eq_false hne
                      have hle := hm'.2.2.1 x (List.mem_of_getElem? hx)
                      have hle : decide ((0 : Int) < stampCmp m x) = false := decide_eq_false (by omega)
                      simp only [go_sem, hd, h0, h3, h4, m4, h5, h6, m6, m7, m13, m14, h55, h56, h57, hx, k15, hle]
                      exact ⟨j + 1, by omega, by omega, by rw [inc64 h (by omega)]⟩
                  · simp only [go_sem, h0, h3, h4, m4, h5, h6, m6, m7, m13, m14]
                    have hu4 := (rightL_rl hru).2
                    have hu20 : (t).length ≤ 1000 := by omega
                    have k126u := K126 h126 t (by omega)
                    have k113u := K113 h113 t hu20
                    rw [hru] at k126u
                    have cm : decide (stampCmp m mark < 0) = false := decide_eq_false (by omega)
                    cases hL : leastL t with
                    | none =>
                      simp only [hL, eLses, eOS, Option.getD_none, Option.isSome_none, zeroStamp] at k113u k126u
                      simp only [go_sem, h0, h3, h4, m4, h5, m6, m7, m13, m14, ha, k15, cm, k126u, k113u, eq3]
                      exact ⟨i + 1, by omega, t, m, by omega, by omega, ⟨hru, hmu, hatu⟩, rfl, rfl, by rw [inc64 h60 (by omega)]⟩
                    | some s =>
                      have hmin := (least_min hL).2
                      obtain ⟨z, hz, hzs⟩ := List.mem_map.1 hmin.mem
                      have cs : decide ((0 : Int) < stampCmp m s) = false := by
                        have := hatu z hz
                        rw [hzs] at this
                        exact decide_eq_false (by omega)
                      simp only [hL, eLses, eOS, eStamp, Option.getD_some, Option.isSome_some] at k113u k126u
                      simp only [go_sem, h0, h3, h4, m4, h5, m6, m7, m13, m14, ha, k15, cm, k126u, k113u, cs, eq3]
                      exact ⟨i + 1, by omega, t, m, by omega, by omega, ⟨hru, hmu, hatu⟩, rfl, rfl, by rw [inc64 h60 (by omega)]⟩
      · have e2 : decide ((i : Int) < 60) = false := decide_eq_false (by omega)
        simp only [go_sem, h0, h3, h4, m4, h5, m6, m7, m13, m14, e1, e2, k108]
    · have e1 : decide ((i : Int) < (l.length : Int)) = false := decide_eq_false (by omega)
      simp only [go_sem, h0, h3, h4, m4, h5, m6, m7, m13, m14, e1, k108]
end Sg
