/- DirectorTicks, wherever what it reads is of bulk at most 1048576: proved over a checked abstract run of the translated code; no condition but that. A part. -/
import Derived.Test.YtidnkanghejlhaaGreatDoorCards
import Derived.Test.YtidnkanghejlhaaGreatDoorTie
import Derived.ProofKit
import Derived.OpenShut
import Derived.Lib.LaidIn
import Derived.Lib.LaidTab
import Derived.Deep.DeepHandedRow
import Derived.Deep.DeepWitnessRowRef
import Derived.Test.YtidnkanghejlhaaGreatDoorRows
import Derived.Test.YtidnkanghejlhaaGreatDoorDirectorTicksA4
import Derived.Test.YtidnkanghejlhaaGreatDoorDirectorTicksJ
namespace Sg
open _root_.Go (IntKind BinOp UnOp)
set_option linter.unusedSimpArgs false
set_option linter.unusedVariables false
set_option maxRecDepth 10000
variable {Pg : Nat → Option Fn}
theorem c335_eq : c335 = .seq (.region false r335_0) (.seq (.seq (.region false r335_1) (.cond (.g 12) (.seq (.region false r335_2) (.ret)) (.skip))) (.seq (.region false r335_3) (.seq (.region false r335_4) (.seq (.seq (.region false r335_5) (.cond (.g 23) (.seq (.region false r335_6) (.seq (.seq (.region false r335_7) (.cond (.g 31) (.region false r335_8) (.skip))) ask335)) (.skip))) pgT335)))) := rfl
theorem least_tick {t : List Lse} (h : rightL t = true) (l : List Stamp) : (leastL (tickL t)).isSome = !(tickL t).isEmpty ∧ (tickL t ≠ [] → (leastL (tickL t)).getD zeroStamp = atT l (tickL t)) := by
  have hr := tick_right h
  unfold leastL atT
  rw [if_pos hr]
  cases tickL t with
  | nil => exact ⟨rfl, fun h => absurd rfl h⟩
  | cons a t => exact ⟨rfl, fun _ => rfl⟩
set_option maxHeartbeats 4000000 in
theorem K335 (h : H335 Pg) (d : Drc) (hd : SmD d) (ht : d.job.parts.flatten.length ≤ 140737488355328) : K' Pg 335 [.agg (eDrc d)] = some (eDM (if drcQ d then (tickD d, tickM d) else (d, []))) := by
  obtain ⟨h, h69, h112, h113, h328, h355, h356, h357⟩ := h
  have k328 := K328 h328 d hd
  cases q : drcQ d with
  | false =>
    rw [q] at k328
    simp only [eDrc, ePls, eInfs, eLses, eStamps, eStrs, eInts, eORws] at k328
    refine K'_code h rfl ?_
    have ec : F335.body = _ := c335_eq
    rw [ec]
    simp only [go_sem, k328, List.map_nil]
  | true =>
  obtain ⟨ok, hrl, hl3⟩ := drc_ok hd q ht
  have ok' := tick_ok ok
  have k112 := K112 h112 d.leases (by have := hd.1; omega)
  rw [hrl, if_pos rfl] at k112
  have k355 := K355 h355 (tickD d) ok'
  have e1 : dueD (tickD d) = dueD d := rfl
  rw [e1] at k355
  rw [q] at k328
  have ha := fun s S s1 m1 s2 m2 s4 a19 s5 m5 m9 => K335a h357 (tickD d) ok' s (dueD d) (dueD_le ok) S s1 m1 s2 m2 s4 a19 s5 m5 m9
  have hb := fun l hl S s1 m1 s2 m2 s4 a19 m9 => K335t h69 (tickD d) ok' l hl S s1 m1 s2 m2 s4 a19 m9
  have hdl := dueD_le ok
  simp only [eDrc, ePls, eInfs, eLses, eStamps, eStrs, eInts, eORws, tickD] at k328 k112 k355
  refine K'_code h rfl ?_
  have ec : F335.body = _ := c335_eq
  rw [ec]
  rw [if_pos rfl]
  cases c0 : decide (d.job.kind = 0) with
  | false =>
    have e : tickM d = dueD d ++ wholes d 3 := by simp only [tickM, c0]; simp
    rw [e]
    simp only [go_sem, k328, k112, k355, c0]
    refine (hb (dueD d) (by omega) _ (by simp [go_sem]) (by simp [go_sem, tickD]) (by simp [go_sem]) (by simp [go_sem]) (by simp [go_sem]) (by simp [go_sem]) (by simp [go_sem])).mono ?_
    rintro ex S ⟨rfl, s2, m2, s3, a19⟩
    have e2 : wholes (tickD d) 3 = wholes d 3 := rfl
    rw [e2] at s3 a19
    simp only [go_sem, s2, m2, s3, a19, tickD, List.length_map]
  | true =>
    have e : tickM d = (dueD d ++ asksD d (atT d.lows (tickL d.leases)) 3) ++ wholes d 3 := by simp only [tickM, c0]; simp
    rw [e]
    clear e
    have k113 := K113 h113 (tickL d.leases) (by have := tick_len (t := d.leases); have := hd.1; omega)
    obtain ⟨l1, l2⟩ := least_tick hrl d.lows
    obtain ⟨s, hs⟩ : ∃ s, s = atT d.lows (tickL d.leases) := ⟨_, rfl⟩
    rw [← hs] at l2 ⊢
    have hal := asks_le (d := d) (s := s) (k := 3)
    have fin : ∀ (S : St), S.ρ 1 = .lref 1 0 → S.μ 1 = some (eDrc (tickD d), false) → S.ρ 2 = .lref 2 0 → S.μ 2 = some (zDrc, false) → S.ρ 4 = .own 19 36 (dueD d ++ asksD (tickD d) s 3).length → S.A 19 = some (36, (dueD d ++ asksD (tickD d) s 3).map eMsg, .live) → S.μ 9 = none →
        Wp (K' Pg) pgT335 S (fun ex S => (ex = .norm ∨ ex = .ret) ∧ finish F335 S = some (eDM (tickD d, (dueD d ++ asksD d s 3) ++ wholes d 3))) := by
      intro S s1 m1 s2 m2 s4 a19 m9
      refine (hb _ (by have e : asksD (tickD d) s 3 = asksD d s 3 := rfl; rw [e, List.length_append]; omega) S s1 m1 s2 m2 s4 a19 m9).mono ?_
      rintro ex S ⟨rfl, s2, m2, s3, a19⟩
      have e2 : wholes (tickD d) 3 = wholes d 3 := rfl
      have e3 : asksD (tickD d) s 3 = asksD d s 3 := rfl
      rw [e2, e3] at s3 a19
      simp only [go_sem, s2, m2, s3, a19, tickD, List.length_map]
    cases hq : tickL d.leases with
    | nil =>
      rw [hq] at l1 k113
      have l1 : leastL [] = none := by
        cases hz : leastL [] with
        | none => rfl
        | some y => rw [hz] at l1; cases l1
      rw [l1] at k113
      obtain ⟨a, r, hlow⟩ : ∃ a r, d.lows = a :: r := by
        cases hz : d.lows with
        | nil => rw [hz] at hl3; cases hl3
        | cons a r => exact ⟨a, r, rfl⟩
      have k356 := K356 h356 a r (by rw [hlow] at hl3; simp at hl3; omega)
      have eat : r.foldl later a = s := by rw [hs, hq]; simp only [atT, lowMax, hlow]
      rw [← hlow, eat] at k356
      simp only [eOS, eStamps, eLses, zeroStamp, Option.getD_none, Option.isSome_none, eStamp] at k356 k113
      rw [hq] at k112 k355
      simp only [List.map_nil] at k112 k355 k113
      simp only [go_sem, k328, k112, k355, c0, k113, k356]
      refine (ha s _ (by simp [go_sem]) (by simp [go_sem, tickD, hq]) (by simp [go_sem]) (by simp [go_sem]) (by simp [go_sem]) (by simp [go_sem]) (by simp [go_sem]) (by simp [go_sem]) (by simp [go_sem])).mono ?_
      rintro ex S ⟨rfl, s1, m1, s2, m2, s4, a19, m9⟩
      have fin := fin S s1 m1 s2 m2 s4 a19 m9
      simp only [go_sem] at fin ⊢
      exact fin
    | cons x xs =>
      have l2 := l2 (by rw [hq]; simp)
      rw [hq] at l1
      have l1 : (leastL (tickL d.leases)).isSome = true := by rw [hq]; exact l1
      simp only [eOS, l1, l2, eLses, eStamp] at k113
      simp only [go_sem, k328, k112, k355, c0, k113]
      refine (ha s _ (by simp [go_sem]) (by simp [go_sem, tickD]) (by simp [go_sem]) (by simp [go_sem]) (by simp [go_sem]) (by simp [go_sem]) (by simp [go_sem]) (by simp [go_sem]) (by simp [go_sem])).mono ?_
      rintro ex S ⟨rfl, s1, m1, s2, m2, s4, a19, m9⟩
      have fin := fin S s1 m1 s2 m2 s4 a19 m9
      simp only [go_sem] at fin ⊢
      exact fin
end Sg
namespace Sg
open _root_.Go (IntKind BinOp UnOp)
set_option linter.unusedSimpArgs false
set_option linter.unusedVariables false
set_option maxRecDepth 10000
variable {Pg : Nat → Option Fn}
end Sg
namespace Sg
open _root_.Go (IntKind BinOp UnOp)
set_option linter.unusedSimpArgs false
set_option linter.unusedVariables false
set_option maxRecDepth 10000
variable {Pg : Nat → Option Fn}
end Sg
namespace Sg
open _root_.Go (IntKind BinOp UnOp)
set_option linter.unusedSimpArgs false
set_option linter.unusedVariables false
set_option maxRecDepth 10000
variable {Pg : Nat → Option Fn}
end Sg
namespace Sg
open _root_.Go (IntKind BinOp UnOp)
set_option linter.unusedSimpArgs false
set_option linter.unusedVariables false
set_option maxRecDepth 10000
variable {Pg : Nat → Option Fn}
end Sg
namespace Sg
open _root_.Go (IntKind BinOp UnOp)
set_option linter.unusedSimpArgs false
set_option linter.unusedVariables false
set_option maxRecDepth 10000
variable {Pg : Nat → Option Fn}
end Sg
namespace Sg
open _root_.Go (IntKind BinOp UnOp)
set_option linter.unusedSimpArgs false
set_option linter.unusedVariables false
set_option maxRecDepth 10000
variable {Pg : Nat → Option Fn}
end Sg
namespace Sg
open _root_.Go (IntKind BinOp UnOp)
set_option linter.unusedSimpArgs false
set_option linter.unusedVariables false
set_option maxRecDepth 10000
variable {Pg : Nat → Option Fn}
@[go_sem] theorem scal_tib {k : IntKind} {n : Int} {b : Bool} : (V.tuple [.int k n, .bool b]).scalar = true := rfl
@[go_sem] theorem scal_zib {n : Int} {b : Bool} : (V.tuple [iz n, .bool b]).scalar = true := rfl
def H306 (Pg : Nat → Option Fn) : Prop := Pg 306 = some (.code F306) ∧ H6 Pg
theorem K306 (h : H306 Pg) (a b : Stamp) : K' Pg 306 [.agg (eStamp a), .agg (eStamp b)] = some (.agg (eStamp (later a b))) := by
  obtain ⟨h, h6⟩ := h
  have k := K6 h6 a b
  simp only [eStamp] at k
  refine K'_code h rfl ?_
  cases q : before a b with
  | true =>
    have : later a b = b := by simp only [before, decide_eq_true_eq] at q; simp [later, q]
    simp only [go_sem, k, q, this]
  | false =>
    have : later a b = a := by simp only [before, decide_eq_false_iff_not] at q; simp [later, q]
    simp only [go_sem, k, q, this]
@[go_sem] def eOVr (o : Option Ver) : V := .tuple [.agg (eVer (o.getD zeroVer)), .bool o.isSome]
@[go_sem] def eOS' (o : Option Shd) : V := .tuple [.agg (eShd (o.getD zeroShd)), .bool o.isSome]
end Sg
namespace Sg
open _root_.Go (IntKind BinOp UnOp)
set_option linter.unusedSimpArgs false
set_option linter.unusedVariables false
set_option maxRecDepth 10000
variable {Pg : Nat → Option Fn}
def low336 : C := .seq (.region false r336_5) (.block 0 l336_0)
def lea336 : C := .seq (.region false r336_9) (.block 2 l336_1)
def ask336 : C := .seq (.region false r336_15) (.block 4 l336_2)
def pgT336 : C := .seq (.seq (.region false r336_21) (.block 6 l336_3)) (.seq (.region false r336_26) .ret)
theorem c336_eq : c336 = .seq (.region false r336_0) (.seq (.region false r336_1) (.seq (.region false r336_2) (.seq (.seq (.region false r336_3) (.cond (.g 19) (.seq (.region false r336_4) (.seq low336 (.seq lea336 ask336))) (.skip))) pgT336))) := rfl
set_option maxHeartbeats 4000000 in
theorem K336t (h359 : H359 Pg) (d : Drc) (hd : DrOk d) (l : List Msg) (hl : l.length ≤ 1010) (S : St) (s1 : S.ρ 1 = .lref 1 0) (m1 : S.μ 1 = some (eDrc d, false)) (s2 : S.ρ 2 = .lref 2 0) (m2 : S.μ 2 = some (zDrc, false)) (s4 : S.ρ 4 = .own 15 36 l.length) (a15 : S.A 15 = some (36, l.map eMsg, .live)) :
    Wp (K' Pg) pgT336 S (fun ex S => ex = .ret ∧ S.ρ 2 = .lref 2 0 ∧ S.μ 2 = some (eDrc d, false) ∧ S.ρ 3 = .own 15 36 (l ++ wholes d 3).length ∧ S.A 15 = some (36, (l ++ wholes d 3).map eMsg, .live)) := by
  have hc3 := hd.ld.1
  unfold pgT336
  simp only [go_sem, s1, m1, s2, m2, s4, a15]
  unfold l336_3
  refine wp_lp (fun (i : Nat) S => i ≤ 3 ∧ S.ρ 1 = .lref 1 0 ∧ S.μ 1 = some (eDrc d, false) ∧ S.ρ 2 = .lref 2 0 ∧ S.μ 2 = some (zDrc, false) ∧ S.ρ 4 = .own 15 36 (l ++ wholes d i).length ∧ S.A 15 = some (36, (l ++ wholes d i).map eMsg, .live) ∧ S.ρ 9 = iz ((i : Int) + 1)) (fun i => 3 - i) 0 ?_ ?_
  · simp [go_sem, wholes_0, s1, m1, s2, m2, s4, a15]
  · intro i S ⟨hi, s1, m1, s2, m2, s4, a15, s9⟩
    have elt : decide ((i : Int) + 1 < 4) = decide ((i : Int) + 1 ≤ 3) := decide_eq_decide.2 (by omega)
    simp only [go_sem, s1, m1, s2, m2, s4, a15, s9, elt]
    refine wpc_i (fun hlt => ?_) (fun hlt => ?_)
    · have hlt := range_3 hlt
      obtain ⟨x, hx, -⟩ := drop_at (l := d.cells) (i := i) (by omega)
      have hinc : IntKind.i64.wrap ((i : Int) + 1 + 1) = (i : Int) + 1 + 1 := wrap64 (by omega) (by omega)
      have hsub : IntKind.i64.wrap ((i : Int) + 1 - 1) = ((i : Nat) : Int) := by rw [wrap64 (by omega) (by omega)]; omega
      have hc : ((i + 1 : Nat) : Int) + 1 = (i : Int) + 1 + 1 := by omega
      have hws := wholes_s (d := d) hx
      have hwl := wholes_le (d := d) (k := i)
      have hlim : l.length + (wholes d i).length + 1 ≤ lim := by simp only [lim]; omega
      have k359 := K359 h359 d ((i : Int) + 1) hd.ld (by omega) (by omega)
      simp only [eDrc, ePls, eInfs, eLses, eStamps, eStrs, eInts, eORws] at k359
      cases c1 : x.whole with
      | true =>
        have e : wholes d (i + 1) = wholes d i := by rw [hws]; simp [wholeM, c1]
        simp only [go_sem, s1, m1, s2, m2, s4, a15, s9, hx, c1, hsub, hinc]
        exact ⟨i + 1, by omega, by omega, by rw [e], by rw [e], by rw [hc]⟩
      | false =>
        have e : wholes d (i + 1) = wholes d i ++ [{ zMsg with kind := 33, to := ldD d ((i : Int) + 1), n := (i : Int) + 1, epoch := x.view, mem := x.mem }] := by rw [hws]; simp [wholeM, c1]
        simp only [go_sem, s1, m1, s2, m2, s4, a15, s9, hx, c1, hsub, hinc, hlim, List.length_map, k359]
        exact ⟨i + 1, by omega, by omega, by rw [e]; simp; omega, by rw [e]; simp [zMsg, zRq, zAn, zeroS, eMsg, eItems, ePls, eInts], by rw [hc]⟩
    · have hlt := range_3' hi hlt
      rw [hlt] at s4 a15
      simp only [go_sem, s1, m1, s2, m2, s4, a15]
set_option maxHeartbeats 4000000 in
theorem K336a (h359 : H359 Pg) (d : Drc) (hd : DrOk d) (s : Stamp) (l : List Msg) (hl : l.length ≤ 1000) (S : St) (s1 : S.ρ 1 = .lref 1 0) (m1 : S.μ 1 = some (eDrc d, false)) (s2 : S.ρ 2 = .lref 2 0) (m2 : S.μ 2 = some (zDrc, false)) (s4 : S.ρ 4 = .own 15 36 l.length) (a15 : S.A 15 = some (36, l.map eMsg, .live)) (s5 : S.ρ 5 = .lref 5 0) (m5 : S.μ 5 = some (eStamp s, false)) :
    Wp (K' Pg) ask336 S (fun ex S => ex = .norm ∧ S.ρ 1 = .lref 1 0 ∧ S.μ 1 = some (eDrc d, false) ∧ S.ρ 2 = .lref 2 0 ∧ S.μ 2 = some (zDrc, false) ∧ S.ρ 4 = .own 15 36 (l ++ asksD d s 3).length ∧ S.A 15 = some (36, (l ++ asksD d s 3).map eMsg, .live)) := by
  have k357 := fun c h1 h3 => K359 h359 d c hd.ld h1 h3
  simp only [eDrc, ePls, eInfs, eLses, eStamps, eStrs, eInts, eORws] at k357
  unfold ask336
  simp only [go_sem, s1, m1, s2, m2, s4, a15, s5, m5]
  unfold l336_2
  refine wp_lp (fun (i : Nat) S => i ≤ 3 ∧ S.ρ 1 = .lref 1 0 ∧ S.μ 1 = some (eDrc d, false) ∧ S.ρ 2 = .lref 2 0 ∧ S.μ 2 = some (zDrc, false) ∧ S.ρ 4 = .own 15 36 (l ++ asksD d s i).length ∧ S.A 15 = some (36, (l ++ asksD d s i).map eMsg, .live) ∧ S.ρ 5 = .lref 5 0 ∧ S.μ 5 = some (eStamp s, false) ∧ S.ρ 8 = iz ((i : Int) + 1)) (fun i => 3 - i) 0 ?_ ?_
  · simp [go_sem, asks_0, s1, m1, s2, m2, s4, a15, s5, m5]
  · intro i S ⟨hi, s1, m1, s2, m2, s4, a15, s5, m5, s8⟩
    have elt : decide ((i : Int) + 1 < 4) = decide ((i : Int) + 1 ≤ 3) := decide_eq_decide.2 (by omega)
    simp only [go_sem, s1, m1, s2, m2, s4, a15, s5, m5, s8, elt]
    refine wpc_i (fun hlt => ?_) (fun hlt => ?_)
    · have hlt := range_3 hlt
      have k357 := k357 ((i : Int) + 1) (by omega) (by omega)
      have hinc : IntKind.i64.wrap ((i : Int) + 1 + 1) = (i : Int) + 1 + 1 := wrap64 (by omega) (by omega)
      have hc : ((i + 1 : Nat) : Int) + 1 = (i : Int) + 1 + 1 := by omega
      have hal := asks_le (d := d) (s := s) (k := i)
      have hlim : l.length + (asksD d s i).length + 1 ≤ lim := by simp only [lim]; omega
      have hlim2 : l.length + (asksD d s i).length + 1 + 1 ≤ lim := by simp only [lim]; omega
      have hs := asks_s (d := d) (s := s) (k := i)
      cases q : isZ d.mark with
      | true =>
        have e : asksD d s (i + 1) = asksD d s i ++ [askM d s ((i : Int) + 1)] := by rw [hs]; simp [asks1, q]
        have q2 := q
        simp only [isZ] at q2
        simp only [go_sem, s1, m1, s2, m2, s4, a15, s5, m5, s8, k357, hlim, List.length_map, q2, hinc]
        exact ⟨i + 1, by omega, by omega, by rw [e]; simp; omega, by rw [e]; simp [askM, zMsg, zRq, zAn, zeroS, eMsg, eItems, ePls, eInts], by rw [hc]⟩
      | false =>
        have e : asksD d s (i + 1) = asksD d s i ++ [askM d s ((i : Int) + 1), markM d ((i : Int) + 1)] := by rw [hs]; simp [asks1, q]
        have q2 := q
        simp only [isZ] at q2
        simp only [go_sem, s1, m1, s2, m2, s4, a15, s5, m5, s8, k357, hlim, hlim2, List.length_map, q2, hinc]
        exact ⟨i + 1, by omega, by omega, by rw [e]; simp; omega, by rw [e]; simp [askM, markM, zMsg, zRq, zAn, zeroS, eMsg, eItems, ePls, eInts], by rw [hc]⟩
    · have hlt := range_3' hi hlt
      rw [hlt] at s4 a15
      simp only [go_sem, s1, m1, s2, m2, s4, a15, s5, m5]
theorem K336l (h306 : H306 Pg) (d : Drc) (a : Stamp) (hl3 : d.lows.length = 3) (l : List Msg) (S : St) (s1 : S.ρ 1 = .lref 1 0) (m1 : S.μ 1 = some (eDrc d, false)) (s2 : S.ρ 2 = .lref 2 0) (m2 : S.μ 2 = some (zDrc, false)) (s4 : S.ρ 4 = .own 15 36 l.length) (a15 : S.A 15 = some (36, l.map eMsg, .live)) (s5 : S.ρ 5 = .lref 5 0) (m5 : S.μ 5 = some (eStamp a, false)) :
    Wp (K' Pg) low336 S (fun ex S => ex = .norm ∧ S.ρ 1 = .lref 1 0 ∧ S.μ 1 = some (eDrc d, false) ∧ S.ρ 2 = .lref 2 0 ∧ S.μ 2 = some (zDrc, false) ∧ S.ρ 4 = .own 15 36 l.length ∧ S.A 15 = some (36, l.map eMsg, .live) ∧ S.ρ 5 = .lref 5 0 ∧ S.μ 5 = some (eStamp (d.lows.foldl later a), false)) := by
  have k306 := fun x y => K306 h306 x y
  simp only [eStamp] at k306
  unfold low336
  simp only [go_sem, s1, m1, s2, m2, s4, a15, s5, m5]
  unfold l336_0
  refine wp_lp (fun (i : Nat) S => i ≤ 3 ∧ S.ρ 1 = .lref 1 0 ∧ S.μ 1 = some (eDrc d, false) ∧ S.ρ 2 = .lref 2 0 ∧ S.μ 2 = some (zDrc, false) ∧ S.ρ 4 = .own 15 36 l.length ∧ S.A 15 = some (36, l.map eMsg, .live) ∧ S.ρ 5 = .lref 5 0 ∧ S.μ 5 = some (eStamp ((d.lows.take i).foldl later a), false) ∧ S.ρ 6 = iz i) (fun i => 3 - i) 0 ?_ ?_
  · simp [go_sem, s1, m1, s2, m2, s4, a15, s5, m5]
  · intro i S ⟨hi, s1, m1, s2, m2, s4, a15, s5, m5, s6⟩
    simp only [go_sem, s1, m1, s2, m2, s4, a15, s5, m5, s6]
    refine wpc_i (fun hlt => ?_) (fun hlt => ?_)
    · have hlt : i < 3 := by have := of_decide_eq_true hlt; omega
      obtain ⟨x, hx, -⟩ := drop_at (l := d.lows) (i := i) (by omega)
      have hs : (d.lows.take (i + 1)).foldl later a = later ((d.lows.take i).foldl later a) x := by rw [take_s hx, List.foldl_append]; rfl
      simp only [go_sem, s1, m1, s2, m2, s4, a15, s5, m5, s6, hx, k306]
      exact ⟨i + 1, by omega, by omega, by rw [hs], by rw [inc64 hlt (by omega)]⟩
    · have hlt : i = 3 := by have := of_decide_eq_false hlt; omega
      rw [hlt, List.take_of_length_le (by omega)] at m5
      simp only [go_sem, s1, m1, s2, m2, s4, a15, s5, m5]
def atK (m : Stamp) (t : List Lse) (i : Nat) : Stamp := if i = 0 then m else match t with
  | [] => m
  | a :: _ => (t.take i).foldl (fun s x => soon s x.at_) a.at_
theorem atK_s0 {m : Stamp} {t : List Lse} {x : Lse} (hx : t[0]? = some x) : atK m t (0 + 1) = soon x.at_ x.at_ := by
  cases t with
  | nil => cases hx
  | cons a t => 
    have : a = x := by simpa using hx
    subst this
    simp [atK]
theorem atK_s {m : Stamp} {t : List Lse} {i : Nat} {x : Lse} (hi : i ≠ 0) (hx : t[i]? = some x) : atK m t (i + 1) = soon (atK m t i) x.at_ := by
  cases t with
  | nil => cases hx
  | cons a t =>
    simp only [atK, if_neg hi, if_neg (Nat.succ_ne_zero i)]
    rw [take_s hx, List.foldl_append]
    rfl
set_option maxHeartbeats 4000000 in
theorem K336s (h132 : H132 Pg) (d : Drc) (m : Stamp) (hle : d.leases.length ≤ 1000) (l : List Msg) (S : St) (s1 : S.ρ 1 = .lref 1 0) (m1 : S.μ 1 = some (eDrc d, false)) (s2 : S.ρ 2 = .lref 2 0) (m2 : S.μ 2 = some (zDrc, false)) (s4 : S.ρ 4 = .own 15 36 l.length) (a15 : S.A 15 = some (36, l.map eMsg, .live)) (s5 : S.ρ 5 = .lref 5 0) (m5 : S.μ 5 = some (eStamp m, false)) :
    Wp (K' Pg) lea336 S (fun ex S => ex = .norm ∧ S.ρ 1 = .lref 1 0 ∧ S.μ 1 = some (eDrc d, false) ∧ S.ρ 2 = .lref 2 0 ∧ S.μ 2 = some (zDrc, false) ∧ S.ρ 4 = .own 15 36 l.length ∧ S.A 15 = some (36, l.map eMsg, .live) ∧ S.ρ 5 = .lref 5 0 ∧ S.μ 5 = some (eStamp (atK m d.leases d.leases.length), false)) := by
  have k132 := fun x y => K132 h132 x y
  simp only [eStamp] at k132
  unfold lea336
  simp only [go_sem, s1, m1, s2, m2, s4, a15, s5, m5]
  unfold l336_1
  refine wp_lp (fun (i : Nat) S => i ≤ d.leases.length ∧ S.ρ 1 = .lref 1 0 ∧ S.μ 1 = some (eDrc d, false) ∧ S.ρ 2 = .lref 2 0 ∧ S.μ 2 = some (zDrc, false) ∧ S.ρ 4 = .own 15 36 l.length ∧ S.A 15 = some (36, l.map eMsg, .live) ∧ S.ρ 5 = .lref 5 0 ∧ S.μ 5 = some (eStamp (atK m d.leases i), false) ∧ S.ρ 7 = iz i) (fun i => d.leases.length - i) 0 ?_ ?_
  · simp [go_sem, atK, s1, m1, s2, m2, s4, a15, s5, m5]
  · intro i S ⟨hi, s1, m1, s2, m2, s4, a15, s5, m5, s7⟩
    simp only [go_sem, s1, m1, s2, m2, s4, a15, s5, m5, s7]
    refine wpc_i (fun hlt => ?_) (fun hlt => ?_)
    · have hlt := lt_of hlt
      obtain ⟨x, hx, -⟩ := drop_at hlt
      have hinc : IntKind.i64.wrap ((i : Int) + 1) = ((i + 1 : Nat) : Int) := inc64 hlt (by omega)
      by_cases hz : i = 0
      · subst hz
        have hd0 : decide (((0 : Nat) : Int) = 0) = true := rfl
        simp only [go_sem, s1, m1, s2, m2, s4, a15, s5, m5, s7, hx, k132, hd0]
        exact ⟨0 + 1, by omega, by omega, by rw [atK_s0 hx], rfl⟩
      · have hd0 : decide ((i : Int) = 0) = false := decide_eq_false (by omega)
        simp only [go_sem, s1, m1, s2, m2, s4, a15, s5, m5, s7, hx, k132, hd0]
        exact ⟨i + 1, by omega, by omega, by rw [atK_s hz hx], by rw [hinc]⟩
    · have hlt := eq_of hi hlt
      rw [hlt] at m5
      simp only [go_sem, s1, m1, s2, m2, s4, a15, s5, m5]
def H336 (Pg : Nat → Option Fn) : Prop := Pg 336 = some (.code F336) ∧ H115 Pg ∧ H132 Pg ∧ H306 Pg ∧ H358 Pg ∧ H359 Pg
set_option maxHeartbeats 4000000 in
theorem K336 (h : H336 Pg) (d : Drc) (ok : DrOk d) (hrl : rightL d.leases = true) (hl3 : d.lows.length = 3) (hle : d.leases.length ≤ 1000) : K' Pg 336 [.agg (eDrc d)] = some (eDM (tickD d, tickM d)) := by
  obtain ⟨h, h115, h132, h306, h358, h359⟩ := h
  have ok' := tick_ok ok
  have k115 := K115 h115 d.leases hle (rightL_rl hrl).1
  have k358 := K358 h358 (tickD d) ok'
  have e1 : dueD (tickD d) = dueD d := rfl
  rw [e1] at k358
  have hdl := dueD_le ok
  have ht := fun l hl S s1 m1 s2 m2 s4 a19 => K336t h359 (tickD d) ok' l hl S s1 m1 s2 m2 s4 a19
  have ha := fun s S s1 m1 s2 m2 s4 a19 s5 m5 => K336a h359 (tickD d) ok' s (dueD d) hdl S s1 m1 s2 m2 s4 a19 s5 m5
  have hlw := fun a S s1 m1 s2 m2 s4 a19 s5 m5 => K336l h306 (tickD d) a hl3 (dueD d) S s1 m1 s2 m2 s4 a19 s5 m5
  have hls := fun m S s1 m1 s2 m2 s4 a19 s5 m5 => K336s h132 (tickD d) m (Nat.le_trans tick_len hle) (dueD d) S s1 m1 s2 m2 s4 a19 s5 m5
  simp only [eDrc, ePls, eInfs, eLses, eStamps, eStrs, eInts, eORws, tickD] at k115 k358
  refine K'_code h rfl ?_
  have ec : F336.body = _ := c336_eq
  rw [ec]
  have e2 : wholes (tickD d) 3 = wholes d 3 := rfl
  cases c0 : decide (d.job.kind = 0) with
  | false =>
    have e : tickM d = dueD d ++ wholes d 3 := by simp only [tickM, c0]; simp
    rw [e]
    simp only [go_sem, k115, k358, c0]
    refine (ht (dueD d) (by omega) _ (by simp [go_sem]) (by simp [go_sem, tickD]) (by simp [go_sem]) (by simp [go_sem]) (by simp [go_sem]) (by simp [go_sem])).mono ?_
    rintro ex S ⟨rfl, s2, m2, s3, a19⟩
    rw [e2] at s3 a19
    simp only [go_sem, s2, m2, s3, a19, tickD, List.length_map]
  | true =>
    have e : tickM d = (dueD d ++ asksD d (atT d.lows (tickL d.leases)) 3) ++ wholes d 3 := by simp only [tickM, c0]; simp
    rw [e]
    clear e
    obtain ⟨a, r, hlow⟩ : ∃ a r, d.lows = a :: r := by
      cases hz : d.lows with
      | nil => rw [hz] at hl3; cases hl3
      | cons a r => exact ⟨a, r, rfl⟩
    have h0 : d.lows[0]? = some a := by rw [hlow]; rfl
    have em : d.lows.foldl later a = lowMax d.lows := by
      rw [hlow]
      have : later a a = a := by simp [later, cmp_rfl]
      simp only [lowMax, List.foldl_cons, this]
    have ei : atK (lowMax d.lows) (tickL d.leases) (tickL d.leases).length = atT d.lows (tickL d.leases) := by
      cases tickL d.leases with
      | nil => rfl
      | cons x xs =>
        simp only [atK, atT]
        rw [if_neg (by simp), List.take_of_length_le (Nat.le_refl _)]
    obtain ⟨s, hs⟩ : ∃ s, s = atT d.lows (tickL d.leases) := ⟨_, rfl⟩
    rw [← hs] at ei ⊢
    have hal := asks_le (d := d) (s := s) (k := 3)
    have e3 : asksD (tickD d) s 3 = asksD d s 3 := rfl
    simp only [go_sem, k115, k358, c0, h0]
    refine (hlw a _ (by simp [go_sem]) (by simp [go_sem, tickD]) (by simp [go_sem]) (by simp [go_sem]) (by simp [go_sem]) (by simp [go_sem]) (by simp [go_sem]) (by simp [go_sem])).mono ?_
    rintro ex S ⟨rfl, s1, m1, s2, m2, s4, a19, s5, m5⟩
    have e4 : (tickD d).lows.foldl later a = lowMax d.lows := em
    rw [e4] at m5
    simp only [go_sem]
    refine (hls _ S s1 m1 s2 m2 s4 a19 s5 m5).mono ?_
    rintro ex S ⟨rfl, s1, m1, s2, m2, s4, a19, s5, m5⟩
    have e5 : atK (lowMax d.lows) (tickD d).leases (tickD d).leases.length = s := ei
    rw [e5] at m5
    simp only [go_sem]
    refine (ha _ S s1 m1 s2 m2 s4 a19 s5 m5).mono ?_
    rintro ex S ⟨rfl, s1, m1, s2, m2, s4, a19⟩
    simp only [go_sem]
    refine (ht _ (by rw [e3, List.length_append]; omega) S s1 m1 s2 m2 s4 a19).mono ?_
    rintro ex S ⟨rfl, s2, m2, s3, a19⟩
    rw [e2, e3] at s3 a19
    simp only [go_sem, s2, m2, s3, a19, tickD, List.length_map]
end Sg
namespace Sg
open _root_.Go (IntKind BinOp UnOp)
set_option linter.unusedSimpArgs false
set_option linter.unusedVariables false
set_option maxRecDepth 10000
variable {Pg : Nat → Option Fn}
def H337 (Pg : Nat → Option Fn) : Prop := Pg 337 = some (.code F337) ∧ H360 Pg
theorem K337 (h : H337 Pg) (l : List Msg) (hl : l.length ≤ 1000) (hm : ∀ m ∈ l, SmM m) : K' Pg 337 [eMsgs l, eMsgs l] = some (.bool true) := by
  obtain ⟨h, h360⟩ := h
  have k := K360 h360 l hl hm
  simp only [eMsgs] at k
  refine K'_code h rfl ?_
  simp only [go_sem, k]
theorem sm_mem {m : Msg} (ha : m.ans = zAn) (hp : m.places = []) (hm : m.mem.length ≤ 1000) : SmM m := by
  refine ⟨?_, ?_, hm⟩
  · rw [ha]; simp [zAn]
  · rw [hp]; simp
theorem hold1_sm {d : Drc} {id : Int} {m : Msg} (h : hold1 d id = some m) : SmM m := by
  unfold hold1 at h
  split at h
  · cases h
  · split at h
    · cases h; exact sm_mem rfl rfl (by simp [holdM, zMsg])
    · split at h
      · cases h; exact sm_mem rfl rfl (by simp [freeM, zMsg])
      · cases h
theorem moveD_sm {d : Drc} : ∀ m ∈ moveD d, SmM m := by
  intro m hm
  unfold moveD at hm
  repeat' split at hm
  all_goals simp only [List.mem_singleton, List.not_mem_nil] at hm
  all_goals subst hm; exact sm_mem rfl rfl (by simp [hereM, thereM, zMsg])
theorem oneD_sm {d : Drc} : ∀ m ∈ oneD d, SmM m := by
  intro m hm
  unfold oneD at hm
  repeat' split at hm
  · simp only [List.mem_singleton] at hm; subst hm; exact sm_mem rfl rfl (by simp [hereM, zMsg])
  · simp only [List.mem_singleton] at hm; subst hm; exact sm_mem rfl rfl (by simp [hereM, zMsg])
  · simp only [List.mem_singleton] at hm; subst hm; exact sm_mem rfl rfl (by simp [hereM, zMsg])
  · exact moveD_sm m hm
  · cases hm
theorem dueD_sm {d : Drc} (hj : d.job.mem.length ≤ 1000) : ∀ m ∈ dueD d, SmM m := by
  intro m hm
  unfold dueD at hm
  repeat' split at hm
  · simp only [holdsD, List.mem_filterMap] at hm
    obtain ⟨a, -, ha⟩ := hm
    exact hold1_sm ha
  · simp only [List.mem_singleton] at hm; subst hm; exact sm_mem rfl rfl hj
  · cases hm
  · cases hm
  · exact oneD_sm m hm
theorem asks_sm {d : Drc} {s : Stamp} : ∀ {k : Nat}, ∀ m ∈ asksD d s k, SmM m
  | 0, m, hm => by cases hm
  | k + 1, m, hm => by
    rw [asks_s] at hm
    rcases List.mem_append.1 hm with hm | hm
    · exact asks_sm m hm
    · unfold asks1 at hm
      rcases List.mem_cons.1 hm with rfl | hm
      · exact sm_mem rfl rfl (by simp [askM, zMsg])
      · split at hm
        · cases hm
        · simp only [List.mem_singleton] at hm; subst hm; exact sm_mem rfl rfl (by simp [markM, zMsg])
theorem wholes_sm {d : Drc} (h : ∀ x ∈ d.cells, x.mem.length ≤ 1000) {k : Nat} : ∀ m ∈ wholes d k, SmM m := by
  intro m hm
  simp only [wholes, List.mem_flatMap] at hm
  obtain ⟨i, -, hm⟩ := hm
  split at hm
  · cases hm
  · rename_i x hx
    unfold wholeM at hm
    split at hm
    · cases hm
    · simp only [List.mem_singleton] at hm; subst hm; exact sm_mem rfl rfl (h x (List.mem_of_getElem? hx))
theorem tickM_sm {d : Drc} (ok : DrOk d) : ∀ m ∈ tickM d, SmM m := by
  intro m hm
  unfold tickM at hm
  rcases List.mem_append.1 hm with hm | hm
  · rcases List.mem_append.1 hm with hm | hm
    · exact dueD_sm ok.mem m hm
    · split at hm
      · exact asks_sm m hm
      · cases hm
  · exact wholes_sm ok.mems m hm
theorem dueD_len {d : Drc} : (dueD d).length ≤ d.job.wait.length + 1 := by
  unfold dueD
  repeat' split
  · exact Nat.le_trans fm_le (by omega)
  · simp
  · simp
  · simp
  · exact Nat.le_trans oneD_le (by omega)
theorem tickM_len {d : Drc} (hw : d.job.wait.length ≤ 900) : (tickM d).length ≤ 1000 := by
  have h1 := dueD_len (d := d)
  have h2 := wholes_le (d := d) (k := 3)
  have h3 := asks_le (d := d) (s := atT d.lows (tickL d.leases)) (k := 3)
  unfold tickM
  rw [List.length_append, List.length_append]
  split
  · omega
  · simp only [List.length_nil]; omega
theorem flat_len {n : Nat} : ∀ {l : List (List UInt8)}, (∀ x ∈ l, x.length ≤ n) → l.flatten.length ≤ l.length * n
  | [], _ => by simp
  | x :: l, h => by
    have h1 := h x List.mem_cons_self
    have h2 := flat_len (n := n) (l := l) fun y hy => h y (List.mem_cons_of_mem _ hy)
    rw [List.flatten_cons, List.length_append, List.length_cons, Nat.add_mul]
    omega
theorem small_lens {d : Drc} (h : smallD d = true) : d.job.wait.length ≤ 100 ∧ d.job.parts.length ≤ 200 := by
  simp only [smallD, Bool.and_eq_true, decide_eq_true_eq] at h
  omega
theorem tick_smE {d : Drc} (h : SmE d) : SmE (tickD d) := ⟨h.1, h.2.1, h.2.2.1, Nat.le_trans tick_len h.2.2.2.1, h.2.2.2.2⟩
def H334 (Pg : Nat → Option Fn) : Prop := Pg 334 = some (.code F334) ∧ H324 Pg ∧ H325 Pg ∧ H326 Pg ∧ H329 Pg ∧ H332 Pg ∧ H335 Pg ∧ H336 Pg ∧ H337 Pg
set_option maxHeartbeats 2000000 in
theorem K334 (h : H334 Pg) (d : Drc) (hc : d.cells.length ≤ 1048576) (ho : d.opened.length ≤ 1048576) (hp : ∀ x ∈ d.job.parts, x.length ≤ 1048576) : K' Pg 334 [.agg (eDrc d)] = some (.bool true) := by
  obtain ⟨h, h324, h325, h326, h329, h332, h335, h336, h337⟩ := h
  have k324 := K324 h324 d hc ho
  have k325 := K325 h325 d (by omega)
  have k326 := K326 h326
  simp only [eDrc, ePls, eInfs, eLses, eStamps, eStrs, eInts, eORws] at k324 k325
  cases c0 : smallD d with
  | false =>
    refine K'_code h rfl ?_
    simp only [go_sem, k324, k325, k326, c0]
  | true =>
  have hE := small_E c0
  obtain ⟨hw, hpl⟩ := small_lens c0
  have hft := flat_len hp
  have k329 := K329 h329 d hE.2.2.2
  have ht : d.job.parts.flatten.length ≤ 140737488355328 := by
    have := Nat.mul_le_mul_right 1048576 hpl
    omega
  have k335 := K335 h335 d hE.2.2.2 ht
  cases q : drcQ d with
  | false =>
    rw [q] at k329 k335
    have k332 := K332 h332 d hE
    simp only [eDM, eMsgs, eDrc, ePls, eInfs, eLses, eStamps, eStrs, eInts, eORws] at k329 k335 k332
    refine K'_code h rfl ?_
    simp only [go_sem, k324, k325, k326, k329, k335, k332, c0, List.map_nil]
  | true =>
    obtain ⟨ok, hrl, hl3⟩ := drc_ok hE.2.2.2 q ht
    rw [q] at k329 k335
    rw [if_pos rfl] at k335
    have k324' := K324 h324 (tickD d) hc ho
    have k332 := K332 h332 (tickD d) (tick_smE hE)
    have k336 := K336 h336 d ok hrl hl3 (by have := hE.2.2.2.1; omega)
    have k337 := K337 h337 (tickM d) (tickM_len (by omega)) (tickM_sm ok)
    generalize tickM d = ms at k335 k336 k337
    generalize tickD d = d' at k335 k336 k324' k332
    simp only [eDM, eMsgs, eDrc, ePls, eInfs, eLses, eStamps, eStrs, eInts, eORws] at k329 k335 k332 k336 k324' k337
    refine K'_code h rfl ?_
    simp only [go_sem, k324, k325, k326, k329, k335, k332, k336, k337, k324', c0]
end Sg
namespace Sg
open _root_.Go _root_.Go.Proofs
set_option linter.unusedSimpArgs false
set_option maxRecDepth 100000
theorem t324 : H324 (look dirTab) := rfl
theorem t344 : H344 (look dirTab) := rfl
theorem t325 : H325 (look dirTab) := ⟨rfl, t344⟩
theorem t8327 : H8327 (look dirTab) := rfl
theorem t8328 : H8328 (look dirTab) := rfl
theorem t8331 : H8331 (look dirTab) := rfl
theorem t8335 : H8335 (look dirTab) := rfl
theorem t8340 : H8340 (look dirTab) := rfl
theorem t8341 : H8341 (look dirTab) := rfl
theorem t8154 : H8154 (look dirTab) := rfl
theorem t8345 : H8345 (look dirTab) := rfl
theorem t8141 : H8141 (look dirTab) := rfl
theorem t8126 : H8126 (look dirTab) := rfl
theorem t8028 : H8028 (look dirTab) := rfl
theorem t8346 : H8346 (look dirTab) := rfl
theorem t8347 : H8347 (look dirTab) := rfl
theorem t8348 : H8348 (look dirTab) := rfl
theorem t8065 : H8065 (look dirTab) := rfl
theorem t8156 : H8156 (look dirTab) := rfl
theorem t8148 : H8148 (look dirTab) := rfl
theorem t8112 : H8112 (look dirTab) := rfl
theorem t8355 : H8355 (look dirTab) := rfl
theorem t8357 : H8357 (look dirTab) := rfl
theorem t8365 : H8365 (look dirTab) := rfl
theorem t8366 : H8366 (look dirTab) := rfl
theorem t8067 : H8067 (look dirTab) := rfl
theorem t8367 : H8367 (look dirTab) := rfl
theorem t8368 : H8368 (look dirTab) := rfl
theorem t8162 : H8162 (look dirTab) := rfl
theorem t8163 : H8163 (look dirTab) := rfl
theorem t8164 : H8164 (look dirTab) := rfl
theorem t8165 : H8165 (look dirTab) := rfl
theorem t8166 : H8166 (look dirTab) := rfl
theorem t8032 : H8032 (look dirTab) := rfl
theorem t8369 : H8369 (look dirTab) := rfl
theorem t8075 : H8075 (look dirTab) := rfl
theorem t8177 : H8177 (look dirTab) := rfl
theorem t8175 : H8175 (look dirTab) := rfl
theorem t8178 : H8178 (look dirTab) := rfl
theorem t8371 : H8371 (look dirTab) := rfl
theorem t8186 : H8186 (look dirTab) := rfl
theorem t8381 : H8381 (look dirTab) := rfl
theorem t8076 : H8076 (look dirTab) := rfl
theorem t8185 : H8185 (look dirTab) := rfl
theorem t8194 : H8194 (look dirTab) := rfl
theorem t8171 : H8171 (look dirTab) := rfl
theorem t8192 : H8192 (look dirTab) := rfl
theorem t8179 : H8179 (look dirTab) := rfl
theorem t8170 : H8170 (look dirTab) := rfl
theorem t326 : H326 (look dirTab) := ⟨rfl, t8327, t8328, t8331, t8335, t8340, t8341, t8154, t8345, t8141, t8126, t8028, t8346, t8347, t8348, t8065, t8156, t8148, t8112, t8355, t8357, t8365, t8366, t8067, t8367, t8368, t8162, t8163, t8164, t8165, t8166, t8032, t8369, t8075, t8177, t8175, t8178, t8371, t8186, t8381, t8076, t8185, t8194, t8171, t8192, t8179, t8170⟩
theorem t24 : H24 (look dirTab) := rfl
theorem t114 : H114 (look dirTab) := ⟨rfl, t24⟩
theorem t173 : H173 (look dirTab) := rfl
theorem t188 : H188 (look dirTab) := rfl
theorem t189 : H189 (look dirTab) := rfl
theorem t168 : H168 (look dirTab) := ⟨rfl, t188, t189⟩
theorem t195 : H195 (look dirTab) := ⟨rfl, t188⟩
theorem t187 : H187 (look dirTab) := ⟨rfl, t195⟩
theorem t167 : H167 (look dirTab) := ⟨rfl, t168, t187⟩
theorem t184 : H184 (look dirTab) := ⟨rfl, t167⟩
theorem t174 : H174 (look dirTab) := ⟨rfl, t167, t184⟩
theorem t147 : H147 (look dirTab) := ⟨rfl, t173, t174⟩
theorem t349 : H349 (look dirTab) := rfl
theorem t351 : H351 (look dirTab) := rfl
theorem t350 : H350 (look dirTab) := ⟨rfl, t24, t349, t351⟩
theorem t329 : H329 (look dirTab) := ⟨rfl, t24, t114, t147, t349, t350, t351⟩
theorem t116 : H116 (look dirTab) := rfl
theorem t153 : H153 (look dirTab) := rfl
theorem t353 : H353 (look dirTab) := rfl
theorem t354 : H354 (look dirTab) := ⟨rfl, t353⟩
theorem t332 : H332 (look dirTab) := ⟨rfl, t116, t153, t353, t354⟩
theorem t69 : H69 (look dirTab) := rfl
theorem t32 : H32 (look dirTab) := rfl
theorem t28 : H28 (look dirTab) := ⟨rfl, t32⟩
theorem t126 : H126 (look dirTab) := ⟨rfl, t28⟩
theorem t112 : H112 (look dirTab) := ⟨rfl, t126⟩
theorem t31 : H31 (look dirTab) := rfl
theorem t26 : H26 (look dirTab) := ⟨rfl, t31⟩
theorem t27 : H27 (look dirTab) := rfl
theorem t15 : H15 (look dirTab) := ⟨rfl, t26, t27⟩
theorem t131 : H131 (look dirTab) := ⟨rfl, t15⟩
theorem t113 : H113 (look dirTab) := ⟨rfl, t126, t131⟩
theorem t162 : H162 (look dirTab) := rfl
theorem t163 : H163 (look dirTab) := rfl
theorem t164 : H164 (look dirTab) := rfl
theorem t185 : H185 (look dirTab) := rfl
theorem t165 : H165 (look dirTab) := ⟨rfl, t185⟩
theorem t170 : H170 (look dirTab) := rfl
theorem t190 : H190 (look dirTab) := rfl
theorem t192 : H192 (look dirTab) := ⟨rfl, t190⟩
theorem t186 : H186 (look dirTab) := ⟨rfl, t170, t192⟩
theorem t166 : H166 (look dirTab) := ⟨rfl, t186⟩
theorem t141 : H141 (look dirTab) := ⟨rfl, t162, t163, t164, t165, t166⟩
theorem t76 : H76 (look dirTab) := rfl
theorem t67 : H67 (look dirTab) := ⟨rfl, t76⟩
theorem t369 : H369 (look dirTab) := rfl
theorem t347 : H347 (look dirTab) := ⟨rfl, t67, t369⟩
theorem t75 : H75 (look dirTab) := rfl
theorem t65 : H65 (look dirTab) := ⟨rfl, t75⟩
theorem t348 : H348 (look dirTab) := ⟨rfl, t65⟩
theorem t346 : H346 (look dirTab) := ⟨rfl, t28, t347, t348⟩
theorem t328 : H328 (look dirTab) := ⟨rfl, t28, t126, t141, t346, t347, t348⟩
theorem t194 : H194 (look dirTab) := rfl
theorem t175 : H175 (look dirTab) := ⟨rfl, t185, t194⟩
theorem t148 : H148 (look dirTab) := ⟨rfl, t141, t175⟩
theorem t357 : H357 (look dirTab) := rfl
theorem t370 : H370 (look dirTab) := ⟨rfl, t148, t357⟩
theorem t382 : H382 (look dirTab) := rfl
theorem t371 : H371 (look dirTab) := ⟨rfl, t357, t382⟩
theorem t355 : H355 (look dirTab) := ⟨rfl, t69, t370, t371⟩
theorem t356 : H356 (look dirTab) := ⟨rfl, t15⟩
theorem t335 : H335 (look dirTab) := ⟨rfl, t69, t112, t113, t328, t355, t356, t357⟩
theorem t115 : H115 (look dirTab) := rfl
theorem t6 : H6 (look dirTab) := rfl
theorem t132 : H132 (look dirTab) := ⟨rfl, t6⟩
theorem t306 : H306 (look dirTab) := ⟨rfl, t6⟩
theorem t151 : H151 (look dirTab) := rfl
theorem t359 : H359 (look dirTab) := rfl
theorem t358 : H358 (look dirTab) := ⟨rfl, t151, t359⟩
theorem t336 : H336 (look dirTab) := ⟨rfl, t115, t132, t306, t358, t359⟩
theorem t101 : H101 (look dirTab) := rfl
theorem t372 : H372 (look dirTab) := ⟨rfl, t101, t153⟩
theorem t360 : H360 (look dirTab) := ⟨rfl, t372⟩
theorem t337 : H337 (look dirTab) := ⟨rfl, t360⟩
theorem t334 : H334 (look dirTab) := ⟨rfl, t324, t325, t326, t329, t332, t335, t336, t337⟩
theorem all_ctr (f : Nat) (args : List V) (r : V) (h : K' (look dirTab) f args = some r) : Ctr Tryz.prog (cxU dirFm) (ownOf (look dirTab) f) f args r := by
  obtain ⟨n, hn⟩ := K'_iff.1 h
  refine callN_sound (by kernel_rfl) (tab_code okAll) (fun f own p hp => ?_) (fun f z p hlt hp => ?_) (fun f z p hp => ?_) n f args r hn
  · have hm := look_mem hp
    simp only [dirTab, List.mem_cons, Prod.mk.injEq, reduceCtorEq, and_false, false_and, false_or, Fn.prim.injEq, Option.some.injEq, List.not_mem_nil, or_false] at hm
    rcases hm with ⟨rfl, hz, rfl⟩ | ⟨rfl, hz, rfl⟩ | ⟨rfl, hz, rfl⟩ | ⟨rfl, hz, rfl⟩ | ⟨rfl, hz, rfl⟩ | ⟨rfl, hz, rfl⟩ | ⟨rfl, hz, rfl⟩
    · subst hz
      exact clone_ctr (zero := [.int .i64 0]) (by kernel_rfl) okClone69
    · subst hz
      exact clone_ctr (zero := [.str [], .str [], .int .i64 0, .int .i64 0, .int .i64 0]) (by kernel_rfl) okClone179
    · intro args r h
      simp [noQ] at h
    · subst hz
      exact clone_ctr (zero := [.str []]) (by kernel_rfl) okClone380
    · subst hz
      exact joinCt _ 382 rfl
    · subst hz
      exact keyCt _ 170 rfl
    · subst hz
      exact decCt _ 190 rfl
  · have hm := look_mem hp
    simp only [dirTab, List.mem_cons, Prod.mk.injEq, reduceCtorEq, and_false, false_and, false_or, Fn.prim.injEq, Option.some.injEq, List.not_mem_nil, or_false] at hm
    rcases hm with ⟨rfl, hz, rfl⟩ | ⟨rfl, hz, rfl⟩ | ⟨rfl, hz, rfl⟩ | ⟨rfl, hz, rfl⟩
    · omega
    · omega
    · obtain rfl : z = 5 := by omega
      exact ⟨_, _, insC91⟩
    · omega
  · have hm := look_mem hp
    simp only [dirTab, List.mem_cons, Prod.mk.injEq, reduceCtorEq, and_false, false_and, false_or, Fn.prim.injEq, Option.some.injEq, List.not_mem_nil, or_false] at hm
    rcases hm with ⟨rfl, hz, rfl⟩ | ⟨rfl, hz, rfl⟩ | ⟨rfl, hz, rfl⟩ | ⟨rfl, hz, rfl⟩
    · omega
    · omega
    · omega
    · omega
end Sg
namespace Go.Proofs.YtidnkanghejlhaaGreatDoor
open Sg Go.RowKit
set_option maxRecDepth 100000
theorem own : ownKnob Tryz.prog.godebug = none := by kernel_rfl
theorem laid : laidOutB Tryz.prog = true := by kernel_rfl
theorem directorTicks_ctr (xs : List V) (h : ArgsVN 1048576 [(true, tDrc)] xs) : Ctr Tryz.prog (cxU dirFm) (ownOf (Sg.look dirTab) 334) 334 xs (.bool true) := by
  match xs, h with
  | [x0], h =>
    obtain ⟨h0, -⟩ := h
    obtain ⟨a0, rfl, c0, o0, s0⟩ := arg_Drc2 h0
    exact all_ctr _ _ _ (K334 t334 a0 c0 o0 s0)
theorem bulk_one {H : Type} (x : DataW H) : 1 ≤ Rows.uptoBulk x := by
  cases x with
  | lit l => cases l <;> simp [Rows.uptoBulk]
  | nil => simp [Rows.uptoBulk]
  | ptr _ => simp [Rows.uptoBulk]
  | slice _ _ => simp [Rows.uptoBulk]
  | agg _ => simp [Rows.uptoBulk]
  | iface _ _ => simp [Rows.uptoBulk]
  | map _ => simp [Rows.uptoBulk]
  | held _ => simp [Rows.uptoBulk]
theorem bulk_ok {H : Type} : BK (H := H) Rows.uptoBulk Rows.uptoBulkAll where
  str b := by simp [Rows.uptoBulk]
  slice e s := by simp [Rows.uptoBulk]
  agg p := by simp [Rows.uptoBulk]
  cons d l := by simp [Rows.uptoBulkAll]
  one d := bulk_one d
theorem fit_of {H : Type} {l : List (DataW H)} (h : Rows.uptoSmall H l = true) : ∀ d ∈ l, Fit 1048576 Rows.uptoBulk Rows.uptoBulkAll d := fun _ hd =>
  .inr ⟨bulk_ok, Nat.le_trans (bulk_ok.part hd) (of_decide_eq_true h)⟩
noncomputable def laidWorld (os : Os) : World :=
  let w0 := World.holding Tryz.prog os ⟨#[], #[], []⟩
  let put (h : Array Obj) (g : Nat) (cs : Array Value) : Array Obj := h.modify g fun
    | .cells _ t frozen => .cells cs t frozen
    | o => o
  let h1 := put w0.heap 0 (Lib.firstTab.map fun z => Value.int .u8 z).toArray
  let h2 := put h1 1 ((List.range 16).flatMap fun i => [Value.int .u8 (Lib.accLo i), Value.int .u8 (Lib.accHi i)]).toArray
  { w0 with heap := h2 }
theorem tabs_of {W : World} (hL : laidMetH Tryz.prog Rows.directorTicksUptoRow.laid W) : Lib.Utf8Tabs 0 1 W :=
  utf8Tabs_of_reads (ρ := renU) { lays197 with } ⟨by kernel_rfl, by kernel_rfl, by kernel_rfl, by kernel_rfl, by kernel_rfl, by kernel_rfl, by kernel_rfl⟩
    ((show Go.Pinned.utf8First = Lib.firstData by kernel_rfl) ▸ Lib.laidMet.reads hL (.tail _ (.head _))) ((show Rows.laid_unicode_utf8_acceptRanges = Lib.acceptData by kernel_rfl) ▸ Lib.laidMet.reads hL (.head _))
theorem size_of {W : World} (h : Lib.Utf8Tabs 0 1 W) : 2 ≤ W.heap.size := by
  have lt : ∀ g o v, W.cell? ⟨g, o, none⟩ = some v → g < W.heap.size := fun g o v e => by
    rcases Nat.lt_or_ge g W.heap.size with h | h
    · exact h
    · simp [World.cell?, Array.getElem?_eq_none h] at e
  have h1 := lt _ _ _ (h.1 0 (by decide))
  have h2 := lt _ _ _ (h.2 0 (by decide)).1
  omega
theorem laid_met (os : Os) (args : Array Value) : laidMet Tryz.prog Rows.directorTicksUptoRow.laid ((laidWorld os).forCall (fun _ _ => 0) ⟨#[], args, []⟩).memory :=
  (LaidIn.of_run (l := Rows.directorTicksUptoRow.laid) [1, 0] 8 (by kernel_rfl) (by kernel_rfl) (by kernel_rfl) (by kernel_rfl)).met
set_option maxRecDepth 100000 in
theorem directorTicks_reads (os : Os) {H : Type} (enc : TypeId × Value → H) :
    (Rows.OpenSpec.upto Rows.directorTicksSpec).preRow enc Tryz.prog Tryz.f5 Rows.directorTicksUptoRow.domain false Rows.directorTicksUptoRow.laid ((laidWorld os).forCall (fun _ _ => 0) ⟨#[], #[Value.agg #[.slice none 0 0, .slice none 0 0, .int .i64 0, .slice none 0 0, .slice none 0 0, .int .i64 0, .int .i64 0, .int .i64 0, .int .i64 0, .int .i64 0, .int .i64 0, .int .i64 0, .int .i64 0, .int .i64 0, .int .i64 0, .int .i64 0, .string ⟨#[]⟩, .slice none 0 0, .int .i64 0, .int .i64 0, .int .i64 0, .string ⟨#[]⟩, .string ⟨#[]⟩, .slice none 0 0, .int .i64 0, .int .i64 0, .int .i64 0, .slice none 0 0, .slice none 0 0]], []⟩).memory #[Value.agg #[.slice none 0 0, .slice none 0 0, .int .i64 0, .slice none 0 0, .slice none 0 0, .int .i64 0, .int .i64 0, .int .i64 0, .int .i64 0, .int .i64 0, .int .i64 0, .int .i64 0, .int .i64 0, .int .i64 0, .int .i64 0, .int .i64 0, .string ⟨#[]⟩, .slice none 0 0, .int .i64 0, .int .i64 0, .int .i64 0, .string ⟨#[]⟩, .string ⟨#[]⟩, .slice none 0 0, .int .i64 0, .int .i64 0, .int .i64 0, .slice none 0 0, .slice none 0 0]] := by
  have hw : (DataW.whole enc Tryz.prog ((laidWorld os).forCall (fun _ _ => 0) ⟨#[], #[Value.agg #[.slice none 0 0, .slice none 0 0, .int .i64 0, .slice none 0 0, .slice none 0 0, .int .i64 0, .int .i64 0, .int .i64 0, .int .i64 0, .int .i64 0, .int .i64 0, .int .i64 0, .int .i64 0, .int .i64 0, .int .i64 0, .int .i64 0, .string ⟨#[]⟩, .slice none 0 0, .int .i64 0, .int .i64 0, .int .i64 0, .string ⟨#[]⟩, .string ⟨#[]⟩, .slice none 0 0, .int .i64 0, .int .i64 0, .int .i64 0, .slice none 0 0, .slice none 0 0]], []⟩).memory Tryz.f5.params.toList Rows.directorTicksSpec.vars false #[Value.agg #[.slice none 0 0, .slice none 0 0, .int .i64 0, .slice none 0 0, .slice none 0 0, .int .i64 0, .int .i64 0, .int .i64 0, .int .i64 0, .int .i64 0, .int .i64 0, .int .i64 0, .int .i64 0, .int .i64 0, .int .i64 0, .int .i64 0, .string ⟨#[]⟩, .slice none 0 0, .int .i64 0, .int .i64 0, .int .i64 0, .string ⟨#[]⟩, .string ⟨#[]⟩, .slice none 0 0, .int .i64 0, .int .i64 0, .int .i64 0, .slice none 0 0, .slice none 0 0]].toList 8).isSome = true := by kernel_rfl
  obtain ⟨⟨x1, x2, x3⟩, hx⟩ := Option.isSome_iff_exists.1 hw
  have hl : x1.length = 1 := by
    have := congrArg (Option.map fun x => x.1.length) hx
    have e : (DataW.whole enc Tryz.prog ((laidWorld os).forCall (fun _ _ => 0) ⟨#[], #[Value.agg #[.slice none 0 0, .slice none 0 0, .int .i64 0, .slice none 0 0, .slice none 0 0, .int .i64 0, .int .i64 0, .int .i64 0, .int .i64 0, .int .i64 0, .int .i64 0, .int .i64 0, .int .i64 0, .int .i64 0, .int .i64 0, .int .i64 0, .string ⟨#[]⟩, .slice none 0 0, .int .i64 0, .int .i64 0, .int .i64 0, .string ⟨#[]⟩, .string ⟨#[]⟩, .slice none 0 0, .int .i64 0, .int .i64 0, .int .i64 0, .slice none 0 0, .slice none 0 0]], []⟩).memory Tryz.f5.params.toList Rows.directorTicksSpec.vars false #[Value.agg #[.slice none 0 0, .slice none 0 0, .int .i64 0, .slice none 0 0, .slice none 0 0, .int .i64 0, .int .i64 0, .int .i64 0, .int .i64 0, .int .i64 0, .int .i64 0, .int .i64 0, .int .i64 0, .int .i64 0, .int .i64 0, .int .i64 0, .string ⟨#[]⟩, .slice none 0 0, .int .i64 0, .int .i64 0, .int .i64 0, .string ⟨#[]⟩, .string ⟨#[]⟩, .slice none 0 0, .int .i64 0, .int .i64 0, .int .i64 0, .slice none 0 0, .slice none 0 0]].toList 8).map (fun x => x.1.length) = some 1 := by kernel_rfl
    rw [hx] at e
    simpa using e
  have e2 : (DataW.whole enc Tryz.prog ((laidWorld os).forCall (fun _ _ => 0) ⟨#[], #[Value.agg #[.slice none 0 0, .slice none 0 0, .int .i64 0, .slice none 0 0, .slice none 0 0, .int .i64 0, .int .i64 0, .int .i64 0, .int .i64 0, .int .i64 0, .int .i64 0, .int .i64 0, .int .i64 0, .int .i64 0, .int .i64 0, .int .i64 0, .string ⟨#[]⟩, .slice none 0 0, .int .i64 0, .int .i64 0, .int .i64 0, .string ⟨#[]⟩, .string ⟨#[]⟩, .slice none 0 0, .int .i64 0, .int .i64 0, .int .i64 0, .slice none 0 0, .slice none 0 0]], []⟩).memory Tryz.f5.params.toList Rows.directorTicksSpec.vars false #[Value.agg #[.slice none 0 0, .slice none 0 0, .int .i64 0, .slice none 0 0, .slice none 0 0, .int .i64 0, .int .i64 0, .int .i64 0, .int .i64 0, .int .i64 0, .int .i64 0, .int .i64 0, .int .i64 0, .int .i64 0, .int .i64 0, .int .i64 0, .string ⟨#[]⟩, .slice none 0 0, .int .i64 0, .int .i64 0, .int .i64 0, .string ⟨#[]⟩, .string ⟨#[]⟩, .slice none 0 0, .int .i64 0, .int .i64 0, .int .i64 0, .slice none 0 0, .slice none 0 0]].toList 8).map (fun x => Rows.uptoSmall H (x.1 ++ x.2.1)) = some true := by kernel_rfl
  rw [hx] at e2
  have hs : Rows.uptoSmall H (x1 ++ x2) = true := by simpa using e2
  exact OpenSpec.preRow_of_cond 8 hx (by kernel_rfl) (fun k hk => by cases hk; exact hs) (by kernel_rfl) (laid_met os _)
theorem directorTicks_lifted (os : Os) (started : os.Started) (H : Type) (enc : TypeId × Value → H) (F : Stop.Interp) :
    ReturnsInHanded {} Tryz.checked os 5 .any ((Rows.OpenSpec.upto Rows.directorTicksSpec).preRow enc Tryz.prog Tryz.f5 Rows.directorTicksUptoRow.domain false Rows.directorTicksUptoRow.laid) (((Rows.OpenSpec.upto Rows.directorTicksSpec).at F).post enc Tryz.prog Tryz.f5 false true false false) := by
  refine returnsInHanded_of_row (C := Tryz.checked) (s := Rows.OpenSpec.upto Rows.directorTicksSpec) own started (by kernel_rfl) Tryz.func5
    (witness_row_at (enc := enc) (C := Tryz.checked) false (laidWorld os) #[Value.agg #[.slice none 0 0, .slice none 0 0, .int .i64 0, .slice none 0 0, .slice none 0 0, .int .i64 0, .int .i64 0, .int .i64 0, .int .i64 0, .int .i64 0, .int .i64 0, .int .i64 0, .int .i64 0, .int .i64 0, .int .i64 0, .int .i64 0, .string ⟨#[]⟩, .slice none 0 0, .int .i64 0, .int .i64 0, .int .i64 0, .string ⟨#[]⟩, .string ⟨#[]⟩, .slice none 0 0, .int .i64 0, .int .i64 0, .int .i64 0, .slice none 0 0, .slice none 0 0]] rfl (by kernel_rfl) (by kernel_rfl) (by kernel_rfl) (directorTicks_reads os enc)) ?_
  intro W base args ds gs before hval hW _ hcond _ hL _ _
  have hT := tabs_of hL
  exact liftN (N := 1048576) (bk := Rows.uptoBulk) (bkA := Rows.uptoBulkAll) (s := Rows.directorTicksSpec) (conds := []) (cx := cxU dirFm) (own := ownOf (Sg.look dirTab) 334) (fid := 334) (ss := [(true, tDrc)]) (tb := 4) (by kernel_rfl) (by kernel_rfl) (by kernel_rfl) laid rfl (by kernel_rfl) (by kernel_rfl)
    (fun ds h => by
      have h2 : Tryz.f5.params.toList.length = 1 := by kernel_rfl
      rw [h2] at h
      match ds, h with
      | [d0], _ => rfl) directorTicks_ctr W (size_of hT) hT base args ds gs before hval hW (fun d hd => fit_of (hcond _ rfl) d (List.mem_append_left _ hd))
theorem directorTicks_said : Rows.DirectorTicksUptoSaid :=
  OpenClaim.holds_of_cond 5 Tryz.f5 rfl rfl rfl rfl rfl rfl rfl ⟨rfl, rfl, rfl, rfl, rfl⟩ rfl rfl rfl rfl rfl (by kernel_rfl) Tryz.func5 facts
    (of_decide_eq_true (by kernel_rfl)) (by unfold Func.isWrapper; first | (rw [if_pos (by decide +kernel)]; kernel_rfl) | (rw [if_neg (by decide +kernel)]; exact ⟨rfl, rfl⟩))
    (fun os started H enc _ F => by rw [OpenClaim.pre_eq_preRow]; exact directorTicks_lifted os started H enc F)
theorem directorTicks_plain (f : FuncId) (fn : Func) (hf : Tryz.pinned.checked.prog.funcNamed "stratigraph/stratigraphlaw19.DirectorTicks" = some f) (hfn : Tryz.pinned.checked.prog.funcs[f]? = some fn) :
    false = Tryz.pinned.checked.prog.looks [] ∧ ∀ (j : Nat) t, fn.params[j]? = some t → Tryz.pinned.checked.prog.wantsStandIn t = false := by
  obtain rfl : f = 5 := Option.some.inj ((show Tryz.prog.funcNamed "stratigraph/stratigraphlaw19.DirectorTicks" = some 5 by kernel_rfl).symm.trans hf) |>.symm
  obtain rfl : fn = Tryz.f5 := (Option.some.inj (Tryz.func5.symm.trans hfn)).symm
  refine ⟨by kernel_rfl, fun j t ht => ?_⟩
  rw [Tryz.params5] at ht
  have hm := Array.mem_of_getElem? ht
  simp only [List.mem_toArray, List.mem_cons, List.not_mem_nil, or_false] at hm
  obtain rfl := hm
  exact (show Tryz.prog.wantsStandIn 36 = false by kernel_rfl)
theorem directorTicks_holds : Rows.DirectorTicksUptoCardSaid :=
  Claim7.holds_tied_plain_at .later [] _ _ _ _ directorTicks_said (fun _ h => by cases h) (by kernel_rfl) (fun _ h => by cases h) directorTicksUpto_row_tie rfl ⟨rfl, rfl⟩ (by kernel_rfl) rfl directorTicks_plain (by kernel_rfl)
#print axioms directorTicks_holds
end Go.Proofs.YtidnkanghejlhaaGreatDoor
