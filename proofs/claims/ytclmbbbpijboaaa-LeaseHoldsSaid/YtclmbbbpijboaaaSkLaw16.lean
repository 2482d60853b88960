/- The laws of the leases. -/
import Derived.Test.YtclmbbbpijboaaaSkLease3
namespace Sg
open _root_.Go (IntKind BinOp UnOp)
set_option linter.unusedSimpArgs false
set_option linter.unusedVariables false
set_option maxRecDepth 10000
variable {Pg : Nat → Option Fn}

@[go_sem] theorem scrubC_int {l : List Nat} {k : IntKind} {n : Int} : scrubC l (.int k n) = .int k n := rfl
@[go_sem] theorem scrubC_iz {l : List Nat} {n : Int} : scrubC l (iz n) = iz n := rfl
def H110 (Pg : Nat → Option Fn) : Prop := Pg 110 = some (.code F110) ∧ H114 Pg ∧ H24 Pg ∧ H6 Pg ∧ H132 Pg
theorem K110 (h : H110 Pg) (mark : Stamp) (lows : List Stamp) (t : List Lse) (hl : lows.length ≤ 1000) (ht : t.length ≤ 1000) : K' Pg 110 [.agg (eStamp mark), eStamps lows, eLses t] = some (.agg (eStamp (markR mark lows t))) := by
  obtain ⟨h, h114, h24, h6, h132⟩ := h
  have k114 := K114 h114 t (by omega)
  have k24 := fun x => K24 h24 x
  have k6 := fun x y => K6 h6 x y
  have k132 := fun x y => K132 h132 x y
  simp only [eStamp, eStamps, eLses] at k114 k24 k6 k132
  refine K'_code h rfl ?_
  simp only [go_sem]
  unfold l110_0
  refine wp_lp (fun (i : Nat) S => i ≤ t.length ∧ S.ρ 1 = eStamps lows ∧ S.ρ 2 = eLses t ∧ S.ρ 3 = .lref 3 0 ∧ S.μ 3 = some (eStamp mark, false) ∧ S.ρ 6 = .lref 6 0 ∧ S.μ 6 = some (eStamp zeroStamp, false) ∧ S.μ 11 = none ∧ S.A 9 = none ∧ S.ρ 7 = eStamps (lows ++ (t.take i).map Lse.at_) ∧ S.ρ 8 = iz i) (fun i => t.length - i) 0 ?_ ?_
  · simp [go_sem, zeroStamp]
  · intro i S ⟨hi, h1, h2, h3, m3, h6, m6, m11, a9, h7, h8⟩
    simp only [go_sem, h1, h2, h3, m3, h6, m6, m11, a9, h7, h8]
    refine wpc_i (fun h => ?_) (fun h => ?_)
    · have h := lt_of h
      obtain ⟨x, hx, hd⟩ := drop_at h
      have hlim1 : lows.length + (t.take i).length ≤ lim := by simp only [lim, List.length_take]; omega
      have hlim2 : lows.length + (t.take i).length + 1 ≤ lim := by simp only [lim, List.length_take]; omega
      simp only [go_sem, h1, h2, h3, m3, h6, m6, m11, a9, h7, h8, mkA, hx, hlim1, hlim2, List.map_append]
      refine ⟨i + 1, by omega, by omega, ?_, by rw [inc64 h (by omega)]⟩
      rw [take_s hx]; simp [eStamp]
    · have h := eq_of hi h
      subst h
      rw [List.take_length] at h7
      generalize hall : lows ++ t.map Lse.at_ = all at h7
      have hlen : all.length ≤ 2000 := by rw [← hall]; simp; omega
      cases c1 : rightL t with
      | false =>
        have e : markR mark lows t = mark := by simp [markR, c1]
        rw [e]
        simp only [go_sem, h1, h2, h3, m3, h6, m6, m11, a9, h7, h8, k114, c1, zeroStamp]
      | true =>
      cases c2 : decide (lows = []) with
      | true =>
        have hz : decide ((lows.length : Int) = 0) = true := by rw [of_decide_eq_true c2]; rfl
        have e : markR mark lows t = mark := by simp [markR, c1, c2]
        rw [e]
        simp only [go_sem, h1, h2, h3, m3, h6, m6, m11, a9, h7, h8, k114, c1, hz, zeroStamp]
      | false =>
      have hz : decide ((lows.length : Int) = 0) = false := by
        cases lows with
        | nil => simp at c2
        | cons a l => exact decide_eq_false (by simp; omega)
      cases c3 : stampRight mark with
      | false =>
        have e : markR mark lows t = mark := by simp [markR, c1, c3]
        rw [e]
        simp only [go_sem, h1, h2, h3, m3, h6, m6, m11, a9, h7, h8, k114, c1, hz, k24, c3, zeroStamp]
      | true =>
        have e : markR mark lows t = (if all.any (fun x => !stampRight x || !before mark x) then mark else foldS mark all) := by
          simp only [markR, c1, c2, c3, hall]; rfl
        rw [e]
        simp only [go_sem, h1, h2, h3, m3, h6, m6, m11, a9, h7, h8, k114, c1, hz, k24, c3]
        unfold l110_1
        refine wp_lp (fun (i : Nat) S => i ≤ all.length ∧ S.ρ 3 = .lref 3 0 ∧ S.μ 3 = some (eStamp mark, false) ∧ S.ρ 6 = .lref 6 0 ∧ S.μ 6 = some (eStamp zeroStamp, false) ∧ S.μ 11 = none ∧ S.ρ 7 = eStamps all ∧ S.ρ 10 = iz i ∧ ∀ x ∈ all.take i, (!stampRight x || !before mark x) = false) (fun i => all.length - i) 0 ?_ ?_
        · simp [go_sem, h3, m3, h6, m6, m11, h7]
        · intro i S ⟨hi, h3, m3, h6, m6, m11, h7, h10, ho⟩
          simp only [go_sem, h3, m3, h6, m6, m11, h7, h10]
          refine wpc_i (fun h => ?_) (fun h => ?_)
          · have h := lt_of h
            obtain ⟨x, hx, hd⟩ := drop_at h
            have bad : (!stampRight x || !before mark x) = true → all.any (fun x => !stampRight x || !before mark x) = true := fun hb => List.any_eq_true.2 ⟨x, List.mem_of_getElem? hx, hb⟩
            simp only [go_sem, h3, m3, h6, m6, m11, h7, h10, hx, k24]
            cases d1 : stampRight x with
            | false =>
              have hb := bad (by rw [d1]; rfl)
              rw [hb]
              simp only [go_sem, d1, h3, m3, h6, m6, m11, h7, h10, zeroStamp]
            | true =>
            simp only [go_sem, d1, h3, m3, h6, m6, m11, h7, h10, hx, k6]
            cases d2 : before mark x with
            | false =>
              have hb := bad (by rw [d1, d2]; rfl)
              rw [hb]
              simp only [go_sem, d2, h3, m3, h6, m6, m11, h7, h10, zeroStamp]
            | true =>
              simp only [go_sem, d2, h3, m3, h6, m6, m11, h7, h10]
              refine ⟨i + 1, by omega, by omega, by rw [inc64 h (by omega)], fun y hy => ?_⟩
              rw [take_s hx] at hy
              rcases List.mem_append.1 hy with hy | hy
              · exact ho y hy
              · have : y = x := by simpa using hy
                rw [this, d1, d2]; rfl
          · have h := eq_of hi h
            rw [take_all h] at ho
            have hb : all.any (fun x => !stampRight x || !before mark x) = false := List.any_eq_false.2 fun x hx => by rw [ho x hx]; simp
            rw [hb]
            cases hA : all with
            | nil =>
              have : lows = [] := by
                cases lows with
                | nil => rfl
                | cons a l => rw [hA] at hall; simp at hall
              rw [this] at c2; simp at c2
            | cons a l =>
              rw [hA] at h7 hlen h
              simp only [go_sem, h3, m3, h6, m6, m11, h7, h10]
              unfold l110_2
              refine wp_lp (fun (i : Nat) S => i ≤ (a :: l).length ∧ S.ρ 6 = .lref 6 0 ∧ S.μ 6 = some (eStamp zeroStamp, false) ∧ S.ρ 11 = .lref 11 0 ∧ S.μ 11 = some (eStamp (((a :: l).take i).foldl soon a), false) ∧ S.ρ 7 = eStamps (a :: l) ∧ S.ρ 12 = iz i) (fun i => (a :: l).length - i) 0 ?_ ?_
              · simp [go_sem, h6, m6, h7]
              · intro i S ⟨hi, h6, m6, h11, m11, h7, h12⟩
                generalize hL : a :: l = L at *
                simp only [go_sem, h6, m6, h11, m11, h7, h12]
                refine wpc_i (fun h => ?_) (fun h => ?_)
                · have h := lt_of h
                  obtain ⟨x, hx, hd⟩ := drop_at h
                  simp only [go_sem, h6, m6, h11, m11, h7, h12, hx, k132]
                  refine ⟨i + 1, by omega, by omega, ?_, by rw [inc64 h (by omega)]⟩
                  rw [take_s hx, List.foldl_append]
                  simp
                · have h := eq_of hi h
                  rw [take_all h] at m11
                  have hF : foldS mark L = L.foldl soon a := by rw [← hL]; rfl
                  simp only [go_sem, h6, m6, h11, m11, zeroStamp, hF]

def H108 (Pg : Nat → Option Fn) : Prop := Pg 108 = some (.code F108) ∧ H120 Pg ∧ H109 Pg
theorem K108 (h : H108 Pg) : K' Pg 108 [] = some (.bool true) := by
  obtain ⟨h, h120, h109⟩ := h
  refine K'_code h rfl ?_
  have k120 := K120 h120 [] 3 ⟨5, 0, 0⟩ (by simp)
  have e1 : openL [] 3 ⟨5, 0, 0⟩ = ([⟨3, 20, ⟨5, 0, 0⟩⟩], 0) := by decide
  have k109 := K109 h109 ⟨2, 0, 0⟩ [⟨9, 0, 0⟩, ⟨7, 0, 0⟩] [⟨3, 20, ⟨5, 0, 0⟩⟩] (by simp) (by simp)
  have e2 : markP ⟨2, 0, 0⟩ [⟨9, 0, 0⟩, ⟨7, 0, 0⟩] [⟨3, 20, ⟨5, 0, 0⟩⟩] = ⟨5, 0, 0⟩ := by decide
  rw [e1] at k120
  rw [e2] at k109
  have one : decide (((1 : Nat) : Int) = 1) = true := rfl
  simp only [eLE, eLses, eLse, eStamp, eStamps, List.map_cons, List.map_nil] at k120 k109
  simp only [go_sem, k120, k109, one]

theorem gt20 {n : Nat} : decide ((20 : Int) < (n : Int)) = !decide (n ≤ 20) := by
  by_cases h : n ≤ 20 <;> simp [h] <;> omega

def H107 (Pg : Nat → Option Fn) : Prop := Pg 107 = some (.code F107) ∧ H108 Pg ∧ H109 Pg ∧ H110 Pg
theorem K107 (h : H107 Pg) (mark : Stamp) (lows : List Stamp) (t : List Lse) : K' Pg 107 [.agg (eStamp mark), eStamps lows, eLses t] = some (.bool true) := by
  obtain ⟨h, h108, h109, h110⟩ := h
  have k108 := K108 h108
  refine K'_code h rfl ?_
  by_cases c1 : t.length ≤ 20
  · by_cases c2 : lows.length ≤ 20
    · have k109 := K109 h109 mark lows t (by omega) (by omega)
      have k110 := K110 h110 mark lows t (by omega) (by omega)
      rw [mark_eq] at k110
      simp only [eStamp, eStamps, eLses] at k109 k110
      simp only [go_sem, gt20, c1, c2, k108, k109, k110]
    · simp only [go_sem, gt20, c1, c2, k108]
  · simp only [go_sem, gt20, c1, k108]

def H111 (Pg : Nat → Option Fn) : Prop := Pg 111 = some (.code F111) ∧ H108 Pg ∧ H112 Pg ∧ H113 Pg ∧ H114 Pg ∧ H115 Pg ∧ H116 Pg ∧ H15 Pg
theorem K111 (h : H111 Pg) (t : List Lse) : K' Pg 111 [eLses t] = some (.bool true) := by
  obtain ⟨h, h108, h112, h113, h114, h115, h116, h15⟩ := h
  have k108 := K108 h108
  refine K'_code h rfl ?_
  by_cases c1 : t.length ≤ 20
  · have k112 := K112 h112 t (by omega)
    have k113 := K113 h113 t (by omega)
    have k114 := K114 h114 t (by omega)
    have k15 := fun x y => K15 h15 x y
    simp only [eLses, eOS, eStamp] at k112 k113 k114 k15
    cases hr : rightL t with
    | false =>
      have hL : leastL t = none := by simp [leastL, hr]
      simp only [hr, Bool.false_eq_true, if_false, List.map_nil] at k112
      simp only [hL, Option.getD_none, Option.isSome_none, zeroStamp] at k113
      simp only [go_sem, gt20, c1, k108, k112, k113, k114, hr]
    | true =>
      have k115 := K115 h115 t (by omega) (rightL_rl hr).1
      have k116 := K116 h116 (tickL t) (by have := tick_len (t := t); omega)
      simp only [hr, if_true] at k112
      simp only [eLses] at k115 k116
      cases t with
      | nil =>
        have hL : leastL [] = none := by simp [leastL]
        have ht : tickL [] = [] := rfl
        simp only [ht, List.map_nil] at k112 k114 k115 k116
        simp only [hL, Option.getD_none, Option.isSome_none, zeroStamp, List.map_nil] at k113
        simp only [go_sem, gt20, c1, k108, k112, k113, k114, k115, k116, hr]
        unfold l111_0
        refine wp_lp (fun (_ : Nat) S => S.ρ 6 = .bool true ∧ S.ρ 53 = eLses [] ∧ S.ρ 54 = iz 0 ∧ S.ρ 55 = iz 0) (fun _ => 0) 0 ?_ ?_
        · simp [go_sem]
        · intro _ S ⟨h6, h53, h54, h55⟩
          simp only [go_sem, h6, h53, h54, h55, k108]
      | cons a l =>
        obtain ⟨s, hs⟩ : ∃ s, leastL (a :: l) = some s := by
          cases h : leastL (a :: l) with
          | none => have := least_none hr h; simp at this
          | some s => exact ⟨s, rfl⟩
        obtain ⟨-, hmin⟩ := least_min hs
        simp only [hs, Option.getD_some, Option.isSome_some] at k113
        have hz : decide (((l.length + 1 : Nat) : Int) = 0) = false := decide_eq_false (by omega)
        generalize hT : a :: l = T at *
        have hTl : T.length = l.length + 1 := by rw [← hT]; rfl
        have hz : decide ((T.length : Int) = 0) = false := decide_eq_false (by omega)
        have hp : decide ((0 : Int) < (T.length : Int)) = true := decide_eq_true (by omega)
        simp only [go_sem, gt20, c1, k108, k112, k113, k114, k115, k116, hr, hz, hp]
        unfold l111_0
        refine wp_lp (fun (i : Nat) S => i ≤ T.length ∧ S.μ 8 = none ∧ S.ρ 4 = .lref 4 0 ∧ S.μ 4 = some (eStamp s, false) ∧ S.ρ 6 = .bool ((T.take i).any fun x => decide (x.at_ = s)) ∧ S.ρ 53 = eLses T ∧ S.ρ 54 = iz T.length ∧ S.ρ 55 = iz i) (fun i => T.length - i) 0 ?_ ?_
        · simp [go_sem]
        · intro i S ⟨hi, m8, h4, m4, h6, h53, h54, h55⟩
          simp only [go_sem, m8, h4, m4, h6, h53, h54, h55]
          refine wpc_i (fun h => ?_) (fun h => ?_)
          · have h := lt_of h
            obtain ⟨x, hx, hd⟩ := drop_at h
            have hle := hmin.le x.at_ (List.mem_map.2 ⟨x, List.mem_of_getElem? hx, rfl⟩)
            have hle' : decide ((0 : Int) < stampCmp s x.at_) = false := decide_eq_false (by omega)
            have heq : (decide (x.at_.wall = s.wall) && (decide (x.at_.tick = s.tick) && decide (x.at_.node = s.node))) = decide (x.at_ = s) := by
              cases hxa : x.at_; cases s
              simp only [Stamp.mk.injEq, Bool.decide_and]
            have hs' : (T.take (i + 1)).any (fun x => decide (x.at_ = s)) = ((T.take i).any (fun x => decide (x.at_ = s)) || decide (x.at_ = s)) := by rw [take_s hx, List.any_append]; simp
            simp only [go_sem, m8, h4, m4, h6, h53, h54, h55, hx, k15, hle']
            cases ha : (T.take i).any (fun x => decide (x.at_ = s)) with
            | true =>
              simp only [go_sem, m8, h4, m4, h6, h53, h54, h55, hx]
              exact ⟨i + 1, by omega, by omega, by rw [hs', ha]; rfl, by rw [inc64 h (by omega)]⟩
            | false =>
              simp only [go_sem, m8, h4, m4, h6, h53, h54, h55, hx, heq]
              exact ⟨i + 1, by omega, by omega, by rw [hs', ha]; rfl, by rw [inc64 h (by omega)]⟩
          · have h := eq_of hi h
            have hany : (T.take i).any (fun x => decide (x.at_ = s)) = true := by
              rw [take_all h]
              obtain ⟨x, hx, he⟩ := List.mem_map.1 hmin.mem
              exact List.any_eq_true.2 ⟨x, hx, by simpa using he⟩
            rw [hany] at h6
            simp only [go_sem, h6, k108]
  · simp only [go_sem, gt20, c1, k108]
end Sg
