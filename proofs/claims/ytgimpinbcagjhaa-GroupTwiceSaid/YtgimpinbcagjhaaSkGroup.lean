/- Replicas: what the functions over them answer. -/
import Derived.Test.YtgimpinbcagjhaaSkInts
namespace Sg
open _root_.Go (IntKind BinOp UnOp)
set_option linter.unusedSimpArgs false
set_option linter.unusedVariables false
variable {Pg : Nat → Option Fn}

def H61 (Pg : Nat → Option Fn) : Prop := Pg 61 = some (.code F61)
theorem K61 (h : H61 Pg) (l : List Int) : K' Pg 61 [eInts l] = some (.bool (decide (SetP l))) := by
  refine K'_code h rfl ?_
  simp only [go_sem]
  refine wpc_i (fun hc => ?_) (fun hc => ?_)
  · have hc : ¬ SetP l := fun ⟨e, _⟩ => by have := of_decide_eq_true hc; omega
    simp only [go_sem, hc]
  · have hl : l.length ≤ 8 := by have := of_decide_eq_false hc; omega
    simp only [go_sem]
    unfold l61_0
    refine wp_lp (fun (i : Nat) S => i ≤ l.length ∧ S.ρ 0 = eInts l ∧ S.ρ 3 = iz i ∧ (∀ m ∈ l.take i, 1 ≤ m ∧ m ≤ 255) ∧ (l.take i).Nodup) (fun i => l.length - i) 0 ?_ ?_
    · simp [go_sem]
    · intro i S ⟨hi, h0, h3, ho1, ho2⟩
      simp only [go_sem, h0, h3]
      refine wpc_i (fun h => ?_) (fun h => ?_)
      · have h := lt_of h
        obtain ⟨x, hx, hd⟩ := drop_at h
        have bad : ¬ (1 ≤ x ∧ x ≤ 255) → ¬ SetP l := fun e => set_bad hx (.inl e)
        simp only [go_sem, h0, h3, hx]
        refine wrg_if (fun hc => ?_) (fun hc => ?_)
        · have h1 : ¬ x < 1 := of_decide_eq_false hc
          simp only [go_sem, h0, h3, hx, h1]
          refine wpc_i (fun hc => ?_) (fun hc => ?_)
          · have hs : ¬ SetP l := bad (by have := of_decide_eq_true hc; omega)
            simp only [go_sem, hs]
          · have h2 : ¬ 255 < x := of_decide_eq_false hc
            simp only [go_sem, h0, h3, hx]
            unfold l61_1
            refine wp_lp (fun (k : Nat) S => k ≤ i ∧ S.ρ 0 = eInts l ∧ S.ρ 3 = iz i ∧ S.ρ 4 = iz k ∧ x ∉ l.take k) (fun k => i - k) 0 ?_ ?_
            · simp [go_sem, h0, h3]
            · intro k S ⟨hk, h0, h3, h4, ho3⟩
              simp only [go_sem, h0, h3, h4]
              refine wpc_i (fun h' => ?_) (fun h' => ?_)
              · have h' := lt_of h'
                obtain ⟨y, hy, hd'⟩ := drop_at (l := l) (i := k) (by omega)
                simp only [go_sem, h0, h3, h4, hx, hy]
                refine wpc_i (fun hc => ?_) (fun hc => ?_)
                · have hc : y = x := of_decide_eq_true hc
                  have hm : x ∈ l.take i := by
                    rw [← hc]
                    have : (l.take i)[k]? = some y := by rw [List.getElem?_take, if_pos h']; exact hy
                    exact List.mem_of_getElem? this
                  have hs : ¬ SetP l := set_bad hx (.inr hm)
                  simp only [go_sem, hs]
                · have hc : ¬ y = x := of_decide_eq_false hc
                  simp only [go_sem, h0, h3, h4]
                  refine ⟨k + 1, by omega, by omega, by rw [inc64 h' (by omega)], ?_⟩
                  rw [take_s hy]; simp; exact ⟨ho3, fun e => hc e.symm⟩
              · have h' := eq_of hk h'
                subst h'
                have hn := set_next hx ⟨ho1, ho2⟩ (by omega) ho3
                simp only [go_sem, h0, h3, h4]
                exact ⟨k + 1, by omega, by omega, by rw [inc64 h (by omega)], hn.1, hn.2⟩
        · have h1 : x < 1 := of_decide_eq_true hc
          have hs : ¬ SetP l := bad (by omega)
          simp only [go_sem, h0, h3, hx, h1, hs]
      · have h := eq_of hi h
        rw [take_all h] at ho1 ho2
        have hs : SetP l := ⟨hl, ho1, ho2⟩
        simp only [go_sem, hs]

def H64 (Pg : Nat → Option Fn) : Prop := Pg 64 = some (.code F64) ∧ H65 Pg
theorem K64 (h : H64 Pg) (l : List Int) (hl : l.length < 2 ^ 60) : K' Pg 64 [eInts l] = some (.bool (decide (SetP l))) := by
  obtain ⟨h, h65⟩ := h
  refine K'_code h rfl ?_
  simp only [go_sem]
  unfold l64_0
  refine wp_lp (fun (i : Nat) S => i ≤ l.length ∧ S.ρ 0 = eInts l ∧ S.ρ 5 = eInts l ∧ S.ρ 6 = iz l.length ∧ S.ρ 7 = iz i ∧ (∀ m ∈ l.take i, 1 ≤ m ∧ m ≤ 255) ∧ (l.take i).Nodup) (fun i => l.length - i) 0 ?_ ?_
  · simp [go_sem]
  · intro i S ⟨hi, h0, h5, h6, h7, ho1, ho2⟩
    simp only [go_sem, h0, h5, h6, h7]
    refine wpc_i (fun h => ?_) (fun h => ?_)
    · have h := lt_of h
      obtain ⟨x, hx, hd⟩ := drop_at h
      have bad : ¬ (1 ≤ x ∧ x ≤ 255) → ¬ SetP l := fun e => set_bad hx (.inl e)
      have k65 := K65 h65 (l.take i) x (by simp; omega)
      simp only [eInts, List.map_take] at k65
      simp only [go_sem, h0, h5, h6, h7, hx]
      refine wrg_if (fun hc => ?_) (fun hc => ?_)
      · have h1 : ¬ x < 1 := of_decide_eq_false hc
        simp only [go_sem, h0, h5, h6, h7, hx, hi, h1]
        refine wrg_if (fun hc => ?_) (fun hc => ?_)
        · have h2 : ¬ 255 < x := of_decide_eq_false hc
          simp only [go_sem, h0, h5, h6, h7, hx, hi, h1, h2, k65]
          refine wpc_i (fun hc => ?_) (fun hc => ?_)
          · have hs : ¬ SetP l := set_bad hx (.inr (of_decide_eq_true hc))
            simp only [go_sem, hs]
          · have hn := set_next hx ⟨ho1, ho2⟩ (by omega) (of_decide_eq_false hc)
            simp only [go_sem, h0, h5, h6, h7]
            exact ⟨i + 1, by omega, by omega, by rw [inc64 h hl], hn.1, hn.2⟩
        · have h2 : 255 < x := of_decide_eq_true hc
          have hs : ¬ SetP l := bad (by omega)
          simp only [go_sem, h0, h5, h6, h7, hx, hi, h1, h2, hs]
      · have h1 : x < 1 := of_decide_eq_true hc
        have hs : ¬ SetP l := bad (by omega)
        simp only [go_sem, h0, h5, h6, h7, hx, h1, hs]
    · have h := eq_of hi h
      rw [take_all h] at ho1 ho2
      simp only [go_sem, h0]
      have : decide ((l.length : Int) ≤ 8) = decide (SetP l) := decide_eq_decide.2 ⟨fun e => ⟨by omega, ho1, ho2⟩, fun e => by have := e.1; omega⟩
      rw [this]
end Sg
