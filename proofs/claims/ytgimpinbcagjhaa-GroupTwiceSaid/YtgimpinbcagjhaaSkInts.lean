/- Lists of numbers: what the small functions over them answer. -/
import Derived.Test.YtgimpinbcagjhaaScGroup
namespace Sg
open _root_.Go (IntKind BinOp UnOp)
set_option linter.unusedSimpArgs false
set_option linter.unusedVariables false
variable {Pg : Nat → Option Fn}

@[go_sem] def eInts (l : List Int) : V := .slice 1 (l.map fun a => [iz a])

theorem lt_of {i n : Nat} (h : decide ((i : Int) < (n : Int)) = true) : i < n := by simpa using h
theorem eq_of {i n : Nat} (hi : i ≤ n) (h : decide ((i : Int) < (n : Int)) = false) : i = n := by
  have : ¬ i < n := by simpa using h
  omega
theorem inc64 {i n : Nat} (h : i < n) (hn : n < 2 ^ 60) : IntKind.i64.wrap ((i : Int) + 1) = ((i + 1 : Nat) : Int) := wrap64 (by omega) (by omega)
theorem dec64 {n : Nat} (h : 0 < n) (hn : n < 2 ^ 60) : IntKind.i64.wrap ((n : Int) - 1) = ((n - 1 : Nat) : Int) := by rw [wrap64 (by omega) (by omega)]; omega
theorem take_s {α : Type} {l : List α} {i : Nat} {x : α} (h : l[i]? = some x) : l.take (i + 1) = l.take i ++ [x] := by rw [List.take_add_one, h]; rfl
theorem take_all {α : Type} {l : List α} {i : Nat} (h : i = l.length) : l.take i = l := by rw [h, List.take_length]

def H62 (Pg : Nat → Option Fn) : Prop := Pg 62 = some (.code F62)
theorem K62 (h : H62 Pg) (l : List Int) (n : Int) (hl : l.length < 2 ^ 60) : K' Pg 62 [eInts l, iz n] = some (.bool (decide (n ∈ l))) := by
  refine K'_code h rfl ?_
  simp only [go_sem]
  unfold l62_0
  refine wp_lp (fun (i : Nat) S => i ≤ l.length ∧ S.ρ 0 = eInts l ∧ S.ρ 1 = iz n ∧ S.ρ 5 = iz i ∧ n ∉ l.take i) (fun i => l.length - i) 0 ?_ ?_
  · simp [go_sem]
  · intro i S ⟨hi, h0, h1, h5, ho⟩
    simp only [go_sem, h0, h1, h5]
    refine wpc_i (fun h => ?_) (fun h => ?_)
    · have h := lt_of h
      obtain ⟨x, hx, hd⟩ := drop_at h
      simp only [go_sem, h0, h1, h5, hx]
      refine wpc_i (fun hc => ?_) (fun hc => ?_)
      · have hc : x = n := of_decide_eq_true hc
        have : n ∈ l := hc ▸ List.mem_of_getElem? hx
        simp only [go_sem, this]
      · have hc : x ≠ n := of_decide_eq_false hc
        simp only [go_sem, h0, h1, h5]
        refine ⟨i + 1, by omega, by omega, by rw [inc64 h hl], ?_⟩
        rw [take_s hx]; simp; exact ⟨ho, fun e => hc e.symm⟩
    · have h := eq_of hi h
      rw [take_all h] at ho
      simp only [go_sem, ho]

def H70 (Pg : Nat → Option Fn) : Prop := Pg 70 = some (.code F70)
theorem K70 (h : H70 Pg) (a b : List Int) (hl : a.length < 2 ^ 60) : K' Pg 70 [eInts a, eInts b] = some (.bool (decide (a = b))) := by
  refine K'_code h rfl ?_
  simp only [go_sem]
  refine wpc_i (fun hc => ?_) (fun hc => ?_)
  · have hc : ¬ a.length = b.length := by intro e; simp [e] at hc
    have : a ≠ b := fun e => hc (by rw [e])
    simp only [go_sem, this]
  · have hc : a.length = b.length := by simp at hc; omega
    simp only [go_sem]
    unfold l70_0
    refine wp_lp (fun (i : Nat) S => i ≤ a.length ∧ S.ρ 0 = eInts a ∧ S.ρ 1 = eInts b ∧ S.ρ 5 = iz i ∧ a.take i = b.take i) (fun i => a.length - i) 0 ?_ ?_
    · simp [go_sem]
    · intro i S ⟨hi, h0, h1, h5, ho⟩
      simp only [go_sem, h0, h1, h5]
      refine wpc_i (fun h => ?_) (fun h => ?_)
      · have h := lt_of h
        obtain ⟨x, hx, hd⟩ := drop_at h
        obtain ⟨y, hy, hd'⟩ := drop_at (l := b) (i := i) (by omega)
        simp only [go_sem, h0, h1, h5, hx, hy]
        refine wpc_i (fun hc => ?_) (fun hc => ?_)
        · have hne : x ≠ y := by simpa using hc
          have : a ≠ b := fun e => hne (by subst e; rw [hx] at hy; simpa using hy)
          simp only [go_sem, this]
        · have he : x = y := by simpa using hc
          simp only [go_sem, h0, h1, h5]
          exact ⟨i + 1, by omega, by omega, by rw [inc64 h hl], by rw [take_s hx, take_s hy, ho, he]⟩
      · have h := eq_of hi h
        rw [take_all h, take_all (h.trans hc)] at ho
        simp only [go_sem, ho]

def idxI : List Int → Int → Nat → Int
  | [], _, _ => -1
  | a :: l, n, i => if n = a then i else idxI l n (i + 1)
theorem idxI_mem : ∀ {l : List Int} {n : Int} {i : Nat}, decide (0 ≤ idxI l n i) = decide (n ∈ l)
  | [], n, i => by simp [idxI]
  | a :: l, n, i => by
    simp only [idxI]
    split
    · rename_i h; simp [h]
    · rename_i h; rw [idxI_mem]; simp [h]

def H75 (Pg : Nat → Option Fn) : Prop := Pg 75 = some (.code F75)
theorem K75 (h : H75 Pg) (l : List Int) (n : Int) (hl : l.length < 2 ^ 60) : K' Pg 75 [eInts l, iz n] = some (iz (idxI l n 0)) := by
  refine K'_code h rfl ?_
  simp only [go_sem]
  unfold l75_0
  refine wp_lp (fun (i : Nat) S => i ≤ l.length ∧ S.ρ 0 = eInts l ∧ S.ρ 1 = iz n ∧ S.ρ 7 = iz l.length ∧ S.ρ 8 = iz i ∧ idxI (l.drop i) n i = idxI l n 0) (fun i => l.length - i) 0 ?_ ?_
  · simp [go_sem]
  · intro i S ⟨hi, h0, h1, h7, h8, ho⟩
    simp only [go_sem, h0, h1, h7, h8]
    refine wpc_i (fun h => ?_) (fun h => ?_)
    · have h := lt_of h
      obtain ⟨x, hx, hd⟩ := drop_at h
      rw [hd] at ho
      simp only [go_sem, h0, h1, h7, h8, hx]
      refine wpc_i (fun hc => ?_) (fun hc => ?_)
      · have hc : n = x := of_decide_eq_true hc
        simp only [idxI, hc, if_true] at ho
        simp only [go_sem, ← ho, hc]
      · have hc : ¬ n = x := of_decide_eq_false hc
        simp only [idxI, hc, if_false] at ho
        simp only [go_sem, h0, h1, h7, h8]
        exact ⟨i + 1, by omega, by omega, by rw [inc64 h hl], ho⟩
    · have h := eq_of hi h
      subst h
      simp only [List.drop_length, idxI] at ho
      simp only [go_sem, ← ho]

def H65 (Pg : Nat → Option Fn) : Prop := Pg 65 = some (.code F65) ∧ H75 Pg
theorem K65 (h : H65 Pg) (l : List Int) (n : Int) (hl : l.length < 2 ^ 60) : K' Pg 65 [eInts l, iz n] = some (.bool (decide (n ∈ l))) := by
  obtain ⟨h, h75⟩ := h
  refine K'_code h rfl ?_
  have k75 := K75 h75 l n hl
  simp only [eInts] at k75
  simp only [go_sem, k75, idxI_mem]

def idxF : List Int → (Int → Bool) → Nat → Int
  | [], _, _ => -1
  | a :: l, p, i => if p a then i else idxF l p (i + 1)
theorem idxF_any : ∀ {l : List Int} {p : Int → Bool} {i : Nat}, decide (0 ≤ idxF l p i) = l.any p
  | [], n, i => by simp [idxF]
  | a :: l, n, i => by
    simp only [idxF]
    split
    · rename_i h; simp [h]
    · rename_i h; rw [idxF_any]; simp [h]

def H76 (Pg : Nat → Option Fn) : Prop := Pg 76 = some (.code F76)
theorem K76 (h : H76 Pg) (l : List Int) (g : Nat) (cap : List V) (p : Int → Bool) (hl : l.length < 2 ^ 60) (hcap : cap.all V.datC = true) (hg : ∀ x ∈ l, K' Pg g (iz x :: cap) = some (.bool (p x))) :
    K' Pg 76 [eInts l, .func g cap] = some (iz (idxF l p 0)) := by
  refine K'_code h rfl ?_
  simp only [go_sem]
  unfold l76_0
  refine wp_lp (fun (i : Nat) S => i ≤ l.length ∧ S.ρ 0 = eInts l ∧ S.ρ 1 = .func g cap ∧ S.ρ 7 = iz l.length ∧ S.ρ 8 = iz i ∧ idxF (l.drop i) p i = idxF l p 0) (fun i => l.length - i) 0 ?_ ?_
  · simp [go_sem]
  · intro i S ⟨hi, h0, h1, h7, h8, ho⟩
    simp only [go_sem, h0, h1, h7, h8]
    refine wpc_i (fun h => ?_) (fun h => ?_)
    · have h := lt_of h
      obtain ⟨x, hx, hd⟩ := drop_at h
      rw [hd] at ho
      have hgx := hg x (List.mem_of_getElem? hx)
      simp only [go_sem, h0, h1, h7, h8, hx, hgx]
      refine wpc_i (fun hc => ?_) (fun hc => ?_)
      · simp only [idxF, hc, if_true] at ho
        simp only [go_sem, ← ho]
      · simp only [idxF, hc, Bool.false_eq_true, if_false] at ho
        simp only [go_sem, h0, h1, h7, h8]
        exact ⟨i + 1, by omega, by omega, by rw [inc64 h hl], ho⟩
    · have h := eq_of hi h
      subst h
      simp only [List.drop_length, idxF] at ho
      simp only [go_sem, ← ho]

def H67 (Pg : Nat → Option Fn) : Prop := Pg 67 = some (.code F67) ∧ H76 Pg
theorem K67 (h : H67 Pg) (l : List Int) (g : Nat) (cap : List V) (p : Int → Bool) (hl : l.length < 2 ^ 60) (hcap : cap.all V.datC = true) (hg : ∀ x ∈ l, K' Pg g (iz x :: cap) = some (.bool (p x))) :
    K' Pg 67 [eInts l, .func g cap] = some (.bool (l.any p)) := by
  obtain ⟨h, h76⟩ := h
  refine K'_code h rfl ?_
  have k76 := K76 h76 l g cap p hl hcap hg
  simp only [eInts] at k76
  simp only [go_sem, k76, idxF_any]

/-- stores, each once -/
def SetP (l : List Int) : Prop := l.length ≤ 8 ∧ (∀ m ∈ l, 1 ≤ m ∧ m ≤ 255) ∧ l.Nodup
instance (l : List Int) : Decidable (SetP l) := inferInstanceAs (Decidable (_ ∧ _ ∧ _))
theorem set_bad {l : List Int} {i : Nat} {x : Int} (hx : l[i]? = some x) (h : ¬ (1 ≤ x ∧ x ≤ 255) ∨ x ∈ l.take i) : ¬ SetP l := by
  rintro ⟨-, h2, h3⟩
  rcases h with h | h
  · exact h (h2 x (List.mem_of_getElem? hx))
  · have hi : i < l.length := by
      rcases Nat.lt_or_ge i l.length with h | h
      · exact h
      · rw [List.getElem?_eq_none h] at hx; simp at hx
    obtain ⟨y, hy, hd⟩ := drop_at hi
    have : x = y := by rw [hx] at hy; simpa using hy
    subst this
    rw [← List.take_append_drop i l, hd, List.nodup_append] at h3
    exact h3.2.2 x h x (List.mem_cons_self ..) rfl
theorem set_next {l : List Int} {i : Nat} {x : Int} (hx : l[i]? = some x) (h : (∀ m ∈ l.take i, 1 ≤ m ∧ m ≤ 255) ∧ (l.take i).Nodup) (h1 : 1 ≤ x ∧ x ≤ 255) (h2 : x ∉ l.take i) :
    (∀ m ∈ l.take (i + 1), 1 ≤ m ∧ m ≤ 255) ∧ (l.take (i + 1)).Nodup := by
  rw [take_s hx]
  refine ⟨fun m hm => ?_, ?_⟩
  · rcases List.mem_append.1 hm with hm | hm
    · exact h.1 m hm
    · have : m = x := by simpa using hm
      rw [this]; exact h1
  · rw [List.nodup_append]
    refine ⟨h.2, by simp, fun a ha b hb e => ?_⟩
    have : b = x := by simpa using hb
    rw [← this, ← e] at h2
    exact h2 ha
end Sg
