/- The interpreter without fuel: what a call answers in the end, and rules to run code by hand. -/
import Derived.Test.YtclmbbbpijboaaaSgCore
namespace Sg
set_option linter.unusedSimpArgs false
set_option linter.unusedVariables false

/-- one answers at least what the other answers -/
def Le (κ κ' : Nat → List V → Option V) : Prop := ∀ f a r, κ f a = some r → κ' f a = some r

theorem ev_mono {κ κ' : Nat → List V → Option V} (h : Le κ κ') {d : Nat} {e : Nat → V} {S : St} {k : K} {r} (hr : ev κ d e S k = some r) : ev κ' d e S k = some r := by
  cases k <;> try exact hr
  rename_i f cv own xs
  simp only [ev, Option.bind_eq_some_iff] at hr ⊢
  obtain ⟨fc, h1, h2⟩ := hr
  refine ⟨fc, h1, ?_⟩
  unfold callV at h2 ⊢
  cases cv <;> simp only at h2 ⊢
  · split at h2 <;> try (simp at h2; done)
    rename_i hc
    rw [if_pos hc]
    simp only [Option.bind_eq_some_iff] at h2 ⊢
    obtain ⟨x, h2, h3⟩ := h2
    exact ⟨x, h _ _ _ h2, h3⟩
  · simp only [Option.bind_eq_some_iff] at h2 ⊢
    obtain ⟨bs, h2, x, h3, h4⟩ := h2
    exact ⟨bs, h2, x, h _ _ _ h3, h4⟩
  · simp only [Option.bind_eq_some_iff] at h2 ⊢
    obtain ⟨bs, h2, x, h3, h4⟩ := h2
    exact ⟨bs, h2, x, h _ _ _ h3, h4⟩

theorem step_mono {κ κ' : Nat → List V → Option V} (h : Le κ κ') {o : Op} {e : Nat → V} {S : St} {r} (hr : step κ o e S = some r) : step κ' o e S = some r := by
  unfold step at hr ⊢
  split at hr
  · simp at hr
  · exact hr
  · simp only [Option.bind_eq_some_iff] at hr ⊢
    obtain ⟨x, h1, h2⟩ := hr
    exact ⟨x, ev_mono h h1, h2⟩

theorem runOps_mono {κ κ' : Nat → List V → Option V} (h : Le κ κ') : ∀ {ops : List Op} {i : Nat} {e : Nat → V} {S : St} {r}, runOps κ ops i e S = some r → runOps κ' ops i e S = some r
  | [], _, _, _, _, hr => hr
  | o :: os, i, e, S, r, hr => by
    simp only [runOps, Option.bind_eq_some_iff] at hr ⊢
    obtain ⟨x, h1, h2⟩ := hr
    exact ⟨x, step_mono h h1, runOps_mono h h2⟩

theorem exec_mono {κ κ' : Nat → List V → Option V} (h : Le κ κ') : ∀ {m m' : Nat} {c : C} {S : St} {r}, m ≤ m' → exec κ m c S = some r → exec κ' m' c S = some r
  | 0, _, _, _, _, _, hr => by simp [exec] at hr
  | m + 1, 0, _, _, _, hm, _ => by omega
  | m + 1, m' + 1, c, S, r, hm, hr => by
    have hm' : m ≤ m' := by omega
    have ih := fun {c S r} => exec_mono h (m := m) (m' := m') (c := c) (S := S) (r := r) hm'
    cases c with
    | skip => simpa [exec] using hr
    | region d ops =>
      simp only [exec, Option.bind_eq_some_iff] at hr ⊢
      obtain ⟨x, h1, h2⟩ := hr
      exact ⟨x, runOps_mono h h1, h2⟩
    | seq a b =>
      simp only [exec, Option.bind_eq_some_iff] at hr ⊢
      obtain ⟨⟨ex, x⟩, h1, h2⟩ := hr
      refine ⟨_, ih h1, ?_⟩
      cases ex <;> simp only at h2 ⊢
      · exact ih h2
      · exact h2
      · exact h2
    | cond x a b =>
      simp only [exec] at hr ⊢
      split at hr
      · rename_i t ht
        cases t <;> exact ih hr
      · simp at hr
    | block id c =>
      simp only [exec, Option.bind_eq_some_iff] at hr ⊢
      obtain ⟨x, h1, h2⟩ := hr
      exact ⟨_, ih h1, h2⟩
    | loop W L Wv Wa c =>
      simp only [exec, Option.bind_eq_some_iff] at hr ⊢
      obtain ⟨⟨ex, x⟩, h1, h2⟩ := hr
      refine ⟨_, ih h1, ?_⟩
      cases ex <;> simp only at h2 ⊢
      · exact ih h2
      · exact h2
      · exact h2
    | exit id => simpa [exec] using hr
    | ret => simpa [exec] using hr

theorem Le.refl (κ : Nat → List V → Option V) : Le κ κ := fun _ _ _ h => h

theorem callN_le (Pg : Nat → Option Fn) : ∀ n, Le (callN Pg n) (callN Pg (n + 1))
  | 0 => fun f a r h => by simp [callN] at h
  | n + 1 => fun f a r h => by
    rw [callN] at h ⊢
    split at h
    · simp at h
    · exact h
    · split at h <;> try (simp at h; done)
      rename_i hl
      rw [if_pos hl]
      simp only [Option.bind_eq_some_iff] at h ⊢
      obtain ⟨x, h1, h2⟩ := h
      exact ⟨x, exec_mono (callN_le Pg n) (Nat.le_succ n) h1, h2⟩

theorem callN_mono (Pg : Nat → Option Fn) {n m : Nat} (h : n ≤ m) : Le (callN Pg n) (callN Pg m) := by
  induction h with
  | refl => exact .refl _
  | step _ ih => exact fun f a r hr => callN_le Pg _ f a r (ih f a r hr)

open Classical in
/-- what a call answers -/
noncomputable def K' (Pg : Nat → Option Fn) (f : Nat) (args : List V) : Option V :=
  if h : ∃ n r, callN Pg n f args = some r then some h.choose_spec.choose else none

theorem K'_of {Pg : Nat → Option Fn} {n f : Nat} {args : List V} {r : V} (h : callN Pg n f args = some r) : K' Pg f args = some r := by
  have hex : ∃ n r, callN Pg n f args = some r := ⟨n, r, h⟩
  unfold K'
  rw [dif_pos hex]
  have h1 := hex.choose_spec.choose_spec
  have h2 := callN_mono Pg (Nat.le_max_left hex.choose n) _ _ _ h1
  have h3 := callN_mono Pg (Nat.le_max_right hex.choose n) _ _ _ h
  rw [h2] at h3
  exact h3

theorem K'_iff {Pg : Nat → Option Fn} {f : Nat} {args : List V} {r : V} : K' Pg f args = some r ↔ ∃ n, callN Pg n f args = some r := by
  constructor
  · intro h
    unfold K' at h
    split at h
    · rename_i hex
      simp only [Option.some.injEq] at h
      exact ⟨hex.choose, by rw [hex.choose_spec.choose_spec, h]⟩
    · simp at h
  · exact fun ⟨n, h⟩ => K'_of h

/-- a run uses finitely many answers -/
theorem ev_cpt {Pg : Nat → Option Fn} {d : Nat} {e : Nat → V} {S : St} {k : K} {r} (hr : ev (K' Pg) d e S k = some r) : ∃ n, ev (callN Pg n) d e S k = some r := by
  cases k <;> try exact ⟨0, hr⟩
  rename_i f cv own xs
  simp only [ev, Option.bind_eq_some_iff] at hr
  obtain ⟨fc, h1, h2⟩ := hr
  have key : ∃ n, callV (callN Pg n) d S cv own fc (xs.map (argv e S.ρ)) = some r := by
    unfold callV at h2 ⊢
    cases cv <;> simp only at h2 ⊢
    · split at h2 <;> try (simp at h2; done)
      rename_i hc
      simp only [if_pos hc, Option.bind_eq_some_iff] at h2 ⊢
      obtain ⟨x, h2, h3⟩ := h2
      obtain ⟨n, hn⟩ := K'_iff.1 h2
      exact ⟨n, x, hn, h3⟩
    · simp only [Option.bind_eq_some_iff] at h2 ⊢
      obtain ⟨bs, h2, x, h3, h4⟩ := h2
      obtain ⟨n, hn⟩ := K'_iff.1 h3
      exact ⟨n, bs, h2, x, hn, h4⟩
    · simp only [Option.bind_eq_some_iff] at h2 ⊢
      obtain ⟨bs, h2, x, h3, h4⟩ := h2
      obtain ⟨n, hn⟩ := K'_iff.1 h3
      exact ⟨n, bs, h2, x, hn, h4⟩
  obtain ⟨n, hn⟩ := key
  exact ⟨n, by simp only [ev, Option.bind_eq_some_iff]; exact ⟨fc, h1, hn⟩⟩

theorem step_cpt {Pg : Nat → Option Fn} {o : Op} {e : Nat → V} {S : St} {r} (hr : step (K' Pg) o e S = some r) : ∃ n, step (callN Pg n) o e S = some r := by
  unfold step at hr ⊢
  split at hr
  · simp at hr
  · exact ⟨0, hr⟩
  · simp only [Option.bind_eq_some_iff] at hr ⊢
    obtain ⟨x, h1, h2⟩ := hr
    obtain ⟨n, hn⟩ := ev_cpt h1
    exact ⟨n, x, hn, h2⟩

theorem runOps_cpt {Pg : Nat → Option Fn} : ∀ {ops : List Op} {i : Nat} {e : Nat → V} {S : St} {r}, runOps (K' Pg) ops i e S = some r → ∃ n, runOps (callN Pg n) ops i e S = some r
  | [], _, _, _, _, hr => ⟨0, hr⟩
  | o :: os, i, e, S, r, hr => by
    simp only [runOps, Option.bind_eq_some_iff] at hr ⊢
    obtain ⟨x, h1, h2⟩ := hr
    obtain ⟨n, hn⟩ := step_cpt h1
    obtain ⟨m, hm⟩ := runOps_cpt h2
    exact ⟨max n m, x, step_mono (callN_mono Pg (Nat.le_max_left n m)) hn, runOps_mono (callN_mono Pg (Nat.le_max_right n m)) hm⟩

theorem exec_cpt {Pg : Nat → Option Fn} : ∀ {m : Nat} {c : C} {S : St} {r}, exec (K' Pg) m c S = some r → ∃ n, exec (callN Pg n) m c S = some r
  | 0, _, _, _, hr => by simp [exec] at hr
  | m + 1, c, S, r, hr => by
    have up := fun {n n' m c S r} (h : n ≤ n') => exec_mono (callN_mono Pg h) (m := m) (m' := m) (c := c) (S := S) (r := r) (Nat.le_refl m)
    cases c with
    | skip => exact ⟨0, by simpa [exec] using hr⟩
    | region d ops =>
      simp only [exec, Option.bind_eq_some_iff] at hr ⊢
      obtain ⟨x, h1, h2⟩ := hr
      obtain ⟨n, hn⟩ := runOps_cpt h1
      exact ⟨n, x, hn, h2⟩
    | seq a b =>
      simp only [exec, Option.bind_eq_some_iff] at hr ⊢
      obtain ⟨⟨ex, x⟩, h1, h2⟩ := hr
      obtain ⟨n, hn⟩ := exec_cpt h1
      cases ex <;> simp only at h2
      · obtain ⟨n', hn'⟩ := exec_cpt h2
        exact ⟨max n n', _, up (Nat.le_max_left n n') hn, up (Nat.le_max_right n n') hn'⟩
      · exact ⟨n, _, hn, h2⟩
      · exact ⟨n, _, hn, h2⟩
    | cond x a b =>
      simp only [exec] at hr ⊢
      split at hr
      · rename_i t ht
        cases t <;> exact exec_cpt hr
      · simp at hr
    | block id c =>
      simp only [exec, Option.bind_eq_some_iff] at hr ⊢
      obtain ⟨x, h1, h2⟩ := hr
      obtain ⟨n, hn⟩ := exec_cpt h1
      exact ⟨n, _, hn, h2⟩
    | loop W L Wv Wa c =>
      simp only [exec, Option.bind_eq_some_iff] at hr ⊢
      obtain ⟨⟨ex, x⟩, h1, h2⟩ := hr
      obtain ⟨n, hn⟩ := exec_cpt h1
      cases ex <;> simp only at h2
      · obtain ⟨n', hn'⟩ := exec_cpt h2
        exact ⟨max n n', _, up (Nat.le_max_left n n') hn, up (Nat.le_max_right n n') hn'⟩
      · exact ⟨n, _, hn, h2⟩
      · exact ⟨n, _, hn, h2⟩
    | exit id => exact ⟨0, by simpa [exec] using hr⟩
    | ret => exact ⟨0, by simpa [exec] using hr⟩

/-- a run of code ends, and then Q holds -/
def Wp (κ : Nat → List V → Option V) (c : C) (S : St) (Q : Ex → St → Prop) : Prop := ∃ m ex S', exec κ m c S = some (ex, S') ∧ Q ex S'

/-- what comes behind code that has ended -/
def Cont (κ : Nat → List V → Option V) (b : C) (Q : Ex → St → Prop) : Ex → St → Prop
  | .norm, S => Wp κ b S Q
  | x, S => Q x S

def Blk (id : Nat) (Q : Ex → St → Prop) : Ex → St → Prop
  | .exit id', S => if id' = id then Q .norm S else Q (.exit id') S
  | x, S => Q x S

section
variable {κ : Nat → List V → Option V} {S : St} {Q : Ex → St → Prop}

theorem Wp.mono {c : C} {Q' : Ex → St → Prop} (h : Wp κ c S Q) (hq : ∀ ex S', Q ex S' → Q' ex S') : Wp κ c S Q' := by
  obtain ⟨m, ex, S', h1, h2⟩ := h
  exact ⟨m, ex, S', h1, hq _ _ h2⟩

theorem wp_skip (h : Q .norm S) : Wp κ .skip S Q := ⟨1, .norm, S, rfl, h⟩
theorem wp_exit {id : Nat} (h : Q (.exit id) S) : Wp κ (.exit id) S Q := ⟨1, .exit id, S, rfl, h⟩
theorem wp_ret (h : Q .ret S) : Wp κ .ret S Q := ⟨1, .ret, S, rfl, h⟩

theorem wp_region {d : Bool} {ops : List Op} (h : ∃ S', runOps κ ops 0 (fun _ => .undef) S = some S' ∧ Q .norm S') : Wp κ (.region d ops) S Q := by
  obtain ⟨S', h1, h2⟩ := h
  exact ⟨1, .norm, S', by simp [exec, h1], h2⟩

theorem wp_seq {a b : C} (h : Wp κ a S (Cont κ b Q)) : Wp κ (.seq a b) S Q := by
  obtain ⟨m, ex, S', h1, h2⟩ := h
  cases ex with
  | norm =>
    obtain ⟨m', ex, S'', h3, h4⟩ := h2
    refine ⟨max m m' + 1, ex, S'', ?_, h4⟩
    simp only [exec, exec_mono (.refl κ) (Nat.le_max_left m m') h1, Option.bind_some]
    exact exec_mono (.refl κ) (Nat.le_max_right m m') h3
  | ret => exact ⟨m + 1, _, _, by simp [exec, h1], h2⟩
  | exit id => exact ⟨m + 1, _, _, by simp [exec, h1], h2⟩

theorem wp_cond {x : Arg} {a b : C} (t : Bool) (ht : argv (fun _ => .undef) S.ρ x = .bool t) (h1 : t = true → Wp κ a S Q) (h2 : t = false → Wp κ b S Q) : Wp κ (.cond x a b) S Q := by
  cases t with
  | true =>
    obtain ⟨m, ex, S', h1, h2⟩ := h1 rfl
    exact ⟨m + 1, ex, S', by simp [exec, ht, h1], h2⟩
  | false =>
    obtain ⟨m, ex, S', h1, h2⟩ := h2 rfl
    exact ⟨m + 1, ex, S', by simp [exec, ht, h1], h2⟩

theorem wp_block {id : Nat} {c : C} (h : Wp κ c S (Blk id Q)) : Wp κ (.block id c) S Q := by
  obtain ⟨m, ex, S', h1, h2⟩ := h
  cases ex with
  | norm => exact ⟨m + 1, _, _, by simp [exec, h1], h2⟩
  | ret => exact ⟨m + 1, _, _, by simp [exec, h1], h2⟩
  | exit id' =>
    simp only [Blk] at h2
    split at h2
    · rename_i e; exact ⟨m + 1, .norm, S', by simp [exec, h1, e], h2⟩
    · rename_i e; exact ⟨m + 1, .exit id', S', by simp [exec, h1, e], h2⟩

theorem wp_loop {W L Wv Wa : List Nat} {c : C} (h : Wp κ c (S.head W L Wv Wa) (Cont κ (.loop W L Wv Wa c) Q)) : Wp κ (.loop W L Wv Wa c) S Q := by
  obtain ⟨m, ex, S', h1, h2⟩ := h
  cases ex with
  | norm =>
    obtain ⟨m', ex, S'', h3, h4⟩ := h2
    refine ⟨max m m' + 1, ex, S'', ?_, h4⟩
    simp only [exec, exec_mono (.refl κ) (Nat.le_max_left m m') h1, Option.bind_some]
    exact exec_mono (.refl κ) (Nat.le_max_right m m') h3
  | ret => exact ⟨m + 1, _, _, by simp [exec, h1], h2⟩
  | exit id => exact ⟨m + 1, _, _, by simp [exec, h1], h2⟩

/-- a loop with an invariant: I holds at each head; each turn lessens the measure, or leaves -/
theorem wp_inv {W L Wv Wa : List Nat} {c : C} {σ : Type} (I : σ → St → Prop) (μ : σ → Nat) (s : σ) (h0 : I s (S.head W L Wv Wa))
    (hstep : ∀ s S, I s S → Wp κ c S fun ex S' => match ex with
      | .norm => ∃ s', μ s' < μ s ∧ I s' (S'.head W L Wv Wa)
      | x => Q x S') : Wp κ (.loop W L Wv Wa c) S Q := by
  suffices ∀ n s S, μ s = n → I s (S.head W L Wv Wa) → Wp κ (.loop W L Wv Wa c) S Q from this _ s S rfl h0
  intro n
  induction n using Nat.strongRecOn with
  | _ n ih =>
    intro s S hn hI
    refine wp_loop ((hstep s _ hI).mono fun ex S' hq => ?_)
    cases ex with
    | norm =>
      obtain ⟨s', h1, h2⟩ := hq
      exact ih _ (hn ▸ h1) s' S' rfl h2
    | ret => exact hq
    | exit id => exact hq

end

/-- a function's call -/
theorem K'_code {Pg : Nat → Option Fn} {f : Nat} {F : F} {args : List V} {r : V} (hF : Pg f = some (.code F)) (hl : args.length = F.np)
    (h : Wp (K' Pg) F.body (start args) fun ex S => (ex = .norm ∨ ex = .ret) ∧ finish F S = some r) : K' Pg f args = some r := by
  obtain ⟨m, ex, S', h1, h2, h3⟩ := h
  obtain ⟨n, hn⟩ := exec_cpt h1
  have h4 : exec (callN Pg (max n m)) (max n m) F.body (start args) = some (ex, S') := exec_mono (callN_mono Pg (Nat.le_max_left n m)) (Nat.le_max_right n m) hn
  refine K'_of (n := max n m + 1) ?_
  simp only [callN, hF, if_pos hl, h4, Option.bind_some]
  rcases h2 with rfl | rfl <;> exact h3

theorem K'_prim {Pg : Nat → Option Fn} {f : Nat} {own : Option Nat} {p : List V → Option V} {args : List V} (hF : Pg f = some (.prim own p)) : K' Pg f args = p args := by
  cases h : p args with
  | some r => exact K'_of (n := 1) (by simp [callN, hF, h])
  | none =>
    cases h' : K' Pg f args with
    | none => rfl
    | some r =>
      obtain ⟨n, hn⟩ := K'_iff.1 h'
      cases n <;> simp [callN, hF, h] at hn

/-- slices.Clone, of elements of z0 cells -/
def cloneQ (z0 : Nat) (args : List V) : Option V := match args with
  | [.slice z rows] => if rows.length ≤ lim ∧ z = z0 then some (.slice z rows) else none
  | _ => none

end Sg
