/- Tables of functions. -/
import Derived.Test.YtclmbbbpijboaaaSgProg
namespace Sg

def look {α : Type} : List (Nat × α) → Nat → Option α
  | [], _ => none
  | (k, a) :: l, n => if k = n then some a else look l n

def cxOf (l : List (Nat × Nat)) : Cx where
  fm := fun n => (look l n).getD 0
  tm := fun n => n

def okTab (P : Go.Program) (cx : Cx) (tab : List (Nat × Fn)) : List (Nat × Fn) → Bool
  | [] => true
  | (k, .code F) :: l => okF P cx (look tab) (cx.fm k) F && okTab P cx tab l
  | (_, .prim ..) :: l => okTab P cx tab l

theorem look_mem {α : Type} : ∀ {l : List (Nat × α)} {n : Nat} {a : α}, look l n = some a → (n, a) ∈ l
  | (k, b) :: l, n, a, h => by
    simp only [look] at h
    split at h
    · rename_i e; subst e; simp only [Option.some.injEq] at h; subst h; exact List.mem_cons_self
    · exact List.mem_cons_of_mem _ (look_mem h)
  | [], n, a, h => by simp [look] at h

theorem okTab_spec {P : Go.Program} {cx : Cx} {tab : List (Nat × Fn)} : ∀ {l : List (Nat × Fn)}, okTab P cx tab l = true → ∀ k F, (k, Fn.code F) ∈ l → okF P cx (look tab) (cx.fm k) F = true
  | (k', .code F') :: l, h, k, F, hm => by
    simp only [okTab, Bool.and_eq_true] at h
    simp only [List.mem_cons, Prod.mk.injEq, Fn.code.injEq] at hm
    rcases hm with ⟨rfl, rfl⟩ | hm
    · exact h.1
    · exact okTab_spec h.2 k F hm
  | (k', .prim o p) :: l, h, k, F, hm => by
    simp only [okTab] at h
    simp only [List.mem_cons, Prod.mk.injEq, reduceCtorEq, and_false, false_or] at hm
    exact okTab_spec h k F hm
  | [], h, k, F, hm => by simp at hm

theorem tab_code {P : Go.Program} {cx : Cx} {tab : List (Nat × Fn)} (h : okTab P cx tab tab = true) : ∀ f F, look tab f = some (.code F) → okF P cx (look tab) (cx.fm f) F = true :=
  fun f F hf => okTab_spec h f F (look_mem hf)
end Sg
