import Derived.Test.YtgimpinbcagjhaaSkGroup2
import Derived.Test.YtgimpinbcagjhaaSgRun2
namespace Sg
open _root_.Go (IntKind BinOp UnOp)
set_option linter.unusedSimpArgs false
set_option linter.unusedVariables false
variable {Pg : Nat → Option Fn}

theorem nodup_len : ∀ {l m : List Int}, l.Nodup → (∀ x ∈ l, x ∈ m) → l.length ≤ m.length
  | [], m, _, _ => by simp
  | a :: l, m, h, hs => by
    rw [List.nodup_cons] at h
    have ha := hs a (List.mem_cons_self ..)
    have h1 := nodup_len (l := l) (m := m.erase a) h.2 (fun x hx => by
      have hne : x ≠ a := fun e => h.1 (e ▸ hx)
      exact (List.mem_erase_of_ne hne).2 (hs x (List.mem_cons_of_mem _ hx)))
    have h2 := List.length_erase_of_mem ha
    have h3 : 0 < m.length := List.length_pos_of_mem ha
    simp only [List.length_cons]; omega

theorem all_len {r : Rep} (hm : SetP r.members) (ha : SetP r.acks) (hs : ∀ x ∈ r.acks, x ∈ r.members) : decide ((r.acks.length : Int) < (r.members.length : Int)) = !allR r := by
  cases h : allR r with
  | true =>
    have : ∀ x ∈ r.members, x ∈ r.acks := by simpa [allR] using h
    have := nodup_len hm.2.2 this
    simp; omega
  | false =>
    obtain ⟨x, hx, hn⟩ : ∃ x, x ∈ r.members ∧ x ∉ r.acks := by simpa [allR] using h
    have := nodup_len (l := x :: r.acks) (m := r.members) (List.nodup_cons.2 ⟨hn, ha.2.2⟩) (fun y hy => by
      rcases List.mem_cons.1 hy with rfl | hy
      · exact hx
      · exact hs y hy)
    simp only [List.length_cons] at this
    simp; omega

/-- whether a replica is right, as the program says it -/
def rightG (r : Rep) : Bool :=
  !(decide (r.id < 1) || (decide (255 < r.id) || (!numG r.view 0 || (!numG r.n 0 || (!decide (SetP r.members) || !decide (SetP r.acks)))))) &&
    (!(decide ((0 : Int) < (r.members.length : Int)) && !decide (r.id ∈ r.members)) && (!(r.acks.any (fun m => !decide (m ∈ r.members))) &&
    (bif leadsR r then decide (r.id ∈ r.acks) && (decide ((r.acks.length : Int) < (r.members.length : Int)) || decide (r.base = r.text)) else decide ((r.acks.length : Int) = 0) && decide (r.base = r.text))))
theorem num0 {n : Int} : (!decide (n = 0) && !numG n 1) = !numG n 0 := by
  simp only [numG]
  by_cases h1 : n = 0
  · subst h1; decide
  · have : decide (1 ≤ n) = decide (0 ≤ n) := decide_eq_decide.2 (by omega)
    simp [h1, this]
theorem rightG_eq (r : Rep) : rightG r = rightB r := by
  unfold rightG rightB
  rw [num0, num0]
  have hall : (!(r.acks.any (fun m => !decide (m ∈ r.members)))) = r.acks.all (fun m => decide (m ∈ r.members)) := by
    rw [List.all_eq_not_any_not]
  rw [hall]
  by_cases hm : SetP r.members
  · by_cases ha : SetP r.acks
    · cases hs : r.acks.all (fun m => decide (m ∈ r.members)) with
      | true => rw [all_len hm ha (by simpa using hs)]; simp only [Bool.true_and]
      | false => simp
    · simp [ha]
  · simp [hm]

def H66 (Pg : Nat → Option Fn) : Prop := Pg 66 = some (.code F66) ∧ H65 Pg
theorem K66 (h : H66 Pg) (r : Rep) (m : Int) (ok : r.Ok) : K' Pg 66 [iz m, .cptr (eRep r) 0] = some (.bool (!decide (m ∈ r.members))) := by
  obtain ⟨h, h65⟩ := h
  have k65 := K65 h65 r.members m ok.m
  simp only [eInts] at k65
  refine K'_code h rfl ?_
  simp only [go_sem, k65]

def H39 (Pg : Nat → Option Fn) : Prop := Pg 39 = some (.code F39) ∧ H63 Pg ∧ H64 Pg ∧ H65 Pg ∧ H66 Pg ∧ H67 Pg ∧ H68 Pg
theorem K39 (h : H39 Pg) (r : Rep) (ok : r.Ok) : K' Pg 39 [.agg (eRep r)] = some (.bool (rightB r)) := by
  rw [← rightG_eq]
  obtain ⟨h, h63, h64, h65, h66, h67, h68⟩ := h
  have k63 := fun x y => K63 h63 x y
  have k64m := K64 h64 r.members ok.m
  have k64a := K64 h64 r.acks ok.a
  have k65m := fun x => K65 h65 r.members x ok.m
  have k65a := fun x => K65 h65 r.acks x ok.a
  have k68 := K68 h68 r
  have k67 := K67 h67 r.acks 66 [.cptr (eRep r) 0] (fun m => !decide (m ∈ r.members)) ok.a rfl (fun x _ => K66 h66 r x ok)
  simp only [eInts, eRep] at k63 k64m k64a k65m k65a k68 k67
  refine K'_code h rfl ?_
  simp only [go_sem, k63, k64m, k64a, k65m, k65a, k68]
  repeat' (first | refine wrg_if (fun h => ?_) (fun h => ?_) <;> simp only [go_sem, h, k63, k64m, k64a, k65m, k65a, k68, k67, List.all_cons, List.all_nil] | refine wrg_it (fun h => ?_) (fun h => ?_) <;> simp only [go_sem, h, k63, k64m, k64a, k65m, k65a, k68, k67] | refine wpc_i (fun h => ?_) (fun h => ?_) <;> simp only [go_sem, h, k63, k64m, k64a, k65m, k65a, k68, k67])
  
  all_goals (simp_all only [rightG, Bool.not_eq_true', Bool.not_eq_false', Bool.not_true, Bool.not_false, Bool.or_true, Bool.true_or, Bool.or_false, Bool.false_or, Bool.and_true, Bool.true_and, Bool.and_false, Bool.false_and, cond_true, cond_false]; done)
end Sg
