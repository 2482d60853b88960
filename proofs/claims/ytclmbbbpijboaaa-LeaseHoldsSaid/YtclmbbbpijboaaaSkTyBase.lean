/- Typed arguments. -/
import Derived.Test.YtclmbbbpijboaaaSgLift2
import Derived.Test.YtclmbbbpijboaaaSgRun
namespace Sg
open _root_.Go
set_option linter.unusedSimpArgs false
set_option linter.unusedVariables false

theorem has_int {k : IntKind} {x : V} (h : Has (.int k) x) : ∃ n, x = .int k n ∧ (Lit.int k n).wf = true := by cases h; exact ⟨_, rfl, by assumption⟩
theorem has_bool {x : V} (h : Has .bool x) : ∃ b, x = .bool b := by cases h; exact ⟨_, rfl⟩
theorem has_str {x : V} (h : Has .str x) : ∃ s, x = .str s ∧ s.length ≤ maxLen := by cases h; exact ⟨_, rfl, by assumption⟩
theorem has_slice {r : List CT} {x : V} (h : Has (.slice r) x) : ∃ rows : List (List V), x = .slice r.length rows ∧ rows.length ≤ maxLen ∧ ∀ row ∈ rows, HasRow r row := by
  cases h with
  | slice r rows hl hz h =>
    refine ⟨rows, rfl, hl, fun row hrow => ?_⟩
    obtain ⟨i, hi, rfl⟩ := List.getElem_of_mem hrow
    have hg : gr rows i = rows[i] := by simp [gr, hi]
    exact ⟨by rw [← hg]; exact hz i hi, fun j hj => by rw [← hg]; exact h i j hi hj⟩

theorem rows_enc {α : Type} {enc : α → List V} {Q : α → Prop} : ∀ {rows : List (List V)}, (∀ row ∈ rows, ∃ a, row = enc a ∧ Q a) → ∃ l : List α, rows = l.map enc ∧ ∀ a ∈ l, Q a
  | [], _ => ⟨[], rfl, fun a ha => by simp at ha⟩
  | row :: rows, h => by
    obtain ⟨a, rfl, ha⟩ := h row (by simp)
    obtain ⟨l, rfl, hl⟩ := rows_enc (rows := rows) (fun r hr => h r (by simp [hr]))
    exact ⟨a :: l, rfl, fun b hb => by
      rcases List.mem_cons.1 hb with rfl | hb
      · exact ha
      · exact hl b hb⟩

theorem arg_int {x : V} (h : ArgV (false, [.int .i64]) x) : ∃ n, x = iz n ∧ (Lit.int .i64 n).wf = true := by
  obtain ⟨c, hc, h⟩ := h
  simp only [List.cons.injEq, and_true] at hc; subst hc
  exact has_int h
theorem arg_str {x : V} (h : ArgV (false, [.str]) x) : ∃ s, x = .str s ∧ s.length ≤ maxLen := by
  obtain ⟨c, hc, h⟩ := h
  simp only [List.cons.injEq, and_true] at hc; subst hc
  exact has_str h
theorem arg_bool {x : V} (h : ArgV (false, [.bool]) x) : ∃ s, x = .bool s := by
  obtain ⟨c, hc, h⟩ := h
  simp only [List.cons.injEq, and_true] at hc; subst hc
  exact has_bool h
end Sg
