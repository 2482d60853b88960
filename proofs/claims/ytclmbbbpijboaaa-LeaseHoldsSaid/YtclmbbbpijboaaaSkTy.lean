/- Typed arguments: stamps, versions, chains. -/
import Derived.Test.YtclmbbbpijboaaaSkTyBase
import Derived.Test.YtclmbbbpijboaaaSkChain
namespace Sg
open _root_.Go
set_option linter.unusedSimpArgs false
set_option linter.unusedVariables false

abbrev tStamp : List CT := [.int .i64, .int .i64, .int .i64]
abbrev tVer : List CT := [.int .i64, .int .i64, .int .i64, .bool, .str]

theorem row_stamp {xs : List V} (h : HasRow tStamp xs) : ∃ s, xs = eStamp s := by
  obtain ⟨hl, hj⟩ := h
  match xs, hl with
  | [a, b, c], _ =>
    obtain ⟨x, rfl, -⟩ := has_int (hj 0 (by simp))
    obtain ⟨y, rfl, -⟩ := has_int (hj 1 (by simp))
    obtain ⟨z, rfl, -⟩ := has_int (hj 2 (by simp))
    exact ⟨⟨x, y, z⟩, rfl⟩

theorem row_ver {xs : List V} (h : HasRow tVer xs) : ∃ v, xs = eVer v := by
  obtain ⟨hl, hj⟩ := h
  match xs, hl with
  | [a, b, c, d, e], _ =>
    obtain ⟨x, hx, -⟩ := has_int (hj 0 (by simp))
    obtain ⟨y, hy, -⟩ := has_int (hj 1 (by simp))
    obtain ⟨z, hz, -⟩ := has_int (hj 2 (by simp))
    obtain ⟨g, hg⟩ := has_bool (hj 3 (by simp))
    obtain ⟨s, hs, -⟩ := has_str (hj 4 (by simp))
    simp [gv] at hx hy hz hg hs
    subst hx; subst hy; subst hz; subst hg; subst hs
    exact ⟨⟨⟨x, y, z⟩, g, s⟩, rfl⟩

theorem arg_stamp {x : V} (h : ArgV (true, tStamp) x) : ∃ s, x = .agg (eStamp s) := by
  obtain ⟨xs, rfl, h⟩ := h
  obtain ⟨s, rfl⟩ := row_stamp h
  exact ⟨s, rfl⟩
theorem arg_ver {x : V} (h : ArgV (true, tVer) x) : ∃ s, x = .agg (eVer s) := by
  obtain ⟨xs, rfl, h⟩ := h
  obtain ⟨s, rfl⟩ := row_ver h
  exact ⟨s, rfl⟩
theorem arg_chain {x : V} (h : ArgV (false, [.slice tVer]) x) : ∃ l, x = eChain l ∧ l.length ≤ maxLen := by
  obtain ⟨c, hc, h⟩ := h
  simp only [List.cons.injEq, and_true] at hc
  subst hc
  obtain ⟨rows, rfl, hl, hr⟩ := has_slice h
  obtain ⟨l, rfl, -⟩ := rows_enc (enc := eVer) (Q := fun _ => True) (fun row hrow => by obtain ⟨v, hv⟩ := row_ver (hr row hrow); exact ⟨v, hv, trivial⟩)
  exact ⟨l, rfl, by simpa using hl⟩
end Sg
