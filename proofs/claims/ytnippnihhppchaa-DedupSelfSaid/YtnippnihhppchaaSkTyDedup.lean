/- Typed arguments: rows of what clients asked last. -/
import Derived.Test.YtnippnihhppchaaSkTyBase
import Derived.Test.YtnippnihhppchaaSkDedup
namespace Sg
open _root_.Go
set_option linter.unusedSimpArgs false
set_option linter.unusedVariables false
abbrev tItem : List CT := [.str, .str]
abbrev tAns : List CT := [.int .i64, .int .i64, .int .i64, .int .i64, .bool, .str, .slice tItem, .str, .bool]
abbrev tDone : List CT := [.int .i64, .int .i64, .int .i64, .int .i64, .int .i64, .int .i64, .bool, .str, .slice tItem, .str, .bool]
theorem has_items {x : V} (h : Has (.slice tItem) x) : ∃ l, x = eItems l ∧ l.length ≤ maxLen := by
  obtain ⟨rows, rfl, hl, hr⟩ := has_slice h
  obtain ⟨l, rfl, -⟩ := rows_enc (enc := eItem) (Q := fun _ => True) (fun row hrow => by
    obtain ⟨hl, hj⟩ := hr row hrow
    match row, hl with
    | [a, b], _ =>
      obtain ⟨s, hs, -⟩ := has_str (hj 0 (by simp))
      obtain ⟨t, ht, -⟩ := has_str (hj 1 (by simp))
      simp [gv] at hs ht; subst hs; subst ht
      exact ⟨(s, t), rfl, trivial⟩)
  exact ⟨l, rfl, by simpa using hl⟩
theorem row_done {xs : List V} (h : HasRow tDone xs) : ∃ s, xs = eDone s := by
  obtain ⟨hl, hj⟩ := h
  match xs, hl with
  | [x0, x1, x2, x3, x4, x5, x6, x7, x8, x9, x10], _ =>
    obtain ⟨y0, h0, -⟩ := has_int (hj 0 (by simp))
    obtain ⟨y1, h1, -⟩ := has_int (hj 1 (by simp))
    obtain ⟨y2, h2, -⟩ := has_int (hj 2 (by simp))
    obtain ⟨y3, h3, -⟩ := has_int (hj 3 (by simp))
    obtain ⟨y4, h4, -⟩ := has_int (hj 4 (by simp))
    obtain ⟨y5, h5, -⟩ := has_int (hj 5 (by simp))
    obtain ⟨y6, h6⟩ := has_bool (hj 6 (by simp))
    obtain ⟨y7, h7, -⟩ := has_str (hj 7 (by simp))
    obtain ⟨y8, h8, -⟩ := has_items (hj 8 (by simp))
    obtain ⟨y9, h9, -⟩ := has_str (hj 9 (by simp))
    obtain ⟨y10, h10⟩ := has_bool (hj 10 (by simp))
    simp [gv] at h0 h1 h2 h3 h4 h5 h6 h7 h8 h9 h10
    subst h0; subst h1; subst h2; subst h3; subst h4; subst h5; subst h6; subst h7; subst h8; subst h9; subst h10
    exact ⟨⟨y0, y1, ⟨y2, ⟨y3, y4, y5⟩, y6, y7, y8, y9, y10⟩⟩, rfl⟩
theorem arg_done {x : V} (h : ArgV (true, tDone) x) : ∃ s, x = .agg (eDone s) := by
  obtain ⟨xs, rfl, h⟩ := h
  obtain ⟨s, rfl⟩ := row_done h
  exact ⟨s, rfl⟩
theorem arg_dones {x : V} (h : ArgV (false, [.slice tDone]) x) : ∃ l, x = eDones l ∧ l.length ≤ maxLen := by
  obtain ⟨c, hc, h⟩ := h
  simp only [List.cons.injEq, and_true] at hc
  subst hc
  obtain ⟨rows, rfl, hl, hr⟩ := has_slice h
  obtain ⟨l, rfl, -⟩ := rows_enc (enc := eDone) (Q := fun _ => True) (fun row hrow => by obtain ⟨v, hv⟩ := row_done (hr row hrow); exact ⟨v, hv, trivial⟩)
  exact ⟨l, rfl, by simpa using hl⟩
end Sg
