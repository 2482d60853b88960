/- Typed arguments: leases, acts. -/
import Derived.Test.YtclmbbbpijboaaaSkTy
import Derived.Test.YtclmbbbpijboaaaSkLaw16d
namespace Sg
open _root_.Go
set_option linter.unusedSimpArgs false
set_option linter.unusedVariables false
abbrev tLse : List CT := [.int .i64, .int .i64, .int .i64, .int .i64, .int .i64]
abbrev tLAct : List CT := [.int .i64, .int .i64, .int .i64, .slice tStamp]
theorem row_lse {xs : List V} (h : HasRow tLse xs) : ∃ s, xs = eLse s := by
  obtain ⟨hl, hj⟩ := h
  match xs, hl with
  | [x0, x1, x2, x3, x4], _ =>
    obtain ⟨y0, h0, -⟩ := has_int (hj 0 (by simp))
    obtain ⟨y1, h1, -⟩ := has_int (hj 1 (by simp))
    obtain ⟨y2, h2, -⟩ := has_int (hj 2 (by simp))
    obtain ⟨y3, h3, -⟩ := has_int (hj 3 (by simp))
    obtain ⟨y4, h4, -⟩ := has_int (hj 4 (by simp))
    simp [gv] at h0 h1 h2 h3 h4
    subst h0; subst h1; subst h2; subst h3; subst h4
    exact ⟨⟨y0, y1, ⟨y2, y3, y4⟩⟩, rfl⟩
theorem has_stamps {x : V} (h : Has (.slice tStamp) x) : ∃ l, x = eStamps l ∧ l.length ≤ maxLen := by
  obtain ⟨rows, rfl, hl, hr⟩ := has_slice h
  obtain ⟨l, rfl, -⟩ := rows_enc (enc := eStamp) (Q := fun _ => True) (fun row hrow => by obtain ⟨v, hv⟩ := row_stamp (hr row hrow); exact ⟨v, hv, trivial⟩)
  exact ⟨l, rfl, by simpa using hl⟩
theorem row_act {xs : List V} (h : HasRow tLAct xs) : ∃ s, xs = eAct s := by
  obtain ⟨hl, hj⟩ := h
  match xs, hl with
  | [x0, x1, x2, x3], _ =>
    obtain ⟨y0, h0, -⟩ := has_int (hj 0 (by simp))
    obtain ⟨y1, h1, -⟩ := has_int (hj 1 (by simp))
    obtain ⟨y2, h2, -⟩ := has_int (hj 2 (by simp))
    obtain ⟨y3, h3, -⟩ := has_stamps (hj 3 (by simp))
    simp [gv] at h0 h1 h2 h3
    subst h0; subst h1; subst h2; subst h3
    exact ⟨⟨y0, y1, y2, y3⟩, rfl⟩
theorem arg_leases {x : V} (h : ArgV (false, [.slice tLse]) x) : ∃ l, x = eLses l ∧ l.length ≤ maxLen := by
  obtain ⟨c, hc, h⟩ := h
  simp only [List.cons.injEq, and_true] at hc
  subst hc
  obtain ⟨rows, rfl, hl, hr⟩ := has_slice h
  obtain ⟨l, rfl, -⟩ := rows_enc (enc := eLse) (Q := fun _ => True) (fun row hrow => by obtain ⟨v, hv⟩ := row_lse (hr row hrow); exact ⟨v, hv, trivial⟩)
  exact ⟨l, rfl, by simpa using hl⟩
theorem arg_stamps {x : V} (h : ArgV (false, [.slice tStamp]) x) : ∃ l, x = eStamps l ∧ l.length ≤ maxLen := by
  obtain ⟨c, hc, h⟩ := h
  simp only [List.cons.injEq, and_true] at hc
  subst hc
  exact has_stamps h
theorem arg_lacts {x : V} (h : ArgV (false, [.slice tLAct]) x) : ∃ l, x = eActs l ∧ l.length ≤ maxLen := by
  obtain ⟨c, hc, h⟩ := h
  simp only [List.cons.injEq, and_true] at hc
  subst hc
  obtain ⟨rows, rfl, hl, hr⟩ := has_slice h
  obtain ⟨l, rfl, -⟩ := rows_enc (enc := eAct) (Q := fun _ => True) (fun row hrow => by obtain ⟨v, hv⟩ := row_act (hr row hrow); exact ⟨v, hv, trivial⟩)
  exact ⟨l, rfl, by simpa using hl⟩
end Sg
