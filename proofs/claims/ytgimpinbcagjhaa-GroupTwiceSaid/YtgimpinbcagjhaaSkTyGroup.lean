/- Typed arguments: numbers, texts, replicas, words. -/
import Derived.Test.YtgimpinbcagjhaaSkTy
import Derived.Test.YtgimpinbcagjhaaSkGroup2
namespace Sg
open _root_.Go
set_option linter.unusedSimpArgs false
set_option linter.unusedVariables false
abbrev tInts : CT := .slice [.int .i64]
abbrev tRep : List CT := [.int .i64, .int .i64, tInts, .int .i64, .str, .str, tInts]
abbrev tWord : List CT := [.int .i64, .int .i64, .int .i64, .int .i64, .int .i64, tInts, .str]

theorem has_ints {x : V} (h : Has tInts x) : ∃ l, x = eInts l ∧ l.length ≤ maxLen ∧ ∀ n ∈ l, (Lit.int .i64 n).wf = true := by
  obtain ⟨rows, rfl, hl, hr⟩ := has_slice h
  obtain ⟨l, rfl, hw⟩ := rows_enc (enc := fun a => [iz a]) (Q := fun n => (Lit.int .i64 n).wf = true) (fun row hrow => by
    obtain ⟨hl, hj⟩ := hr row hrow
    match row, hl with
    | [a], _ =>
      obtain ⟨n, hn, hw⟩ := has_int (hj 0 (by simp))
      simp [gv] at hn; subst hn
      exact ⟨n, rfl, hw⟩)
  exact ⟨l, rfl, by simpa using hl, hw⟩
theorem arg_int {x : V} (h : ArgV (false, [.int .i64]) x) : ∃ n, x = iz n ∧ (Lit.int .i64 n).wf = true := by
  obtain ⟨c, hc, h⟩ := h
  simp only [List.cons.injEq, and_true] at hc; subst hc
  exact has_int h
theorem arg_str {x : V} (h : ArgV (false, [.str]) x) : ∃ s, x = .str s ∧ s.length ≤ maxLen := by
  obtain ⟨c, hc, h⟩ := h
  simp only [List.cons.injEq, and_true] at hc; subst hc
  exact has_str h
theorem arg_bool {x : V} (h : ArgV (false, [.bool]) x) : ∃ s, x = .bool s := by
  obtain ⟨c, hc, h⟩ := h
  simp only [List.cons.injEq, and_true] at hc; subst hc
  exact has_bool h
theorem arg_ints {x : V} (h : ArgV (false, [tInts]) x) : ∃ l, x = eInts l ∧ l.length ≤ maxLen ∧ ∀ n ∈ l, (Lit.int .i64 n).wf = true := by
  obtain ⟨c, hc, h⟩ := h
  simp only [List.cons.injEq, and_true] at hc; subst hc
  exact has_ints h
theorem row_rep {xs : List V} (h : HasRow tRep xs) : ∃ s, xs = eRep s := by
  obtain ⟨hl, hj⟩ := h
  match xs, hl with
  | [a, b, c, d, e, f, g], _ =>
    obtain ⟨a', ha, -⟩ := has_int (hj 0 (by simp))
    obtain ⟨b', hb, -⟩ := has_int (hj 1 (by simp))
    obtain ⟨c', hc, -⟩ := has_ints (hj 2 (by simp))
    obtain ⟨d', hd, -⟩ := has_int (hj 3 (by simp))
    obtain ⟨e', he, -⟩ := has_str (hj 4 (by simp))
    obtain ⟨f', hf, -⟩ := has_str (hj 5 (by simp))
    obtain ⟨g', hg, -⟩ := has_ints (hj 6 (by simp))
    simp [gv] at ha hb hc hd he hf hg
    subst ha; subst hb; subst hc; subst hd; subst he; subst hf; subst hg
    exact ⟨⟨a', b', c', d', e', f', g'⟩, rfl⟩
theorem row_word {xs : List V} (h : HasRow tWord xs) : ∃ s, xs = eWord s := by
  obtain ⟨hl, hj⟩ := h
  match xs, hl with
  | [a, b, c, d, e, f, g], _ =>
    obtain ⟨a', ha, -⟩ := has_int (hj 0 (by simp))
    obtain ⟨b', hb, -⟩ := has_int (hj 1 (by simp))
    obtain ⟨c', hc, -⟩ := has_int (hj 2 (by simp))
    obtain ⟨d', hd, -⟩ := has_int (hj 3 (by simp))
    obtain ⟨e', he, -⟩ := has_int (hj 4 (by simp))
    obtain ⟨f', hf, -⟩ := has_ints (hj 5 (by simp))
    obtain ⟨g', hg, -⟩ := has_str (hj 6 (by simp))
    simp [gv] at ha hb hc hd he hf hg
    subst ha; subst hb; subst hc; subst hd; subst he; subst hf; subst hg
    exact ⟨⟨a', b', c', d', e', f', g'⟩, rfl⟩
theorem arg_rep {x : V} (h : ArgV (true, tRep) x) : ∃ s, x = .agg (eRep s) := by
  obtain ⟨xs, rfl, h⟩ := h
  obtain ⟨s, rfl⟩ := row_rep h
  exact ⟨s, rfl⟩
theorem arg_word {x : V} (h : ArgV (true, tWord) x) : ∃ s, x = .agg (eWord s) := by
  obtain ⟨xs, rfl, h⟩ := h
  obtain ⟨s, rfl⟩ := row_word h
  exact ⟨s, rfl⟩
end Sg
