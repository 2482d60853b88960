/- Small facts on numbers and lists. -/
import Derived.Test.YtclmbbbpijboaaaSgRun
namespace Sg
open _root_.Go (IntKind BinOp UnOp)
set_option linter.unusedSimpArgs false
set_option linter.unusedVariables false

theorem lt_of {i n : Nat} (h : decide ((i : Int) < (n : Int)) = true) : i < n := by simpa using h
theorem eq_of {i n : Nat} (hi : i ≤ n) (h : decide ((i : Int) < (n : Int)) = false) : i = n := by
  have : ¬ i < n := by simpa using h
  omega
theorem inc64 {i n : Nat} (h : i < n) (hn : n < 2 ^ 60) : IntKind.i64.wrap ((i : Int) + 1) = ((i + 1 : Nat) : Int) := wrap64 (by omega) (by omega)
theorem dec64 {n : Nat} (h : 0 < n) (hn : n < 2 ^ 60) : IntKind.i64.wrap ((n : Int) - 1) = ((n - 1 : Nat) : Int) := by rw [wrap64 (by omega) (by omega)]; omega
theorem take_s {α : Type} {l : List α} {i : Nat} {x : α} (h : l[i]? = some x) : l.take (i + 1) = l.take i ++ [x] := by rw [List.take_add_one, h]; rfl
theorem take_all {α : Type} {l : List α} {i : Nat} (h : i = l.length) : l.take i = l := by rw [h, List.take_length]

theorem posd {n : Nat} : decide ((0 : Int) < (n : Int)) = !decide (n = 0) := by cases n <;> simp
theorem zerd {n : Nat} : decide ((n : Int) = 0) = decide (n = 0) := decide_eq_decide.2 (by omega)
theorem pos_len {n : Nat} : decide ((0 : Int) < ((n + 1 : Nat) : Int)) = true := by simp
theorem gt100' {n : Nat} : decide ((100 : Int) < (n : Int)) = !decide (n ≤ 100) := by
  by_cases h : n ≤ 100 <;> simp [h] <;> omega
theorem led {a b : Nat} : decide ((a : Int) ≤ (b : Int)) = decide (a ≤ b) := decide_eq_decide.2 (by omega)
theorem ltd {a b : Nat} : decide ((a : Int) < (b : Int)) = decide (a < b) := decide_eq_decide.2 (by omega)
end Sg
