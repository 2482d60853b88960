/- More rules to run code by rewriting: closures, strings, arrays. -/
import Derived.Test.YtclmbbbpijboaaaSgRun
namespace Sg
def datO : Option (List V × Bool) → Bool
  | some m => m.1.all V.datC
  | none => true
theorem datsite_o {μ s} : datSite μ s = datO (μ s) := rfl
theorem dato_s {cs b} : datO (some (cs, b)) = cs.all V.datC := rfl
def capO (s : Nat) (sites : List Nat) : Option (List V × Bool) → Option V
  | some (cs, _) => if sites.contains s ∧ cs.all V.datC then some (.cptr cs 0) else none
  | none => none
theorem capv_l {μ sites s} : capV μ sites (.lref s 0) = capO s sites (μ s) := by
  unfold capV capO; rfl
theorem capo_s {s sites cs b} : capO s sites (some (cs, b)) = if sites.contains s ∧ cs.all V.datC then some (.cptr cs 0) else none := rfl
theorem capv_i {μ sites k n} : capV μ sites (.int k n) = some (.int k n) := rfl
theorem capv_b {μ sites n} : capV μ sites (.bool n) = some (.bool n) := rfl
theorem capv_s {μ sites n} : capV μ sites (.str n) = some (.str n) := rfl
theorem capv_r {μ sites z n} : capV μ sites (.slice z n) = some (.slice z n) := rfl
theorem frzm_nil {μ} : frzM μ [] = μ := rfl
theorem frzm_cons {μ s l} : frzM μ (s :: l) = frzM (upd μ s ((μ s).map fun m => (m.1, true))) l := rfl
theorem mapo_nil {α β : Type} {f : α → Option β} : mapO f [] = some [] := rfl
theorem mapo_cons {α β : Type} {f : α → Option β} {x xs} : mapO f (x :: xs) = (f x).bind fun y => (mapO f xs).bind fun ys => some (y :: ys) := rfl
def stE (S : St) (s i off m : Nat) (xs : List V) : Option (Nat × List (List V) × Fz) → Option St
  | some (z, rows, .live) => if rows.length = m then (rows[i]?).bind fun r => (setAt r off xs).bind fun r' => some { S with A := upd S.A s (some (z, rows.set i r', .live)) } else none
  | _ => none
theorem ste_s {S : St} {s i off m : Nat} {xs : List V} {z rows} : stE S s i off m xs (some (z, rows, .live)) = if rows.length = m then (rows[i]?).bind fun r => (setAt r off xs).bind fun r' => some ⟨S.ρ, S.μ, upd S.A s (some (z, rows.set i r', .live))⟩ else none := rfl
theorem st_e {S : St} {s n i off m x} : storeV S (.e s) n (.eref s i off m) x = x.cells.bind fun xs => if xs.length = n then (if xs.all V.datC then stE S s i off m xs (S.A s) else none) else none := by
  unfold storeV
  congr 1; funext xs
  split
  · simp only [true_and]
    split
    · unfold stE; rfl
    · rfl
  · rfl
def insA (S : St) (s z n k : Nat) (ys : List (List V)) : Option (Nat × List (List V) × Fz) → Option (V × St)
  | some (z3, rows, .live) => if z3 = z ∧ rows.length = n ∧ k ≤ n ∧ rows.length + ys.length ≤ lim then
      some (.own s z (rows.length + ys.length), { S with A := upd S.A s (some (z, rows.take k ++ (ys ++ rows.drop k), .live)) }) else none
  | _ => none
theorem insa_s {S : St} {s z n k : Nat} {ys rows} : insA S s z n k ys (some (z, rows, .live)) = if rows.length = n ∧ k ≤ n ∧ rows.length + ys.length ≤ lim then
      some (.own s z (rows.length + ys.length), ⟨S.ρ, S.μ, upd S.A s (some (z, rows.take k ++ (ys ++ rows.drop k), .live))⟩) else none := by simp [insA]
def insV (S : St) (s z : Nat) : V → V → V → Option (V × St)
  | .own s' z' n, .int .i64 k, .slice z'' ys => if s' = s ∧ z' = z ∧ z'' = z then (if 0 ≤ k then insA S s z n k.toNat ys (S.A s) else none) else none
  | _, _, _ => none
theorem insv_o {S : St} {s z n k : Nat} {ys} : insV S s z (.own s z n) (.int .i64 (k : Int)) (.slice z ys) = insA S s z n k ys (S.A s) := by simp [insV]
def delA (S : St) (d s z n k m : Nat) : Option (Nat × List (List V) × Fz) → Option (Nat × List (List V) × Fz) → Option (V × St)
  | some (z3, rows, .live), none => if z3 = z ∧ rows.length = n ∧ k ≤ m ∧ m ≤ n ∧ n ≤ lim then
      some (.own d z (rows.take k ++ rows.drop m).length, { S with A := upd (upd S.A s (some (z, [], .dead))) d (some (z, rows.take k ++ rows.drop m, .live)) }) else none
  | _, _ => none
theorem dela_s {S : St} {d s z n k m : Nat} {rows} : delA S d s z n k m (some (z, rows, .live)) none = if rows.length = n ∧ k ≤ m ∧ m ≤ n ∧ n ≤ lim then
      some (.own d z (rows.take k ++ rows.drop m).length, ⟨S.ρ, S.μ, upd (upd S.A s (some (z, [], .dead))) d (some (z, rows.take k ++ rows.drop m, .live))⟩) else none := by simp [delA]
def delV (S : St) (d s z : Nat) : V → V → V → Option (V × St)
  | .own s' z' n, .int .i64 k, .int .i64 m => if s' = s ∧ z' = z then (if 0 ≤ k ∧ 0 ≤ m then delA S d s z n k.toNat m.toNat (S.A s) (S.A d) else none) else none
  | _, _, _ => none
theorem delv_o {S : St} {d s z n k m : Nat} : delV S d s z (.own s z n) (.int .i64 (k : Int)) (.int .i64 (m : Int)) = delA S d s z n k m (S.A s) (S.A d) := by simp [delV]
section
variable {κ : Nat → List V → Option V} {S : St} {Q : St → Prop} {e : Nat → V} {i : Nat} {ops : List Op}
theorem wr_ins {dst : Option Nat} {gl : Bool} {f s z : Nat} {x y j : Arg} : Wr κ (⟨dst, gl, .ins f s z x j y, none⟩ :: ops) i e S Q = WrO κ dst gl ops i e Q (insV S s z (argv e S.ρ x) (argv e S.ρ j) (argv e S.ρ y)) := by
  rw [wr_op]
  congr 1
  simp only [ev, insV]
  split
  · rename_i s' z' n k z'' ys h1 h2 h3
    rw [h1, h2, h3]
    simp only
    split
    · unfold insA
      by_cases hk : 0 ≤ k
      · have e1 : ∀ n : Nat, (k ≤ (n : Int)) = (k.toNat ≤ n) := fun n => propext (by omega)
        simp only [hk, true_and, if_true, e1]
        rcases S.A s with _ | ⟨z3, rows, fz⟩
        · rfl
        · cases fz <;> rfl
      · simp only [hk, false_and, and_false, if_false]
        rcases S.A s with _ | ⟨z3, rows, fz⟩
        · rfl
        · cases fz <;> simp
    · rfl
  · rename_i h
    split
    · rename_i s' z' n k z'' ys h1 h2 h3; exact absurd h3 (h s' z' n k z'' ys h1 h2)
    · rfl
theorem wr_del {dst : Option Nat} {gl : Bool} {f s z : Nat} {x y j : Arg} : Wr κ (⟨dst, gl, .del f s z x j y, none⟩ :: ops) i e S Q = WrO κ dst gl ops i e Q (delV S (dst.getD 0) s z (argv e S.ρ x) (argv e S.ρ j) (argv e S.ρ y)) := by
  rw [wr_op]
  congr 1
  simp only [ev, delV]
  split
  · rename_i s' z' n k m h1 h2 h3
    rw [h1, h2, h3]
    simp only
    split
    · unfold delA
      by_cases hk : 0 ≤ k
      · by_cases hm : 0 ≤ m
        · have e1 : (k ≤ m) = (k.toNat ≤ m.toNat) := propext (by omega)
          have e2 : ∀ n : Nat, (m ≤ (n : Int)) = (m.toNat ≤ n) := fun n => propext (by omega)
          simp only [hk, hm, and_self, true_and, if_true, e1, e2]
          rcases S.A s with _ | ⟨z3, rows, fz⟩
          · rfl
          · cases fz <;> cases S.A (dst.getD 0) <;> rfl
        · have e3 : ∀ (p q : Prop), (p ∧ q ∧ k ≤ m) ↔ False := fun p q => ⟨fun h => by omega, fun h => h.elim⟩
          have e4 : ¬ (k ≤ m) := by omega
          simp only [hk, hm, e4, and_false, false_and, if_false]
          rcases S.A s with _ | ⟨z3, rows, fz⟩
          · rfl
          · cases fz <;> cases S.A (dst.getD 0) <;> simp
      · simp only [hk, false_and, and_false, if_false]
        rcases S.A s with _ | ⟨z3, rows, fz⟩
        · rfl
        · cases fz <;> cases S.A (dst.getD 0) <;> simp
    · rfl
  · rename_i h
    split
    · rename_i s' z' n k m h1 h2 h3; exact absurd h3 (h s' z' n k m h1 h2)
    · rfl
end
theorem iad_r0 {z rows k} : iadV z (.slice z rows) (.int k 0) = (rows[0]?).map fun r => .cptr r 0 := by simp [iadV]
theorem iad_r1 {z rows k} : iadV z (.slice z rows) (.int k 1) = (rows[1]?).map fun r => .cptr r 0 := by simp [iadV]
theorem iad_r2 {z rows k} : iadV z (.slice z rows) (.int k 2) = (rows[2]?).map fun r => .cptr r 0 := by simp [iadV]
theorem bound_0 {k d} : bound (some (.int k 0)) d = some 0 := rfl
theorem bound_1 {k d} : bound (some (.int k 1)) d = some 1 := rfl
theorem bound_2 {k d} : bound (some (.int k 2)) d = some 2 := rfl
attribute [go_sem] iad_r0 iad_r1 iad_r2 bound_0 bound_1 bound_2
attribute [go_sem] ste_s st_e insa_s insv_o dela_s delv_o
attribute [go_sem high] wr_ins wr_del
attribute [go_sem] datsite_o dato_s capv_l capo_s capv_i capv_b capv_s capv_r frzm_nil frzm_cons
end Sg
