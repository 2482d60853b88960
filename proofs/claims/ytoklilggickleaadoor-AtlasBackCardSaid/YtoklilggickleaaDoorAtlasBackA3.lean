/- AtlasBack, at every input: proved over a checked abstract run of the translated code; no condition. Part 3 of 3. -/
import Derived.DataReads
import Derived.WideShapes
import Derived.ChangeSlices
import Derived.ChangeSame
import Derived.JoinedOf
import Derived.JoinedAt
import Derived.Carry
import Derived.Test.YtoklilggickleaaDoorCards
import Derived.Test.YtoklilggickleaaDoorTie
import Derived.ProofKit
import Derived.OpenShut
import Derived.Lib.LaidIn
import Derived.Lib.LaidTab
import Derived.Deep.DeepHandedRow
import Derived.Deep.DeepWitnessRowRef
import Derived.Test.YtoklilggickleaaDoorRows
import Derived.Test.YtoklilggickleaaDoorAtlasBackA2
namespace Sg
def datO : Option (List V × Bool) → Bool
  | some m => m.1.all V.datC
  | none => true
theorem datsite_o {μ s} : datSite μ s = datO (μ s) := rfl
theorem dato_s {cs b} : datO (some (cs, b)) = cs.all V.datC := rfl
def capO (s : Nat) (sites : List Nat) : Option (List V × Bool) → Option V
  | some (cs, _) => if sites.contains s ∧ cs.all V.datC then some (.cptr cs 0) else none
  | none => none
theorem capv_l {μ sites s} : capV μ sites (.lref s 0) = capO s sites (μ s) := by
  unfold capV capO; rfl
theorem capo_s {s sites cs b} : capO s sites (some (cs, b)) = if sites.contains s ∧ cs.all V.datC then some (.cptr cs 0) else none := rfl
theorem capv_i {μ sites k n} : capV μ sites (.int k n) = some (.int k n) := rfl
theorem capv_b {μ sites n} : capV μ sites (.bool n) = some (.bool n) := rfl
theorem capv_s {μ sites n} : capV μ sites (.str n) = some (.str n) := rfl
theorem capv_r {μ sites z n} : capV μ sites (.slice z n) = some (.slice z n) := rfl
theorem frzm_nil {μ} : frzM μ [] = μ := rfl
theorem frzm_cons {μ s l} : frzM μ (s :: l) = frzM (upd μ s ((μ s).map fun m => (m.1, true))) l := rfl
def stE (S : St) (s i off m : Nat) (xs : List V) : Option (Nat × List (List V) × Fz) → Option St
  | some (z, rows, .live) => if rows.length = m then (rows[i]?).bind fun r => (setAt r off xs).bind fun r' => some { S with A := upd S.A s (some (z, rows.set i r', .live)) } else none
  | _ => none
theorem ste_s {S : St} {s i off m : Nat} {xs : List V} {z rows} : stE S s i off m xs (some (z, rows, .live)) = if rows.length = m then (rows[i]?).bind fun r => (setAt r off xs).bind fun r' => some ⟨S.ρ, S.μ, upd S.A s (some (z, rows.set i r', .live))⟩ else none := rfl
theorem st_e {S : St} {s n i off m x} : storeV S (.e s) n (.eref s i off m) x = x.cells.bind fun xs => if xs.length = n then (if xs.all V.datC then stE S s i off m xs (S.A s) else none) else none := by
  unfold storeV
  congr 1; funext xs
  split
  · simp only [true_and]
    split
    · unfold stE; rfl
    · rfl
  · rfl
def insA (S : St) (s z n k : Nat) (ys : List (List V)) : Option (Nat × List (List V) × Fz) → Option (V × St)
  | some (z3, rows, .live) => if z3 = z ∧ rows.length = n ∧ k ≤ n ∧ rows.length + ys.length ≤ lim then
      some (.own s z (rows.length + ys.length), { S with A := upd S.A s (some (z, rows.take k ++ (ys ++ rows.drop k), .live)) }) else none
  | _ => none
theorem insa_s {S : St} {s z n k : Nat} {ys rows} : insA S s z n k ys (some (z, rows, .live)) = if rows.length = n ∧ k ≤ n ∧ rows.length + ys.length ≤ lim then
      some (.own s z (rows.length + ys.length), ⟨S.ρ, S.μ, upd S.A s (some (z, rows.take k ++ (ys ++ rows.drop k), .live))⟩) else none := by simp [insA]
def insV (S : St) (s z : Nat) : V → V → V → Option (V × St)
  | .own s' z' n, .int .i64 k, .slice z'' ys => if s' = s ∧ z' = z ∧ z'' = z then (if 0 ≤ k then insA S s z n k.toNat ys (S.A s) else none) else none
  | _, _, _ => none
theorem insv_o {S : St} {s z n k : Nat} {ys} : insV S s z (.own s z n) (.int .i64 (k : Int)) (.slice z ys) = insA S s z n k ys (S.A s) := by simp [insV]
def delA (S : St) (d s z n k m : Nat) : Option (Nat × List (List V) × Fz) → Option (Nat × List (List V) × Fz) → Option (V × St)
  | some (z3, rows, .live), none => if z3 = z ∧ rows.length = n ∧ k ≤ m ∧ m ≤ n ∧ n ≤ lim then
      some (.own d z (rows.take k ++ rows.drop m).length, { S with A := upd (upd S.A s (some (z, [], .dead))) d (some (z, rows.take k ++ rows.drop m, .live)) }) else none
  | _, _ => none
theorem dela_s {S : St} {d s z n k m : Nat} {rows} : delA S d s z n k m (some (z, rows, .live)) none = if rows.length = n ∧ k ≤ m ∧ m ≤ n ∧ n ≤ lim then
      some (.own d z (rows.take k ++ rows.drop m).length, ⟨S.ρ, S.μ, upd (upd S.A s (some (z, [], .dead))) d (some (z, rows.take k ++ rows.drop m, .live))⟩) else none := by simp [delA]
def delV (S : St) (d s z : Nat) : V → V → V → Option (V × St)
  | .own s' z' n, .int .i64 k, .int .i64 m => if s' = s ∧ z' = z then (if 0 ≤ k ∧ 0 ≤ m then delA S d s z n k.toNat m.toNat (S.A s) (S.A d) else none) else none
  | _, _, _ => none
theorem delv_o {S : St} {d s z n k m : Nat} : delV S d s z (.own s z n) (.int .i64 (k : Int)) (.int .i64 (m : Int)) = delA S d s z n k m (S.A s) (S.A d) := by simp [delV]
section
variable {κ : Nat → List V → Option V} {S : St} {Q : St → Prop} {e : Nat → V} {i : Nat} {ops : List Op}
theorem wr_ins {dst : Option Nat} {gl : Bool} {f s z : Nat} {x y j : Arg} : Wr κ (⟨dst, gl, .ins f s z x j y, none⟩ :: ops) i e S Q = WrO κ dst gl ops i e Q (insV S s z (argv e S.ρ x) (argv e S.ρ j) (argv e S.ρ y)) := by
  rw [wr_op]
  congr 1
  simp only [ev, insV]
  split
  · rename_i s' z' n k z'' ys h1 h2 h3
    rw [h1, h2, h3]
    simp only
    split
    · unfold insA
      by_cases hk : 0 ≤ k
      · have e1 : ∀ n : Nat, (k ≤ (n : Int)) = (k.toNat ≤ n) := fun n => propext (by omega)
        simp only [hk, true_and, if_true, e1]
        rcases S.A s with _ | ⟨z3, rows, fz⟩
        · rfl
        · cases fz <;> rfl
      · simp only [hk, false_and, and_false, if_false]
        rcases S.A s with _ | ⟨z3, rows, fz⟩
        · rfl
        · cases fz <;> simp
    · rfl
  · rename_i h
    split
    · rename_i s' z' n k z'' ys h1 h2 h3; exact absurd h3 (h s' z' n k z'' ys h1 h2)
    · rfl
theorem wr_del {dst : Option Nat} {gl : Bool} {f s z : Nat} {x y j : Arg} : Wr κ (⟨dst, gl, .del f s z x j y, none⟩ :: ops) i e S Q = WrO κ dst gl ops i e Q (delV S (dst.getD 0) s z (argv e S.ρ x) (argv e S.ρ j) (argv e S.ρ y)) := by
  rw [wr_op]
  congr 1
  simp only [ev, delV]
  split
  · rename_i s' z' n k m h1 h2 h3
    rw [h1, h2, h3]
    simp only
    split
    · unfold delA
      by_cases hk : 0 ≤ k
      · by_cases hm : 0 ≤ m
        · have e1 : (k ≤ m) = (k.toNat ≤ m.toNat) := propext (by omega)
          have e2 : ∀ n : Nat, (m ≤ (n : Int)) = (m.toNat ≤ n) := fun n => propext (by omega)
          simp only [hk, hm, and_self, true_and, if_true, e1, e2]
          rcases S.A s with _ | ⟨z3, rows, fz⟩
          · rfl
          · cases fz <;> cases S.A (dst.getD 0) <;> rfl
        · have e3 : ∀ (p q : Prop), (p ∧ q ∧ k ≤ m) ↔ False := fun p q => ⟨fun h => by omega, fun h => h.elim⟩
          have e4 : ¬ (k ≤ m) := by omega
          simp only [hk, hm, e4, and_false, false_and, if_false]
          rcases S.A s with _ | ⟨z3, rows, fz⟩
          · rfl
          · cases fz <;> cases S.A (dst.getD 0) <;> simp
      · simp only [hk, false_and, and_false, if_false]
        rcases S.A s with _ | ⟨z3, rows, fz⟩
        · rfl
        · cases fz <;> cases S.A (dst.getD 0) <;> simp
    · rfl
  · rename_i h
    split
    · rename_i s' z' n k m h1 h2 h3; exact absurd h3 (h s' z' n k m h1 h2)
    · rfl
end
theorem iad_r0 {z rows k} : iadV z (.slice z rows) (.int k 0) = (rows[0]?).map fun r => .cptr r 0 := by simp [iadV]
theorem iad_r1 {z rows k} : iadV z (.slice z rows) (.int k 1) = (rows[1]?).map fun r => .cptr r 0 := by simp [iadV]
theorem iad_r2 {z rows k} : iadV z (.slice z rows) (.int k 2) = (rows[2]?).map fun r => .cptr r 0 := by simp [iadV]
theorem bound_0 {k d} : bound (some (.int k 0)) d = some 0 := rfl
theorem bound_1 {k d} : bound (some (.int k 1)) d = some 1 := rfl
theorem bound_2 {k d} : bound (some (.int k 2)) d = some 2 := rfl
attribute [go_sem] iad_r0 iad_r1 iad_r2 bound_0 bound_1 bound_2
attribute [go_sem] ste_s st_e insa_s insv_o dela_s delv_o
attribute [go_sem high] wr_ins wr_del
attribute [go_sem] datsite_o dato_s capv_l capo_s capv_i capv_b capv_s capv_r frzm_nil frzm_cons
end Sg
namespace Sg
open _root_.Go
set_option linter.unusedSimpArgs false
set_option linter.unusedVariables false
theorem decodeN_w (n a b c d : Nat) : 1 ≤ (Lib.decodeN n a b c d).2 ∧ (Lib.decodeN n a b c d).2 ≤ 4 := by
  unfold Lib.decodeN
  repeat' split
  all_goals simp
theorem dN_pos (l : List UInt8) : 1 ≤ (dN l).2 := (decodeN_w ..).1
def bad (l : List UInt8) : Bool := decide (dN l = (65533, 1))
def letsF : Nat → List UInt8 → List Int
  | 0, _ => []
  | f + 1, l => if l = [] then [] else ((dN l).1 : Int) :: letsF f (l.drop (dN l).2)
def lets (l : List UInt8) : List Int := letsF l.length l
theorem drop_lt {l : List UInt8} (h : l ≠ []) : (l.drop (dN l).2).length < l.length := by
  have := dN_pos l
  have : 0 < l.length := List.length_pos_iff.2 h
  rw [List.length_drop]; omega
theorem letsF_eq : ∀ (f : Nat) (l : List UInt8), l.length ≤ f → letsF f l = lets l
  | 0, l, h => by
    obtain rfl : l = [] := List.eq_nil_of_length_eq_zero (by omega)
    rfl
  | f + 1, l, h => by
    by_cases hl : l = []
    · subst hl; simp [letsF, lets]
    · have hd := drop_lt hl
      have h1 := letsF_eq f (l.drop (dN l).2) (by omega)
      obtain ⟨n, hn⟩ : ∃ n, l.length = n + 1 := ⟨l.length - 1, by omega⟩
      have h2 : letsF n (l.drop (dN l).2) = lets (l.drop (dN l).2) := letsF_eq n _ (by omega)
      have e : lets l = ((dN l).1 : Int) :: letsF n (l.drop (dN l).2) := by
        rw [lets, hn]; simp only [letsF, hl, if_false]
      rw [e, h2]
      simp only [letsF, hl, if_false, h1]
  termination_by f => f
theorem lets_nil : lets [] = [] := rfl
theorem lets_cons {l : List UInt8} (h : l ≠ []) : lets l = ((dN l).1 : Int) :: lets (l.drop (dN l).2) := by
  have hd := drop_lt h
  obtain ⟨n, hn⟩ : ∃ n, l.length = n + 1 := ⟨l.length - 1, by omega⟩
  rw [lets, hn]
  simp only [letsF, h, if_false]
  rw [letsF_eq n _ (by omega)]
theorem keyAll_eq : ∀ (f : Nat) (l : List UInt8), l.length ≤ f → keyAll f l = keyAll l.length l
  | 0, l, h => by
    obtain rfl : l = [] := List.eq_nil_of_length_eq_zero (by omega)
    rfl
  | f + 1, l, h => by
    by_cases hl : l = []
    · subst hl; simp [keyAll]
    · have hd := drop_lt hl
      have h1 := keyAll_eq f (l.drop (dN l).2) (by omega)
      obtain ⟨n, hn⟩ : ∃ n, l.length = n + 1 := ⟨l.length - 1, by omega⟩
      have h2 := keyAll_eq n (l.drop (dN l).2) (by omega)
      have e : keyAll l.length l = (plainR (dN l).1 (dN l).2 && keyAll n (l.drop (dN l).2)) := by
        rw [hn]; simp only [keyAll, hl, if_false]
      rw [e, h2]
      simp only [keyAll, hl, if_false, h1]
  termination_by f => f
theorem keyAll_cons {l : List UInt8} (h : l ≠ []) : keyAll l.length l = (plainR (dN l).1 (dN l).2 && keyAll (l.drop (dN l).2).length (l.drop (dN l).2)) := by
  have hd := drop_lt h
  obtain ⟨n, hn⟩ : ∃ n, l.length = n + 1 := ⟨l.length - 1, by omega⟩
  rw [hn]
  simp only [keyAll, h, if_false]
  rw [keyAll_eq n _ (by omega)]
theorem dec0 {n a b c d : Nat} (h : (128 ≤ a ∧ a < 194) ∨ (245 ≤ a ∧ a < 256)) : Lib.decodeN n a b c d = (65533, 1) := by
  unfold Lib.decodeN
  repeat' split
  all_goals first | (exfalso; omega) | rfl
theorem dec2 {n a b c d : Nat} (h : 194 ≤ a ∧ a < 224) : Lib.decodeN n a b c d = if 1 < n ∧ b / 64 = 2 then (a % 32 * 64 + b % 64, 2) else (65533, 1) := by
  unfold Lib.decodeN
  repeat' split
  all_goals first | (exfalso; omega) | rfl
theorem dec3 {n a b c d : Nat} (h : 224 ≤ a ∧ a < 240) : Lib.decodeN n a b c d = if (1 < n ∧ b / 64 = 2) ∧ (2 < n ∧ c / 64 = 2) ∧ 2048 ≤ a % 16 * 4096 + b % 64 * 64 + c % 64 ∧ (a % 16 * 4096 + b % 64 * 64 + c % 64 < 55296 ∨ 57344 ≤ a % 16 * 4096 + b % 64 * 64 + c % 64) then (a % 16 * 4096 + b % 64 * 64 + c % 64, 3) else (65533, 1) := by
  unfold Lib.decodeN
  repeat' split
  all_goals first | (exfalso; omega) | rfl
theorem dec4 {n a b c d : Nat} (h : 240 ≤ a ∧ a < 245) : Lib.decodeN n a b c d = if (1 < n ∧ b / 64 = 2) ∧ (2 < n ∧ c / 64 = 2) ∧ (3 < n ∧ d / 64 = 2) ∧ 65536 ≤ a % 8 * 262144 + b % 64 * 4096 + c % 64 * 64 + d % 64 ∧ a % 8 * 262144 + b % 64 * 4096 + c % 64 * 64 + d % 64 ≤ 1114111 then (a % 8 * 262144 + b % 64 * 4096 + c % 64 * 64 + d % 64, 4) else (65533, 1) := by
  unfold Lib.decodeN
  repeat' split
  all_goals first | (exfalso; omega) | rfl
theorem dec1 {n a b c d : Nat} (h : a < 128) : Lib.decodeN n a b c d = (a, 1) := by
  unfold Lib.decodeN; rw [if_pos h]
theorem dN_cases {l : List UInt8} (h : l ≠ []) : dN l = (65533, 1) ∨ (∃ b0 t, l = b0 :: t ∧ b0.toNat < 128 ∧ dN l = (b0.toNat, 1)) ∨
    (∃ b0 b1 t, l = b0 :: b1 :: t ∧ (194 ≤ b0.toNat ∧ b0.toNat < 224) ∧ b1.toNat / 64 = 2 ∧ dN l = (b0.toNat % 32 * 64 + b1.toNat % 64, 2)) ∨
    (∃ b0 b1 b2 t, l = b0 :: b1 :: b2 :: t ∧ (224 ≤ b0.toNat ∧ b0.toNat < 240) ∧ b1.toNat / 64 = 2 ∧ b2.toNat / 64 = 2 ∧ 2048 ≤ b0.toNat % 16 * 4096 + b1.toNat % 64 * 64 + b2.toNat % 64 ∧ dN l = (b0.toNat % 16 * 4096 + b1.toNat % 64 * 64 + b2.toNat % 64, 3)) ∨
    (∃ b0 b1 b2 b3 t, l = b0 :: b1 :: b2 :: b3 :: t ∧ (240 ≤ b0.toNat ∧ b0.toNat < 245) ∧ b1.toNat / 64 = 2 ∧ b2.toNat / 64 = 2 ∧ b3.toNat / 64 = 2 ∧ 65536 ≤ b0.toNat % 8 * 262144 + b1.toNat % 64 * 4096 + b2.toNat % 64 * 64 + b3.toNat % 64 ∧ dN l = (b0.toNat % 8 * 262144 + b1.toNat % 64 * 4096 + b2.toNat % 64 * 64 + b3.toNat % 64, 4)) := by
  obtain ⟨b0, t, rfl⟩ := List.exists_cons_of_ne_nil h
  have l0 := b0.toNat_lt
  have e0 : (b0 :: t).getD 0 0 = b0 := rfl
  have e1 : (b0 :: t).getD 1 0 = t.getD 0 0 := rfl
  have e2 : (b0 :: t).getD 2 0 = t.getD 1 0 := rfl
  have e3 : (b0 :: t).getD 3 0 = t.getD 2 0 := rfl
  by_cases c1 : b0.toNat < 128
  · exact .inr (.inl ⟨b0, t, rfl, c1, by rw [dN, e0, dec1 c1]⟩)
  by_cases c2 : 194 ≤ b0.toNat ∧ b0.toNat < 224
  · match t with
    | [] => left; rw [dN, e0, dec2 c2]; simp
    | b1 :: t =>
      by_cases d : b1.toNat / 64 = 2
      · exact .inr (.inr (.inl ⟨b0, b1, t, rfl, c2, d, by rw [dN, e0, dec2 c2, if_pos ⟨by simp, by simpa [e1] using d⟩]; rfl⟩))
      · left; rw [dN, e0, dec2 c2, if_neg (fun e => d (by simpa [e1] using e.2))]
  by_cases c3 : 224 ≤ b0.toNat ∧ b0.toNat < 240
  · match t with
    | [] => left; rw [dN, e0, dec3 c3]; simp
    | [b1] => left; rw [dN, e0, dec3 c3]; simp
    | b1 :: b2 :: t =>
      have g1 : (b0 :: b1 :: b2 :: t).getD 1 0 = b1 := rfl
      have g2 : (b0 :: b1 :: b2 :: t).getD 2 0 = b2 := rfl
      rw [dN, e0, g1, g2, dec3 c3]
      split
      · rename_i hc
        exact .inr (.inr (.inr (.inl ⟨b0, b1, b2, t, rfl, c3, hc.1.2, hc.2.1.2, hc.2.2.1, rfl⟩)))
      · exact .inl rfl
  by_cases c4 : 240 ≤ b0.toNat ∧ b0.toNat < 245
  · match t with
    | [] => left; rw [dN, e0, dec4 c4]; simp
    | [b1] => left; rw [dN, e0, dec4 c4]; simp
    | [b1, b2] => left; rw [dN, e0, dec4 c4]; simp
    | b1 :: b2 :: b3 :: t =>
      have g1 : (b0 :: b1 :: b2 :: b3 :: t).getD 1 0 = b1 := rfl
      have g2 : (b0 :: b1 :: b2 :: b3 :: t).getD 2 0 = b2 := rfl
      have g3 : (b0 :: b1 :: b2 :: b3 :: t).getD 3 0 = b3 := rfl
      rw [dN, e0, g1, g2, g3, dec4 c4]
      split
      · rename_i hc
        exact .inr (.inr (.inr (.inr ⟨b0, b1, b2, b3, t, rfl, c4, hc.1.2, hc.2.1.2, hc.2.2.1.2, hc.2.2.2.1, rfl⟩)))
      · exact .inl rfl
  · left; rw [dN, e0, dec0 (by omega)]
theorem u8_eq {a b : UInt8} (h : a.toNat = b.toNat) : a = b := UInt8.toNat_inj.1 h
theorem dN_inj {l l' : List UInt8} (h : l ≠ []) (h' : l' ≠ []) (n : dN l ≠ (65533, 1)) (n' : dN l' ≠ (65533, 1)) (e : (dN l).1 = (dN l').1) : (dN l).2 = (dN l').2 ∧ l.take (dN l).2 = l'.take (dN l').2 := by
  rcases dN_cases h with c | ⟨a0, t, rfl, q, c⟩ | ⟨a0, a1, t, rfl, q, q1, c⟩ | ⟨a0, a1, a2, t, rfl, q, q1, q2, q3, c⟩ | ⟨a0, a1, a2, a3, t, rfl, q, q1, q2, q3, q4, c⟩
  · exact absurd c n
  all_goals
    rcases dN_cases h' with c' | ⟨b0, t', rfl, p, c'⟩ | ⟨b0, b1, t', rfl, p, p1, c'⟩ | ⟨b0, b1, b2, t', rfl, p, p1, p2, p3, c'⟩ | ⟨b0, b1, b2, b3, t', rfl, p, p1, p2, p3, p4, c'⟩
    · exact absurd c' n'
    all_goals
      rw [c, c'] at e
      simp only at e
      first
        | (exfalso; omega)
        | (rw [c, c']; refine ⟨rfl, ?_⟩; simp only [List.take_succ_cons, List.take_zero, List.cons.injEq, and_true])
  · exact u8_eq e
  · exact ⟨u8_eq (by omega), u8_eq (by omega)⟩
  · exact ⟨u8_eq (by omega), u8_eq (by omega), u8_eq (by omega)⟩
  · exact ⟨u8_eq (by omega), u8_eq (by omega), u8_eq (by omega), u8_eq (by omega)⟩
theorem plain_ok {l : List UInt8} (h : plainR (dN l).1 (dN l).2 = true) : dN l ≠ (65533, 1) := fun e => by
  rw [e] at h; simp [plainR] at h
theorem lets_inj : ∀ (n : Nat) (l l' : List UInt8), l.length ≤ n → keyAll l.length l = true → keyAll l'.length l' = true → lets l = lets l' → l = l'
  | n, l, l', hn, k, k', e => by
    by_cases h : l = []
    · by_cases h' : l' = []
      · rw [h, h']
      · rw [h, lets_nil, lets_cons h'] at e; simp at e
    · by_cases h' : l' = []
      · rw [h', lets_nil, lets_cons h] at e; simp at e
      · rw [lets_cons h, lets_cons h', List.cons.injEq] at e
        rw [keyAll_cons h, Bool.and_eq_true] at k
        rw [keyAll_cons h', Bool.and_eq_true] at k'
        obtain ⟨e1, e2⟩ := dN_inj h h' (plain_ok k.1) (plain_ok k'.1) (by omega)
        have hd := drop_lt h
        have hl : 0 < l.length := List.length_pos_iff.2 h
        have e3 := lets_inj (n - 1) _ _ (by omega) k.2 k'.2 e.2
        rw [← List.take_append_drop (dN l).2 l, ← List.take_append_drop (dN l').2 l', e2, e3]
  termination_by n => n
def cmpL : List Int → List Int → Int
  | [], [] => 0
  | [], _ :: _ => -1
  | _ :: _, [] => 1
  | a :: l, b :: k => if a < b then -1 else if b < a then 1 else cmpL l k
theorem cmpL_eq : ∀ (a b : List Int), cmpL a b = 0 → a = b
  | [], [], _ => rfl
  | [], _ :: _, h => by simp [cmpL] at h
  | _ :: _, [], h => by simp [cmpL] at h
  | a :: l, b :: k, h => by
    simp only [cmpL] at h
    split at h
    · simp at h
    · split at h
      · simp at h
      · have := cmpL_eq l k h
        have : a = b := by omega
        simp_all
theorem cmpL_rfl : ∀ (a : List Int), cmpL a a = 0
  | [] => rfl
  | a :: l => by simp [cmpL, cmpL_rfl l]
theorem cmp_lt' {a b : Int} {l k : List Int} (h : a < b) : cmpL (a :: l) (b :: k) = -1 := by simp [cmpL, h]
theorem cmp_gt' {a b : Int} {l k : List Int} (h : b < a) : cmpL (a :: l) (b :: k) = 1 := by
  have : ¬ a < b := by omega
  simp [cmpL, h, this]
theorem cmp_eq' {a : Int} {l k : List Int} : cmpL (a :: l) (a :: k) = cmpL l k := by simp [cmpL]
end Sg
namespace Sg
open _root_.Go (IntKind BinOp UnOp)
set_option linter.unusedSimpArgs false
set_option linter.unusedVariables false
set_option maxRecDepth 10000
variable {Pg : Nat → Option Fn}
@[go_sem] theorem idx_0 {b : UInt8} {t : List UInt8} {k : IntKind} : idxV (.str (b :: t)) (.int k 0) = some (.int .u8 b.toNat) := rfl
@[go_sem high] theorem sl_str {s : List UInt8} {z : Nat} {k : IntKind} {n : Nat} (h : n ≤ s.length) : slV true z (.str s) (some (.int k (n : Int))) none = some (.str (s.drop n)) := by
  simp [slV, bound, h]
def H191 (Pg : Nat → Option Fn) : Prop := Pg 191 = some (.code F191)
theorem K191 (h : H191 Pg) (r n : Int) : K' Pg 191 [.int .i32 r, .int .i64 n] = some (.bool (plainR r n)) := by
  refine K'_code h rfl ?_
  simp only [go_sem]
  cases c1 : decide (33 ≤ r) <;> cases c2 : decide (r < 127) <;> cases c3 : decide (159 < r) <;> cases c4 : decide (r = 65533) <;> cases c5 : decide (n = 3) <;>
    simp only [go_sem, plainR, c1, c2, c3, c4, c5]
def H190 (Pg : Nat → Option Fn) : Prop := Pg 190 = some (.prim none decQ)
theorem K190 (h : H190 Pg) (s : List UInt8) : K' Pg 190 [.str s] = some (.tuple [.int .i32 (decL s).1, .int .i64 (decL s).2]) := by
  rw [K'_prim h]; rfl
def H170 (Pg : Nat → Option Fn) : Prop := Pg 170 = some (.prim none keyQ)
theorem K170 (h : H170 Pg) (s : List UInt8) : K' Pg 170 [.str s] = some (.bool (keyR s)) := by
  rw [K'_prim h]; rfl
@[go_sem] def eLN (x : Int × Int) : V := .tuple [iz x.1, iz x.2]
end Sg
namespace Sg
open _root_.Go _root_.Go.RowKit _root_.Go.Proofs
set_option linter.unusedSimpArgs false
set_option linter.unusedVariables false
def plainFm : List (Nat × Nat) := [(191, 54)]
theorem okPlain : okF Tryd.prog (cxU plainFm) (onePg 191 F191) 54 F191 = true := by kernel_rfl
theorem plain_walk (r n : Int) (w : World) (hgn : 2 ≤ w.heap.size) (hT : Lib.Utf8Tabs 0 1 w) :
    Calls Tryd.prog 54 #[.int .i32 r, .int .i64 n] w fun e w' => e = .returned (.bool (plainR r n)) ∧ Below w.heap.size w w' := by
  have hk : K' (onePg 191 F191) 191 [.int .i32 r, .int .i64 n] = some (.bool (plainR r n)) := K191 (by simp [H191, onePg]) r n
  obtain ⟨m, hm⟩ := K'_iff.1 hk
  have hc := callN_sound (P := Tryd.prog) (cx := cxU plainFm) (Pg := onePg 191 F191) (by kernel_rfl) (fun f F hF => by
      unfold onePg at hF
      split at hF <;> simp only [Option.some.injEq, Fn.code.injEq, reduceCtorEq] at hF
      rename_i e; subst e; subst hF; exact okPlain) (fun f own p hp => by
      unfold onePg at hp
      split at hp <;> simp at hp) (fun f z p _ hp => by
      unfold onePg at hp
      split at hp <;> simp at hp) (fun f z p hp => by
      unfold onePg at hp
      split at hp <;> simp at hp) m 191 _ _ hm
  refine (hc.2 w (fun _ => False) #[.int .i32 r, .int .i64 n] (fun b hb => hb.elim) hgn hT rfl (fun i hi => by
    match i, hi with
    | 0, _ => exact ⟨_, rfl, .int _ _⟩
    | 1, _ => exact ⟨_, rfl, .int _ _⟩
    | k + 2, hi => exact absurd hi (by simp))).mono fun e w' ⟨v, he, hb, hr⟩ => ?_
  have hr := hr.data (fun b hb => hb.elim)
  cases hr
  exact ⟨he, hb⟩
theorem decCt (l : List (Nat × Nat)) (id : Nat) (h : (cxU l).fm id = 53) : ∀ args r, decQ args = some r → Ctr Tryd.prog (cxU l) none id args r :=
  dec_ctr (by rw [h]; exact ⟨_, Tryd.func53, by kernel_rfl, by kernel_rfl⟩) fun s w hG => by rw [h]; exact dec_walk s w hG
theorem keyCt (l : List (Nat × Nat)) (id : Nat) (h : (cxU l).fm id = 33) : ∀ args r, keyQ args = some r → Ctr Tryd.prog (cxU l) none id args r :=
  key_ctr (by rw [h]; exact ⟨_, Tryd.func33, by kernel_rfl, by kernel_rfl⟩) fun s w hgn hG => by rw [h]; exact key_walk s w hgn hG plain_walk
end Sg
namespace Sg
open Go Go.RowKit
set_option linter.unusedSimpArgs false
set_option linter.unusedVariables false
inductive CT where
  | bool
  | int (k : IntKind)
  | str
  | slice (r : List CT)
  deriving Inhabited
abbrev gt (r : List CT) (j : Nat) : CT := r.getD j .bool
inductive Has : CT → V → Prop
  | bool (b) : Has .bool (.bool b)
  | int (k n) (h : (Lit.int k n).wf = true) : Has (.int k) (.int k n)
  | str (s) (h : s.length ≤ maxLen) : Has .str (.str s)
  | slice (r : List CT) (rows : List (List V)) (hl : rows.length ≤ maxLen) (hz : ∀ i, i < rows.length → (gr rows i).length = r.length)
      (h : ∀ i j, i < rows.length → j < r.length → Has (gt r j) (gv (gr rows i) j)) : Has (.slice r) (.slice r.length rows)
section
variable (P : Program)
def rowFs (g : TypeId → Option (List CT)) : List Field → Nat → Option (List CT)
  | [], _ => some []
  | f :: fs, o => if f.offset = o then (g f.type).bind fun r => if szT P f.type = some r.length then (rowFs g fs (o + r.length)).bind fun rs => some (r ++ rs) else none else none
def rowT : Nat → TypeId → Option (List CT)
  | 0, _ => none
  | n + 1, t => match P.underlying t with
    | some .bool => some [.bool]
    | some (.int k) => some [.int k]
    | some .string => some [.str]
    | some (.slice e) => (rowT n e).bind fun r => if szT P e = some r.length ∧ r.length ≠ 0 then some [.slice r] else none
    | some (.struct fs) => (rowFs P (rowT n) fs.toList 0).bind fun r => if szT P t = some r.length then some r else none
    | _ => none
end
section
variable {P : Program} {cx : Cx} {w : World} {X : Nat → Prop}
def Row (cx : Cx) (w : World) (X : Nat → Prop) (r : List CT) (f : Nat → Option Value) (xs : List V) : Prop :=
  xs.length = r.length ∧ ∀ j, j < r.length → ∃ u, f j = some u ∧ u.oneCell' = true ∧ RelD cx w X u (gv xs j) ∧ Has (gt r j) (gv xs j)
theorem Row.append {r1 r2 : List CT} {f : Nat → Option Value} {xs ys : List V} (h1 : Row cx w X r1 f xs) (h2 : Row cx w X r2 (fun j => f (r1.length + j)) ys) : Row cx w X (r1 ++ r2) f (xs ++ ys) := by
  refine ⟨by simp [h1.1, h2.1], fun j hj => ?_⟩
  simp only [List.length_append] at hj
  by_cases hlt : j < r1.length
  · obtain ⟨u, a, b, c, d⟩ := h1.2 j hlt
    refine ⟨u, a, b, ?_, ?_⟩
    · rw [show gv (xs ++ ys) j = gv xs j from by simp [gv, List.getD_eq_getElem?_getD, List.getElem?_append_left (by rw [h1.1]; exact hlt)]]; exact c
    · rw [show gv (xs ++ ys) j = gv xs j from by simp [gv, List.getD_eq_getElem?_getD, List.getElem?_append_left (by rw [h1.1]; exact hlt)],
        show gt (r1 ++ r2) j = gt r1 j from by simp [gt, List.getD_eq_getElem?_getD, List.getElem?_append_left hlt]]; exact d
  · obtain ⟨u, a, b, c, d⟩ := h2.2 (j - r1.length) (by omega)
    have e : r1.length + (j - r1.length) = j := by omega
    simp only [e] at a
    have g1 : gv (xs ++ ys) j = gv ys (j - r1.length) := by
      simp only [gv, List.getD_eq_getElem?_getD]; rw [List.getElem?_append_right (by rw [h1.1]; omega), h1.1]
    have g2 : gt (r1 ++ r2) j = gt r2 (j - r1.length) := by
      simp only [gt, List.getD_eq_getElem?_getD]; rw [List.getElem?_append_right (by omega)]
    exact ⟨u, a, b, by rw [g1]; exact c, by rw [g1, g2]; exact d⟩
theorem Row.one {c : CT} {f : Nat → Option Value} {u : Value} {x : V} (h0 : f 0 = some u) (h1 : u.oneCell' = true) (h2 : RelD cx w X u x) (h3 : Has c x) : Row cx w X [c] f [x] :=
  ⟨rfl, fun j hj => by
    have : j = 0 := by simp at hj; exact hj
    subst this
    exact ⟨u, h0, h1, h2, h3⟩⟩
theorem cell_at {a : Addr} {u : Value} (h : w.cell? a = some u) : ∃ c e fr, a = ⟨a.block, a.off, none⟩ ∧ w.heap[a.block]? = some (.cells c e fr) ∧ c[a.off]? = some u := by
  obtain ⟨b, o, sp⟩ := a
  unfold World.cell? at h
  split at h
  · rename_i c e fr hc
    split at h
    · simp at h
    · rename_i hs
      cases sp with
      | none => exact ⟨c, e, fr, rfl, hc, h⟩
      | some x => simp at hs
  · simp at h
theorem szT_cells {t : TypeId} {n : Nat} (h : szT P t = some n) : P.cellsOf t = n := by
  unfold szT at h
  unfold Program.cellsOf
  rw [h]; rfl
theorem fields_row {H : Type} {enc : TypeId × Value → H} {fuel : Nat} {g : TypeId → Option (List CT)} {cs : List Value}
    (ih : ∀ (t : TypeId) (cs : List Value) (d : DataW H) (ps : List MemPlace) (r : List CT), DataW.trod enc P w 0 (fun _ => true) true fuel t cs = some (d, ps) → g t = some r → ∃ xs, Row cx w X r (fun j => cs[j]?) xs) :
    ∀ (fs : List Field) (o : Nat) (ys : List (DataW H × List MemPlace)) (r : List CT), (fs.mapM fun f => DataW.trod enc P w 0 (fun _ => true) true fuel f.type ((cs.drop f.offset).take (P.cellsOf f.type))) = some ys →
      rowFs P g fs o = some r → ∃ xs, Row cx w X r (fun j => cs[o + j]?) xs
  | [], o, ys, r, _, hr => by
    simp only [rowFs, Option.some.injEq] at hr
    subst hr
    exact ⟨[], rfl, fun j hj => by simp at hj⟩
  | f :: fs, o, ys, r, h, hr => by
    rw [List.mapM_cons] at h
    simp only [rowFs] at hr
    split at hr <;> try (simp at hr; done)
    rename_i ho
    simp only [Option.bind_eq_some_iff] at hr
    obtain ⟨r1, hr1, hr⟩ := hr
    split at hr <;> try (simp at hr; done)
    rename_i hz
    simp only [Option.bind_eq_some_iff, Option.some.injEq] at hr
    obtain ⟨r2, hr2, rfl⟩ := hr
    cases h1 : DataW.trod enc P w 0 (fun _ => true) true fuel f.type ((cs.drop f.offset).take (P.cellsOf f.type)) with
    | none => simp [h1] at h
    | some y =>
      cases h2 : fs.mapM fun f => DataW.trod enc P w 0 (fun _ => true) true fuel f.type ((cs.drop f.offset).take (P.cellsOf f.type)) with
      | none => simp [h1, h2] at h
      | some zs =>
        obtain ⟨d, ps⟩ := y
        obtain ⟨xs, hx⟩ := ih _ _ _ _ _ h1 hr1
        obtain ⟨ys, hy⟩ := fields_row ih fs (o + r1.length) zs r2 h2 hr2
        have hx' : Row cx w X r1 (fun j => cs[o + j]?) xs := ⟨hx.1, fun j hj => by
          obtain ⟨u, a, b⟩ := hx.2 j hj
          refine ⟨u, ?_, b⟩
          simp only at a ⊢
          rw [szT_cells hz, List.getElem?_take_of_lt hj, List.getElem?_drop, ho] at a
          exact a⟩
        refine ⟨xs ++ ys, hx'.append ?_⟩
        simpa only [Nat.add_assoc] using hy
theorem reading {H : Type} {enc : TypeId × Value → H} : ∀ (fuel : Nat) (n : Nat) (t : TypeId) (cs : List Value) (d : DataW H) (ps : List MemPlace) (r : List CT),
    DataW.trod enc P w 0 (fun _ => true) true fuel t cs = some (d, ps) → rowT P n t = some r → ∃ xs, Row cx w (fun _ => False) r (fun j => cs[j]?) xs
  | 0, n, t, cs, d, ps, r, h, _ => by simp [DataW.trod] at h
  | fuel + 1, 0, t, cs, d, ps, r, _, hr => by simp [rowT] at hr
  | fuel + 1, n + 1, t, cs, d, ps, r, h, hr => by
    have ih := fun t cs d ps r => reading (enc := enc) fuel n t cs d ps r
    unfold rowT at hr
    unfold DataW.trod at h
    split at hr
    · rename_i ht
      rw [ht] at h
      simp only [Option.some.injEq] at hr
      subst hr
      split at h <;> simp_all
      subst_vars
      exact ⟨_, Row.one rfl rfl (.bool _) (.bool _)⟩
    · rename_i k ht
      rw [ht] at h
      simp only [Option.some.injEq] at hr
      subst hr
      split at h <;> simp_all
      obtain ⟨⟨rfl, hw⟩, -⟩ := h
      subst_vars
      exact ⟨_, Row.one rfl rfl (.int _ _) (.int _ _ hw)⟩
    · rename_i ht
      rw [ht] at h
      simp only [Option.some.injEq] at hr
      subst hr
      split at h
      all_goals try (simp_all; done)
      rename_i s heq
      split at h <;> simp only [Option.some.injEq, reduceCtorEq] at h
      rename_i hle
      have hl : s.data.toList.length = s.size := Array.length_toList
      exact ⟨_, Row.one rfl rfl (.str s) (.str _ (by omega))⟩
    · rename_i e ht
      simp only [Option.bind_eq_some_iff] at hr
      obtain ⟨r1, hr1, hr⟩ := hr
      split at hr <;> simp only [Option.some.injEq, reduceCtorEq] at hr
      rename_i hz
      subst hr
      rw [ht] at h
      split at h
      all_goals try (simp_all; done)
      · exact ⟨_, Row.one rfl rfl (.nilslice none r1.length) (.slice r1 [] (by simp) (fun i hi => by simp at hi) (fun i j hi => by simp at hi))⟩
      · rename_i e' a len cap heq
        simp only [Option.some.injEq, TypeDesc.slice.injEq] at heq
        subst heq
        simp only at h
        split at h <;> try (simp at h; done)
        rename_i hc
        obtain ⟨-, hc1, hc2⟩ := hc
        have hsz : P.cellsOf e = r1.length := szT_cells hz.1
        simp only [Option.bind_eq_some_iff, Option.map_eq_some_iff] at h
        obtain ⟨elems, hel, rest, hrest, -⟩ := h
        simp only [if_true] at hrest
        rw [hsz] at hel hrest
        have el : ∀ i, i < cap → ∃ l, w.cells? 0 (a.add (i * r1.length)) r1.length = some l ∧ ∃ y, DataW.trod enc P w 0 (fun _ => true) true fuel e l = some y := by
          intro i hi
          have : ∃ y, ((w.cells? 0 (a.add (i * r1.length)) r1.length).bind (DataW.trod enc P w 0 (fun _ => true) true fuel e)) = some y := by
            by_cases hlt : i < len
            · have h1 := mapM_some_get hel i i (by simp [hlt])
              have h2 := mapM_some_length hel
              simp only [List.length_range] at h2
              exact ⟨elems[i], by rw [h1]; simp⟩
            · have hr0 : (List.range (cap - len))[i - len]? = some (i - len) := by
                rw [List.getElem?_range (by omega)]
              have h1 := mapM_some_get hrest (i - len) (i - len) hr0
              have h2 := mapM_some_length hrest
              simp only [List.length_range] at h2
              rw [show len + (i - len) = i from by omega] at h1
              exact ⟨rest[i - len], by rw [h1]; simp⟩
          obtain ⟨y, hy⟩ := this
          simp only [Option.bind_eq_some_iff] at hy
          obtain ⟨l, h1, h2⟩ := hy
          exact ⟨l, h1, y, h2⟩
        by_cases hcap : cap = 0
        · subst hcap
          obtain rfl : len = 0 := by omega
          exact ⟨_, Row.one rfl rfl (.nilslice (some a) r1.length) (.slice r1 [] (by simp) (fun i hi => by simp at hi) (fun i j hi => by simp at hi))⟩
        · obtain ⟨l0, hl0, -⟩ := el 0 (by omega)
          have hl0' := World.cells?_some hl0
          obtain ⟨c, ec, fr, hspot, hheap, -⟩ := cell_at (w := w) (a := (a.add (0 * r1.length)).add 0) (u := l0[0]'(by omega)) (by rw [hl0'.2.2 0 (by omega)]; simp)
          have hspot' : a = ⟨a.block, a.off, none⟩ := by
            obtain ⟨b, o, sp⟩ := a
            simp only [Addr.add] at hspot
            cases sp <;> simp_all
          obtain ⟨b, o, sp⟩ := a
          simp only [Addr.mk.injEq, true_and] at hspot'
          subst hspot'
          have hheap : w.heap[b]? = some (.cells c ec fr) := by simpa [Addr.add] using hheap
          have row : ∀ i, i < len → ∃ xs, Row cx w (fun _ => False) r1 (fun j => c[o + i * r1.length + j]?) xs := by
            intro i hi
            obtain ⟨l, hl, ⟨d', ps'⟩, hd⟩ := el i (by omega)
            obtain ⟨xs, hx1, hx2⟩ := ih _ _ _ _ _ hd hr1
            obtain ⟨-, hl1, hl2⟩ := World.cells?_some hl
            refine ⟨xs, hx1, fun j hj => ?_⟩
            obtain ⟨u, p1, p2⟩ := hx2 j hj
            refine ⟨u, ?_, p2⟩
            simp only at p1 ⊢
            have h3 := hl2 j hj
            rw [p1, addr_add, addr_add] at h3
            obtain ⟨c', _, _, _, h4, h5⟩ := cell_at h3
            rw [hheap] at h4
            simp only [Option.some.injEq, Obj.cells.injEq] at h4
            obtain ⟨rfl, -⟩ := h4
            exact h5
          obtain ⟨f, hf⟩ := pickf row
          have hlen : ((List.range len).map f).length = len := by simp
          have hgr : ∀ i, i < len → gr ((List.range len).map f) i = f i := fun i hi => by simp [gr, hi]
          refine ⟨[.slice r1.length ((List.range len).map f)], Row.one rfl rfl ?_ ?_⟩
          · refine slice_mk (c := c) (e := ec) (fr := fr) (lt_of_some hheap) id hheap (by simpa using hc1) (fun i hi => ?_) (fun i j hi hj => ?_) hlen
            · rw [hlen] at hi; rw [hgr i hi]; exact (hf i hi).1
            · rw [hlen] at hi; rw [hgr i hi]
              obtain ⟨u, p1, p2, p3, p4⟩ := (hf i hi).2 j hj
              exact ⟨u, p1, p2, p3⟩
          · refine .slice r1 _ (by omega) (fun i hi => ?_) (fun i j hi hj => ?_)
            · rw [hlen] at hi; rw [hgr i hi]; exact (hf i hi).1
            · rw [hlen] at hi; rw [hgr i hi]
              obtain ⟨u, p1, p2, p3, p4⟩ := (hf i hi).2 j hj
              exact p4
    · rename_i fs ht
      simp only [Option.bind_eq_some_iff] at hr
      obtain ⟨r1, hr1, hr⟩ := hr
      split at hr <;> simp only [Option.some.injEq, reduceCtorEq] at hr
      subst hr
      rw [ht] at h
      split at h
      all_goals try (simp_all; done)
      rename_i fs' _ heq
      simp only [Option.some.injEq, TypeDesc.struct.injEq] at heq
      subst heq
      split at h <;> try (simp at h; done)
      simp only [Option.map_eq_some_iff] at h
      obtain ⟨ys, hys, -⟩ := h
      obtain ⟨xs, hx⟩ := fields_row (fun t cs d ps r => ih t cs d ps r) fs.toList 0 ys _ hys hr1
      exact ⟨xs, by simpa using hx⟩
    · simp at hr
end
end Sg
namespace Sg
open Go Go.RowKit Go.ChangeShapes Go.WideShapes
set_option linter.unusedSimpArgs false
set_option linter.unusedVariables false
def isAgg (P : Program) (t : TypeId) : Bool :=
  match P.underlying t with
  | some (.struct _) => true
  | _ => false
def sigT (P : Program) (t : TypeId) : Option (Bool × List CT) := (rowT P 20 t).bind fun r => some (isAgg P t, r)
def HasRow (r : List CT) (xs : List V) : Prop := xs.length = r.length ∧ ∀ j, j < r.length → Has (gt r j) (gv xs j)
def ArgV : Bool × List CT → V → Prop
  | (true, r), x => ∃ xs, x = .agg xs ∧ HasRow r xs
  | (false, r), x => ∃ c, r = [c] ∧ Has c x
def ArgsV : List (Bool × List CT) → List V → Prop
  | [], [] => True
  | s :: ss, x :: xs => ArgV s x ∧ ArgsV ss xs
  | _, _ => False
section
variable {P : Program} {cx : Cx} {w : World}
theorem arg_ok {H : Type} {enc : TypeId × Value → H} {t : TypeId} {v : Value} {d : DataW H} {ps : List MemPlace} {s : Bool × List CT} {base : Nat} (h : DataW.Trod enc P w 0 (fun _ => true) true t v d ps)
    (hw : Value.okWide P w .any base t v) (hs : sigT P t = some s) : ∃ x, RelD cx w (fun _ => False) v x ∧ ArgV s x := by
  unfold sigT at hs
  simp only [Option.bind_eq_some_iff, Option.some.injEq] at hs
  obtain ⟨r, hr, rfl⟩ := hs
  obtain ⟨fuel, hf⟩ := h
  obtain ⟨xs, hl, hx⟩ := reading (cx := cx) fuel 20 t _ d ps r hf hr
  have one : ∀ c, r = [c] → v.cells = #[v] → isAgg P t = false → ∃ x, RelD cx w (fun _ => False) v x ∧ ArgV (isAgg P t, r) x := by
    intro c hc hv ha
    subst hc
    obtain ⟨u, h1, h2, h3, h4⟩ := hx 0 (by simp)
    rw [hv] at h1
    simp at h1
    subst h1
    exact ⟨gv xs 0, h3, by rw [ha]; exact ⟨c, rfl, h4⟩⟩
  unfold rowT at hr
  split at hr
  · rename_i ht
    obtain ⟨b, rfl⟩ := okWide_bool ht hw
    simp only [Option.some.injEq] at hr
    exact one _ hr.symm rfl (by simp [isAgg, ht])
  · rename_i k ht
    obtain ⟨b, rfl⟩ := okWide_int ht hw
    simp only [Option.some.injEq] at hr
    exact one _ hr.symm rfl (by simp [isAgg, ht])
  · rename_i ht
    obtain ⟨b, rfl⟩ := okWide_string ht hw
    simp only [Option.some.injEq] at hr
    exact one _ hr.symm rfl (by simp [isAgg, ht])
  · rename_i e ht
    obtain ⟨a, len, cap, rfl⟩ := okWide_slice ht hw
    simp only [Option.bind_eq_some_iff] at hr
    obtain ⟨r1, -, hr⟩ := hr
    split at hr <;> simp only [Option.some.injEq, reduceCtorEq] at hr
    exact one _ hr.symm rfl (by simp [isAgg, ht])
  · rename_i fs ht
    obtain ⟨cs, rfl, hsz⟩ := okWide_struct ht hw
    simp only [Option.bind_eq_some_iff] at hr
    obtain ⟨r1, -, hr⟩ := hr
    split at hr <;> simp only [Option.some.injEq, reduceCtorEq] at hr
    rename_i hz
    subst hr
    have hcs : cs.size = r1.length := by rw [hsz]; exact szT_cells hz
    have ha : isAgg P t = true := by simp [isAgg, ht]
    obtain ⟨u, hu⟩ := pickf hx
    refine ⟨.agg xs, .agg cs xs u (by rw [hcs, hl]) (fun i hi => ?_) (fun i hi => ?_), ?_⟩
    · rw [hl] at hi
      have := (hu i hi).1
      exact ⟨by simpa [Value.cells] using this, (hu i hi).2.1⟩
    · rw [hl] at hi; exact (hu i hi).2.2.1
    · rw [ha]; exact ⟨xs, rfl, hl, fun j hj => (hu j hj).2.2.2⟩
  · simp at hr
theorem args_ok {H : Type} {enc : TypeId × Value → H} {base : Nat} : ∀ (ts : List TypeId) (vs : List Value) (ds : List (DataW H)) (ps : List MemPlace) (ss : List (Bool × List CT)), DataW.TrodAll enc P w 0 (fun _ => true) true ts vs ds ps →
    (∀ (j : Nat) t v, ts[j]? = some t → vs[j]? = some v → Value.okWide P w .any base t v) → mapO (sigT P) ts = some ss →
    ∃ xs : List V, xs.length = vs.length ∧ (∀ i, i < xs.length → ∃ u, vs[i]? = some u ∧ RelD cx w (fun _ => False) u (gv xs i)) ∧ ArgsV ss xs ∧ ds.length = ts.length
  | [], vs, ds, ps, ss, h, _, hs => by
    obtain ⟨rfl, rfl, rfl⟩ := trodAll_nil h
    simp only [mapO, Option.some.injEq] at hs
    subst hs
    exact ⟨[], rfl, fun i hi => by simp at hi, trivial, rfl⟩
  | t :: ts, vs, ds, ps, ss, h, hok, hs => by
    match vs, ds, h with
    | v :: vs, d :: ds, h =>
      obtain ⟨p, q, h1, h2, rfl⟩ := h
      simp only [mapO, Option.bind_eq_some_iff, Option.some.injEq] at hs
      obtain ⟨s, hs1, ss', hs2, rfl⟩ := hs
      obtain ⟨x, hx1, hx2⟩ := arg_ok (cx := cx) h1 (hok 0 t v rfl rfl) hs1
      obtain ⟨xs, a, b, c, e⟩ := args_ok ts vs ds q ss' h2 (fun j t v hj hv => hok (j + 1) t v (by simpa using hj) (by simpa using hv)) hs2
      refine ⟨x :: xs, by simp [a], fun i hi => ?_, ⟨hx2, c⟩, by simp [e]⟩
      cases i with
      | zero => exact ⟨v, rfl, by simpa [gv] using hx1⟩
      | succ i => obtain ⟨u, p1, p2⟩ := b i (by simpa using hi); exact ⟨u, by simpa using p1, by simpa [gv] using p2⟩
theorem args_back {H : Type} {enc : TypeId × Value → H} {W W' : World} {sp : Nat → Bool} (hl : laidOutB P = true) (hb : Below W.heap.size W W') :
    ∀ (ts : List TypeId) (vs : List Value) (ds : List (DataW H)) (ps : List MemPlace), (ts.all fun t => P.readableRec t && decide (t < P.types.size)) = true →
    DataW.TrodAll enc P W 0 (fun _ => true) true ts vs ds ps → (∀ p ∈ ps, p.block < W.heap.size) → (∀ p ∈ ps, sp p.block = true) → DataW.TrodAll enc P W' 0 sp true ts vs ds ps
  | [], vs, ds, ps, _, h, _, _ => by
    obtain ⟨rfl, rfl, rfl⟩ := trodAll_nil h
    exact trodAll_mk0
  | t :: ts, vs, ds, ps, hc, h, hlt, hsp => by
    match vs, ds, h with
    | v :: vs, d :: ds, h =>
      obtain ⟨p, q, h1, h2, rfl⟩ := h
      simp only [List.all_cons, Bool.and_eq_true, decide_eq_true_eq] at hc
      exact ⟨p, q, WideElems.Trod_stays hl hc.1.1 hc.1.2 h1 (fun x hx => hb.same (hlt x (by simp [hx]))) (fun x hx => hsp x (by simp [hx])),
        args_back hl hb ts vs ds q (by simpa using hc.2) h2 (fun x hx => hlt x (by simp [hx])) (fun x hx => hsp x (by simp [hx])), rfl⟩
theorem lift {H : Type} {enc : TypeId × Value → H} {fn : Func} {s : ChangeSpec} {conds : List PathCond} {apart fresh handsOn again : Bool} {own : Option Nat} {fid : Nat} {f : FuncId} {ss : List (Bool × List CT)} {tb : TypeId}
    (hcx : cx.fm fid = f) (hprm : mapO (sigT P) fn.params.toList = some ss) (hclosed : (fn.params.toList.all fun t => P.readableRec t && decide (t < P.types.size)) = true) (hl : laidOutB P = true)
    (hvars : s.vars = []) (hres : fn.resultTypes = #[tb]) (htb : P.underlying tb = some .bool)
    (hspec : ∀ ds : List (DataW H), ds.length = fn.params.toList.length → s.fn H ds = { results := [.lit (.bool true)], args := ds })
    (hctr : ∀ xs, ArgsV ss xs → Ctr P cx own fid xs (.bool true))
    (W : World) (hgn : cx.gn ≤ W.heap.size) (hG : cx.G W) (base : Nat) (args : Array Value) (ds gs : List (DataW H)) (before : List MemPlace)
    (hval : ∀ (j : Nat) t v, fn.params[j]? = some t → args[j]? = some v → Value.okWide P W .any base t v)
    (hW : DataW.Whole enc P fn.params.toList s.vars apart W args.toList ds gs before) :
    Calls P f args W fun e W' => ∃ v, e = .returned v ∧ s.post enc P fn apart fresh handsOn again W args v W' := by
  have hlt := hW.lt
  have hW' := hW
  obtain ⟨p, q, hA, hV, rfl, -, -⟩ := hW
  rw [hvars] at hV
  obtain ⟨rfl, rfl⟩ := trodVars_none hV
  obtain ⟨xs, h1, h2, h3, h4⟩ := args_ok (cx := cx) (base := base) fn.params.toList args.toList ds p ss hA (fun j t v hj hv => hval j t v (by simpa using hj) (by simpa using hv)) hprm
  obtain ⟨-, hc⟩ := hctr xs h3
  subst hcx
  refine (hc W (fun _ => False) args (fun b hb => hb.elim) hgn hG (by simpa using h1.symm) (fun i hi => by simpa using h2 i hi)).mono fun e W' ⟨v, he, hb, hr⟩ => ?_
  subst he
  have hr' := hr.data (fun b hb => hb.elim)
  have hv : v = .bool true := by cases hr'; rfl
  subst hv
  have hs := hspec ds h4
  have hlt' : ∀ x ∈ p, x.block < W.heap.size := fun x hx => hlt x (by simpa using hx)
  have res : ∀ (b : Nat) (sp : Nat → Bool) (hd : Bool), DataW.TrodAll enc P W' b sp hd fn.resultTypes.toList ((Value.bool true).resultList fn.resultTypes.size) (s.fn H (ds ++ [])).results [] := fun b sp hd => by
    rw [List.append_nil, hs, hres]; exact trodAll_mk1 (shut_bool htb true)
  have back : ∀ sp : Nat → Bool, (∀ x ∈ p, sp x.block = true) → DataW.TrodAll enc P W' 0 sp true fn.params.toList args.toList (s.fn H (ds ++ [])).args p := fun sp hsp => by
    rw [List.append_nil, hs]; exact args_back hl hb _ _ _ _ hclosed hA hlt' hsp
  have vars : ∀ sp : Nat → Bool, DataW.TrodVars enc P W' sp s.vars (s.fn H (ds ++ [])).vars [] := fun sp => by
    rw [List.append_nil, hs, hvars]; rfl
  refine ⟨_, rfl, ds, [], p ++ [], [], p, [], hW', res _ _ _, back _ (fun x hx => by simpa using hlt' x hx), vars _, hb.frame _, fun _ => ⟨ok_one hres rfl (okWide_bool_mk htb true), (s.fn H (ds ++ [])).results ++ (s.fn H (ds ++ [])).args, (s.fn H (ds ++ [])).vars, p, ?_, fun x hx _ => by simpa using hx⟩⟩
  obtain ⟨_, _, _, _, _, hz, hn⟩ := hW'
  refine ⟨p, [], ?_, vars _, by simp, fun b off hx => ?_, fun ha => by simpa using hn ha⟩
  · have := trodAll_append (back (fun _ => true) (fun _ _ => rfl)) (res 0 (fun _ => true) true)
    simpa using this
  · rw [hb.frozen (hlt' _ hx)]
    exact hz b off (by simpa using hx)
end
end Sg
namespace Sg
open _root_.Go
set_option linter.unusedSimpArgs false
set_option linter.unusedVariables false
theorem has_int {k : IntKind} {x : V} (h : Has (.int k) x) : ∃ n, x = .int k n ∧ (Lit.int k n).wf = true := by cases h; exact ⟨_, rfl, by assumption⟩
theorem has_str {x : V} (h : Has .str x) : ∃ s, x = .str s ∧ s.length ≤ maxLen := by cases h; exact ⟨_, rfl, by assumption⟩
theorem has_slice {r : List CT} {x : V} (h : Has (.slice r) x) : ∃ rows : List (List V), x = .slice r.length rows ∧ rows.length ≤ maxLen ∧ ∀ row ∈ rows, HasRow r row := by
  cases h with
  | slice r rows hl hz h =>
    refine ⟨rows, rfl, hl, fun row hrow => ?_⟩
    obtain ⟨i, hi, rfl⟩ := List.getElem_of_mem hrow
    have hg : gr rows i = rows[i] := by simp [gr, hi]
    exact ⟨by rw [← hg]; exact hz i hi, fun j hj => by rw [← hg]; exact h i j hi hj⟩
theorem rows_enc {α : Type} {enc : α → List V} {Q : α → Prop} : ∀ {rows : List (List V)}, (∀ row ∈ rows, ∃ a, row = enc a ∧ Q a) → ∃ l : List α, rows = l.map enc ∧ ∀ a ∈ l, Q a
  | [], _ => ⟨[], rfl, fun a ha => by simp at ha⟩
  | row :: rows, h => by
    obtain ⟨a, rfl, ha⟩ := h row (by simp)
    obtain ⟨l, rfl, hl⟩ := rows_enc (rows := rows) (fun r hr => h r (by simp [hr]))
    exact ⟨a :: l, rfl, fun b hb => by
      rcases List.mem_cons.1 hb with rfl | hb
      · exact ha
      · exact hl b hb⟩
theorem arg_int {x : V} (h : ArgV (false, [.int .i64]) x) : ∃ n, x = iz n ∧ (Lit.int .i64 n).wf = true := by
  obtain ⟨c, hc, h⟩ := h
  simp only [List.cons.injEq, and_true] at hc; subst hc
  exact has_int h
theorem arg_str {x : V} (h : ArgV (false, [.str]) x) : ∃ s, x = .str s ∧ s.length ≤ maxLen := by
  obtain ⟨c, hc, h⟩ := h
  simp only [List.cons.injEq, and_true] at hc; subst hc
  exact has_str h
end Sg
namespace Sg
open _root_.Go (IntKind BinOp UnOp)
set_option linter.unusedSimpArgs false
set_option linter.unusedVariables false
set_option maxRecDepth 10000
variable {Pg : Nat → Option Fn}
theorem dN_le {l : List UInt8} (h : l ≠ []) : (dN l).2 ≤ l.length := by
  rcases dN_cases h with x | ⟨a0, t, rfl, q, x⟩ | ⟨a0, a1, t, rfl, q, q1, x⟩ | ⟨a0, a1, a2, t, rfl, q, q1, q2, q3, x⟩ | ⟨a0, a1, a2, a3, t, rfl, q, q1, q2, q3, q4, x⟩
  · rw [x]; have := List.length_pos_iff.2 h; simp only; omega
  all_goals rw [x]; simp
@[go_sem] def eIL (l : List Int) : V := .slice 1 (l.map fun x => [iz x])
def H192 (Pg : Nat → Option Fn) : Prop := Pg 192 = some (.code F192) ∧ H190 Pg
theorem K192 (h : H192 Pg) (a b : List UInt8) : K' Pg 192 [.str a, .str b] = some (iz (cmpL (lets a) (lets b))) := by
  obtain ⟨h, h190⟩ := h
  refine K'_code h rfl ?_
  simp only [go_sem]
  unfold l192_0
  refine wp_lp (fun (p : List UInt8 × List UInt8) S => S.ρ 0 = .str p.1 ∧ S.ρ 1 = .str p.2 ∧ cmpL (lets p.1) (lets p.2) = cmpL (lets a) (lets b)) (fun p => p.1.length) (a, b) ?_ ?_
  · simp [go_sem]
  · intro ⟨x, y⟩ S ⟨h0, h1, ho⟩
    simp only at h0 h1 ho
    have k := K190 h190 x
    have k' := K190 h190 y
    simp only [go_sem, h0, h1]
    by_cases hx : x = []
    · subst hx
      rw [lets_nil] at ho
      by_cases hy : y = []
      · subst hy
        have ho : (0 : Int) = cmpL (lets a) (lets b) := ho
        simp only [go_sem, h0, h1, ← ho]
      · rw [lets_cons hy] at ho
        have ho : (-1 : Int) = cmpL (lets a) (lets b) := ho
        simp only [go_sem, h0, h1, hy, ← ho]
    · by_cases hy : y = []
      · subst hy
        rw [lets_cons hx, lets_nil] at ho
        have ho : (1 : Int) = cmpL (lets a) (lets b) := ho
        simp only [go_sem, h0, h1, hx, ← ho]
      · rw [lets_cons hx, lets_cons hy] at ho
        have ex : decL x = dN x := by rw [decL, if_neg hx]
        have ey : decL y = dN y := by rw [decL, if_neg hy]
        rw [ex] at k
        rw [ey] at k'
        have lx := dN_le hx
        have ly := dN_le hy
        have hd := drop_lt hx
        simp only [go_sem, h0, h1, hx, hy, k, k']
        refine wpc_i (fun c => ?_) (fun c => ?_)
        · rw [cmp_lt' (of_decide_eq_true c)] at ho
          simp only [go_sem, ← ho]
        · have c := of_decide_eq_false c
          simp only [go_sem, h0, h1, hx, hy]
          refine wpc_i (fun d => ?_) (fun d => ?_)
          · rw [cmp_gt' (of_decide_eq_true d)] at ho
            simp only [go_sem, ← ho]
          · have d := of_decide_eq_false d
            have e : ((dN x).1 : Int) = ((dN y).1 : Int) := by omega
            rw [e, cmp_eq'] at ho
            simp only [go_sem, h0, h1, lx, ly]
            exact ⟨(x.drop (dN x).2, y.drop (dN y).2), hd, rfl, rfl, ho⟩
end Sg
namespace Sg
open _root_.Go (IntKind BinOp UnOp)
set_option linter.unusedSimpArgs false
set_option linter.unusedVariables false
set_option maxRecDepth 10000
variable {Pg : Nat → Option Fn}
structure Span where
  lo : List UInt8
  hi : List UInt8
  deriving DecidableEq
@[go_sem] def eSpan (s : Span) : List V := [.str s.lo, .str s.hi]
def ltS (a b : List UInt8) : Bool := decide (cmpL (lets a) (lets b) < 0)
def leS (a b : List UInt8) : Bool := decide (cmpL (lets a) (lets b) ≤ 0)
def spanR (s : Span) : Bool := (decide (s.lo = []) || keyR s.lo) && (decide (s.hi = []) || (keyR s.hi && ltS s.lo s.hi))
theorem keyR_len {l : List UInt8} (h : keyR l = true) : l.length ≤ 16 ∧ l ≠ [] := by
  simp only [keyR, Bool.and_eq_true, decide_eq_true_eq] at h
  exact ⟨h.2.2, fun e => by rw [e] at h; simp at h⟩
def H186 (Pg : Nat → Option Fn) : Prop := Pg 186 = some (.code F186) ∧ H170 Pg ∧ H192 Pg
theorem K186 (h : H186 Pg) (s : Span) : K' Pg 186 [.agg (eSpan s)] = some (.bool (spanR s)) := by
  obtain ⟨h, h170, h192⟩ := h
  have k1 := K170 h170 s.lo
  have k2 := K170 h170 s.hi
  have k3 := K192 h192 s.lo s.hi
  refine K'_code h rfl ?_
  cases c1 : decide (s.lo = []) <;> cases c2 : keyR s.lo <;> cases c3 : decide (s.hi = []) <;> cases c4 : keyR s.hi <;>
    simp only [go_sem, c1, c2, c3, c4, k1, k2, k3, spanR, ltS]
def hasS (s : Span) (k : List UInt8) : Bool := spanR s && (keyR k && (leS s.lo k && (decide (s.hi = []) || ltS k s.hi)))
def H171 (Pg : Nat → Option Fn) : Prop := Pg 171 = some (.code F171) ∧ H186 Pg ∧ H170 Pg ∧ H192 Pg
theorem K171 (h : H171 Pg) (s : Span) (k : List UInt8) : K' Pg 171 [.agg (eSpan s), .str k] = some (.bool (hasS s k)) := by
  obtain ⟨h, h186, h170, h192⟩ := h
  have k1 := K186 h186 s
  have k2 := K170 h170 k
  have k3 := K192 h192 s.lo k
  have k4 := K192 h192 k s.hi
  simp only [eSpan] at k1
  refine K'_code h rfl ?_
  cases c1 : spanR s <;> cases c2 : keyR k <;> cases c3 : decide (cmpL (lets s.lo) (lets k) ≤ 0) <;> cases c4 : decide (s.hi = []) <;>
    simp only [go_sem, c1, c2, c3, c4, k1, k2, k3, k4, hasS, leS, ltS]
def aheadS (lo hi : List UInt8) : Bool := decide (hi = []) || ltS lo hi
end Sg
namespace Sg
open _root_.Go (IntKind BinOp UnOp)
set_option linter.unusedSimpArgs false
set_option linter.unusedVariables false
set_option maxRecDepth 10000
variable {Pg : Nat → Option Fn}
theorem spanR_lo {s : Span} (h : spanR s = true) : (decide (s.lo = []) || keyR s.lo) = true := by
  simp only [spanR, Bool.and_eq_true] at h; exact h.1
theorem spanR_hi {s : Span} (h : spanR s = true) : s.hi = [] ∨ (keyR s.hi = true ∧ cmpL (lets s.lo) (lets s.hi) < 0) := by
  simp only [spanR, Bool.and_eq_true, Bool.or_eq_true, decide_eq_true_eq, ltS] at h; exact h.2
theorem spanR_mk {lo hi : List UInt8} (h1 : (decide (lo = []) || keyR lo) = true) (h2 : hi = [] ∨ keyR hi = true) : spanR ⟨lo, hi⟩ = aheadS lo hi := by
  simp only [spanR, aheadS, h1, Bool.true_and]
  rcases h2 with e | e
  · rw [decide_eq_true e]; rfl
  · rw [e, Bool.true_and]
def emptyS : Span := ⟨[], []⟩
@[go_sem] def eSSE (x : Span × Span × Int) : V := .tuple [.agg (eSpan x.1), .agg (eSpan x.2.1), iz x.2.2]
@[go_sem] def eSE (x : Span × Int) : V := .tuple [.agg (eSpan x.1), iz x.2]
def cutS (s : Span) (k : List UInt8) : Span × Span × Int :=
  if spanR s && keyR k then (if decide (k = s.lo) || !hasS s k then (emptyS, emptyS, 9) else (⟨s.lo, k⟩, ⟨k, s.hi⟩, 0)) else (emptyS, emptyS, 1)
def H178 (Pg : Nat → Option Fn) : Prop := Pg 178 = some (.code F178) ∧ H186 Pg ∧ H170 Pg ∧ H171 Pg
theorem K178 (h : H178 Pg) (s : Span) (k : List UInt8) : K' Pg 178 [.agg (eSpan s), .str k] = some (eSSE (cutS s k)) := by
  obtain ⟨h, h186, h170, h171⟩ := h
  have k1 := K186 h186 s
  have k2 := K170 h170 k
  have k3 := K171 h171 s k
  simp only [eSpan] at k1 k3
  refine K'_code h rfl ?_
  cases c1 : spanR s <;> cases c2 : keyR k <;> cases c3 : decide (k = s.lo) <;> cases c4 : hasS s k <;>
    simp only [go_sem, c1, c2, c3, c4, k1, k2, k3, cutS, emptyS]
theorem lt_key {s : Span} {k : List UInt8} (hs : spanR s = true) (hk : keyR k = true) : ltS s.lo k = (leS s.lo k && !decide (k = s.lo)) := by
  rw [Bool.eq_iff_iff]
  simp only [ltS, leS, Bool.and_eq_true, Bool.not_eq_true', decide_eq_true_eq, decide_eq_false_iff_not]
  have hkk := keyR_len hk
  constructor
  · intro h
    exact ⟨by omega, fun e => by rw [e, cmpL_rfl] at h; omega⟩
  · intro ⟨h1, h2⟩
    have : cmpL (lets s.lo) (lets k) ≠ 0 := fun e => by
      have e := cmpL_eq _ _ e
      have q := spanR_lo hs
      simp only [Bool.or_eq_true, decide_eq_true_eq] at q
      rcases q with q | q
      · rw [q, lets_nil, lets_cons hkk.2] at e; simp at e
      · simp only [keyR, Bool.and_eq_true] at q hk
        exact h2 (lets_inj _ _ _ (Nat.le_refl _) q.1 hk.1 e).symm
    omega
theorem cut_eq {s : Span} {k : List UInt8} (hs : spanR s = true) (hk : keyR k = true) : (spanR ⟨s.lo, k⟩ && spanR ⟨k, s.hi⟩) = !(decide (k = s.lo) || !hasS s k) := by
  have hkk := keyR_len hk
  have e1 := spanR_mk (lo := s.lo) (hi := k) (spanR_lo hs) (.inr hk)
  have e2 := spanR_mk (lo := k) (hi := s.hi) (by rw [hk]; simp) ((spanR_hi hs).imp id fun e => e.1)
  rw [e1, e2]
  have e3 : decide (k = []) = false := decide_eq_false hkk.2
  simp only [aheadS, e3, Bool.false_or, hasS, hs, hk, Bool.true_and, lt_key hs hk]
  cases leS s.lo k <;> cases decide (k = s.lo) <;> simp
end Sg
namespace Sg
open _root_.Go (IntKind BinOp UnOp)
set_option linter.unusedSimpArgs false
set_option linter.unusedVariables false
set_option maxRecDepth 10000
variable {Pg : Nat → Option Fn}
@[go_sem] def eSpans (l : List Span) : V := .slice 2 (l.map eSpan)
def wg : Bool → List UInt8 → List Span → Bool
  | _, last, [] => decide (last = [])
  | f, last, x :: l => spanR x && (decide (x.lo = last) && ((f || !decide (last = [])) && wg false x.hi l))
def wholeS (l : List Span) : Bool := !decide (l = []) && wg true [] l
theorem lst_pos {α : Type} [DecidableEq α] {l : List α} : decide ((0 : Int) < (l.length : Int)) = !decide (l = []) := by cases l <;> simp
def H166 (Pg : Nat → Option Fn) : Prop := Pg 166 = some (.code F166) ∧ H186 Pg
theorem K166 (h : H166 Pg) (l : List Span) (hl : l.length < 2 ^ 60) : K' Pg 166 [eSpans l] = some (.bool (wholeS l)) := by
  obtain ⟨h, h186⟩ := h
  have k := fun x => K186 h186 x
  simp only [eSpan] at k
  refine K'_code h rfl ?_
  simp only [go_sem]
  unfold l166_0
  refine wp_lp (fun (i : Nat) S => i ≤ l.length ∧ S.ρ 0 = eSpans l ∧ S.μ 5 = none ∧ S.ρ 6 = eSpans l ∧ S.ρ 7 = iz l.length ∧ S.ρ 8 = iz i ∧ ∃ last, S.ρ 3 = .str last ∧ wg (decide (i = 0)) last (l.drop i) = wg true [] l) (fun i => l.length - i) 0 ?_ ?_
  · simp [go_sem]
  · intro i S ⟨hi, h0, m5, h6, h7, h8, last, h3, ho⟩
    simp only [go_sem, h0, h3, m5, h6, h7, h8]
    refine wpc_i (fun h => ?_) (fun h => ?_)
    · have h := lt_of h
      obtain ⟨x, hx, hd⟩ := drop_at h
      rw [hd] at ho
      simp only [wg] at ho
      simp only [go_sem, h0, h3, m5, h6, h7, h8, hx, k]
      cases c1 : spanR x with
      | false => rw [c1, Bool.false_and] at ho; simp only [go_sem, c1, wholeS, ← ho]
      | true =>
      cases c2 : decide (x.lo = last) with
      | false => rw [c1, c2] at ho; simp only [Bool.false_and, Bool.and_false] at ho; simp only [go_sem, c1, c2, wholeS, ← ho, h0, h3, m5, h6, h7, h8, hx, k]
      | true =>
      rw [c1, c2] at ho
      simp only [Bool.true_and] at ho
      cases c3 : decide (i = 0) with
      | true =>
        rw [c3] at ho
        simp only [Bool.true_or, Bool.true_and] at ho
        simp only [go_sem, c1, c2, c3, h0, h3, m5, h6, h7, h8, hx, k, posd]
        exact ⟨i + 1, by omega, by omega, by rw [inc64 h hl], _, rfl, ho⟩
      | false =>
        rw [c3] at ho
        simp only [Bool.false_or] at ho
        cases c4 : decide (last = []) with
        | true => rw [c4] at ho; simp only [Bool.not_true, Bool.false_and] at ho; simp only [go_sem, c1, c2, c3, c4, wholeS, ← ho, h0, h3, m5, h6, h7, h8, hx, k, posd]
        | false =>
          rw [c4] at ho
          simp only [Bool.not_false, Bool.true_and] at ho
          simp only [go_sem, c1, c2, c3, c4, h0, h3, m5, h6, h7, h8, hx, k, posd]
          exact ⟨i + 1, by omega, by omega, by rw [inc64 h hl], _, rfl, ho⟩
    · have h := eq_of hi h
      subst h
      rw [List.drop_length] at ho
      simp only [wg] at ho
      simp only [go_sem, h0, h3, lst_pos, wholeS, ← ho]
      cases c : decide (l = []) <;> simp only [go_sem, c, h0, h3]
end Sg
namespace Sg
open _root_.Go (IntKind BinOp UnOp)
set_option linter.unusedSimpArgs false
set_option linter.unusedVariables false
set_option maxRecDepth 10000
variable {Pg : Nat → Option Fn}
structure Place where
  span : Span
  shard : Int
  cell : Int
  epoch : Int
  deriving DecidableEq
@[go_sem] def ePl (p : Place) : List V := [.str p.span.lo, .str p.span.hi, iz p.shard, iz p.cell, iz p.epoch]
@[go_sem] def ePls (l : List Place) : V := .slice 5 (l.map ePl)
def numA (n : Int) : Bool := decide (1 ≤ n) && decide (n ≤ 1099511627776)
def celA (n : Int) : Bool := decide (1 ≤ n) && decide (n ≤ 3)
def okPl (p : Place) : Bool := numA p.shard && (numA p.epoch && celA p.cell)
def gR : List Place → Bool
  | [] => true
  | p :: l => okPl p && (!(l.any fun q => decide (q.shard = p.shard)) && gR l)
def gA : List Place → List Place → Bool
  | _, [] => true
  | seen, p :: l => okPl p && (!(seen.any fun q => decide (q.shard = p.shard)) && gA (seen ++ [p]) l)
theorem gA_gR : ∀ (l seen : List Place), gA seen l = (gR l && l.all fun p => !(seen.any fun q => decide (q.shard = p.shard)))
  | [], seen => by simp [gA, gR]
  | p :: l, seen => by
    have h1 : (l.all fun q => !((seen ++ [p]).any fun r => decide (r.shard = q.shard))) = ((l.all fun q => !(seen.any fun r => decide (r.shard = q.shard))) && !(l.any fun q => decide (q.shard = p.shard))) := by
      rw [List.not_any_eq_all_not]
      rw [Bool.eq_iff_iff]
      simp only [Bool.and_eq_true, List.all_eq_true, Bool.not_eq_true', List.any_append, List.any_cons, List.any_nil, Bool.or_false, Bool.or_eq_false_iff, decide_eq_false_iff_not]
      exact ⟨fun h => ⟨fun q hq => (h q hq).1, fun q hq => fun e => (h q hq).2 e.symm⟩, fun h q hq => ⟨h.1 q hq, fun e => h.2 q hq e.symm⟩⟩
    simp only [gA, gR, List.all_cons, gA_gR l (seen ++ [p]), h1]
    cases okPl p <;> cases (seen.any fun q => decide (q.shard = p.shard)) <;> cases (l.any fun q => decide (q.shard = p.shard)) <;> cases gR l <;> simp
def rightA (l : List Place) : Bool := decide (l.length ≤ 8) && (gR l && wholeS (l.map Place.span))
theorem gR_A {l : List Place} : gA [] l = gR l := by
  rw [gA_gR]; simp
def H162 (Pg : Nat → Option Fn) : Prop := Pg 162 = some (.code F162)
theorem K162 (h : H162 Pg) (n : Int) : K' Pg 162 [iz n] = some (.bool (numA n)) := by
  refine K'_code h rfl ?_
  simp only [go_sem]
  cases c1 : decide (1 ≤ n) <;> simp only [go_sem, c1, numA]
def H163 (Pg : Nat → Option Fn) : Prop := Pg 163 = some (.code F163)
theorem K163 (h : H163 Pg) (n : Int) : K' Pg 163 [iz n] = some (.bool (celA n)) := by
  refine K'_code h rfl ?_
  simp only [go_sem]
  cases c1 : decide (1 ≤ n) <;> simp only [go_sem, c1, celA]
def H164 (Pg : Nat → Option Fn) : Prop := Pg 164 = some (.code F164)
theorem K164 (h : H164 Pg) (q p : Place) : K' Pg 164 [.agg (ePl q), .cptr (ePl p) 0] = some (.bool (decide (q.shard = p.shard))) := by
  refine K'_code h rfl ?_
  simp only [go_sem]
def H194 (Pg : Nat → Option Fn) : Prop := Pg 194 = some (.code F194)
theorem K194 (h : H194 Pg) (q : Place) (n : Int) : K' Pg 194 [.agg (ePl q), .cptr [iz n] 0] = some (.bool (decide (q.shard = n))) := by
  refine K'_code h rfl ?_
  simp only [go_sem]
def idxP : List Place → (Place → Bool) → Nat → Int
  | [], _, _ => -1
  | a :: l, p, i => if p a then i else idxP l p (i + 1)
theorem idxP_any : ∀ {l : List Place} {p : Place → Bool} {i : Nat}, decide (0 ≤ idxP l p i) = l.any p
  | [], p, i => by simp [idxP]
  | a :: l, p, i => by
    simp only [idxP]
    split
    · rename_i h; simp [h]
    · rename_i h; rw [idxP_any]; simp [h]
def H185 (Pg : Nat → Option Fn) : Prop := Pg 185 = some (.code F185)
theorem K185 (h : H185 Pg) (l : List Place) (g : Nat) (cap : List V) (p : Place → Bool) (hl : l.length < 2 ^ 60) (hg : ∀ x ∈ l, K' Pg g (.agg (ePl x) :: cap) = some (.bool (p x))) :
    K' Pg 185 [ePls l, .func g cap] = some (iz (idxP l p 0)) := by
  refine K'_code h rfl ?_
  simp only [ePl] at hg
  simp only [go_sem]
  unfold l185_0
  refine wp_lp (fun (i : Nat) S => i ≤ l.length ∧ S.ρ 0 = ePls l ∧ S.ρ 1 = .func g cap ∧ S.ρ 7 = iz l.length ∧ S.ρ 8 = iz i ∧ idxP (l.drop i) p i = idxP l p 0) (fun i => l.length - i) 0 ?_ ?_
  · simp [go_sem]
  · intro i S ⟨hi, h0, h1, h7, h8, ho⟩
    simp only [go_sem, h0, h1, h7, h8]
    refine wpc_i (fun h => ?_) (fun h => ?_)
    · have h := lt_of h
      obtain ⟨x, hx, hd⟩ := drop_at h
      rw [hd] at ho
      have hgx := hg x (List.mem_of_getElem? hx)
      simp only [go_sem, h0, h1, h7, h8, hx, hgx]
      refine wpc_i (fun hc => ?_) (fun hc => ?_)
      · simp only [idxP, hc, if_true] at ho
        simp only [go_sem, ← ho]
      · simp only [idxP, hc, Bool.false_eq_true, if_false] at ho
        simp only [go_sem, h0, h1, h7, h8]
        exact ⟨i + 1, by omega, by omega, by rw [inc64 h hl], ho⟩
    · have h := eq_of hi h
      subst h
      simp only [List.drop_length, idxP] at ho
      simp only [go_sem, ← ho]
def H165 (Pg : Nat → Option Fn) : Prop := Pg 165 = some (.code F165) ∧ H185 Pg
theorem K165 (h : H165 Pg) (l : List Place) (g : Nat) (cap : List V) (p : Place → Bool) (hl : l.length < 2 ^ 60) (hg : ∀ x ∈ l, K' Pg g (.agg (ePl x) :: cap) = some (.bool (p x))) :
    K' Pg 165 [ePls l, .func g cap] = some (.bool (l.any p)) := by
  obtain ⟨h, h185⟩ := h
  have k := K185 h185 l g cap p hl hg
  simp only [ePls] at k
  refine K'_code h rfl ?_
  simp only [go_sem, k, idxP_any]
def H141 (Pg : Nat → Option Fn) : Prop := Pg 141 = some (.code F141) ∧ H162 Pg ∧ H163 Pg ∧ H164 Pg ∧ H165 Pg ∧ H166 Pg
theorem K141 (h : H141 Pg) (l : List Place) : K' Pg 141 [ePls l] = some (.bool (rightA l)) := by
  obtain ⟨h, h162, h163, h164, h165, h166⟩ := h
  have k162 := fun x => K162 h162 x
  have k163 := fun x => K163 h163 x
  refine K'_code h rfl ?_
  simp only [go_sem]
  refine wpc_i (fun hc => ?_) (fun hc => ?_)
  · have hc : ¬ l.length ≤ 8 := by have := of_decide_eq_true hc; omega
    simp only [go_sem, rightA, hc]
  have hc : l.length ≤ 8 := by have := of_decide_eq_false hc; omega
  have hr : rightA l = (gR l && wholeS (l.map Place.span)) := by simp [rightA, hc]
  rw [hr]
  have k166 := K166 h166 (l.map Place.span) (by simp; omega)
  simp only [eSpans] at k166
  simp only [go_sem, mkA]
  unfold l141_0
  refine wp_lp (fun (i : Nat) S => i ≤ l.length ∧ S.ρ 0 = ePls l ∧ S.μ 5 = none ∧ S.A 3 = some (2, ((l.take i).map Place.span).map eSpan, .live) ∧ S.ρ 3 = .own 3 2 i ∧ S.ρ 9 = ePls l ∧ S.ρ 10 = iz l.length ∧ S.ρ 11 = iz i ∧ gA (l.take i) (l.drop i) = gR l) (fun i => l.length - i) 0 ?_ ?_
  · simp [go_sem, gR_A]
  · intro i S ⟨hi, h0, m5, a3, h3, h9, h10, h11, ho⟩
    have hlim : ((List.map Place.span (List.take i l)).map eSpan).length + 1 ≤ lim := by simp [lim]; omega
    have hil : ((List.map Place.span (List.take i l)).map eSpan).length = i := by simp; omega
    have hlim : i + 1 ≤ lim := by simp [lim]; omega
    simp only [go_sem, h0, m5, a3, h3, h9, h10, h11]
    refine wpc_i (fun h => ?_) (fun h => ?_)
    · have h := lt_of h
      obtain ⟨x, hx, hd⟩ := drop_at h
      rw [hd] at ho
      simp only [gA] at ho
      have kc := K165 h165 (l.take i) 164 [.cptr (ePl x) 0] (fun q => decide (q.shard = x.shard)) (by simp; omega) (fun q _ => K164 h164 q x)
      simp only [ePls, ePl, List.map_take] at kc
      simp only [go_sem, h0, m5, a3, h3, h9, h10, h11, hx, k162, k163]
      cases c1 : numA x.shard with
      | false =>
        simp only [okPl, c1, Bool.false_and] at ho
        simp only [go_sem, c1, ← ho, h0, m5, a3, h3, h9, h10, h11, hx, k162, k163]
      | true =>
      cases c2 : numA x.epoch with
      | false =>
        simp only [okPl, c1, c2, Bool.false_and, Bool.and_false] at ho
        simp only [go_sem, c1, c2, ← ho, h0, m5, a3, h3, h9, h10, h11, hx, k162, k163]
      | true =>
      cases c3 : celA x.cell with
      | false =>
        simp only [okPl, c1, c2, c3, Bool.false_and, Bool.and_false] at ho
        simp only [go_sem, c1, c2, c3, ← ho, h0, m5, a3, h3, h9, h10, h11, hx, k162, k163]
      | true =>
      simp only [okPl, c1, c2, c3, Bool.true_and] at ho
      simp only [go_sem, c1, c2, c3, h0, m5, a3, h3, h9, h10, h11, hx, k162, k163, hi, kc]
      cases c4 : (l.take i).any (fun q => decide (q.shard = x.shard)) with
      | true =>
        rw [c4] at ho
        simp only [Bool.not_true, Bool.false_and] at ho
        simp only [go_sem, c4, ← ho]
      | false =>
        rw [c4] at ho
        simp only [Bool.not_false, Bool.true_and] at ho
        simp only [go_sem, c4, h0, m5, a3, h3, h9, h10, h11, hx, hil, hlim]
        refine ⟨i + 1, by omega, by omega, ?_, ?_, by rw [inc64 h (by omega)], by rw [take_s hx]; exact ho⟩
        · rw [take_s hx]; simp [eSpan]
        · rfl
    · have h := eq_of hi h
      subst h
      rw [List.take_length] at a3 ho
      rw [List.drop_length] at ho
      have ho : true = gR l := ho
      simp only [go_sem, h0, a3, h3, k166, ← ho]
def zeroPl : Place := ⟨⟨[], []⟩, 0, 0, 0⟩
@[go_sem] def eOP (o : Option Place) : V := .tuple [.agg (ePl (o.getD zeroPl)), .bool o.isSome]
def findA (l : List Place) (k : List UInt8) : Option Place := l.find? fun p => decide (k = []) || hasS p.span k
def keyE (k : List UInt8) : Bool := decide (k = []) || keyR k
def H144 (Pg : Nat → Option Fn) : Prop := Pg 144 = some (.code F144) ∧ H141 Pg ∧ H170 Pg ∧ H171 Pg
theorem K144 (h : H144 Pg) (l : List Place) (k : List UInt8) (hl : l.length < 2 ^ 60) : K' Pg 144 [ePls l, .str k] = some (eOP (if rightA l && keyE k then findA l k else none)) := by
  obtain ⟨h, h141, h170, h171⟩ := h
  have k141 := K141 h141 l
  have k170 := K170 h170 k
  have k171 := fun s => K171 h171 s k
  simp only [ePls] at k141
  simp only [eSpan] at k171
  refine K'_code h rfl ?_
  have main : (rightA l && keyE k) = true → ∀ S : St, S.ρ 0 = ePls l → S.ρ 1 = .str k → True := fun _ _ _ _ => trivial
  cases c1 : rightA l with
  | false => simp only [go_sem, c1, k141, zeroPl, Option.isSome_none]
  | true =>
  cases c2 : decide (k = []) with
  | true =>
    have e : (true && keyE k) = true := by simp [keyE, c2]
    rw [if_pos e]
    simp only [go_sem, c1, c2, k141, k170]
    unfold l144_0
    refine wp_lp (fun (i : Nat) S => i ≤ l.length ∧ S.ρ 1 = .str k ∧ S.ρ 4 = .lref 4 0 ∧ S.μ 4 = some (ePl zeroPl, false) ∧ S.μ 7 = none ∧ S.ρ 21 = ePls l ∧ S.ρ 22 = iz l.length ∧ S.ρ 23 = iz i ∧ findA (l.drop i) k = findA l k) (fun i => l.length - i) 0 ?_ ?_
    · simp [go_sem, zeroPl]
    · intro i S ⟨hi, h1, h4, m4, m7, h21, h22, h23, ho⟩
      simp only [go_sem, h1, h4, m4, m7, h21, h22, h23]
      refine wpc_i (fun h => ?_) (fun h => ?_)
      · have h := lt_of h
        obtain ⟨x, hx, hd⟩ := drop_at h
        rw [hd] at ho
        simp only [findA, List.find?_cons, c2, Bool.true_or] at ho
        simp only [go_sem, h1, h4, m4, m7, h21, h22, h23, hx, c2, findA, ← ho, Option.isSome_some, zeroPl]
      · have h := eq_of hi h
        subst h
        rw [List.drop_length] at ho
        have ho : none = findA l k := ho
        simp only [go_sem, h1, h4, m4, m7, h21, h22, h23, ← ho, zeroPl, Option.isSome_none]
  | false =>
  cases c3 : keyR k with
  | false =>
    have e : ¬ (true && keyE k) = true := by simp [keyE, c2, c3]
    rw [if_neg e]
    simp only [go_sem, c1, c2, c3, k141, k170, zeroPl, Option.isSome_none]
  | true =>
    have e : (true && keyE k) = true := by simp [keyE, c2, c3]
    rw [if_pos e]
    simp only [go_sem, c1, c2, c3, k141, k170]
    unfold l144_0
    refine wp_lp (fun (i : Nat) S => i ≤ l.length ∧ S.ρ 1 = .str k ∧ S.ρ 4 = .lref 4 0 ∧ S.μ 4 = some (ePl zeroPl, false) ∧ S.μ 7 = none ∧ S.ρ 21 = ePls l ∧ S.ρ 22 = iz l.length ∧ S.ρ 23 = iz i ∧ findA (l.drop i) k = findA l k) (fun i => l.length - i) 0 ?_ ?_
    · simp [go_sem, zeroPl]
    · intro i S ⟨hi, h1, h4, m4, m7, h21, h22, h23, ho⟩
      simp only [go_sem, h1, h4, m4, m7, h21, h22, h23]
      refine wpc_i (fun h => ?_) (fun h => ?_)
      · have h := lt_of h
        obtain ⟨x, hx, hd⟩ := drop_at h
        rw [hd] at ho
        simp only [findA, List.find?_cons, c2, Bool.false_or] at ho
        simp only [go_sem, h1, h4, m4, m7, h21, h22, h23, hx, c2, k171]
        cases c4 : hasS x.span k with
        | true =>
          rw [c4] at ho
          simp only at ho
          simp only [go_sem, c4, h1, h4, m4, m7, h21, h22, h23, hx, findA, c2, Bool.false_or, ← ho, Option.isSome_some, zeroPl]
        | false =>
          rw [c4] at ho
          simp only at ho
          simp only [go_sem, c4, h1, h4, m4, m7, h21, h22, h23, hx]
          refine ⟨i + 1, by omega, by omega, by rw [inc64 h hl], ?_⟩
          simp only [findA, c2, Bool.false_or]
          exact ho
      · have h := eq_of hi h
        subst h
        rw [List.drop_length] at ho
        have ho : none = findA l k := ho
        simp only [go_sem, h1, h4, m4, m7, h21, h22, h23, ← ho, zeroPl, Option.isSome_none]
end Sg
namespace Sg
open _root_.Go (IntKind BinOp UnOp)
set_option linter.unusedSimpArgs false
set_option linter.unusedVariables false
set_option maxRecDepth 10000
variable {Pg : Nat → Option Fn}
def idxA (l : List Place) (n : Int) : Int := idxP l (fun p => decide (p.shard = n)) 0
def H175 (Pg : Nat → Option Fn) : Prop := Pg 175 = some (.code F175) ∧ H185 Pg ∧ H194 Pg
theorem K175 (h : H175 Pg) (l : List Place) (n : Int) (hl : l.length < 2 ^ 60) : K' Pg 175 [ePls l, iz n] = some (iz (idxA l n)) := by
  obtain ⟨h, h185, h194⟩ := h
  have k := K185 h185 l 194 [.cptr [iz n] 0] (fun p => decide (p.shard = n)) hl (fun p _ => K194 h194 p n)
  simp only [ePls] at k
  refine K'_code h rfl ?_
  simp only [go_sem, k, idxA]
theorem idxP_spec : ∀ (l : List Place) (p : Place → Bool) (i : Nat), (idxP l p i = -1 ∧ l.find? p = none ∧ ∀ x ∈ l, p x = false) ∨ (∃ j x, idxP l p i = ((i + j : Nat) : Int) ∧ l[j]? = some x ∧ l.find? p = some x ∧ p x = true ∧ ∀ y ∈ l.take j, p y = false)
  | [], p, i => .inl ⟨rfl, rfl, by simp⟩
  | a :: l, p, i => by
    by_cases h : p a = true
    · right
      exact ⟨0, a, by simp [idxP, h], rfl, by simp [h], h, by simp⟩
    · have h : p a = false := by simpa using h
      rcases idxP_spec l p (i + 1) with ⟨h1, h2, h3⟩ | ⟨j, x, h1, h2, h3, h4, h5⟩
      · left
        refine ⟨by simp [idxP, h, h1], by simp [h, h2], fun y hy => ?_⟩
        rcases List.mem_cons.1 hy with rfl | hy
        · exact h
        · exact h3 y hy
      · right
        have e1 : i + 1 + j = i + (j + 1) := by omega
        refine ⟨j + 1, x, by simp only [idxP, h, Bool.false_eq_true, if_false, h1, e1], by simpa using h2, by simp [h, h3], h4, ?_⟩
        intro y hy
        simp only [List.take_succ_cons] at hy
        rcases List.mem_cons.1 hy with rfl | hy
        · exact h
        · exact h5 y hy
def ofA (l : List Place) (n : Int) : Option Place := l.find? fun p => decide (p.shard = n)
theorem idxA_spec (l : List Place) (n : Int) : (idxA l n = -1 ∧ ofA l n = none) ∨ (∃ (j : Nat) (x : Place), idxA l n = (j : Int) ∧ l[j]? = some x ∧ ofA l n = some x ∧ x.shard = n ∧ ∀ y ∈ l.take j, y.shard ≠ n) := by
  rcases idxP_spec l (fun p => decide (p.shard = n)) 0 with ⟨h1, h2, -⟩ | ⟨j, x, h1, h2, h3, h4, h5⟩
  · exact .inl ⟨h1, h2⟩
  · exact .inr ⟨j, x, by simpa [idxA] using h1, h2, h3, by simpa using h4, fun y hy => by simpa using h5 y hy⟩
def firstA : List Place := [⟨⟨[], []⟩, 1, 1, 1⟩]
def H154 (Pg : Nat → Option Fn) : Prop := Pg 154 = some (.code F154)
theorem K154 (h : H154 Pg) : K' Pg 154 [] = some (ePls firstA) := by
  refine K'_code h rfl ?_
  simp only [go_sem, firstA]
end Sg
namespace Sg
open _root_.Go (IntKind BinOp UnOp)
set_option linter.unusedSimpArgs false
set_option linter.unusedVariables false
set_option maxRecDepth 10000
variable {Pg : Nat → Option Fn}
@[go_sem] def ePE (x : List Place × Int) : V := .tuple [ePls x.1, iz x.2]
@[go_sem] def eII (x : Int × Int) : V := .tuple [iz x.1, iz x.2]
def readyA (l : List Place) (shard epoch : Int) : Int × Int :=
  if rightA l && numA epoch then (match ofA l shard with | none => (0, 7) | some p => if epoch ≤ p.epoch then (0, 9) else (idxA l shard, 0)) else (0, 1)
def H177 (Pg : Nat → Option Fn) : Prop := Pg 177 = some (.code F177) ∧ H141 Pg ∧ H162 Pg ∧ H175 Pg
theorem K177 (h : H177 Pg) (l : List Place) (n e : Int) (hl : l.length < 2 ^ 60) : K' Pg 177 [ePls l, iz n, iz e] = some (eII (readyA l n e)) := by
  obtain ⟨h, h141, h162, h175⟩ := h
  have k141 := K141 h141 l
  have k162 := K162 h162 e
  have k175 := K175 h175 l n hl
  simp only [ePls] at k141 k175
  refine K'_code h rfl ?_
  cases c1 : rightA l with
  | false => simp only [go_sem, k141, k175, c1, readyA]
  | true =>
  cases c2 : numA e with
  | false => simp only [go_sem, k141, k162, k175, c1, c2, readyA]
  | true =>
  rcases idxA_spec l n with ⟨e1, e2⟩ | ⟨j, x, e1, e2, e3, -⟩
  · rw [e1] at k175
    simp only [go_sem, k141, k162, k175, c1, c2, readyA, e2]
  · rw [e1] at k175
    have hj : decide ((j : Int) < 0) = false := decide_eq_false (by omega)
    cases c3 : decide (e ≤ x.epoch) with
    | true =>
      have c3' := of_decide_eq_true c3
      simp only [go_sem, k141, k162, k175, c1, c2, c3, c3', hj, e1, e2, e3, readyA]
    | false =>
      have c3' := of_decide_eq_false c3
      simp only [go_sem, k141, k162, k175, c1, c2, c3, c3', hj, e1, e2, e3, readyA]
theorem ready_0 {l : List Place} {n e : Int} (h : (readyA l n e).2 = 0) : rightA l = true ∧ numA e = true ∧ ∃ (j : Nat) (x : Place), idxA l n = (j : Int) ∧ l[j]? = some x ∧ ofA l n = some x ∧ x.shard = n ∧ (∀ y ∈ l.take j, y.shard ≠ n) ∧ ¬ e ≤ x.epoch ∧ readyA l n e = ((j : Int), 0) := by
  simp only [readyA] at h ⊢
  split at h
  · rename_i hc
    rw [Bool.and_eq_true] at hc
    rcases idxA_spec l n with ⟨e1, e2⟩ | ⟨j, x, e1, e2, e3, e4, e5⟩
    · rw [e2] at h; simp at h
    · rw [e3] at h
      simp only at h
      split at h
      · simp at h
      · rename_i he
        refine ⟨hc.1, hc.2, j, x, e1, e2, e3, e4, e5, he, ?_⟩
        rw [e3]
        simp only [hc.1, hc.2, e1, he, if_false]
        rfl
  · simp at h
def H179 (Pg : Nat → Option Fn) : Prop := Pg 179 = some (.prim (some 0) (cloneQ 5))
theorem K179 (h : H179 Pg) (rows : List (List V)) (hl : rows.length ≤ lim) : K' Pg 179 [.slice 5 rows] = some (.slice 5 rows) := by
  rw [K'_prim h]; simp [cloneQ, hl]
theorem ins_get {α : Type} {L : List α} {j : Nat} {x new : α} (h : L[j]? = some x) : (L.take (j + 1) ++ new :: L.drop (j + 1))[j]? = some x := by
  have hj := (List.getElem?_eq_some_iff.1 h).1
  rw [List.getElem?_append_left (by rw [List.length_take]; omega), List.getElem?_take_of_lt (by omega), h]
theorem ins_set {α : Type} {L : List α} {j : Nat} {x new r : α} (h : L[j]? = some x) : (L.take (j + 1) ++ new :: L.drop (j + 1)).set j r = L.take j ++ r :: new :: L.drop (j + 1) := by
  have hj := (List.getElem?_eq_some_iff.1 h).1
  rw [take_s h, List.append_assoc, List.set_append_right _ _ (by rw [List.length_take]; omega)]
  have : j - (L.take j).length = 0 := by rw [List.length_take]; omega
  rw [this]; rfl
theorem mid_get {α : Type} {L D : List α} {j : Nat} {r : α} (h : j ≤ L.length) : (L.take j ++ r :: D)[j]? = some r := by
  have e : (L.take j).length = j := by rw [List.length_take]; omega
  rw [List.getElem?_append_right (by omega), e]; simp
theorem mid_set {α : Type} {L D : List α} {j : Nat} {r r' : α} (h : j ≤ L.length) : (L.take j ++ r :: D).set j r' = L.take j ++ r' :: D := by
  have e : (L.take j).length = j := by rw [List.length_take]; omega
  rw [List.set_append_right _ _ (by omega), e]; simp
def partedL (l : List Place) (j : Nat) (p : Place) (low high : Span) (o e : Int) : List Place := l.take j ++ ⟨low, p.shard, p.cell, e⟩ :: ⟨high, o, p.cell, e⟩ :: l.drop (j + 1)
def partedA (l : List Place) (n : Int) (k : List UInt8) (o e : Int) : List Place × Int :=
  if numA o then (if (readyA l n e).2 = 0 then (match ofA l n with
    | none => ([], 0)
    | some p => if 0 ≤ idxA l o then ([], 8) else if l.length = 8 then ([], 6) else
      if (cutS p.span k).2.2 = 0 then (partedL l (idxA l n).toNat p (cutS p.span k).1 (cutS p.span k).2.1 o e, 0) else ([], (cutS p.span k).2.2)) else ([], (readyA l n e).2)) else ([], 1)
def H156 (Pg : Nat → Option Fn) : Prop := Pg 156 = some (.code F156) ∧ H162 Pg ∧ H175 Pg ∧ H177 Pg ∧ H178 Pg ∧ H179 Pg
theorem K156 (h : H156 Pg) (l : List Place) (n : Int) (k : List UInt8) (o e : Int) (hl : l.length ≤ 1000) : K' Pg 156 [ePls l, iz n, .str k, iz o, iz e] = some (ePE (partedA l n k o e)) := by
  obtain ⟨h, h162, h175, h177, h178, h179⟩ := h
  have k162 := K162 h162 o
  have k175 := K175 h175 l o (by omega)
  have k177 := K177 h177 l n e (by omega)
  have k178 := fun s => K178 h178 s k
  have k179 := K179 h179 (l.map ePl) (by simp [lim]; omega)
  simp only [ePls, eII] at k177 k175
  simp only [eSpan, eSSE] at k178
  refine K'_code h rfl ?_
  cases c1 : numA o with
  | false => simp only [go_sem, k162, k177, c1, partedA]
  | true =>
  cases c2 : decide ((readyA l n e).2 = 0) with
  | false =>
    have h2 := of_decide_eq_false c2
    simp only [go_sem, k162, k177, c1, c2, partedA, h2]
  | true =>
    have h2 := of_decide_eq_true c2
    obtain ⟨-, -, j, x, e1, e2, e3, e4, -, e5, e6⟩ := ready_0 h2
    have hj : j < l.length := (List.getElem?_eq_some_iff.1 e2).1
    rw [e6] at k177
    simp only at k177
    cases c3 : decide (0 ≤ idxA l o) with
    | true =>
      have hm : partedA l n k o e = ([], 8) := by
        simp only [partedA, c1, h2, e3, of_decide_eq_true c3, if_true]
      rw [hm]
      simp only [go_sem, k162, k175, k177, c1, e2, c3]
    | false =>
    have c3' := of_decide_eq_false c3
    cases c4 : decide ((l.length : Int) = 8) with
    | true =>
      have c4' : l.length = 8 := by have := of_decide_eq_true c4; omega
      have hm : partedA l n k o e = ([], 6) := by
        simp only [partedA, c1, h2, e3, c3', c4', if_true, if_false]
      rw [hm]
      simp only [go_sem, k162, k175, k177, c1, e2, c3, c4]
    | false =>
    have c4' : ¬ l.length = 8 := by have := of_decide_eq_false c4; omega
    cases c5 : decide ((cutS x.span k).2.2 = 0) with
    | false =>
      have hm : partedA l n k o e = ([], (cutS x.span k).2.2) := by
        simp only [partedA, c1, h2, e3, c3', c4', of_decide_eq_false c5, if_true, if_false]
      rw [hm]
      simp only [go_sem, k162, k175, k177, k178, c1, e2, c3, c4, c5]
    | true =>
      have hm : partedA l n k o e = (partedL l j x (cutS x.span k).1 (cutS x.span k).2.1 o e, 0) := by
        simp only [partedA, c1, h2, e1, e3, c3', c4', of_decide_eq_true c5, if_true, if_false]; rfl
      rw [hm]
      have hlim : l.length + 1 ≤ lim := by simp only [lim]; omega
      have hinc : IntKind.i64.wrap ((j : Int) + 1) = ((j + 1 : Nat) : Int) := inc64 hj (by omega)
      have hj1 : j + 1 ≤ l.length := hj
      simp only [go_sem, k162, k175, k177, k178, k179, c1, e2, c3, c4, c5, hinc, hlim, hj, hj1]
      have hx : (l.map ePl)[j]? = some (ePl x) := by simp [e2]
      have hjl : j ≤ (l.map ePl).length := by simp; omega
      have q1 : ∀ new, ((l.map ePl).take (j + 1) ++ new :: (l.map ePl).drop (j + 1))[j]? = some (ePl x) := fun new => ins_get hx
      have q2 : ∀ new r, ((l.map ePl).take (j + 1) ++ new :: (l.map ePl).drop (j + 1)).set j r = (l.map ePl).take j ++ r :: new :: (l.map ePl).drop (j + 1) := fun new r => ins_set hx
      have q3 : ∀ r D, ((l.map ePl).take j ++ r :: D)[j]? = some r := fun r D => mid_get hjl
      have q4 : ∀ r r' D, ((l.map ePl).take j ++ r :: D).set j r' = (l.map ePl).take j ++ r' :: D := fun r r' D => mid_set hjl
      have q5 : (List.take (j + 1) (List.map ePl l)).length + ((List.drop (j + 1) (List.map ePl l)).length + 1) = l.length + 1 := by
        rw [List.length_take, List.length_drop, List.length_map]; omega
      have q6 : (List.take j (List.map ePl l)).length + ((List.drop (j + 1) (List.map ePl l)).length + 1 + 1) = l.length + 1 := by
        rw [List.length_take, List.length_drop, List.length_map]; omega
      have q7 : (partedL l j x (cutS x.span k).1 (cutS x.span k).2.1 o e).map ePl = (l.map ePl).take j ++ ePl ⟨(cutS x.span k).1, x.shard, x.cell, e⟩ :: ePl ⟨(cutS x.span k).2.1, o, x.cell, e⟩ :: (l.map ePl).drop (j + 1) := by
        simp [partedL]
      simp only [ePl] at q1 q7
      rw [q7]
      have hj2 : j < l.length + 1 := by omega
      simp only [go_sem, q1, q2, q3, q4, q5, q6, hj2]
theorem del_get {α : Type} {L D : List α} {j : Nat} {x : α} (h : L[j]? = some x) : (L.take (j + 1) ++ D)[j]? = some x := by
  have hj := (List.getElem?_eq_some_iff.1 h).1
  rw [List.getElem?_append_left (by rw [List.length_take]; omega), List.getElem?_take_of_lt (by omega), h]
theorem del_set {α : Type} {L D : List α} {j : Nat} {x r : α} (h : L[j]? = some x) : (L.take (j + 1) ++ D).set j r = L.take j ++ r :: D := by
  have hj := (List.getElem?_eq_some_iff.1 h).1
  rw [take_s h, List.append_assoc, List.set_append_right _ _ (by rw [List.length_take]; omega)]
  have : j - (L.take j).length = 0 := by rw [List.length_take]; omega
  rw [this]; rfl
def joinedL (l : List Place) (j : Nat) (p q : Place) (e : Int) : List Place := l.take j ++ ⟨⟨p.span.lo, q.span.hi⟩, p.shard, p.cell, e⟩ :: l.drop (j + 2)
def joinedA (l : List Place) (n o e : Int) : List Place × Int :=
  if numA o then (if (readyA l n e).2 = 0 then (match ofA l n with
    | none => ([], 0)
    | some p => match ofA l o with
      | none => ([], 7)
      | some q => if idxA l o = idxA l n + 1 ∧ p.cell = q.cell ∧ ¬ e ≤ q.epoch then (joinedL l (idxA l n).toNat p q e, 0) else ([], 9)) else ([], (readyA l n e).2)) else ([], 1)
def H157 (Pg : Nat → Option Fn) : Prop := Pg 157 = some (.code F157) ∧ H162 Pg ∧ H175 Pg ∧ H177 Pg ∧ H179 Pg
theorem K157 (h : H157 Pg) (l : List Place) (n o e : Int) (hl : l.length ≤ 1000) : K' Pg 157 [ePls l, iz n, iz o, iz e] = some (ePE (joinedA l n o e)) := by
  obtain ⟨h, h162, h175, h177, h179⟩ := h
  have k162 := K162 h162 o
  have k175 := K175 h175 l o (by omega)
  have k177 := K177 h177 l n e (by omega)
  have k179 := K179 h179 (l.map ePl) (by simp [lim]; omega)
  simp only [ePls, eII] at k177 k175
  refine K'_code h rfl ?_
  cases c1 : numA o with
  | false => simp only [go_sem, k162, k175, k177, c1, joinedA]
  | true =>
  cases c2 : decide ((readyA l n e).2 = 0) with
  | false =>
    have h2 := of_decide_eq_false c2
    simp only [go_sem, k162, k175, k177, c1, c2, joinedA, h2]
  | true =>
    have h2 := of_decide_eq_true c2
    obtain ⟨-, -, j, x, e1, e2, e3, e4, -, e5, e6⟩ := ready_0 h2
    have hj : j < l.length := (List.getElem?_eq_some_iff.1 e2).1
    rw [e6] at k177
    simp only at k177
    rcases idxA_spec l o with ⟨d1, d2⟩ | ⟨i, y, d1, d2, d3, d4, -⟩
    · rw [d1] at k175
      have hm : joinedA l n o e = ([], 7) := by simp only [joinedA, c1, h2, e3, d2, if_true]
      rw [hm]
      simp only [go_sem, k162, k175, k177, c1, e2]
    · rw [d1] at k175
      have hinc : IntKind.i64.wrap ((j : Int) + 1) = (j : Int) + 1 := by rw [inc64 hj (by omega)]; omega
      have hi0 : decide ((i : Int) < 0) = false := decide_eq_false (by omega)
      have hil : i < l.length := (List.getElem?_eq_some_iff.1 d2).1
      have hc : ∀ b, (decide ((i : Int) = (j : Int) + 1) && (decide (x.cell = y.cell) && !decide (e ≤ y.epoch))) = b → joinedA l n o e = if b then (joinedL l j x y e, 0) else ([], 9) := fun b hb => by
        simp only [joinedA, c1, h2, e3, d3, d1, e1, if_true]
        have : ((i : Int) = (j : Int) + 1 ∧ x.cell = y.cell ∧ ¬ e ≤ y.epoch) ↔ b = true := by
          rw [← hb]; simp
        by_cases hbt : b = true
        · rw [if_pos (this.2 hbt), if_pos hbt]; rfl
        · rw [if_neg (fun h => hbt (this.1 h)), if_neg hbt]
      cases f1 : decide ((i : Int) = (j : Int) + 1) with
      | false =>
        rw [hc false (by rw [f1]; rfl)]
        simp only [go_sem, k162, k175, k177, c1, e2, d2, hi0, hinc, f1]
      | true =>
      cases f2 : decide (x.cell = y.cell) with
      | false =>
        rw [hc false (by rw [f1, f2]; rfl)]
        simp only [go_sem, k162, k175, k177, c1, e2, d2, hi0, hinc, f1, f2]
      | true =>
      cases f3 : decide (e ≤ y.epoch) with
      | true =>
        rw [hc false (by rw [f1, f2, f3]; rfl)]
        simp only [go_sem, k162, k175, k177, c1, e2, d2, hi0, hinc, f1, f2, f3]
      | false =>
        rw [hc true (by rw [f1, f2, f3]; rfl)]
        obtain rfl : i = j + 1 := by have := of_decide_eq_true f1; omega
        have hinc2 : IntKind.i64.wrap (((j + 1 : Nat) : Int) + 1) = ((j + 1 + 1 : Nat) : Int) := inc64 hil (by omega)
        have hlim : l.length ≤ lim := by simp only [lim]; omega
        have hx : (l.map ePl)[j]? = some (ePl x) := by simp [e2]
        have hjl : j ≤ (l.map ePl).length := by simp; omega
        have q1 : ∀ D, ((l.map ePl).take (j + 1) ++ D)[j]? = some (ePl x) := fun D => del_get hx
        have q2 : ∀ r D, ((l.map ePl).take (j + 1) ++ D).set j r = (l.map ePl).take j ++ r :: D := fun r D => del_set hx
        have q3 : ∀ r D, ((l.map ePl).take j ++ r :: D)[j]? = some r := fun r D => mid_get hjl
        have q4 : ∀ r r' D, ((l.map ePl).take j ++ r :: D).set j r' = (l.map ePl).take j ++ r' :: D := fun r r' D => mid_set hjl
        have q5 : (List.take (j + 1) (List.map ePl l)).length + (List.drop (j + 1 + 1) (List.map ePl l)).length = l.length - 1 := by
          rw [List.length_take, List.length_drop, List.length_map]; omega
        have q6 : (List.take j (List.map ePl l)).length + ((List.drop (j + 1 + 1) (List.map ePl l)).length + 1) = l.length - 1 := by
          rw [List.length_take, List.length_drop, List.length_map]; omega
        have q7 : (joinedL l j x y e).map ePl = (l.map ePl).take j ++ ePl ⟨⟨x.span.lo, y.span.hi⟩, x.shard, x.cell, e⟩ :: (l.map ePl).drop (j + 1 + 1) := by
          simp [joinedL]
        have hj2 : j < l.length - 1 := by omega
        have hle1 : j + 1 ≤ j + 1 + 1 := by omega
        have hle2 : j + 1 + 1 ≤ l.length := hil
        simp only [ePl] at q1 q7
        simp only [go_sem, k162, k175, k177, k179, c1, e2, d2, hi0, hinc, hinc2, f1, f2, f3, hlim, hle1, hle2, q1, q2, q3, q4, q5, q6, q7, hj2]
end Sg
namespace Sg
open _root_.Go (IntKind BinOp UnOp)
set_option linter.unusedSimpArgs false
set_option linter.unusedVariables false
set_option maxRecDepth 10000
variable {Pg : Nat → Option Fn}
end Sg
namespace Sg
open _root_.Go (IntKind BinOp UnOp)
set_option linter.unusedSimpArgs false
set_option linter.unusedVariables false
set_option maxRecDepth 10000
variable {Pg : Nat → Option Fn}
theorem right_iff {l : List Place} : rightA l = true ↔ l.length ≤ 8 ∧ gR l = true ∧ wholeS (l.map Place.span) = true := by simp [rightA]
theorem gR_iff : ∀ {l : List Place}, gR l = true ↔ (∀ p ∈ l, okPl p = true) ∧ l.Pairwise (fun p q => p.shard ≠ q.shard)
  | [] => by simp [gR]
  | p :: l => by
    simp only [gR, Bool.and_eq_true, gR_iff (l := l), List.pairwise_cons, List.mem_cons, forall_eq_or_imp, Bool.not_eq_true', List.any_eq_false, decide_eq_true_eq]
    constructor
    · intro ⟨h1, h2, h3, h4⟩
      exact ⟨⟨h1, h3⟩, fun q hq e => h2 q hq e.symm, h4⟩
    · intro ⟨⟨h1, h3⟩, h2, h4⟩
      exact ⟨h1, fun q hq e => h2 q hq e.symm, h3, h4⟩
theorem at_split {l : List Place} {j : Nat} {x : Place} (h : l[j]? = some x) : l = l.take j ++ x :: l.drop (j + 1) := by
  have hj := (List.getElem?_eq_some_iff.1 h).1
  have := List.take_append_drop (j + 1) l
  rw [take_s h, List.append_assoc] at this
  exact this.symm
end Sg
namespace Sg
open _root_.Go (IntKind BinOp UnOp)
set_option linter.unusedSimpArgs false
set_option linter.unusedVariables false
set_option maxRecDepth 10000
variable {Pg : Nat → Option Fn}
theorem wg_cons {f : Bool} {last : List UInt8} {x : Span} {l : List Span} : wg f last (x :: l) = true ↔ spanR x = true ∧ x.lo = last ∧ (f = true ∨ last ≠ []) ∧ wg false x.hi l = true := by
  simp [wg]
theorem wg_part {s : Span} {k : List UInt8} (h1 : spanR ⟨s.lo, k⟩ = true) (h2 : spanR ⟨k, s.hi⟩ = true) (hk : k ≠ []) {D : List Span} : ∀ {A : List Span} {f : Bool} {last : List UInt8}, wg f last (A ++ s :: D) = true → wg f last (A ++ ⟨s.lo, k⟩ :: ⟨k, s.hi⟩ :: D) = true
  | [], f, last, h => by
    obtain ⟨g1, g2, g3, g4⟩ := wg_cons.1 h
    exact wg_cons.2 ⟨h1, g2, g3, wg_cons.2 ⟨h2, rfl, .inr hk, g4⟩⟩
  | x :: A, f, last, h => by
    obtain ⟨g1, g2, g3, g4⟩ := wg_cons.1 h
    exact wg_cons.2 ⟨g1, g2, g3, wg_part h1 h2 hk g4⟩
theorem right_iff' {l : List Place} : rightA l = true ↔ l.length ≤ 8 ∧ (∀ p ∈ l, okPl p = true) ∧ (l.map Place.shard).Nodup ∧ l ≠ [] ∧ wg true [] (l.map Place.span) = true := by
  rw [right_iff, gR_iff, List.Nodup, List.pairwise_map]
  simp only [wholeS, Bool.and_eq_true, Bool.not_eq_true', decide_eq_false_iff_not, List.map_eq_nil_iff]
  exact ⟨fun ⟨a, ⟨b, c⟩, d, e⟩ => ⟨a, b, c, d, e⟩, fun ⟨a, b, c, d, e⟩ => ⟨a, ⟨b, c⟩, d, e⟩⟩
theorem nodup_at {l : List Place} (h : (l.map Place.shard).Nodup) {i j : Nat} {p q : Place} (hp : l[i]? = some p) (hq : l[j]? = some q) (e : p.shard = q.shard) : i = j := by
  have hw := List.pairwise_iff_getElem.1 (List.pairwise_map.1 h)
  obtain ⟨hi, rfl⟩ := List.getElem?_eq_some_iff.1 hp
  obtain ⟨hj, rfl⟩ := List.getElem?_eq_some_iff.1 hq
  rcases Nat.lt_trichotomy i j with c | c | c
  · exact absurd e (hw i j hi hj c)
  · exact c
  · exact absurd e.symm (hw j i hj hi c)
theorem idx_at {l : List Place} (h : (l.map Place.shard).Nodup) {j : Nat} {x : Place} (hx : l[j]? = some x) : idxA l x.shard = j ∧ ofA l x.shard = some x := by
  rcases idxA_spec l x.shard with ⟨e1, e2⟩ | ⟨i, y, e1, e2, e3, e4, -⟩
  · have := List.find?_eq_none.1 e2 x (List.mem_of_getElem? hx)
    simp at this
  · obtain rfl := nodup_at h e2 hx e4
    rw [hx] at e2
    obtain rfl : x = y := by simpa using e2
    exact ⟨e1, e3⟩
theorem of_none {l : List Place} {n : Int} (h : ofA l n = none) : ∀ p ∈ l, p.shard ≠ n := fun p hp e => by
  have := List.find?_eq_none.1 h p hp
  simp [e] at this
theorem of_some {l : List Place} {n : Int} {p : Place} (h : ofA l n = some p) : p ∈ l ∧ p.shard = n := ⟨List.mem_of_find?_eq_some h, by simpa using List.find?_some h⟩
def GoodC (l : List Place) (r : List Place × Int) : Prop :=
  (r.2 ≠ 0 → r.1 = []) ∧ (r.2 = 0 → rightA r.1 = true ∧ ∀ p ∈ l, ∀ q, ofA r.1 p.shard = some q → p.epoch ≤ q.epoch)
theorem good_ep {l b : List Place} {n e : Int} {x : Place} (hn : (l.map Place.shard).Nodup) (hx : ofA l n = some x) (he : ¬ e ≤ x.epoch)
    (h : ∀ q ∈ b, q ∈ l ∨ (q.shard = n ∧ q.epoch = e) ∨ (∀ p ∈ l, p.shard ≠ q.shard)) : ∀ p ∈ l, ∀ q, ofA b p.shard = some q → p.epoch ≤ q.epoch := by
  intro p hp q hq
  obtain ⟨q1, q2⟩ := of_some hq
  obtain ⟨x1, x2⟩ := of_some hx
  obtain ⟨i, hi⟩ := List.mem_iff_getElem?.1 hp
  rcases h q q1 with h | ⟨h1, h2⟩ | h
  · obtain ⟨j, hj⟩ := List.mem_iff_getElem?.1 h
    obtain rfl := nodup_at hn hi hj q2.symm
    rw [hi] at hj
    obtain rfl : p = q := by simpa using hj
    omega
  · obtain ⟨j, hj⟩ := List.mem_iff_getElem?.1 x1
    obtain rfl := nodup_at hn hi hj (by rw [← q2, h1, x2])
    rw [hi] at hj
    obtain rfl : p = x := by simpa using hj
    omega
  · exact absurd q2.symm (h p hp)
theorem ok_ep {p : Place} {e c : Int} {s : Span} (h : okPl p = true) (he : numA e = true) (hc : celA c = true) : okPl ⟨s, p.shard, c, e⟩ = true := by
  simp only [okPl, Bool.and_eq_true] at h ⊢
  exact ⟨h.1, he, hc⟩
theorem cut_0 {s : Span} {k : List UInt8} (h : (cutS s k).2.2 = 0) : (cutS s k).1 = ⟨s.lo, k⟩ ∧ (cutS s k).2.1 = ⟨k, s.hi⟩ ∧ spanR ⟨s.lo, k⟩ = true ∧ spanR ⟨k, s.hi⟩ = true ∧ keyR k = true := by
  unfold cutS at h ⊢
  split at h
  · rename_i h1
    rw [if_pos h1]
    simp only [Bool.and_eq_true] at h1
    have hc := cut_eq h1.1 h1.2
    split at h
    · simp at h
    · rename_i h2
      rw [if_neg h2]
      have h2 : (decide (k = s.lo) || !hasS s k) = false := by simpa using h2
      rw [h2] at hc
      simp only [Bool.not_false, Bool.and_eq_true] at hc
      exact ⟨rfl, rfl, hc.1, hc.2, h1.2⟩
  · simp at h
theorem parted_good (l : List Place) (n : Int) (k : List UInt8) (o e : Int) : GoodC l (partedA l n k o e) := by
  unfold partedA
  cases c1 : numA o with
  | false => exact ⟨fun _ => rfl, fun h => by simp at h⟩
  | true =>
  by_cases h2 : (readyA l n e).2 = 0
  · obtain ⟨r1, r2, j, x, e1, e2, e3, e4, -, e5, e6⟩ := ready_0 h2
    simp only [h2, e3, e1, if_true]
    split
    · exact ⟨fun _ => rfl, fun h => by simp at h⟩
    rename_i ho
    split
    · exact ⟨fun _ => rfl, fun h => by simp at h⟩
    rename_i h8
    split
    · rename_i hc
      refine ⟨fun h => by simp at h, fun _ => ?_⟩
      obtain ⟨c1', c2, c3, c4, c5⟩ := cut_0 hc
      obtain ⟨g1, g2, g3, g4, g5⟩ := right_iff'.1 r1
      have hl := at_split e2
      have ho : ∀ p ∈ l, p.shard ≠ o := by
        rcases idxA_spec l o with ⟨d1, d2⟩ | ⟨i, y, d1, -⟩
        · exact of_none d2
        · exact absurd (by rw [d1]; omega) ho
      simp only [partedL, c1', c2, Int.toNat_natCast]
      have hmem : ∀ q ∈ l.take j ++ ⟨⟨x.span.lo, k⟩, x.shard, x.cell, e⟩ :: ⟨⟨k, x.span.hi⟩, o, x.cell, e⟩ :: l.drop (j + 1), q ∈ l ∨ q = ⟨⟨x.span.lo, k⟩, x.shard, x.cell, e⟩ ∨ q = ⟨⟨k, x.span.hi⟩, o, x.cell, e⟩ := fun q hq => by
        rcases List.mem_append.1 hq with h | h
        · exact .inl (List.mem_of_mem_take h)
        · rcases List.mem_cons.1 h with h | h
          · exact .inr (.inl h)
          · rcases List.mem_cons.1 h with h | h
            · exact .inr (.inr h)
            · exact .inl (List.mem_of_mem_drop h)
      have hxo := g2 x (List.mem_of_getElem? e2)
      have hxc : celA x.cell = true := by simp only [okPl, Bool.and_eq_true] at hxo; exact hxo.2.2
      refine ⟨right_iff'.2 ⟨?_, fun q hq => ?_, ?_, by simp, ?_⟩, good_ep g3 e3 e5 fun q hq => ?_⟩
      · have := congrArg List.length hl
        simp only [List.length_append, List.length_cons] at this ⊢; omega
      · rcases hmem q hq with h | rfl | rfl
        · exact g2 q h
        · exact ok_ep hxo r2 hxc
        · simp only [okPl, c1, r2, hxc, Bool.and_self]
      · have hp : ((l.take j ++ ⟨⟨x.span.lo, k⟩, x.shard, x.cell, e⟩ :: ⟨⟨k, x.span.hi⟩, o, x.cell, e⟩ :: l.drop (j + 1)).map Place.shard).Perm (o :: l.map Place.shard) := by
          conv => rhs; rw [hl]
          simp only [List.map_append, List.map_cons]
          exact (List.Perm.append_left _ (List.Perm.swap _ _ _)).trans List.perm_middle
        refine hp.nodup_iff.2 (List.nodup_cons.2 ⟨fun h => ?_, g3⟩)
        obtain ⟨p, hp, e⟩ := List.mem_map.1 h
        exact ho p hp e
      · rw [hl] at g5
        simp only [List.map_append, List.map_cons] at g5 ⊢
        exact wg_part c3 c4 (keyR_len c5).2 g5
      · rcases hmem q hq with h | rfl | rfl
        · exact .inl h
        · exact .inr (.inl ⟨e4, rfl⟩)
        · exact .inr (.inr ho)
    · rename_i hc
      exact ⟨fun _ => rfl, fun h => absurd h hc⟩
  · simp only [h2, if_true, if_false]
    exact ⟨fun _ => rfl, fun h => absurd h h2⟩
theorem back_eq {l : List Place} {n : Int} {k : List UInt8} {o e : Int} (h : (partedA l n k o e).2 = 0) (he : e ≤ 549755813888) :
    ∃ (j : Nat) (x : Place), l[j]? = some x ∧ x.shard = n ∧ (l.map Place.shard).Nodup ∧ joinedA (partedA l n k o e).1 n o (e + 1) = (l.set j ⟨x.span, x.shard, x.cell, e + 1⟩, 0) := by
  obtain ⟨-, hg⟩ := parted_good l n k o e
  obtain ⟨hr, -⟩ := hg h
  unfold partedA at h hr ⊢
  cases c1 : numA o with
  | false => rw [c1] at h; simp at h
  | true =>
  rw [c1] at h hr
  by_cases h2 : (readyA l n e).2 = 0
  · obtain ⟨r1, r2, j, x, e1, e2, e3, e4, -, e5, e6⟩ := ready_0 h2
    simp only [h2, e3, e1, if_true] at h hr ⊢
    split at h
    · simp at h
    rename_i ho
    split at h
    · simp at h
    rename_i h8
    split at h
    · rename_i hc
      rw [if_neg ho, if_neg h8, if_pos hc] at hr ⊢
      obtain ⟨c1', c2, c3, c4, c5⟩ := cut_0 hc
      obtain ⟨-, -, hnd, -, -⟩ := right_iff'.1 r1
      refine ⟨j, x, e2, e4, hnd, ?_⟩
      subst e4
      simp only [partedL, c1', c2, Int.toNat_natCast] at hr ⊢
      have hj := (List.getElem?_eq_some_iff.1 e2).1
      have hlen : (l.take j).length = j := by rw [List.length_take]; omega
      obtain ⟨-, -, hn, -, -⟩ := right_iff'.1 hr
      have a1 : (l.take j ++ ⟨⟨x.span.lo, k⟩, x.shard, x.cell, e⟩ :: ⟨⟨k, x.span.hi⟩, o, x.cell, e⟩ :: l.drop (j + 1))[j]? = some ⟨⟨x.span.lo, k⟩, x.shard, x.cell, e⟩ := by
        rw [List.getElem?_append_right (by omega), hlen]; simp
      have a2 : (l.take j ++ ⟨⟨x.span.lo, k⟩, x.shard, x.cell, e⟩ :: ⟨⟨k, x.span.hi⟩, o, x.cell, e⟩ :: l.drop (j + 1))[j + 1]? = some ⟨⟨k, x.span.hi⟩, o, x.cell, e⟩ := by
        rw [List.getElem?_append_right (by omega), hlen]
        have : j + 1 - j = 1 := by omega
        rw [this]; rfl
      have i1 := idx_at hn a1
      have i2 := idx_at hn a2
      simp only at i1 i2
      generalize hb : (l.take j ++ (⟨⟨x.span.lo, k⟩, x.shard, x.cell, e⟩ : Place) :: ⟨⟨k, x.span.hi⟩, o, x.cell, e⟩ :: l.drop (j + 1)) = b at *
      have b1 : numA (e + 1) = true := by
        simp only [numA, Bool.and_eq_true, decide_eq_true_eq] at r2 ⊢; omega
      have b2 : readyA b x.shard (e + 1) = ((j : Int), 0) := by
        have : ¬ (e + 1 ≤ e) := by omega
        simp only [readyA, hr, b1, i1, this, if_false, Bool.and_self, if_true]
      unfold joinedA
      have d1 : ((j + 1 : Nat) : Int) = (j : Int) + 1 := by omega
      have d2 : ¬ (e + 1 ≤ e) := by omega
      simp only [c1, b2, i1, i2, d1, d2, if_true, not_false_eq_true, and_self, Int.toNat_natCast, joinedL]
      rw [List.set_eq_take_append_cons_drop, if_pos hj]
      have k1 : b.take j = l.take j := by rw [← hb, List.take_append_of_le_length (by omega), List.take_of_length_le (by omega)]
      have k2 : b.drop (j + 2) = l.drop (j + 1) := by
        rw [← hb, List.drop_append, hlen, List.drop_of_length_le (by omega)]
        have : j + 2 - j = 2 := by omega
        rw [this]; rfl
      rw [k1, k2]
    · rename_i hc; exact absurd h hc
  · simp only [h2, if_true, if_false] at h
end Sg
namespace Sg
open _root_.Go (IntKind BinOp UnOp)
set_option linter.unusedSimpArgs false
set_option linter.unusedVariables false
set_option maxRecDepth 10000
variable {Pg : Nat → Option Fn}
def pairA : List Place := [⟨⟨[], [109]⟩, 1, 1, 2⟩, ⟨⟨[109], []⟩, 2, 1, 2⟩]
def H143 (Pg : Nat → Option Fn) : Prop := Pg 143 = some (.code F143) ∧ H144 Pg ∧ H154 Pg ∧ H156 Pg
theorem K143 (h : H143 Pg) : K' Pg 143 [] = some (.bool true) := by
  obtain ⟨h, h144, h154, h156⟩ := h
  have k154 := K154 h154
  have k156 := K156 h156 firstA 1 [109] 2 2 (by decide)
  have k144 := K144 h144 pairA [122] (by decide)
  rw [show partedA firstA 1 [109] 2 2 = (pairA, 0) by decide +kernel] at k156
  rw [show (if rightA pairA && keyE [122] then findA pairA [122] else none) = some ⟨⟨[109], []⟩, 2, 1, 2⟩ by decide +kernel] at k144
  simp only [ePls, firstA, pairA, ePE, eOP, List.map_cons, List.map_nil, ePl, Option.getD_some, Option.isSome_some] at k154 k156 k144
  refine K'_code h rfl ?_
  simp only [go_sem, k154, k156, k144]
def H155 (Pg : Nat → Option Fn) : Prop := Pg 155 = some (.code F155) ∧ H143 Pg ∧ H156 Pg ∧ H157 Pg
theorem K155 (h : H155 Pg) (l : List Place) (n : Int) (k : List UInt8) (o e : Int) : K' Pg 155 [ePls l, iz n, .str k, iz o, iz e] = some (.bool true) := by
  obtain ⟨h, h143, h156, h157⟩ := h
  have k143 := K143 h143
  refine K'_code h rfl ?_
  cases c0 : decide ((40 : Int) < (l.length : Int)) with
  | true => simp only [go_sem, c0, k143]
  | false =>
  have hl : l.length ≤ 40 := by have := of_decide_eq_false c0; omega
  cases c1 : decide ((549755813888 : Int) < e) with
  | true => simp only [go_sem, c0, c1, k143]
  | false =>
  have he : e ≤ 549755813888 := by have := of_decide_eq_false c1; omega
  have k156 := K156 h156 l n k o e (by omega)
  cases c2 : decide ((partedA l n k o e).2 = 0) with
  | false =>
    have hz := (parted_good l n k o e).1 (of_decide_eq_false c2)
    simp only [ePls, ePE, hz, List.map_nil] at k156
    simp only [go_sem, c0, c1, c2, k156, k143]
  | true =>
    have c2' := of_decide_eq_true c2
    obtain ⟨j, x, x1, x2, hn, hb⟩ := back_eq c2' he
    have hr := ((parted_good l n k o e).2 c2').1
    have h8 := (right_iff'.1 hr).1
    have k157 := K157 h157 (partedA l n k o e).1 n o (e + 1) (by omega)
    rw [hb] at k157
    have hj := (List.getElem?_eq_some_iff.1 x1).1
    have he1 : numA e = true := by
      have := c2'
      unfold partedA at this
      split at this
      · split at this
        · rename_i h; exact (ready_0 h).2.1
        · rename_i h1 h2; exact absurd this h2
      · simp at this
    have hw : IntKind.i64.wrap (e + 1) = e + 1 := by
      simp only [numA, Bool.and_eq_true, decide_eq_true_eq] at he1
      exact wrap64 (by omega) (by omega)
    simp only [ePls, ePE] at k156 k157
    have hle : (l.set j ⟨x.span, x.shard, x.cell, e + 1⟩).length = l.length := by simp
    generalize hB : l.set j ⟨x.span, x.shard, x.cell, e + 1⟩ = B at k157 hle
    simp only [go_sem, c0, c1, c2, k156, k157, hw, hle]
    unfold l155_0
    refine wp_lp (fun (i : Nat) S => i ≤ l.length ∧ S.ρ 0 = ePls l ∧ S.ρ 1 = iz n ∧ S.ρ 4 = iz e ∧ S.ρ 13 = ePls B ∧ S.μ 16 = none ∧ S.ρ 61 = iz l.length ∧ S.ρ 62 = iz i) (fun i => l.length - i) 0 ?_ ?_
    · simp [go_sem]
    · intro i S ⟨hi, h0, h1, h4, h13, m16, h61, h62⟩
      simp only [go_sem, h0, h1, h4, h13, m16, h61, h62]
      refine wpc_i (fun h => ?_) (fun h => ?_)
      · have h := lt_of h
        obtain ⟨p, hp, hd⟩ := drop_at h
        by_cases hps : p.shard = n
        · obtain rfl := nodup_at hn hp x1 (by rw [hps, x2])
          rw [hp] at x1
          obtain rfl : p = x := by simpa using x1
          have hB' : B[i]? = some ⟨p.span, p.shard, p.cell, e + 1⟩ := by rw [← hB]; simp [hj]
          have hd : decide (p.shard = n) = true := by simp [hps]
          simp only [go_sem, h0, h1, h4, h13, m16, h61, h62, hp, hd, hB', hw]
          exact ⟨i + 1, by omega, by omega, by rw [inc64 h (by omega)]⟩
        · have hne : j ≠ i := fun e => hps (by rw [e, hp] at x1; obtain rfl : p = x := by simpa using x1
                                               exact x2)
          have hB' : B[i]? = some p := by rw [← hB, List.getElem?_set_ne hne]; exact hp
          have hd : decide (p.shard = n) = false := by simp [hps]
          simp only [go_sem, h0, h1, h4, h13, m16, h61, h62, hp, hd, hB']
          exact ⟨i + 1, by omega, by omega, by rw [inc64 h (by omega)]⟩
      · simp only [go_sem, h0, h1, h4, h13, m16, h61, h62, k143]
structure AAct where
  kind : Int
  shard : Int
  n : Int
  epoch : Int
  key : List UInt8
@[go_sem] def eAAct (a : AAct) : List V := [iz a.kind, iz a.shard, iz a.n, iz a.epoch, .str a.key]
@[go_sem] def eAActs (l : List AAct) : V := .slice 5 (l.map eAAct)
def OnN (P : St → Prop) : Ex → St → Prop := fun ex S => ex = .norm ∧ P S
@[go_sem] theorem onN_n {P : St → Prop} {S : St} : OnN P .norm S = P S := by simp [OnN]
def OnE (id : Nat) (P : St → Prop) : Ex → St → Prop := fun ex S => (ex = .norm ∨ ex = .exit id) ∧ P S
@[go_sem] theorem onE_n {id : Nat} {P : St → Prop} {S : St} : OnE id P .norm S = P S := by simp [OnE]
@[go_sem] theorem onE_e {id : Nat} {P : St → Prop} {S : St} : OnE id P (.exit id) S = P S := by simp [OnE]
@[go_sem] def N161 (l : List AAct) (k : List UInt8) (i : Nat) (S : St) : Prop := S.ρ 0 = eAActs l ∧ S.ρ 1 = .str k ∧ (∃ a, rightA a = true ∧ S.ρ 5 = ePls a) ∧ S.ρ 6 = iz i
end Sg
namespace Sg
open _root_.Go
set_option linter.unusedSimpArgs false
set_option linter.unusedVariables false
abbrev tPl : List CT := [.str, .str, .int .i64, .int .i64, .int .i64]
theorem row_Pl {xs : List V} (h : HasRow tPl xs) : ∃ s, xs = ePl s := by
  obtain ⟨hl, hj⟩ := h
  match xs, hl with
  | [x0, x1, x2, x3, x4], _ =>
    obtain ⟨y0, h0, -⟩ := has_str (hj 0 (by simp))
    obtain ⟨y1, h1, -⟩ := has_str (hj 1 (by simp))
    obtain ⟨y2, h2, -⟩ := has_int (hj 2 (by simp))
    obtain ⟨y3, h3, -⟩ := has_int (hj 3 (by simp))
    obtain ⟨y4, h4, -⟩ := has_int (hj 4 (by simp))
    simp [gv] at h0 h1 h2 h3 h4
    subst h0; subst h1; subst h2; subst h3; subst h4
    exact ⟨⟨⟨y0, y1⟩, y2, y3, y4⟩, rfl⟩
theorem has_Pls {x : V} (h : Has (.slice tPl) x) : ∃ l, x = ePls l ∧ l.length ≤ maxLen := by
  obtain ⟨rows, rfl, hl, hr⟩ := has_slice h
  obtain ⟨l, rfl, -⟩ := rows_enc (enc := ePl) (Q := fun _ => True) (fun row hrow => by obtain ⟨v, hv⟩ := row_Pl (hr row hrow); exact ⟨v, hv, trivial⟩)
  exact ⟨l, rfl, by simpa using hl⟩
theorem arg_Pls {x : V} (h : ArgV (false, [.slice tPl]) x) : ∃ l, x = ePls l ∧ l.length ≤ maxLen := by
  obtain ⟨c, hc, h⟩ := h
  simp only [List.cons.injEq, and_true] at hc
  subst hc
  exact has_Pls h
end Sg
namespace Sg
open _root_.Go _root_.Go.Proofs
set_option linter.unusedSimpArgs false
set_option maxRecDepth 100000
theorem t162 : H162 (look atlasTab) := rfl
theorem t163 : H163 (look atlasTab) := rfl
theorem t164 : H164 (look atlasTab) := rfl
theorem t185 : H185 (look atlasTab) := rfl
theorem t165 : H165 (look atlasTab) := ⟨rfl, t185⟩
theorem t170 : H170 (look atlasTab) := rfl
theorem t190 : H190 (look atlasTab) := rfl
theorem t192 : H192 (look atlasTab) := ⟨rfl, t190⟩
theorem t186 : H186 (look atlasTab) := ⟨rfl, t170, t192⟩
theorem t166 : H166 (look atlasTab) := ⟨rfl, t186⟩
theorem t141 : H141 (look atlasTab) := ⟨rfl, t162, t163, t164, t165, t166⟩
theorem t171 : H171 (look atlasTab) := ⟨rfl, t186, t170, t192⟩
theorem t144 : H144 (look atlasTab) := ⟨rfl, t141, t170, t171⟩
theorem t154 : H154 (look atlasTab) := rfl
theorem t194 : H194 (look atlasTab) := rfl
theorem t175 : H175 (look atlasTab) := ⟨rfl, t185, t194⟩
theorem t177 : H177 (look atlasTab) := ⟨rfl, t141, t162, t175⟩
theorem t178 : H178 (look atlasTab) := ⟨rfl, t186, t170, t171⟩
theorem t179 : H179 (look atlasTab) := rfl
theorem t156 : H156 (look atlasTab) := ⟨rfl, t162, t175, t177, t178, t179⟩
theorem t143 : H143 (look atlasTab) := ⟨rfl, t144, t154, t156⟩
theorem t157 : H157 (look atlasTab) := ⟨rfl, t162, t175, t177, t179⟩
theorem t155 : H155 (look atlasTab) := ⟨rfl, t143, t156, t157⟩
theorem all_ctr (f : Nat) (args : List V) (r : V) (h : K' (look atlasTab) f args = some r) : Ctr Tryd.prog (cxU atlasFm) (ownOf (look atlasTab) f) f args r := by
  obtain ⟨n, hn⟩ := K'_iff.1 h
  refine callN_sound (by kernel_rfl) (tab_code okAll) (fun f own p hp => ?_) (fun f z p hlt hp => ?_) (fun f z p hp => ?_) n f args r hn
  · have hm := look_mem hp
    simp only [atlasTab, List.mem_cons, Prod.mk.injEq, reduceCtorEq, and_false, false_and, false_or, Fn.prim.injEq, Option.some.injEq, List.not_mem_nil, or_false] at hm
    rcases hm with ⟨rfl, hz, rfl⟩ | ⟨rfl, hz, rfl⟩ | ⟨rfl, hz, rfl⟩ | ⟨rfl, hz, rfl⟩ | ⟨rfl, hz, rfl⟩
    · subst hz
      exact clone_ctr (zero := [.str [], .str [], .int .i64 0, .int .i64 0, .int .i64 0]) (by kernel_rfl) okClone179
    · intro args r h
      simp [noQ] at h
    · intro args r h
      simp [noQ] at h
    · subst hz
      exact keyCt _ 170 rfl
    · subst hz
      exact decCt _ 190 rfl
  · have hm := look_mem hp
    simp only [atlasTab, List.mem_cons, Prod.mk.injEq, reduceCtorEq, and_false, false_and, false_or, Fn.prim.injEq, Option.some.injEq, List.not_mem_nil, or_false] at hm
    rcases hm with ⟨rfl, hz, rfl⟩ | ⟨rfl, hz, rfl⟩ | ⟨rfl, hz, rfl⟩
    · omega
    · obtain rfl : z = 5 := by omega
      exact ⟨_, _, insC42⟩
    · omega
  · have hm := look_mem hp
    simp only [atlasTab, List.mem_cons, Prod.mk.injEq, reduceCtorEq, and_false, false_and, false_or, Fn.prim.injEq, Option.some.injEq, List.not_mem_nil, or_false] at hm
    rcases hm with ⟨rfl, hz, rfl⟩ | ⟨rfl, hz, rfl⟩ | ⟨rfl, hz, rfl⟩
    · omega
    · omega
    · obtain rfl : z = 5 := by omega
      exact delC44
end Sg
namespace Go.Proofs.YtoklilggickleaaDoor
open Sg Go.RowKit
theorem own : ownKnob Tryd.prog.godebug = none := by kernel_rfl
theorem laid : laidOutB Tryd.prog = true := by kernel_rfl
theorem atlasBack_ctr (xs : List V) (h : ArgsV [(false, [.slice tPl]), (false, [.int .i64]), (false, [.str]), (false, [.int .i64]), (false, [.int .i64])] xs) : Ctr Tryd.prog (cxU atlasFm) (ownOf (Sg.look atlasTab) 155) 155 xs (.bool true) := by
  match xs, h with
  | [x0, x1, x2, x3, x4], h =>
    obtain ⟨h0, h1, h2, h3, h4, -⟩ := h
    obtain ⟨a0, rfl, l0⟩ := arg_Pls h0
    obtain ⟨a1, rfl, w1⟩ := arg_int h1
    obtain ⟨a2, rfl, l2⟩ := arg_str h2
    obtain ⟨a3, rfl, w3⟩ := arg_int h3
    obtain ⟨a4, rfl, w4⟩ := arg_int h4
    exact all_ctr _ _ _ (K155 t155 a0 a1 a2 a3 a4)
noncomputable def laidWorld (os : Os) : World :=
  let w0 := World.holding Tryd.prog os ⟨#[], #[], []⟩
  let put (h : Array Obj) (g : Nat) (cs : Array Value) : Array Obj := h.modify g fun
    | .cells _ t frozen => .cells cs t frozen
    | o => o
  let h1 := put w0.heap 0 (Lib.firstTab.map fun z => Value.int .u8 z).toArray
  let h2 := put h1 1 ((List.range 16).flatMap fun i => [Value.int .u8 (Lib.accLo i), Value.int .u8 (Lib.accHi i)]).toArray
  { w0 with heap := h2 }
theorem tabs_of {W : World} (hL : laidMetH Tryd.prog Rows.atlasBackRow.laid W) : Lib.Utf8Tabs 0 1 W :=
  utf8Tabs_of_reads (ρ := renU) { lays197 with } ⟨by kernel_rfl, by kernel_rfl, by kernel_rfl, by kernel_rfl, by kernel_rfl, by kernel_rfl, by kernel_rfl⟩
    ((show Go.Pinned.utf8First = Lib.firstData by kernel_rfl) ▸ Lib.laidMet.reads hL (.tail _ (.head _))) ((show Rows.laid_unicode_utf8_acceptRanges = Lib.acceptData by kernel_rfl) ▸ Lib.laidMet.reads hL (.head _))
theorem size_of {W : World} (h : Lib.Utf8Tabs 0 1 W) : 2 ≤ W.heap.size := by
  have lt : ∀ g o v, W.cell? ⟨g, o, none⟩ = some v → g < W.heap.size := fun g o v e => by
    rcases Nat.lt_or_ge g W.heap.size with h | h
    · exact h
    · simp [World.cell?, Array.getElem?_eq_none h] at e
  have h1 := lt _ _ _ (h.1 0 (by decide))
  have h2 := lt _ _ _ (h.2 0 (by decide)).1
  omega
theorem laid_met (os : Os) (args : Array Value) : laidMet Tryd.prog Rows.atlasBackRow.laid ((laidWorld os).forCall (fun _ _ => 0) ⟨#[], args, []⟩).memory :=
  (LaidIn.of_run (l := Rows.atlasBackRow.laid) [1, 0] 8 (by kernel_rfl) (by kernel_rfl) (by kernel_rfl) (by kernel_rfl)).met
set_option maxRecDepth 100000 in
theorem atlasBack_reads (os : Os) {H : Type} (enc : TypeId × Value → H) :
    (OpenSpec.ofChange Rows.atlasBackSpec).preRow enc Tryd.prog Tryd.f5 Rows.atlasBackRow.domain false Rows.atlasBackRow.laid ((laidWorld os).forCall (fun _ _ => 0) ⟨#[], #[Value.slice none 0 0, Value.int .i64 0, Value.string ⟨#[]⟩, Value.int .i64 0, Value.int .i64 0], []⟩).memory #[Value.slice none 0 0, Value.int .i64 0, Value.string ⟨#[]⟩, Value.int .i64 0, Value.int .i64 0] := by
  have hw : (DataW.whole enc Tryd.prog ((laidWorld os).forCall (fun _ _ => 0) ⟨#[], #[Value.slice none 0 0, Value.int .i64 0, Value.string ⟨#[]⟩, Value.int .i64 0, Value.int .i64 0], []⟩).memory Tryd.f5.params.toList Rows.atlasBackSpec.vars false #[Value.slice none 0 0, Value.int .i64 0, Value.string ⟨#[]⟩, Value.int .i64 0, Value.int .i64 0].toList 8).isSome = true := by kernel_rfl
  obtain ⟨⟨x1, x2, x3⟩, hx⟩ := Option.isSome_iff_exists.1 hw
  have hl : x1.length = 5 := by
    have := congrArg (Option.map fun x => x.1.length) hx
    have e : (DataW.whole enc Tryd.prog ((laidWorld os).forCall (fun _ _ => 0) ⟨#[], #[Value.slice none 0 0, Value.int .i64 0, Value.string ⟨#[]⟩, Value.int .i64 0, Value.int .i64 0], []⟩).memory Tryd.f5.params.toList Rows.atlasBackSpec.vars false #[Value.slice none 0 0, Value.int .i64 0, Value.string ⟨#[]⟩, Value.int .i64 0, Value.int .i64 0].toList 8).map (fun x => x.1.length) = some 5 := by kernel_rfl
    rw [hx] at e
    simpa using e
  exact OpenSpec.preRow_of_cond 8 hx (by kernel_rfl) (fun k hk => by cases hk) (by kernel_rfl) (laid_met os _)
theorem atlasBack_lifted (os : Os) (started : os.Started) (H : Type) (enc : TypeId × Value → H) (F : Stop.Interp) :
    ReturnsInHanded {} Tryd.checked os 5 .any ((OpenSpec.ofChange Rows.atlasBackSpec).preRow enc Tryd.prog Tryd.f5 Rows.atlasBackRow.domain false Rows.atlasBackRow.laid) (((OpenSpec.ofChange Rows.atlasBackSpec).at F).post enc Tryd.prog Tryd.f5 false true false false) := by
  refine returnsInHanded_of_row (C := Tryd.checked) (s := OpenSpec.ofChange Rows.atlasBackSpec) own started (by kernel_rfl) Tryd.func5
    (witness_row_at (enc := enc) (C := Tryd.checked) false (laidWorld os) #[Value.slice none 0 0, Value.int .i64 0, Value.string ⟨#[]⟩, Value.int .i64 0, Value.int .i64 0] rfl (by kernel_rfl) (by kernel_rfl) (by kernel_rfl) (atlasBack_reads os enc)) ?_
  intro W base args ds gs before hval hW _ _ _ hL _ _
  have hT := tabs_of hL
  exact lift (s := Rows.atlasBackSpec) (conds := []) (cx := cxU atlasFm) (own := ownOf (Sg.look atlasTab) 155) (fid := 155) (ss := [(false, [.slice tPl]), (false, [.int .i64]), (false, [.str]), (false, [.int .i64]), (false, [.int .i64])]) (tb := 4) (by kernel_rfl) (by kernel_rfl) (by kernel_rfl) laid rfl (by kernel_rfl) (by kernel_rfl)
    (fun ds h => by
      have h2 : Tryd.f5.params.toList.length = 5 := by kernel_rfl
      rw [h2] at h
      match ds, h with
      | [d0, d1, d2, d3, d4], _ => rfl) atlasBack_ctr W (size_of hT) hT base args ds gs before hval hW
theorem atlasBack_said : Rows.AtlasBackSaid :=
  OpenClaim.holds_of_cond 5 Tryd.f5 rfl rfl rfl rfl rfl rfl rfl ⟨rfl, rfl, rfl, rfl, rfl⟩ rfl rfl rfl rfl rfl (by kernel_rfl) Tryd.func5 (by kernel_rfl)
    (of_decide_eq_true (by kernel_rfl)) (by unfold Func.isWrapper; first | (rw [if_pos (by decide +kernel)]; kernel_rfl) | (rw [if_neg (by decide +kernel)]; exact ⟨rfl, rfl⟩))
    (fun os started H enc _ F => by rw [OpenClaim.pre_eq_preRow]; exact atlasBack_lifted os started H enc F)
theorem atlasBack_plain (f : FuncId) (fn : Func) (hf : Tryd.pinned.checked.prog.funcNamed "stratigraph/stratigraphlaw15.AtlasBack" = some f) (hfn : Tryd.pinned.checked.prog.funcs[f]? = some fn) :
    false = Tryd.pinned.checked.prog.looks [] ∧ ∀ (j : Nat) t, fn.params[j]? = some t → Tryd.pinned.checked.prog.wantsStandIn t = false := by
  obtain rfl : f = 5 := Option.some.inj ((show Tryd.prog.funcNamed "stratigraph/stratigraphlaw15.AtlasBack" = some 5 by kernel_rfl).symm.trans hf) |>.symm
  obtain rfl : fn = Tryd.f5 := (Option.some.inj (Tryd.func5.symm.trans hfn)).symm
  refine ⟨by kernel_rfl, fun j t ht => ?_⟩
  rw [Tryd.params5] at ht
  have hm := Array.mem_of_getElem? ht
  simp only [List.mem_toArray, List.mem_cons, List.not_mem_nil, or_false] at hm
  rcases hm with rfl | rfl | rfl | rfl | rfl
  · exact (show Tryd.prog.wantsStandIn 22 = false by kernel_rfl)
  · exact (show Tryd.prog.wantsStandIn 3 = false by kernel_rfl)
  · exact (show Tryd.prog.wantsStandIn 9 = false by kernel_rfl)
  · exact (show Tryd.prog.wantsStandIn 3 = false by kernel_rfl)
  · exact (show Tryd.prog.wantsStandIn 3 = false by kernel_rfl)
theorem atlasBack_holds : Rows.AtlasBackCardSaid :=
  Claim7.holds_tied_plain_at .later [] _ _ _ _ atlasBack_said (fun _ h => by cases h) (by kernel_rfl) (fun _ h => by cases h) atlasBack_row_tie rfl ⟨rfl, rfl⟩ (by kernel_rfl) rfl atlasBack_plain (by kernel_rfl)
#print axioms atlasBack_holds
end Go.Proofs.YtoklilggickleaaDoor
