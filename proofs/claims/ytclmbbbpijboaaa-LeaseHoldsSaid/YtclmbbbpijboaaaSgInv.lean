/- What the check says of each kind of operation. -/
import Derived.Test.YtclmbbbpijboaaaSgEv
namespace Sg
open Go Go.RowKit
set_option linter.unusedSimpArgs false
set_option linter.unusedVariables false

section inv
variable {P : Program} {cx : Cx} {ds : List (Option Nat)} {op : Go.Op}

theorem okK_mov {y : Arg} (h : okK P cx ds op (.mov y) = true) : ∃ x, (op = .move x ∨ op = .assign x) ∧ okArg cx ds x y = true := by
  cases op <;> simp [okK] at h
  · exact ⟨_, .inl rfl, h⟩
  · exact ⟨_, .inr rfl, h⟩
theorem okK_frz {s : Nat} {y : Arg} (h : okK P cx ds op (.frz s y) = true) : ∃ x, op = .assign x ∧ okArg cx ds x y = true := by
  cases op <;> simp [okK] at h
  exact ⟨_, rfl, h⟩
theorem okK_pick {c x y : Arg} (h : okK P cx ds op (.pick c x y) = true) : ∃ c' x' y', op = .pick c' x' y' ∧ okArg cx ds c' c = true ∧ okArg cx ds x' x = true ∧ okArg cx ds y' y = true := by
  cases op <;> simp [okK] at h
  exact ⟨_, _, _, rfl, h.1.1, h.1.2, h.2⟩
theorem okK_box {y : Arg} (h : okK P cx ds op (.box y) = true) : ∃ t x, op = .box t x ∧ okArg cx ds x y = true := by
  cases op <;> simp [okK] at h
  exact ⟨_, _, rfl, h⟩
theorem okK_alloc {z : List V} (h : okK P cx ds op (.alloc z) = true) : ∃ t, op = .alloc t ∧ okZero P t z = true := by
  cases op <;> simp [okK] at h
  exact ⟨_, rfl, h⟩
theorem okK_build {z : List V} {qs} (h : okK P cx ds op (.build z qs) = true) : ∃ t ps pl, op = .build t ps ∧ okZero P t z = true ∧ placesT P t = some pl ∧ okParts cx ds (fun i => pl[i]?) ps.toList qs = true := by
  cases op <;> simp [okK] at h
  obtain ⟨h1, h2⟩ := h
  split at h2
  · exact ⟨_, _, _, rfl, h1, by assumption, h2⟩
  · simp at h2
theorem okK_mks {z n : Nat} {zero : List V} {qs} (h : okK P cx ds op (.mks z n zero qs) = true) : ∃ t len ps el, op = .buildSlice t len ps ∧ sliceT P t = some el ∧ szT P el = some z ∧ okZero P el zero = true ∧ zero.length = z ∧ z ≠ 0 ∧ len = n ∧ len * z ≤ 16777216 ∧ okRows cx ds ps.toList qs = true := by
  cases op <;> simp [okK] at h
  split at h
  · simp at h
    obtain ⟨⟨⟨⟨⟨⟨h1, h2⟩, h3⟩, h4⟩, h5⟩, h6⟩, h7⟩ := h
    exact ⟨_, _, _, _, rfl, by assumption, h1, h2, h3, h4, h5, h6, h7⟩
  · simp at h
theorem okK_mko {z : Nat} (h : okK P cx ds op (.mko z) = true) : ∃ x, (op = .move (.const x) ∨ op = .assign (.const x)) ∧ x = .slice none 0 0 := by
  unfold okK at h
  split at h <;> simp_all
theorem okK_mkb {z n : Nat} {zero : List V} {qs} (h : okK P cx ds op (.mkb z n zero qs) = true) : okK P cx ds op (.mks z n zero qs) = true := by
  cases op <;> simp [okK] at h
  simpa [okK] using h
theorem okK_nilq {y : Arg} (h : okK P cx ds op (.nilq y) = true) : ∃ t x t' e, op = .binOp .eql t x (.const (.slice none 0 0)) t' ∧ okArg cx ds x y = true ∧ P.underlying t = some (.slice e) := by
  unfold okK at h
  split at h <;> try (simp_all; done)
  simp only [Bool.and_eq_true] at h
  rename_i t x t' a _ heq
  simp only [K.nilq.injEq] at heq
  subst heq
  obtain ⟨h1, h2⟩ := h
  unfold sliceT at h2
  split at h2
  · exact ⟨_, _, _, _, rfl, h1, by assumption⟩
  · simp at h2
theorem okK_load {l : Loc} {n : Option Nat} {y : Arg} (h : okK P cx ds op (.load l n y) = true) : ∃ t p, op = .load t p ∧ okArg cx ds p y = true ∧ (P.underlying t).isSome = true ∧ (if aggT P t then szT P t == n && n.isSome else n.isNone) = true := by
  cases op <;> simp [okK] at h
  exact ⟨_, _, rfl, h.1.1, h.1.2, by simpa using h.2⟩
theorem okK_store {l : Loc} {n : Nat} {y z : Arg} (h : okK P cx ds op (.store l n y z) = true) : ∃ t p x, op = .store t p x ∧ okArg cx ds p y = true ∧ okArg cx ds x z = true ∧ szT P t = some n := by
  cases op <;> simp [okK] at h
  exact ⟨_, _, _, rfl, h.1.1, h.1.2, h.2⟩
theorem okK_bin {o : BinOp} {y z : Arg} (h : okK P cx ds op (.bin o y z) = true) : ∃ t x x' t', op = .binOp o t x x' t' ∧ okArg cx ds x y = true ∧ okArg cx ds x' z = true := by
  cases op <;> simp [okK] at h
  obtain ⟨⟨rfl, h1⟩, h2⟩ := h
  exact ⟨_, _, _, _, rfl, h1, h2⟩
theorem okK_eqb {ne : Bool} {y z : Arg} (h : okK P cx ds op (.eqb ne y z) = true) : ∃ t x x' t', op = .binOp (if ne then .neq else .eql) t x x' t' ∧ okArg cx ds x y = true ∧ okArg cx ds x' z = true ∧ P.underlying t = some .bool := by
  cases op <;> simp [okK] at h
  obtain ⟨⟨⟨rfl, h1⟩, h2⟩, h3⟩ := h
  split at h3
  · exact ⟨_, _, _, _, rfl, h1, h2, by assumption⟩
  · simp at h3
theorem okK_eqa {ne : Bool} {sh : List Sh} {y z : Arg} (h : okK P cx ds op (.eqa ne sh y z) = true) : ∃ t x x' t', op = .binOp (if ne then .neq else .eql) t x x' t' ∧ okArg cx ds x y = true ∧ okArg cx ds x' z = true ∧ aggT P t = true ∧ shapeT P 20 t = some sh ∧ P.eqGuardType P.depth t = false := by
  cases op <;> simp [okK] at h
  obtain ⟨⟨⟨⟨⟨rfl, h1⟩, h2⟩, h3⟩, h4⟩, h5⟩ := h
  exact ⟨_, _, _, _, rfl, h1, h2, h3, h4, h5⟩
theorem okK_sh {o : BinOp} {y z : Arg} (h : okK P cx ds op (.sh o y z) = true) : ∃ t x x' t', op = .binOp o t x x' t' ∧ okArg cx ds x y = true ∧ okArg cx ds x' z = true := by
  cases op <;> simp [okK] at h
  obtain ⟨⟨rfl, h1⟩, h2⟩ := h
  exact ⟨_, _, _, _, rfl, h1, h2⟩
theorem okK_un {o : UnOp} {y : Arg} (h : okK P cx ds op (.un o y) = true) : ∃ t x, op = .unOp o t x ∧ okArg cx ds x y = true := by
  cases op <;> simp [okK] at h
  obtain ⟨rfl, h1⟩ := h
  exact ⟨_, _, rfl, h1⟩
theorem okK_convi {k : IntKind} {y : Arg} (h : okK P cx ds op (.conv (.int k) y) = true) : ∃ s d x dd, op = .convert s d x ∧ okArg cx ds x y = true ∧ P.underlying s = some dd ∧ P.underlying d = some (.int k) := by
  cases op <;> simp [okK] at h
  obtain ⟨h1, h2⟩ := h
  split at h2
  · simp at h2; subst h2; exact ⟨_, _, _, _, rfl, h1, by assumption, by assumption⟩
  · simp at h2
theorem okK_convs {y : Arg} (h : okK P cx ds op (.conv .same y) = true) : ∃ s d x, op = .convert s d x ∧ okArg cx ds x y = true ∧ P.underlying s = some .string ∧ P.underlying d = some .string := by
  cases op <;> simp [okK] at h
  obtain ⟨h1, h2⟩ := h
  split at h2
  · exact ⟨_, _, _, rfl, h1, by assumption, by assumption⟩
  · simp at h2
theorem okK_fn {f : Nat} {as : List Arg} {sites : List Nat} (h : okK P cx ds op (.fn f as sites) = true) : ∃ cap, op = .makeFunc (.func (cx.fm f)) #[] cap ∧ okArgs cx ds cap.toList as = true := by
  unfold okK at h
  split at h <;> simp_all
theorem okK_sl {st : Bool} {z : Nat} {y : Arg} {lo hi : Option Arg} (h : okK P cx ds op (.sl st z y lo hi) = true) : ∃ t x lo' hi', op = .slice t x lo' hi' none ∧ okArg cx ds x y = true ∧ okOpt cx ds lo' lo = true ∧ okOpt cx ds hi' hi = true ∧ okSlT P st z t = true := by
  cases op
  case slice t x lo' hi' mx =>
    cases mx with
    | some m => simp [okK] at h
    | none =>
      simp only [okK, Bool.and_eq_true] at h
      exact ⟨t, x, lo', hi', rfl, h.1.1.1, h.1.1.2, h.1.2, h.2⟩
  all_goals (simp [okK] at h)

theorem okK_fad {y : Arg} {off : Nat} (h : okK P cx ds op (.fad y off) = true) : ∃ s x i, op = .fieldAddr s x i ∧ okArg cx ds x y = true ∧ okField P s i off = true := by
  cases op <;> simp [okK] at h
  exact ⟨_, _, _, rfl, h.1, h.2⟩
theorem okK_iad {z : Nat} {y i : Arg} (h : okK P cx ds op (.iad z y i) = true) : ∃ t x x' el, op = .indexAddr t x x' ∧ okArg cx ds x y = true ∧ okArg cx ds x' i = true ∧ sliceT P t = some el ∧ szT P el = some z := by
  cases op <;> simp [okK] at h
  obtain ⟨⟨h1, h2⟩, h3⟩ := h
  split at h3
  · exact ⟨_, _, _, _, rfl, h1, h2, by assumption, by simpa using h3⟩
  · simp at h3
theorem okK_iada {z n : Nat} {y i : Arg} (h : okK P cx ds op (.iada z n y i) = true) : ∃ t x x' el, op = .indexAddr t x x' ∧ okArg cx ds x y = true ∧ okArg cx ds x' i = true ∧ P.underlying t = some (.array n el) ∧ szT P el = some z := by
  cases op <;> simp [okK] at h
  obtain ⟨⟨h1, h2⟩, h3⟩ := h
  split at h3
  · simp at h3; obtain ⟨rfl, h3⟩ := h3; exact ⟨_, _, _, _, rfl, h1, h2, by assumption, h3⟩
  · simp at h3
theorem okK_idx {y i : Arg} (h : okK P cx ds op (.idx y i) = true) : ∃ t x x', op = .index t x x' ∧ okArg cx ds x y = true ∧ okArg cx ds x' i = true ∧ P.underlying t = some .string := by
  cases op <;> simp [okK] at h
  obtain ⟨⟨h1, h2⟩, h3⟩ := h
  split at h3
  · exact ⟨_, _, _, rfl, h1, h2, by assumption⟩
  · simp at h3
theorem okK_ext {y : Arg} {i : Nat} (h : okK P cx ds op (.ext y i) = true) : ∃ x, op = .extract x i ∧ okArg cx ds x y = true := by
  cases op <;> simp [okK] at h
  obtain ⟨h1, rfl⟩ := h
  exact ⟨_, rfl, h1⟩
theorem okK_nilc {y : Arg} (h : okK P cx ds op (.nilc y) = true) : ∃ x, op = .nilCheck x ∧ okArg cx ds x y = true := by
  cases op <;> simp [okK] at h
  exact ⟨_, rfl, h⟩

theorem arr1 {α : Type} {a : Array α} {x : α} (h : a.toList = [x]) : a = #[x] := by
  apply Array.ext'; simpa using h
theorem arr2 {α : Type} {a : Array α} {x y : α} (h : a.toList = [x, y]) : a = #[x, y] := by
  apply Array.ext'; simpa using h

theorem okK_len {st : Bool} {y : Arg} (h : okK P cx ds op (.len st y) = true) : ∃ x t, op = .call { callee := .builtin .len, args := #[x], argTypes := #[t] } ∧ okArg cx ds x y = true ∧ okLenT P st t = true := by
  unfold okK at h
  split at h <;> try (simp_all; done)
  rename_i args ts st' a heq
  simp only [K.len.injEq] at heq
  obtain ⟨rfl, rfl⟩ := heq
  split at h
  · rename_i x t h1 h2
    simp only [Bool.and_eq_true] at h
    rw [arr1 h1, arr1 h2]
    exact ⟨x, t, rfl, h.1, h.2⟩
  · simp at h

theorem okArgs2 {os : List Operand} {y z : Arg} (h : okArgs cx ds os [y, z] = true) : ∃ x x', os = [x, x'] ∧ okArg cx ds x y = true ∧ okArg cx ds x' z = true := by
  match os, h with
  | [x, x'], h => simp [okArgs] at h; exact ⟨x, x', rfl, h.1, h.2⟩
  | [], h => simp [okArgs] at h
  | [_], h => simp [okArgs] at h
  | _ :: _ :: _ :: _, h => simp [okArgs] at h

theorem okK_mm {mx : Bool} {y z : Arg} (h : okK P cx ds op (.mm mx y z) = true) : ∃ x x' ts, op = .call { callee := .builtin (if mx then .max else .min), args := #[x, x'], argTypes := ts } ∧ okArg cx ds x y = true ∧ okArg cx ds x' z = true := by
  unfold okK at h
  split at h <;> try (simp_all; done)
  all_goals
    rename_i args ts a b heq
    simp only [K.mm.injEq] at heq
    obtain ⟨rfl, rfl, rfl⟩ := heq
    obtain ⟨x, x', h1, h2, h3⟩ := okArgs2 h
    rw [arr2 h1]
    exact ⟨x, x', ts, rfl, h2, h3⟩

theorem okK_app {s z : Nat} {y y' : Arg} (h : okK P cx ds op (.app s z y y') = true) : ∃ x x' t t' e ie zv, op = .call { callee := .builtin .append, args := #[x, x'], argTypes := #[t, t'] } ∧ okArg cx ds x y = true ∧ okArg cx ds x' y' = true ∧
    P.underlying t = some (.slice e) ∧ szT P e = some z ∧ P.info? e = some ie ∧ 0 < ie.bytes ∧ ie.bytes ≤ 65536 ∧ ie.zero = some zv ∧ zv.cells.size = z ∧ okAppT P t' = true ∧ 0 < z := by
  unfold okK at h
  split at h <;> try (simp_all; done)
  rename_i args ts s' z' a b heq
  simp only [K.app.injEq] at heq
  obtain ⟨rfl, rfl, rfl, rfl⟩ := heq
  simp only [Bool.and_eq_true] at h
  obtain ⟨h1, h2⟩ := h
  obtain ⟨x, x', e1, e2, e3⟩ := okArgs2 h1
  split at h2
  · rename_i t t' e4
    simp only [Bool.and_eq_true] at h2
    obtain ⟨h2, h3⟩ := h2
    split at h2
    · rename_i el hu
      simp only [Bool.and_eq_true, beq_iff_eq, bne_iff_ne, ne_eq] at h2
      obtain ⟨⟨h0, h4⟩, h5⟩ := h2
      split at h5
      · rename_i ie hie
        simp only [Bool.and_eq_true, decide_eq_true_eq] at h5
        obtain ⟨h6, h7⟩ := h5
        split at h7
        · rename_i zv hzv
          rw [arr2 e1, arr2 e4]
          exact ⟨x, x', t, t', el, ie, zv, rfl, e2, e3, hu, h4, hie, h6.1, h6.2, hzv, by simpa using h7, h3, by omega⟩
        · simp at h7
      · simp at h5
    · simp at h2
  · simp at h2

theorem okK_call {f : Cal} {cv : Cvm} {own : Option Nat} {as : List Arg} (h : okK P cx ds op (.call f cv own as) = true) : ∃ (x : Operand) (c : Call), op = .call c ∧ c.callee = .value x ∧ okCal cx ds x f ∧ okArgs cx ds c.args.toList as = true := by
  unfold okK at h
  split at h <;> try (simp_all; done)
  · rename_i f' args ts g cv' own' as' heq
    simp only [K.call.injEq] at heq
    obtain ⟨rfl, rfl, rfl, rfl⟩ := heq
    simp only [Bool.and_eq_true, beq_iff_eq] at h
    exact ⟨_, _, rfl, rfl, by rw [← h.1]; rfl, h.2⟩
  · rename_i x args ts a cv' own' as' _ heq
    simp only [K.call.injEq] at heq
    obtain ⟨rfl, rfl, rfl, rfl⟩ := heq
    simp only [Bool.and_eq_true] at h
    exact ⟨_, _, rfl, rfl, h.1, h.2⟩

end inv
end Sg
