/- slices.Clone: its code, its contract. -/
import Derived.Test.YtclmbbbpijboaaaSgProg
import Derived.Test.YtclmbbbpijboaaaSgRun
namespace Sg
open _root_.Go
set_option linter.unusedSimpArgs false
set_option linter.unusedVariables false

def cloneF (z : Nat) (zero : List V) : F where
  np := 1
  gl := [0, 2, 4]
  res := [.t 2]
  own := some 0
  body := .seq (.region false [⟨some 2, true, .mov (.c (.slice z [])), none⟩])
    (.seq (.seq (.region false [⟨some 3, false, .mov (.g 0), none⟩, ⟨some 4, true, .nilq (.l 0), none⟩])
      (.cond (.g 4) (.seq (.region false [⟨some 2, true, .mko z, none⟩]) .ret) .skip))
    (.seq (.region false [⟨some 5, false, .mkb z 0 zero [], none⟩, ⟨some 6, false, .mov (.g 0), none⟩, ⟨some 7, false, .app 5 z (.l 0) (.l 1), none⟩, ⟨some 2, true, .mov (.l 2), none⟩]) .ret))

def onePg (id : Nat) (F : F) : Nat → Option Fn := fun k => if k = id then some (.code F) else none

theorem outo {A v} : outV A (some 0) 0 v = match v with
    | .own s z n => match A s with
      | some (z', rows, .live) => if z' = z ∧ rows.length = n then some (.slice z rows) else none
      | _ => none
    | _ => none := by simp only [outV, if_true]; rfl

theorem clone_nil (id z : Nat) (zero : List V) : K' (onePg id (cloneF z zero)) id [.nslice z] = some (.slice z []) := by
  refine K'_code (F := cloneF z zero) (by simp [onePg]) rfl ?_
  simp [go_sem, cloneF, outo, mkA, V.rowsOf]

theorem clone_not (id z : Nat) (zero : List V) (rows : List (List V)) (h : rows.length ≤ lim) : K' (onePg id (cloneF z zero)) id [.xslice z rows] = some (.slice z rows) := by
  refine K'_code (F := cloneF z zero) (by simp [onePg]) rfl ?_
  simp [go_sem, cloneF, outo, mkA, V.rowsOf, h]

theorem clone_ctr {P : Program} {cx : Cx} {id z : Nat} {zero : List V} (hm : P.follows .mixedOrders = true) (hok : okF P cx (onePg id (cloneF z zero)) (cx.fm id) (cloneF z zero) = true) :
    ∀ args r, cloneQ z args = some r → Ctr P cx (some 0) id args r := by
  intro args r h
  unfold cloneQ at h
  split at h <;> try (simp at h; done)
  rename_i z1 rows
  split at h <;> simp only [Option.some.injEq, reduceCtorEq] at h
  rename_i hl
  obtain ⟨hl, rfl⟩ := hl
  subst h
  have own : ownOf (onePg id (cloneF z1 zero)) id = some 0 := by simp [ownOf, onePg, cloneF]
  have all : ∀ args r, K' (onePg id (cloneF z1 zero)) id args = some r → Ctr P cx (some 0) id args r := fun args r hk => by
    obtain ⟨n, hn⟩ := K'_iff.1 hk
    have := callN_sound (P := P) (cx := cx) (Pg := onePg id (cloneF z1 zero)) hm (fun f F hF => by
      unfold onePg at hF
      split at hF <;> simp only [Option.some.injEq, Fn.code.injEq, reduceCtorEq] at hF
      rename_i e; subst e; subst hF; exact hok) (fun f own p hp => by
      unfold onePg at hp
      split at hp <;> simp at hp) (fun f z p _ hp => by
      unfold onePg at hp
      split at hp <;> simp at hp) (fun f z p hp => by
      unfold onePg at hp
      split at hp <;> simp at hp) n id args r hn
    rwa [own] at this
  have c1 := all _ _ (clone_nil id z1 zero)
  have c2 := all _ _ (clone_not id z1 zero rows hl)
  refine ⟨c1.1, fun w X vs hX hsz hrel => ?_⟩
  obtain ⟨u, hu, hr⟩ := hrel 0 (by simp)
  have one : ∀ x, RelD cx w X u x → ∀ i, i < [x].length → ∃ u, vs[i]? = some u ∧ RelD cx w X u (gv [x] i) := fun x hx i hi => by
    have : i = 0 := by simp at hi; exact hi
    subst this
    exact ⟨u, hu, hx⟩
  have hr0 : RelD cx w X u (.slice z1 rows) := hr
  have conc : (u = .slice none 0 0 ∧ rows = []) ∨ ∃ a n c, u = .slice (some a) n c := by
    rcases slice_inv hr0 with ⟨⟨a, rfl⟩, rfl⟩ | ⟨b, o, cap, c, e, fr, rfl, -⟩
    · cases a with
      | none => exact .inl ⟨rfl, rfl⟩
      | some a => exact .inr ⟨_, _, _, rfl⟩
    · exact .inr ⟨_, _, _, rfl⟩
  rcases conc with ⟨rfl, rfl⟩ | ⟨a, n, c, rfl⟩
  · exact c1.2 w X vs hX (by simpa using hsz) (one _ (.nslice z1))
  · exact c2.2 w X vs hX (by simpa using hsz) (one _ (.xslice a n c z1 rows hr0))

end Sg
