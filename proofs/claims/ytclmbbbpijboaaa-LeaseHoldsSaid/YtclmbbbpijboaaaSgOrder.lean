/- The orders that the model may draw for a region: each is a permutation in which what an operation hangs on stands ahead of it. -/
import Derived.Test.YtclmbbbpijboaaaSgComm
import Derived.Orders
namespace Sg
open Go
set_option linter.unusedSimpArgs false
set_option linter.unusedVariables false

/-- an edge that binds in every order -/
def bindsAny (e : Edge) : Bool := Region.binds .any e

/-- every binding edge leads backward -/
def okEdges (ops : Array Oper) : Bool :=
  (List.range ops.size).all fun i => match ops[i]? with
    | some o => o.after.toList.all fun e => !bindsAny e || decide (e.on < i)
    | none => true

def directs (o : Oper) : List Nat := (o.after.toList.filter bindsAny).map (·.on)

theorem okEdges_spec {ops : Array Oper} (h : okEdges ops = true) {i : Nat} {o : Oper} (ho : ops[i]? = some o) {j : Nat} (hj : j ∈ directs o) : j < i := by
  have hi : i < ops.size := by
    rcases Nat.lt_or_ge i ops.size with h' | h'
    · exact h'
    · simp [Array.getElem?_eq_none h'] at ho
  have := List.all_eq_true.1 h i (List.mem_range.2 hi)
  rw [ho] at this
  simp only [directs, List.mem_map, List.mem_filter] at hj
  obtain ⟨e, ⟨he, hb⟩, rfl⟩ := hj
  have := List.all_eq_true.1 this e he
  rw [hb] at this
  simpa using this

/-- the indices that are not listed yet -/
def left (n : Nat) (listed : Array Bool) : List Nat := (List.range n).filter fun i => !listed.getD i true

theorem left_set {n i : Nat} {listed : Array Bool} (hs : listed.size = n) (hi : i ∈ left n listed) :
    (left n (listed.setIfInBounds i true)).length + 1 = (left n listed).length ∧ ∀ j, j ∈ left n (listed.setIfInBounds i true) ↔ j ∈ left n listed ∧ j ≠ i := by
  have hmem : ∀ j, j ∈ left n (listed.setIfInBounds i true) ↔ j ∈ left n listed ∧ j ≠ i := by
    intro j
    simp only [left, List.mem_filter, List.mem_range, Bool.not_eq_true']
    by_cases e : j = i
    · subst e
      simp only [left, List.mem_filter, List.mem_range] at hi
      have : j < listed.size := by omega
      simp [this]
    · have e' : i ≠ j := fun h => e h.symm
      rw [getD_set_ne true e']
      simp [e]
  refine ⟨?_, hmem⟩
  have nd1 : (left n listed).Nodup := List.Nodup.sublist List.filter_sublist List.nodup_range
  have nd2 : (left n (listed.setIfInBounds i true)).Nodup := List.Nodup.sublist List.filter_sublist List.nodup_range
  have hp : (left n listed).Perm (i :: left n (listed.setIfInBounds i true)) := by
    refine (List.perm_ext_iff_of_nodup nd1 (List.nodup_cons.2 ⟨fun hh => ((hmem i).1 hh).2 rfl, nd2⟩)).2 fun j => ?_
    rw [List.mem_cons, hmem]
    constructor
    · intro hj
      by_cases e : j = i
      · exact .inl e
      · exact .inr ⟨hj, e⟩
    · rintro (rfl | ⟨hj, _⟩)
      · exact hi
      · exact hj
  have := hp.length_eq
  simpa using this.symm

theorem lin_go {ops : Array Oper} (hok : okEdges ops = true) : ∀ (fuel t : Nat) (listed : Array Bool), listed.size = ops.size → (left ops.size listed).length ≤ fuel →
    (Region.linearise.go .any ops fuel t listed []).Perm (left ops.size listed) ∧
    ∀ pre i post, Region.linearise.go .any ops fuel t listed [] = pre ++ i :: post → ∀ o, ops[i]? = some o → ∀ j ∈ directs o, j ∈ pre ∨ j ∉ left ops.size listed := by
  intro fuel
  induction fuel with
  | zero =>
    intro t listed hs hl
    have h0 : left ops.size listed = [] := List.length_eq_zero_iff.1 (by omega)
    simp only [Region.linearise.go, List.reverse_nil, h0]
    exact ⟨.refl _, fun pre i post h => by simp at h⟩
  | succ fuel ih =>
    intro t listed hs hl
    simp only [Region.linearise.go]
    change (match (Region.ready .any ops listed)[t % (Region.ready .any ops listed).length]? with
      | some i => Region.linearise.go .any ops fuel (t / (Region.ready .any ops listed).length) (listed.setIfInBounds i true) [i]
      | none => [].reverse).Perm _ ∧ ∀ pre i post, (match (Region.ready .any ops listed)[t % (Region.ready .any ops listed).length]? with
      | some i => Region.linearise.go .any ops fuel (t / (Region.ready .any ops listed).length) (listed.setIfInBounds i true) [i]
      | none => [].reverse) = pre ++ i :: post → _
    cases hi : (Region.ready .any ops listed)[t % (Region.ready .any ops listed).length]? with
    | none =>
      have hnil : Region.ready .any ops listed = [] := by
        cases hr : Region.ready .any ops listed with
        | nil => rfl
        | cons x xs =>
          rw [hr] at hi
          have hlt : t % (x :: xs).length < (x :: xs).length := Nat.mod_lt _ (by simp)
          rw [List.getElem?_eq_getElem hlt] at hi
          simp at hi
      have h0 : left ops.size listed = [] := by
        rcases hl0 : left ops.size listed with _ | ⟨a, as⟩
        · rfl
        · exfalso
          -- the least that is left is ready
          have hmin : ∃ m, m ∈ left ops.size listed ∧ ∀ k, k ∈ left ops.size listed → m ≤ k := by
            refine ⟨a, by rw [hl0]; simp, fun k hk => ?_⟩
            have hp : (left ops.size listed).Pairwise (· ≤ ·) := List.Pairwise.sublist List.filter_sublist List.pairwise_le_range
            rw [hl0, List.pairwise_cons] at hp
            rw [hl0] at hk
            rcases List.mem_cons.1 hk with rfl | hk
            · exact Nat.le_refl _
            · exact hp.1 k hk
          obtain ⟨m, hm, hle⟩ := hmin
          have hm' := hm
          simp only [left, List.mem_filter, List.mem_range, Bool.not_eq_true'] at hm'
          have : m ∈ Region.ready .any ops listed := mem_ready.2 ⟨hm'.2, ops[m]'hm'.1, by simp [hm'.1], fun e he hb => by
            have hlt : e.on < m := okEdges_spec hok (i := m) (o := ops[m]'hm'.1) (by simp [hm'.1]) (by simp only [directs, List.mem_map, List.mem_filter]; exact ⟨e, ⟨by simpa using he, hb⟩, rfl⟩)
            have hn : e.on ∉ left ops.size listed := fun hh => by have := hle _ hh; omega
            simp only [left, List.mem_filter, List.mem_range, Bool.not_eq_true', not_and, Bool.not_eq_false] at hn
            have := hn (by omega)
            have hsz : e.on < listed.size := by omega
            simpa [hsz] using this⟩
          rw [hnil] at this
          simp at this
      simp only [List.reverse_nil, h0]
      exact ⟨.refl _, fun pre i post h => by simp at h⟩
    | some i =>
      have hmem := List.mem_of_getElem? hi
      obtain ⟨hl1, o, ho, hdeps⟩ := mem_ready.1 hmem
      have hisz : i < ops.size := by
        rcases Nat.lt_or_ge i ops.size with h' | h'
        · exact h'
        · simp [Array.getElem?_eq_none h'] at ho
      have hil : i ∈ left ops.size listed := by simp only [left, List.mem_filter, List.mem_range]; exact ⟨hisz, by simpa using hl1⟩
      obtain ⟨s1, s2⟩ := left_set hs hil
      simp only []
      rw [linearise_go_acc, List.reverse_singleton, List.singleton_append]
      obtain ⟨ih1, ih2⟩ := ih (t / (Region.ready .any ops listed).length) (listed.setIfInBounds i true) (by simpa using hs) (by omega)
      refine ⟨?_, fun pre k post hsplit o' ho' j hj => ?_⟩
      · refine (ih1.cons i).trans ?_
        have nd1 : (left ops.size listed).Nodup := List.Nodup.sublist List.filter_sublist List.nodup_range
        have nd2 : (left ops.size (listed.setIfInBounds i true)).Nodup := List.Nodup.sublist List.filter_sublist List.nodup_range
        refine (List.perm_ext_iff_of_nodup (List.nodup_cons.2 ⟨fun hh => ((s2 i).1 hh).2 rfl, nd2⟩) nd1).2 fun j => ?_
        rw [List.mem_cons, s2]
        constructor
        · rintro (rfl | ⟨hj, _⟩)
          · exact hil
          · exact hj
        · intro hj
          by_cases e : j = i
          · exact .inl e
          · exact .inr ⟨hj, e⟩
      · cases pre with
        | nil =>
          simp only [List.nil_append, List.cons.injEq] at hsplit
          obtain ⟨rfl, -⟩ := hsplit
          rw [ho] at ho'
          simp only [Option.some.injEq] at ho'
          subst ho'
          simp only [directs, List.mem_map, List.mem_filter] at hj
          obtain ⟨e, ⟨he, hb⟩, rfl⟩ := hj
          have := hdeps e (by simpa using he) hb
          refine .inr fun hh => ?_
          simp only [left, List.mem_filter, List.mem_range, Bool.not_eq_true'] at hh
          have hsz : e.on < listed.size := by omega
          simp [hsz] at this hh
          rw [this] at hh; simp at hh
        | cons p pre =>
          simp only [List.cons_append, List.cons.injEq] at hsplit
          obtain ⟨rfl, hsplit⟩ := hsplit
          rcases ih2 pre k post hsplit o' ho' j hj with h' | h'
          · exact .inl (List.mem_cons_of_mem _ h')
          · rw [s2] at h'
            by_cases e : j = i
            · exact .inl (by simp [e])
            · exact .inr fun hh => h' ⟨hh, e⟩

/-- an order that is drawn -/
theorem lin_ok {ops : Array Oper} (hok : okEdges ops = true) (t : Nat) :
    (Region.linearise .any ops t).Perm (List.range ops.size) ∧ ∀ pre i post, Region.linearise .any ops t = pre ++ i :: post → ∀ o, ops[i]? = some o → ∀ j ∈ directs o, j ∈ pre := by
  have hall : left ops.size (Array.replicate ops.size false) = List.range ops.size := by
    unfold left
    rw [List.filter_eq_self]
    intro i hi
    have := List.mem_range.1 hi
    simp [this]
  obtain ⟨h1, h2⟩ := lin_go hok ops.size t (Array.replicate ops.size false) (by simp) (by rw [hall]; simp)
  rw [hall] at h1 h2
  refine ⟨h1, fun pre i post hs o ho j hj => (h2 pre i post hs o ho j hj).resolve_right fun hn => hn (List.mem_range.2 ?_)⟩
  have := okEdges_spec hok ho hj
  have hi : i < ops.size := by
    rcases Nat.lt_or_ge i ops.size with h' | h'
    · exact h'
    · simp [Array.getElem?_eq_none h'] at ho
  omega

/-- what an operation hangs on, near and far -/
def closure : List Oper → List (List Nat) → List (List Nat)
  | [], acc => acc
  | o :: os, acc => closure os (acc ++ [directs o ++ (directs o).flatMap fun j => acc.getD j []])

theorem closure_get : ∀ (os : List Oper) (acc : List (List Nat)) (i : Nat), i < acc.length → (closure os acc).getD i [] = acc.getD i []
  | [], acc, i, _ => rfl
  | o :: os, acc, i, h => by
    simp only [closure]
    rw [closure_get os _ i (by simp; omega)]
    simp only [List.getD_eq_getElem?_getD]
    rw [List.getElem?_append_left h]

theorem closure_at : ∀ (os : List Oper) (acc : List (List Nat)) (k : Nat) (o : Oper), os[k]? = some o → (∀ j ∈ directs o, j < acc.length + k) →
    ∀ x, x ∈ (closure os acc).getD (acc.length + k) [] → x ∈ directs o ∨ ∃ j ∈ directs o, x ∈ (closure os acc).getD j []
  | [], acc, k, o, h, _ => by simp at h
  | o' :: os, acc, 0, o, h, hb => by
    simp only [List.getElem?_cons_zero, Option.some.injEq] at h
    subst h
    intro x hx
    simp only [closure, Nat.add_zero] at hx ⊢
    rw [closure_get os _ acc.length (by simp)] at hx
    have : (acc ++ [directs o' ++ (directs o').flatMap fun j => acc.getD j []]).getD acc.length [] = directs o' ++ (directs o').flatMap fun j => acc.getD j [] := by
      simp [List.getD_eq_getElem?_getD]
    rw [this, List.mem_append, List.mem_flatMap] at hx
    rcases hx with hx | ⟨j, hj, hx⟩
    · exact .inl hx
    · refine .inr ⟨j, hj, ?_⟩
      have hlt := hb j hj
      rw [closure_get os _ j (by simp; omega)]
      simp only [List.getD_eq_getElem?_getD]
      rw [List.getElem?_append_left (by omega)]
      simpa [List.getD_eq_getElem?_getD] using hx
  | o' :: os, acc, k + 1, o, h, hb => by
    simp only [List.getElem?_cons_succ] at h
    have := closure_at os (acc ++ [directs o' ++ (directs o').flatMap fun j => acc.getD j []]) k o h (fun j hj => by have := hb j hj; simp; omega)
    simp only [List.length_append, List.length_cons, List.length_nil] at this
    intro x hx
    simp only [closure] at hx ⊢
    rw [show acc.length + (k + 1) = acc.length + (0 + 1) + k by omega] at hx
    exact this x hx

/-- the same as numbers, a bit for each operation -/
def closureB : List Oper → List Nat → List Nat
  | [], acc => acc
  | o :: os, acc => closureB os (acc ++ [(directs o).foldl (fun m j => (m ||| acc.getD j 0) ||| (1 <<< j)) 0])

theorem foldB_spec {accB : List Nat} {b : Nat} : ∀ (l : List Nat) (m : Nat), (l.foldl (fun m j => (m ||| accB.getD j 0) ||| (1 <<< j)) m).testBit b = true → m.testBit b = true ∨ ∃ j ∈ l, b = j ∨ (accB.getD j 0).testBit b = true
  | [], m, h => .inl h
  | j :: l, m, h => by
    rcases foldB_spec l _ h with h | ⟨k, hk, h⟩
    · simp only [Nat.testBit_or, Bool.or_eq_true] at h
      rcases h with (h | h) | h
      · exact .inl h
      · exact .inr ⟨j, by simp, .inr h⟩
      · refine .inr ⟨j, by simp, .inl ?_⟩
        rw [Nat.one_shiftLeft, Nat.testBit_two_pow] at h
        exact (of_decide_eq_true h).symm
    · exact .inr ⟨k, by simp [hk], h⟩

theorem closureB_spec : ∀ (os : List Oper) (acc : List (List Nat)) (accB : List Nat), acc.length = accB.length → (∀ i b, (accB.getD i 0).testBit b = true → b ∈ acc.getD i []) →
    ∀ i b, ((closureB os accB).getD i 0).testBit b = true → b ∈ (closure os acc).getD i []
  | [], acc, accB, _, h, i, b, hb => h i b hb
  | o :: os, acc, accB, hl, h, i, b, hb => by
    simp only [closureB] at hb
    simp only [closure]
    refine closureB_spec os _ _ (by simp [hl]) (fun i b hb => ?_) i b hb
    rcases Nat.lt_trichotomy i accB.length with hi | hi | hi
    · have h0 := h i b
      simp only [List.getD_eq_getElem?_getD] at hb h0 ⊢
      rw [List.getElem?_append_left hi] at hb
      rw [List.getElem?_append_left (by omega)]
      exact h0 hb
    · subst hi
      rw [List.getD_eq_getElem?_getD, List.getElem?_append_right (Nat.le_refl _)] at hb
      rw [List.getD_eq_getElem?_getD, List.getElem?_append_right (by omega)]
      simp only [hl, Nat.sub_self] at hb ⊢
      have hb : ((directs o).foldl (fun m j => (m ||| accB.getD j 0) ||| (1 <<< j)) 0).testBit b = true := hb
      show b ∈ directs o ++ (directs o).flatMap fun j => acc.getD j []
      rw [List.mem_append, List.mem_flatMap]
      rcases foldB_spec _ _ hb with h0 | ⟨j, hj, h0⟩
      · simp at h0
      · rcases h0 with rfl | h0
        · exact .inl hj
        · exact .inr ⟨j, hj, h j b h0⟩
    · rw [List.getD_eq_getElem?_getD, List.getElem?_eq_none (by simp; omega)] at hb
      simp at hb

/-- two operations that hang on each other in no way have nothing in common -/
def okDraw (os : List Oper) (ps : List Op) : Bool :=
  let cl := closureB os []
  (List.range ps.length).all fun a => (List.range a).all fun b => (cl.getD a 0).testBit b || (match ps[a]?, ps[b]? with | some p, some q => indep a b p q | _, _ => true)

theorem draw_inv {os : Array Oper} {ps : List Op} (hok : okEdges os = true) (hlen : ps.length = os.size) (hd : okDraw os.toList ps = true) (t : Nat) :
    (Region.linearise .any os t).Pairwise fun a b => b < a → ∀ p q, ps[a]? = some p → ps[b]? = some q → indep a b p q = true := by
  obtain ⟨hperm, hdeps⟩ := lin_ok hok t
  -- what a hangs on, near and far, stands ahead of it
  have far : ∀ n, ∀ a, a ≤ n → ∀ pre post, Region.linearise .any os t = pre ++ a :: post → ∀ x, x ∈ (closure os.toList []).getD a [] → x ∈ pre := by
    intro n
    induction n with
    | zero =>
      intro a ha pre post hs x hx
      obtain rfl : a = 0 := by omega
      have : (0 : Nat) ∈ List.range os.size := hperm.mem_iff.1 (by rw [hs]; simp)
      have h0 := List.mem_range.1 this
      have ho : os.toList[0]? = some os[0] := by simp [h0]
      have hnone : directs os[0] = [] := by
        rcases hdd : directs os[0] with _ | ⟨j, js⟩
        · rfl
        · have := okEdges_spec hok (i := 0) (o := os[0]) (by simp [h0]) (j := j) (by rw [hdd]; simp); omega
      have := closure_at os.toList [] 0 os[0] ho (fun j hj => by rw [hnone] at hj; simp at hj) x (by simpa using hx)
      rw [hnone] at this
      simp at this
    | succ n ih =>
      intro a ha pre post hs x hx
      have : a ∈ List.range os.size := hperm.mem_iff.1 (by rw [hs]; simp)
      have h0 := List.mem_range.1 this
      have ho : os[a]? = some os[a] := by simp [h0]
      have hlt : ∀ j ∈ directs os[a], j < a := fun j hj => okEdges_spec hok ho hj
      have := closure_at os.toList [] a os[a] (by simp [h0]) (fun j hj => by have := hlt j hj; simp; omega) x (by simpa using hx)
      rcases this with hdir | ⟨j, hj, hx'⟩
      · exact hdeps pre a post hs _ ho x hdir
      · have hjp := hdeps pre a post hs _ ho j hj
        obtain ⟨p1, p2, rfl⟩ := List.append_of_mem hjp
        have := ih j (by have := hlt j hj; omega) p1 (p2 ++ a :: post) (by rw [hs]; simp) x hx'
        simp [this]
  have nd : (Region.linearise .any os t).Nodup := hperm.nodup_iff.2 List.nodup_range
  -- split by places
  rw [List.pairwise_iff_forall_sublist]
  intro a b hab hlt p q hp hq
  have hin : ∃ pre post, Region.linearise .any os t = pre ++ a :: post ∧ b ∈ post := by
    have : ∀ (l : List Nat), [a, b].Sublist l → ∃ pre post, l = pre ++ a :: post ∧ b ∈ post := by
      intro l
      induction l with
      | nil => intro h; simp at h
      | cons c l ih =>
        intro h
        rcases List.sublist_cons_iff.1 h with h | ⟨r, hr, h⟩
        · obtain ⟨pre, post, rfl, hb⟩ := ih h
          exact ⟨c :: pre, post, rfl, hb⟩
        · simp only [List.cons.injEq] at hr
          obtain ⟨rfl, rfl⟩ := hr
          exact ⟨[], l, rfl, List.singleton_sublist.1 h⟩
    exact this _ hab
  obtain ⟨pre, post, hs, hb⟩ := hin
  have hnot : b ∉ (closure os.toList []).getD a [] := fun hh => by
    have h1 := far a a (Nat.le_refl _) pre post hs b hh
    rw [hs, List.nodup_append] at nd
    exact nd.2.2 b h1 b (by simp [hb]) rfl
  have ha : a < ps.length := by
    rcases Nat.lt_or_ge a ps.length with h' | h'
    · exact h'
    · simp [List.getElem?_eq_none h'] at hp
  have := List.all_eq_true.1 (List.all_eq_true.1 hd a (List.mem_range.2 ha)) b (List.mem_range.2 hlt)
  rw [hp, hq] at this
  simp only [Bool.or_eq_true] at this
  exact this.resolve_left fun hh => hnot (closureB_spec os.toList [] [] rfl (fun i b hb => by simp at hb) a b hh)

end Sg
