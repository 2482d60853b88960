import Derived.Test.YtclmbbbpijboaaaSkLease2
namespace Sg
open _root_.Go (IntKind BinOp UnOp)
set_option linter.unusedSimpArgs false
set_option linter.unusedVariables false
set_option maxRecDepth 10000
variable {Pg : Nat → Option Fn}

@[go_sem] def eStamps (l : List Stamp) : V := .slice 3 (l.map eStamp)
def idxS : List Stamp → (Stamp → Bool) → Nat → Int
  | [], _, _ => -1
  | a :: l, p, i => if p a then i else idxS l p (i + 1)
theorem idxS_any : ∀ {l : List Stamp} {p : Stamp → Bool} {i : Nat}, decide (0 ≤ idxS l p i) = l.any p
  | [], p, i => by simp [idxS]
  | a :: l, p, i => by
    simp only [idxS]
    split
    · rename_i h; simp [h]
    · rename_i h; rw [idxS_any]; simp [h]
def H137 (Pg : Nat → Option Fn) : Prop := Pg 137 = some (.code F137)
theorem K137 (h : H137 Pg) (l : List Stamp) (g : Nat) (cap : List V) (p : Stamp → Bool) (hl : l.length < 2 ^ 60) (hg : ∀ x ∈ l, K' Pg g (.agg (eStamp x) :: cap) = some (.bool (p x))) :
    K' Pg 137 [eStamps l, .func g cap] = some (iz (idxS l p 0)) := by
  refine K'_code h rfl ?_
  simp only [eStamp] at hg
  simp only [go_sem]
  unfold l137_0
  refine wp_lp (fun (i : Nat) S => i ≤ l.length ∧ S.ρ 0 = eStamps l ∧ S.ρ 1 = .func g cap ∧ S.ρ 7 = iz l.length ∧ S.ρ 8 = iz i ∧ idxS (l.drop i) p i = idxS l p 0) (fun i => l.length - i) 0 ?_ ?_
  · simp [go_sem]
  · intro i S ⟨hi, h0, h1, h7, h8, ho⟩
    simp only [go_sem, h0, h1, h7, h8]
    refine wpc_i (fun h => ?_) (fun h => ?_)
    · have h := lt_of h
      obtain ⟨x, hx, hd⟩ := drop_at h
      rw [hd] at ho
      have hgx := hg x (List.mem_of_getElem? hx)
      simp only [go_sem, h0, h1, h7, h8, hx, hgx]
      refine wpc_i (fun hc => ?_) (fun hc => ?_)
      · simp only [idxS, hc, if_true] at ho
        simp only [go_sem, ← ho]
      · simp only [idxS, hc, Bool.false_eq_true, if_false] at ho
        simp only [go_sem, h0, h1, h7, h8]
        exact ⟨i + 1, by omega, by omega, by rw [inc64 h hl], ho⟩
    · have h := eq_of hi h
      subst h
      simp only [List.drop_length, idxS] at ho
      simp only [go_sem, ← ho]
def H128 (Pg : Nat → Option Fn) : Prop := Pg 128 = some (.code F128) ∧ H137 Pg
theorem K128 (h : H128 Pg) (l : List Stamp) (g : Nat) (p : Stamp → Bool) (hl : l.length < 2 ^ 60) (hg : ∀ x ∈ l, K' Pg g [.agg (eStamp x)] = some (.bool (p x))) :
    K' Pg 128 [eStamps l, .func g []] = some (.bool (l.any p)) := by
  obtain ⟨h, h137⟩ := h
  refine K'_code h rfl ?_
  have k137 := K137 h137 l g [] p hl hg
  simp only [eStamps] at k137
  simp only [go_sem, k137, idxS_any]
def H129 (Pg : Nat → Option Fn) : Prop := Pg 129 = some (.code F129) ∧ H28 Pg
theorem K129 (h : H129 Pg) (s : Stamp) : K' Pg 129 [.agg (eStamp s)] = some (.bool (!stampRight s)) := by
  obtain ⟨h, h28⟩ := h
  have k := K28 h28 s
  simp only [eStamp] at k
  refine K'_code h rfl ?_
  simp only [go_sem, k]

theorem soon_cmp {m x : Stamp} : (if stampCmp x m < 0 then x else m) = soon m x := by
  simp only [soon, cmp_flip]
def H130 (Pg : Nat → Option Fn) : Prop := Pg 130 = some (.code F130) ∧ H15 Pg
theorem K130 (h : H130 Pg) (a : Stamp) (l : List Stamp) (hl : l.length < 2 ^ 59) : K' Pg 130 [eStamps (a :: l), .func 15 []] = some (.agg (eStamp (l.foldl soon a))) := by
  obtain ⟨h, h15⟩ := h
  have k15 := fun x y => K15 h15 x y
  simp only [eStamp] at k15
  have hz : decide (((l.length + 1 : Nat) : Int) < 1) = false := decide_eq_false (by omega)
  refine K'_code h rfl ?_
  simp only [go_sem, hz]
  unfold l130_0
  refine wp_lp (fun (i : Nat) S => i ≤ l.length ∧ S.ρ 0 = eStamps (a :: l) ∧ S.ρ 1 = .func 15 [] ∧ S.ρ 4 = .lref 4 0 ∧ S.μ 4 = some (eStamp zeroStamp, false) ∧ S.ρ 5 = .lref 5 0 ∧ S.μ 5 = some (eStamp ((l.take i).foldl soon a), false) ∧ S.ρ 6 = iz ((i + 1 : Nat) : Int)) (fun i => l.length - i) 0 ?_ ?_
  · simp [go_sem, zeroStamp]
  · intro i S ⟨hi, h0, h1, h4, m4, h5, m5, h6⟩
    have e1 : decide (((i + 1 : Nat) : Int) < ((l.length + 1 : Nat) : Int)) = decide (i < l.length) := decide_eq_decide.2 (by omega)
    simp only [go_sem, h0, h1, h4, m4, h5, m5, h6, e1]
    refine wpc_i (fun h => ?_) (fun h => ?_)
    · have h := of_decide_eq_true h
      obtain ⟨x, hx, hd⟩ := drop_at h
      have hinc : IntKind.i64.wrap (((i + 1 : Nat) : Int) + 1) = ((i + 1 + 1 : Nat) : Int) := wrap64 (by omega) (by omega)
      have hs : (l.take (i + 1)).foldl soon a = soon ((l.take i).foldl soon a) x := by rw [take_s hx, List.foldl_append]; rfl
      simp only [go_sem, h0, h1, h4, m4, h5, m5, h6, hx, k15]
      refine wpc_i (fun hc => ?_) (fun hc => ?_)
      · have hc := cmp_flip.1 (of_decide_eq_true hc)
        have : soon ((l.take i).foldl soon a) x = x := by simp only [soon, hc, if_true]
        simp only [go_sem, h0, h1, h4, m4, h5, m5, h6, hx]
        exact ⟨i + 1, by omega, by omega, by rw [hs, this], by rw [hinc]⟩
      · have hc : ¬ 0 < stampCmp ((l.take i).foldl soon a) x := fun hh => of_decide_eq_false hc (cmp_flip.2 hh)
        have : soon ((l.take i).foldl soon a) x = (l.take i).foldl soon a := by simp only [soon, hc, if_false]
        simp only [go_sem, h0, h1, h4, m4, h5, m5, h6, hx]
        refine ⟨i + 1, by omega, by omega, ?_, by rw [hinc]⟩
        rw [hs, this]
    · have h : i = l.length := by have := of_decide_eq_false h; omega
      subst h
      rw [List.take_length] at m5
      simp only [go_sem, h4, m4, h5, m5]

/-- the least of some stamps -/
structure IsMin (m : Stamp) (l : List Stamp) : Prop where
  mem : m ∈ l
  le : ∀ x ∈ l, stampCmp m x ≤ 0
theorem cmp_tr {a b c : Stamp} (h1 : stampCmp a b ≤ 0) (h2 : stampCmp b c ≤ 0) : stampCmp a c ≤ 0 := by
  have e1 : stampCmp a b < 0 ∨ stampCmp a b = 0 := by omega
  have e2 : stampCmp b c < 0 ∨ stampCmp b c = 0 := by omega
  have e3 : stampCmp a c < 0 ∨ stampCmp a c = 0 := by
    rw [cmp_lt, cmp_eq] at *
    omega
  omega
theorem cmp_ng {a b : Stamp} : 0 ≤ stampCmp a b ↔ stampCmp b a ≤ 0 := by
  have := cmp_flip (a := a) (b := b)
  have := cmp_flip (a := b) (b := a)
  omega
theorem cmp_rfl {a : Stamp} : stampCmp a a = 0 := by rw [cmp_eq]; simp
theorem min_uniq {m m' : Stamp} {l l' : List Stamp} (h : IsMin m l) (h' : IsMin m' l') (h1 : ∀ x ∈ l, x ∈ l') (h2 : ∀ x ∈ l', x ∈ l) : m = m' := by
  have a := h.le m' (h2 _ h'.mem)
  have b := h'.le m (h1 _ h.mem)
  have b' := cmp_ng.2 b
  exact cmp_eq'.1 (by omega)
theorem soon_le {a b : Stamp} : stampCmp (soon a b) a ≤ 0 ∧ stampCmp (soon a b) b ≤ 0 ∧ (soon a b = a ∨ soon a b = b) := by
  simp only [soon]
  split
  · rename_i h
    have := cmp_flip.2 h
    exact ⟨by omega, by rw [cmp_rfl]; omega, .inr rfl⟩
  · exact ⟨by rw [cmp_rfl]; omega, by omega, .inl rfl⟩
theorem soon_min {a b : Stamp} {l l' : List Stamp} (h : IsMin a l) (h' : IsMin b l') : IsMin (soon a b) (l ++ l') := by
  obtain ⟨h1, h2, h3⟩ := soon_le (a := a) (b := b)
  refine ⟨?_, fun x hx => ?_⟩
  · rcases h3 with e | e <;> rw [e]
    · exact List.mem_append_left _ h.mem
    · exact List.mem_append_right _ h'.mem
  · rcases List.mem_append.1 hx with hx | hx
    · exact cmp_tr h1 (h.le x hx)
    · exact cmp_tr h2 (h'.le x hx)
theorem fold_min : ∀ {l : List Stamp} {a : Stamp}, IsMin (l.foldl soon a) (a :: l)
  | [], a => ⟨by simp, fun x hx => by have : x = a := by simpa using hx
                                      subst this; simp [cmp_rfl]⟩
  | b :: l, a => by
    have h := fold_min (l := l) (a := soon a b)
    obtain ⟨h1, h2, h3⟩ := soon_le (a := a) (b := b)
    simp only [List.foldl_cons]
    refine ⟨?_, fun x hx => ?_⟩
    · rcases List.mem_cons.1 h.mem with e | e
      · rcases h3 with e3 | e3 <;> rw [e, e3] <;> simp
      · exact List.mem_cons_of_mem _ (List.mem_cons_of_mem _ e)
    · have h0 := h.le (soon a b) (List.mem_cons_self ..)
      rcases List.mem_cons.1 hx with rfl | hx
      · exact cmp_tr h0 h1
      · rcases List.mem_cons.1 hx with rfl | hx
        · exact cmp_tr h0 h2
        · exact h.le x (List.mem_cons_of_mem _ hx)
theorem fold_map {t : List Lse} {a : Stamp} : t.foldl (fun s x => soon s x.at_) a = (t.map Lse.at_).foldl soon a := by
  rw [List.foldl_map]
theorem least_min {t : List Lse} {s : Stamp} (h : leastL t = some s) : rightL t = true ∧ IsMin s (t.map Lse.at_) := by
  simp only [leastL] at h
  split at h
  · rename_i hr
    refine ⟨hr, ?_⟩
    cases t with
    | nil => simp at h
    | cons a l =>
      simp only [Option.some.injEq] at h
      rw [fold_map] at h
      have := fold_min (l := (a :: l).map Lse.at_) (a := a.at_)
      rw [h] at this
      refine ⟨?_, fun x hx => this.le x (List.mem_cons_of_mem _ hx)⟩
      rcases List.mem_cons.1 this.mem with e | e
      · rw [e]; simp
      · exact e
  · simp at h
theorem least_none {t : List Lse} (hr : rightL t = true) (h : leastL t = none) : t = [] := by
  simp only [leastL, hr, if_true] at h
  cases t with
  | nil => rfl
  | cons a l => simp at h

def markP (mark : Stamp) (lows : List Stamp) (t : List Lse) : Stamp :=
  if rightL t && (!decide (lows = []) && (stampRight mark && !(lows.any fun s => !stampRight s))) then (match lows with | [] => mark | a :: l => later mark (match leastL t with | some x => soon (l.foldl soon a) x | none => l.foldl soon a)) else mark
def H109 (Pg : Nat → Option Fn) : Prop := Pg 109 = some (.code F109) ∧ H126 Pg ∧ H28 Pg ∧ H128 Pg ∧ H129 Pg ∧ H130 Pg ∧ H113 Pg ∧ H131 Pg ∧ H21 Pg
theorem K109 (h : H109 Pg) (mark : Stamp) (lows : List Stamp) (t : List Lse) (hl : lows.length ≤ 1000) (ht : t.length ≤ 1000) : K' Pg 109 [.agg (eStamp mark), eStamps lows, eLses t] = some (.agg (eStamp (markP mark lows t))) := by
  obtain ⟨h, h126, h28, h128, h129, h130, h113, h131, h21⟩ := h
  have k126 := K126 h126 t (by omega)
  have k28 := K28 h28 mark
  have k128 := K128 h128 lows 129 (fun s => !stampRight s) (by omega) (fun x _ => K129 h129 x)
  have k113 := K113 h113 t ht
  have k131 := fun x y => K131 h131 x y
  have k21 := fun y => K21 h21 mark y
  simp only [eStamp, eStamps, eLses, eOS] at k126 k28 k128 k113 k131 k21
  refine K'_code h rfl ?_
  cases c1 : rightL t with
  | false => simp only [go_sem, k126, c1, markP]
  | true =>
  cases lows with
  | nil => simp only [go_sem, k126, c1, markP]
  | cons a l =>
    have hz : decide (((l.length + 1 : Nat) : Int) = 0) = false := decide_eq_false (by omega)
    have k130 := K130 h130 a l (by simp at hl; omega)
    simp only [eStamps, List.map_cons, eStamp] at k128 k130
    cases c3 : stampRight mark with
    | false => simp only [go_sem, k126, c1, hz, k28, c3, markP, List.cons_ne_nil]
    | true =>
    cases c4 : (a :: l).any fun s => !stampRight s with
    | true =>
      rw [c4] at k128
      have e : markP mark (a :: l) t = mark := by simp only [markP, c1, c3, c4]; simp
      rw [e]
      simp only [go_sem, k126, c1, hz, k28, c3, k128]
    | false =>
      rw [c4] at k128
      have e : markP mark (a :: l) t = later mark (match leastL t with | some x => soon (l.foldl soon a) x | none => l.foldl soon a) := by simp only [markP, c1, c3, c4]; simp
      rw [e]
      cases hL : leastL t with
      | none =>
        simp only [hL, Option.getD_none, Option.isSome_none, zeroStamp] at k113
        simp only [go_sem, k126, c1, hz, k28, c3, k128, k130, k113, k21]
      | some x =>
        simp only [hL, Option.getD_some, Option.isSome_some] at k113
        simp only [go_sem, k126, c1, hz, k28, c3, k128, k130, k113, k131, k21]

def foldS (mark : Stamp) : List Stamp → Stamp | [] => mark | a :: l => (a :: l).foldl soon a
def markR (mark : Stamp) (lows : List Stamp) (t : List Lse) : Stamp :=
  if rightL t && (!decide (lows = []) && stampRight mark) then (if (lows ++ t.map Lse.at_).any (fun x => !stampRight x || !before mark x) then mark else foldS mark (lows ++ t.map Lse.at_)) else mark
theorem mark_eq (mark : Stamp) (lows : List Stamp) (t : List Lse) : markR mark lows t = markP mark lows t := by
  cases c1 : rightL t with
  | false => simp [markR, markP, c1]
  | true =>
  cases lows with
  | nil => simp [markR, markP]
  | cons a l =>
  cases c3 : stampRight mark with
  | false => simp [markR, markP, c3]
  | true =>
    have eR : markR mark (a :: l) t = if ((a :: l) ++ t.map Lse.at_).any (fun x => !stampRight x || !before mark x) = true then mark else ((a :: l) ++ t.map Lse.at_).foldl soon a := by
      have : decide (a :: l = []) = false := by simp
      simp only [markR, c1, c3, this]
      rfl
    have eP : markP mark (a :: l) t = if ((a :: l).any fun s => !stampRight s) = true then mark else later mark (match leastL t with | some x => soon (l.foldl soon a) x | none => l.foldl soon a) := by
      have : decide (a :: l = []) = false := by simp
      simp only [markP, c1, c3, this]
      cases ((a :: l).any fun s => !stampRight s) <;> rfl
    rw [eR, eP]
    have hrl := (rightL_rl c1).1
    have hats : ∀ x ∈ t.map Lse.at_, stampRight x = true := fun x hx => by
      obtain ⟨y, hy, rfl⟩ := List.mem_map.1 hx
      have := rl_ok hrl hy
      simp only [okLse, Bool.and_eq_true] at this
      exact this.2.2.2
    cases c4 : (a :: l).any fun s => !stampRight s with
    | true =>
      have : ((a :: l) ++ t.map Lse.at_).any (fun x => !stampRight x || !before mark x) = true := by
        obtain ⟨x, hx, hr⟩ := List.any_eq_true.1 c4
        exact List.any_eq_true.2 ⟨x, List.mem_append_left _ hx, by rw [hr]; rfl⟩
      rw [if_pos this, if_pos rfl]
    | false =>
      -- the least of all
      have hmin : IsMin (match leastL t with | some x => soon (l.foldl soon a) x | none => l.foldl soon a) ((a :: l) ++ t.map Lse.at_) := by
        cases hL : leastL t with
        | none => rw [least_none c1 hL]; simpa using fold_min
        | some x => exact soon_min fold_min (least_min hL).2
      generalize (match leastL t with | some x => soon (l.foldl soon a) x | none => l.foldl soon a) = m at hmin ⊢
      have hfold : IsMin (((a :: l) ++ t.map Lse.at_).foldl soon a) ((a :: l) ++ t.map Lse.at_) := by
        have := fold_min (l := (a :: l) ++ t.map Lse.at_) (a := a)
        refine ⟨?_, fun x hx => this.le x (List.mem_cons_of_mem _ hx)⟩
        rcases List.mem_cons.1 this.mem with e | e
        · rw [e]; simp
        · exact e
      have hm := min_uniq hfold hmin (fun _ h => h) (fun _ h => h)
      have hallr : ∀ x ∈ (a :: l) ++ t.map Lse.at_, stampRight x = true := fun x hx => by
        rcases List.mem_append.1 hx with hx | hx
        · have := List.any_eq_false.1 c4 x hx; simpa using this
        · exact hats x hx
      cases hany : ((a :: l) ++ t.map Lse.at_).any (fun x => !stampRight x || !before mark x) with
      | true =>
        obtain ⟨x, hx, hr⟩ := List.any_eq_true.1 hany
        have hb : ¬ stampCmp mark x < 0 := by
          rw [hallr x hx] at hr
          simpa [before] using hr
        have h1 := hmin.le x hx
        have h2 : stampCmp x mark ≤ 0 := cmp_ng.1 (by omega)
        have h3 := cmp_tr h1 h2
        have h4 : ¬ stampCmp mark m < 0 := by have := cmp_ng.2 h3; omega
        rw [if_pos rfl, if_neg (by simp)]
        simp only [later, h4, if_false]
      | false =>
        have hb : stampCmp mark m < 0 := by
          have := List.any_eq_false.1 hany m hmin.mem
          rw [hallr m hmin.mem] at this
          simpa [before] using this
        have hl : later mark m = m := by simp only [later, hb, if_true]
        rw [if_neg (by simp), if_neg (by simp), hl, hm]
end Sg
