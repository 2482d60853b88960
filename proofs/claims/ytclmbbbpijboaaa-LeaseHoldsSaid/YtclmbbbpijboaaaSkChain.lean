import Derived.Test.YtclmbbbpijboaaaScChain
namespace Sg
open _root_.Go (IntKind BinOp UnOp)
set_option linter.unusedSimpArgs false
set_option linter.unusedVariables false
variable {Pg : Nat → Option Fn}

structure Stamp where
  wall : Int
  tick : Int
  node : Int
  deriving DecidableEq
structure Ver where
  at_ : Stamp
  gone : Bool
  val : List UInt8
  deriving DecidableEq
@[go_sem] def eStamp (s : Stamp) : List V := [iz s.wall, iz s.tick, iz s.node]
@[go_sem] def eVer (v : Ver) : List V := [iz v.at_.wall, iz v.at_.tick, iz v.at_.node, .bool v.gone, .str v.val]
def eChain (c : List Ver) : V := .slice 5 (c.map eVer)

def within (a b : Int) : Bool := decide (0 ≤ a) && decide (a ≤ b)
def cmpI (a b : Int) : Int := if a < b then -1 else if b < a then 1 else 0
def orI : List Int → Int
  | [] => 0
  | a :: l => if a = 0 then orI l else a
def stampRight (s : Stamp) : Bool := within s.wall 1099511627776 && within s.tick 1048576 && within s.node 255
def stampCmp (a b : Stamp) : Int := orI [cmpI a.wall b.wall, cmpI a.tick b.tick, cmpI a.node b.node]
def verRight (v : Ver) : Bool := stampRight v.at_ && decide (v.val.length ≤ 16) && (!v.gone || decide (v.val = []))

def H32 (Pg : Nat → Option Fn) : Prop := Pg 32 = some (.code F32)
theorem K32 (h : H32 Pg) (a b : Int) : K' Pg 32 [iz a, iz b] = some (.bool (within a b)) := by
  refine K'_code h rfl ?_
  simp only [go_sem]
  refine wrg_it (fun h => ?_) (fun h => ?_) <;> simp only [go_sem, h, within]

def H31 (Pg : Nat → Option Fn) : Prop := Pg 31 = some (.code F31)
theorem K31 (h : H31 Pg) (a : Int) : K' Pg 31 [iz a] = some (.bool false) := by
  refine K'_code h rfl ?_
  simp only [go_sem]

def H26 (Pg : Nat → Option Fn) : Prop := Pg 26 = some (.code F26) ∧ H31 Pg
theorem K26 (h : H26 Pg) (a b : Int) : K' Pg 26 [iz a, iz b] = some (iz (cmpI a b)) := by
  obtain ⟨h, h31⟩ := h
  refine K'_code h rfl ?_
  have k31 := fun x => K31 h31 x
  simp only [go_sem, k31]
  repeat' (refine wpc_i (fun h => ?_) (fun h => ?_) <;> simp only [go_sem])
  all_goals simp_all [cmpI]
  omega

def H27 (Pg : Nat → Option Fn) : Prop := Pg 27 = some (.code F27)
theorem K27 (h : H27 Pg) (l : List Int) (hl : l.length < 2 ^ 60) : K' Pg 27 [.slice 1 (l.map fun a => [iz a])] = some (iz (orI l)) := by
  refine K'_code h rfl ?_
  simp only [go_sem]
  unfold l27_0
  refine wp_lp (fun (i : Nat) S => i ≤ l.length ∧ S.ρ 3 = iz 0 ∧ S.ρ 6 = .slice 1 (l.map fun a => [iz a]) ∧ S.ρ 7 = iz l.length ∧ S.ρ 8 = iz i ∧ orI (l.drop i) = orI l) (fun i => l.length - i) 0 ?_ ?_
  · simp [go_sem]
  · intro i S ⟨hi, h3, h6, h7, h8, ho⟩
    simp only [go_sem, h3, h6, h7, h8]
    refine wpc_i (fun h => ?_) (fun h => ?_)
    · simp only [decide_eq_true_eq, Int.ofNat_lt] at h
      obtain ⟨x, hx, hd⟩ := drop_at h
      simp only [go_sem, h3, h6, h7, h8, hx]
      refine wpc_i (fun h => ?_) (fun h => ?_)
      · simp only [go_sem]
        simp only [Bool.not_eq_true', decide_eq_false_iff_not] at h
        rw [← ho, hd]; simp [orI, h]
      · simp only [go_sem, h3, h6, h7, h8]
        simp only [Bool.not_eq_false', decide_eq_true_eq] at h
        refine ⟨i + 1, by omega, by omega, ?_, by rw [← ho, hd]; simp [orI, h]⟩
        rw [wrap64 (by omega) (by omega)]; rfl
    · simp only [decide_eq_false_iff_not, Int.ofNat_lt] at h
      simp only [go_sem, h3]
      have : i = l.length := by omega
      rw [← ho, this]; simp [orI]

def H15 (Pg : Nat → Option Fn) : Prop := Pg 15 = some (.code F15) ∧ H26 Pg ∧ H27 Pg
theorem K15 (h : H15 Pg) (a b : Stamp) : K' Pg 15 [.agg (eStamp a), .agg (eStamp b)] = some (iz (stampCmp a b)) := by
  obtain ⟨h, h26, h27⟩ := h
  refine K'_code h rfl ?_
  have k26 := fun x y => K26 h26 x y
  have k27 := K27 h27 [cmpI a.wall b.wall, cmpI a.tick b.tick, cmpI a.node b.node] (by simp)
  simp only [List.map_cons, List.map_nil] at k27
  simp only [go_sem, k26, k27, stampCmp]

def H28 (Pg : Nat → Option Fn) : Prop := Pg 28 = some (.code F28) ∧ H32 Pg
theorem K28 (h : H28 Pg) (a : Stamp) : K' Pg 28 [.agg (eStamp a)] = some (.bool (stampRight a)) := by
  obtain ⟨h, h32⟩ := h
  refine K'_code h rfl ?_
  have k := fun x y => K32 h32 x y
  simp only [go_sem, k]
  repeat' (refine wrg_it (fun h => ?_) (fun h => ?_) <;> simp only [go_sem, h, k, stampRight])

def H22 (Pg : Nat → Option Fn) : Prop := Pg 22 = some (.code F22) ∧ H28 Pg
theorem K22 (h : H22 Pg) (a : Ver) : K' Pg 22 [.agg (eVer a)] = some (.bool (verRight a)) := by
  obtain ⟨h, h28⟩ := h
  refine K'_code h rfl ?_
  have k := K28 h28 a.at_
  simp only [eStamp] at k
  simp only [go_sem, k]
  repeat' (first | refine wrg_it (fun h => ?_) (fun h => ?_) <;> simp only [go_sem, h, k] | refine wrg_if (fun h => ?_) (fun h => ?_) <;> simp only [go_sem, h, k])
  all_goals simp_all [verRight]
  all_goals omega
/-- a chain's versions, one behind the other -/
def chR : Option Ver → List Ver → Bool
  | _, [] => true
  | p, v :: l => verRight v && (match p with | none => true | some q => decide (stampCmp q.at_ v.at_ < 0)) && chR (some v) l
def chainRight (c : List Ver) : Bool := chR none c && decide (c.length ≤ 64)
def prevAt (c : List Ver) (i : Nat) : Option Ver := if i = 0 then none else c[i - 1]?

def H7 (Pg : Nat → Option Fn) : Prop := Pg 7 = some (.code F7) ∧ H22 Pg ∧ H15 Pg
theorem K7 (h : H7 Pg) (l : List Ver) (hl : l.length < 2 ^ 60) : K' Pg 7 [eChain l] = some (.bool (chainRight l)) := by
  obtain ⟨h, h22, h15⟩ := h
  refine K'_code h rfl ?_
  have k22 := fun x => K22 h22 x
  have k15 := fun x y => K15 h15 x y
  simp only [go_sem, eChain]
  unfold l7_0
  refine wp_lp (fun (i : Nat) S => i ≤ l.length ∧ S.ρ 0 = eChain l ∧ S.ρ 5 = eChain l ∧ S.ρ 6 = iz l.length ∧ S.ρ 7 = iz i ∧ S.μ 4 = none ∧ chR (prevAt l i) (l.drop i) = chR none l) (fun i => l.length - i) 0 ?_ ?_
  · simp [go_sem, eChain, prevAt]
  · intro i S ⟨hi, h0, h5, h6, h7, hm, ho⟩
    simp only [go_sem, h5, h6, h7, h0]
    refine wpc_i (fun h => ?_) (fun h => ?_)
    · simp only [decide_eq_true_eq, Int.ofNat_lt] at h
      obtain ⟨x, hx, hd⟩ := drop_at h
      simp only [eStamp, eVer] at k22 k15
      have hstep : (verRight x = true → chR (prevAt l i) (x :: l.drop (i + 1)) = ((match prevAt l i with | none => true | some q => decide (stampCmp q.at_ x.at_ < 0)) && chR (some x) (l.drop (i + 1)))) := fun h => by simp [chR, h]
      have hnext : prevAt l (i + 1) = some x := by simp [prevAt, hx]
      have hinc : IntKind.i64.wrap ((i : Int) + 1) = ((i + 1 : Nat) : Int) := wrap64 (by omega) (by omega)
      have hbad : verRight x = false → chR none l = false := fun h => by rw [← ho, hd]; simp [chR, h]
      cases hv : verRight x with
      | false => simp only [go_sem, h0, h5, h6, h7, hx, eChain, hm, k22, hv, Bool.not_false, chainRight, hbad hv]
      | true =>
        rcases Nat.eq_zero_or_pos i with hz | hz
        · have hgt : decide ((0 : Int) < (i : Int)) = false := by simp [hz]
          simp only [go_sem, h0, h5, h6, h7, hx, eChain, hm, k22, hv, Bool.not_true, hgt]
          refine ⟨i + 1, by omega, by omega, by rw [hinc], ?_⟩
          rw [hnext, ← ho, hd, hstep hv]; simp [prevAt, hz]
        · have hgt : decide ((0 : Int) < (i : Int)) = true := by simp [hz]
          have hdec : IntKind.i64.wrap ((i : Int) - 1) = ((i - 1 : Nat) : Int) := by rw [wrap64 (by omega) (by omega)]; omega
          have hy : l[i - 1]? = some l[i - 1] := by simp
          have hp : prevAt l i = some l[i - 1] := by simp [prevAt, Nat.ne_of_gt hz]
          simp only [go_sem, h0, h5, h6, h7, hx, eChain, hm, k22, hv, Bool.not_true, hgt, hdec, hy, k15]
          refine wpc_i (fun hc => ?_) (fun hc => ?_)
          · simp only [go_sem]
            have : ¬ stampCmp l[i - 1].at_ x.at_ < 0 := by simpa using hc
            have : chR none l = false := by rw [← ho, hd, hstep hv, hp]; simp [this]
            simp [chainRight, this]
          · simp only [go_sem, h0, h5, h6, h7, hm, eChain]
            have : stampCmp l[i - 1].at_ x.at_ < 0 := by simpa using hc
            refine ⟨i + 1, by omega, by omega, by rw [hinc], ?_⟩
            rw [hnext, ← ho, hd, hstep hv, hp]; simp [this]
    · simp only [decide_eq_false_iff_not, Int.ofNat_lt] at h
      simp only [go_sem, h0, eChain]
      have : i = l.length := by omega
      subst this
      simp [chR] at ho
      have : (decide ((l.length : Int) ≤ 64)) = decide (l.length ≤ 64) := decide_eq_decide.2 (by omega)
      simp [chainRight, ← ho, this]
def H30 (Pg : Nat → Option Fn) : Prop := Pg 30 = some (.code F30) ∧ H15 Pg
theorem K30 (h : H30 Pg) (v : Ver) (s : Stamp) : K' Pg 30 [.agg (eVer v), .agg (eStamp s)] = some (iz (stampCmp v.at_ s)) := by
  obtain ⟨h, h15⟩ := h
  refine K'_code h rfl ?_
  have k15 := fun x y => K15 h15 x y
  simp only [eStamp] at k15
  simp only [go_sem, k15]

def H29 (Pg : Nat → Option Fn) : Prop := Pg 29 = some (.code F29)
theorem K29 (h : H29 Pg) (l : List Ver) (s : Stamp) (g : Nat) (f : Nat → Int) (n : Nat) (hl : l.length < 2 ^ 60)
    (hg : ∀ i v, l[i]? = some v → K' Pg g [.agg (eVer v), .agg (eStamp s)] = some (iz (f i))) (hn : n ≤ l.length) (h1 : ∀ j, j < n → f j < 0) (h2 : ∀ j, n ≤ j → j < l.length → 0 ≤ f j) :
    K' Pg 29 [eChain l, .agg (eStamp s), .func g []] = some (.tuple [iz n, .bool (decide (n < l.length) && decide (f n = 0))]) := by
  refine K'_code h rfl ?_
  simp only [eStamp, eVer] at hg
  simp only [go_sem, eChain]
  unfold l29_0
  refine wp_lp (fun (p : Nat × Nat) S => p.1 ≤ n ∧ n ≤ p.2 ∧ p.2 ≤ l.length ∧ S.ρ 0 = eChain l ∧ S.ρ 2 = .func g [] ∧ S.ρ 4 = .lref 4 0 ∧ S.μ 4 = some (eStamp s, false) ∧ S.ρ 8 = iz l.length ∧ S.ρ 9 = iz p.1 ∧ S.ρ 10 = iz p.2) (fun p => p.2 - p.1) (0, l.length) ?_ ?_
  · simp [go_sem, eChain, hn]
  · intro ⟨i, j⟩ S ⟨hi, hj, hjl, h0, h2', h4, hm, h8, h9, h10⟩
    simp only at hi hj hjl h9 h10
    simp only [go_sem, h0, h2', h4, hm, h8, h9, h10]
    refine wpc_i (fun h => ?_) (fun h => ?_)
    · simp only [decide_eq_true_eq, Int.ofNat_lt] at h
      have e1 : IntKind.i64.wrap ((i : Int) + j) = (i : Int) + j := wrap64 (by omega) (by omega)
      have e2 : IntKind.u64.wrap ((i : Int) + j) = (i : Int) + j := _root_.Go.IntWalk.u64_in _ ⟨by omega, by omega⟩
      have e3 : Int.fdiv ((i : Int) + j) 2 = (((i + j) / 2 : Nat) : Int) := by
        rw [Int.fdiv_eq_ediv_of_nonneg _ (by omega)]; omega
      have e4 : IntKind.i64.wrap ((((i + j) / 2 : Nat) : Int)) = (((i + j) / 2 : Nat) : Int) := wrap64 (by omega) (by omega)
      have e5 : IntKind.i64.wrap ((((i + j) / 2 : Nat) : Int) + 1) = (((i + j) / 2 + 1 : Nat) : Int) := wrap64 (by omega) (by omega)
      obtain ⟨x, hx, hd⟩ := drop_at (l := l) (i := (i + j) / 2) (by omega)
      have hgx := hg _ _ hx
      simp only [go_sem, h0, h2', h4, hm, h8, h9, h10, e1, e2, e3, e4, hx, hgx, eChain]
      refine wpc_i (fun hc => ?_) (fun hc => ?_)
      · simp only [go_sem, h0, h2', h4, hm, h8, h9, h10, e5, eChain]
        have hf : f ((i + j) / 2) < 0 := by simpa using hc
        refine ⟨((i + j) / 2 + 1, j), by simp only; omega, ?_, hj, hjl, rfl, rfl⟩
        simp only
        rcases Nat.lt_or_ge ((i + j) / 2) n with h' | h'
        · exact h'
        · have := h2 _ h' (by omega); omega
      · simp only [go_sem, h0, h2', h4, hm, h8, h9, h10, eChain]
        have hf : ¬ f ((i + j) / 2) < 0 := by simpa using hc
        refine ⟨(i, (i + j) / 2), by simp only; omega, hi, ?_, by simp only; omega, rfl, rfl⟩
        simp only
        rcases Nat.lt_or_ge ((i + j) / 2) n with h' | h'
        · exact absurd (h1 _ h') hf
        · exact h'
    · simp only [decide_eq_false_iff_not, Int.ofNat_lt] at h
      have : i = n := by omega
      subst this
      simp only [go_sem, h0, h2', h4, hm, h8, h9, eChain]
      refine wrg_it (fun hc => ?_) (fun hc => ?_)
      · simp only [decide_eq_true_eq, Int.ofNat_lt] at hc
        obtain ⟨x, hx, hd⟩ := drop_at hc
        have hgx := hg _ _ hx
        simp only [go_sem, h0, h2', h4, hm, h8, h9, h10, hx, hgx, eChain, hc, decide_true, Int.ofNat_lt]
      · simp only [decide_eq_false_iff_not, Int.ofNat_lt] at hc
        simp only [go_sem, h0, h2', h4, hm, h8, h9, h10, eChain, hc, decide_false, Int.ofNat_lt]
/-! the order of stamps -/
theorem cmp_lt {a b : Stamp} : stampCmp a b < 0 ↔ a.wall < b.wall ∨ (a.wall = b.wall ∧ (a.tick < b.tick ∨ (a.tick = b.tick ∧ a.node < b.node))) := by
  simp only [stampCmp, orI, cmpI]
  repeat' split
  all_goals omega
theorem cmp_eq {a b : Stamp} : stampCmp a b = 0 ↔ a.wall = b.wall ∧ a.tick = b.tick ∧ a.node = b.node := by
  simp only [stampCmp, orI, cmpI]
  repeat' split
  all_goals omega
theorem cmp_gt {a b : Stamp} : 0 < stampCmp a b ↔ b.wall < a.wall ∨ (b.wall = a.wall ∧ (b.tick < a.tick ∨ (b.tick = a.tick ∧ b.node < a.node))) := by
  simp only [stampCmp, orI, cmpI]
  repeat' split
  all_goals omega
theorem cmp_eq' {a b : Stamp} : stampCmp a b = 0 ↔ a = b := by
  rw [cmp_eq]; cases a; cases b; simp

/-- how many versions are not later -/
def upC (s : Stamp) : List Ver → Nat
  | [] => 0
  | v :: l => if stampCmp v.at_ s ≤ 0 then upC s l + 1 else 0

theorem chR_tail {p : Option Ver} {v : Ver} {l : List Ver} (h : chR p (v :: l) = true) : chR (some v) l = true := by
  simp only [chR, Bool.and_eq_true] at h; exact h.2

theorem chR_lt {p v : Ver} {l : List Ver} (h : chR (some p) l = true) (hv : v ∈ l) : stampCmp p.at_ v.at_ < 0 := by
  induction l generalizing p with
  | nil => simp at hv
  | cons w l ih =>
    simp only [chR, Bool.and_eq_true, decide_eq_true_eq] at h
    rcases List.mem_cons.1 hv with rfl | hv
    · exact h.1.2
    · have h2 := ih h.2 hv
      have h1 := h.1.2
      rw [cmp_lt] at h1 h2 ⊢
      omega

theorem upC_le (s : Stamp) (c : List Ver) : upC s c ≤ c.length := by
  induction c with
  | nil => simp [upC]
  | cons v l ih => simp only [upC]; split <;> simp <;> omega

theorem upC_lt {s : Stamp} : ∀ {c : List Ver} {j : Nat} {v : Ver}, j < upC s c → c[j]? = some v → stampCmp v.at_ s ≤ 0
  | [], j, v, h, _ => by simp [upC] at h
  | w :: l, j, v, h, hv => by
    simp only [upC] at h
    split at h
    · cases j with
      | zero => simp at hv; subst hv; assumption
      | succ j => exact upC_lt (c := l) (j := j) (by omega) (by simpa using hv)
    · omega

theorem upC_ge {s : Stamp} : ∀ {c : List Ver} {p : Option Ver} {j : Nat} {v : Ver}, chR p c = true → upC s c ≤ j → c[j]? = some v → 0 < stampCmp v.at_ s
  | [], p, j, v, _, _, hv => by simp at hv
  | w :: l, p, j, v, hc, h, hv => by
    have ht := chR_tail hc
    simp only [upC] at h
    split at h
    · cases j with
      | zero => omega
      | succ j => exact upC_ge (c := l) (j := j) ht (by omega) (by simpa using hv)
    · rename_i hw
      cases j with
      | zero => simp at hv; subst hv; omega
      | succ j =>
        have : v ∈ l := List.mem_of_getElem? (by simpa using hv)
        have h1 := chR_lt ht this
        have h2 : 0 < stampCmp w.at_ s := by omega
        rw [cmp_gt] at h2 ⊢
        rw [cmp_lt] at h1
        omega

theorem chR_get : ∀ {c : List Ver} {p : Option Ver} {i j : Nat} {v w : Ver}, chR p c = true → i < j → c[i]? = some v → c[j]? = some w → stampCmp v.at_ w.at_ < 0
  | [], _, i, j, v, w, _, _, hv, _ => by simp at hv
  | x :: l, p, i, j, v, w, hc, hij, hv, hw => by
    cases j with
    | zero => omega
    | succ j =>
      cases i with
      | zero =>
        simp at hv hw; subst hv
        exact chR_lt (chR_tail hc) (List.mem_of_getElem? hw)
      | succ i => exact chR_get (c := l) (i := i) (j := j) (chR_tail hc) (by omega) (by simpa using hv) (by simpa using hw)

def H25 (Pg : Nat → Option Fn) : Prop := Pg 25 = some (.code F25) ∧ H29 Pg ∧ H30 Pg
theorem K25 (h : H25 Pg) (l : List Ver) (s : Stamp) (hl : l.length < 2 ^ 60) (hr : chR none l = true) : K' Pg 25 [eChain l, .agg (eStamp s)] = some (iz (upC s l)) := by
  obtain ⟨h, h29, h30⟩ := h
  refine K'_code h rfl ?_
  let f : Nat → Int := fun j => match l[j]? with | some v => stampCmp v.at_ s | none => 0
  have hf : ∀ j v, l[j]? = some v → f j = stampCmp v.at_ s := fun j v hv => by simp [f, hv]
  let n := if upC s l ≠ 0 ∧ f (upC s l - 1) = 0 then upC s l - 1 else upC s l
  have hle := upC_le s l
  have hn : n ≤ l.length := by simp only [n]; split <;> omega
  have get : ∀ j, j < l.length → ∃ v, l[j]? = some v := fun j hj => ⟨l[j], by simp [hj]⟩
  have h1 : ∀ j, j < n → f j < 0 := fun j hj => by
    obtain ⟨v, hv⟩ := get j (by omega)
    rw [hf j v hv]
    by_cases hc : upC s l ≠ 0 ∧ f (upC s l - 1) = 0
    · have : n = upC s l - 1 := if_pos hc
      obtain ⟨w, hw⟩ := get (upC s l - 1) (by omega)
      have h3 := hc.2
      rw [hf _ _ hw, cmp_eq] at h3
      have h4 := chR_get (p := none) hr (by omega : j < upC s l - 1) hv hw
      rw [cmp_lt] at h4 ⊢
      omega
    · have hn' : n = upC s l := if_neg hc
      have h3 := upC_lt (s := s) (by omega : j < upC s l) hv
      rcases Nat.lt_or_ge j (upC s l - 1) with h5 | h5
      · obtain ⟨w, hw⟩ := get (upC s l - 1) (by omega)
        have h4 := chR_get (p := none) hr h5 hv hw
        have h6 := upC_lt (s := s) (by omega : upC s l - 1 < upC s l) hw
        have h7 : stampCmp w.at_ s < 0 ∨ stampCmp w.at_ s = 0 := by omega
        rw [cmp_lt, cmp_eq] at h7
        rw [cmp_lt] at h4 ⊢
        omega
      · have : j = upC s l - 1 := by omega
        subst this
        have : stampCmp v.at_ s ≠ 0 := fun e => hc ⟨by omega, by rw [hf _ _ hv]; exact e⟩
        omega
  have h2 : ∀ j, n ≤ j → j < l.length → 0 ≤ f j := fun j hj hjl => by
    obtain ⟨v, hv⟩ := get j hjl
    rw [hf j v hv]
    rcases Nat.lt_or_ge j (upC s l) with h3 | h3
    · have hc : upC s l ≠ 0 ∧ f (upC s l - 1) = 0 := by
        by_cases hc : upC s l ≠ 0 ∧ f (upC s l - 1) = 0
        · exact hc
        · have : n = upC s l := if_neg hc
          omega
      have : n = upC s l - 1 := if_pos hc
      have : j = upC s l - 1 := by omega
      subst this
      have := hc.2
      rw [hf _ _ hv] at this
      omega
    · have := upC_ge hr h3 hv; omega
  have k29 := K29 h29 l s 30 f n hl (fun i v hv => by rw [hf i v hv]; exact K30 h30 v s) hn h1 h2
  simp only [eStamp, eChain] at k29
  simp only [go_sem, eChain, k29]
  have hfin : (decide (n < l.length) && decide (f n = 0)) = decide (upC s l ≠ 0 ∧ f (upC s l - 1) = 0) := by
    by_cases hc : upC s l ≠ 0 ∧ f (upC s l - 1) = 0
    · have : n = upC s l - 1 := if_pos hc
      have h5 : upC s l - 1 < l.length := by have := hc.1; omega
      rw [decide_eq_true hc, this, decide_eq_true h5, decide_eq_true hc.2]; rfl
    · have hn' : n = upC s l := if_neg hc
      simp only [hc, decide_false, Bool.and_eq_false_iff, decide_eq_false_iff_not]
      rcases Nat.lt_or_ge (upC s l) l.length with h5 | h5
      · obtain ⟨w, hw⟩ := get _ h5
        have := upC_ge hr (Nat.le_refl _) hw
        rw [hn', hf _ _ hw]
        exact .inr (by omega)
      · exact .inl (by omega)
  rw [hfin]
  refine wpc_i (fun hc => ?_) (fun hc => ?_)
  · have hc := of_decide_eq_true hc
    have hn' : n = upC s l - 1 := if_pos hc
    simp only [go_sem]
    rw [wrap64 (by omega) (by omega), hn']
    have : ((upC s l - 1 : Nat) : Int) + 1 = (upC s l : Int) := by omega
    rw [this]
  · have hc := of_decide_eq_false hc
    have hn' : n = upC s l := if_neg hc
    simp only [go_sem, hn']

def zeroVer : Ver := ⟨⟨0, 0, 0⟩, false, []⟩
/-- the version at a moment -/
def atC (s : Stamp) (c : List Ver) : Option Ver := if chainRight c then (if upC s c = 0 then none else c[upC s c - 1]?) else none
def eOV (o : Option Ver) : V := .tuple [.agg (eVer (o.getD zeroVer)), .bool o.isSome]

theorem right_chR {c : List Ver} (h : chainRight c = true) : chR none c = true ∧ c.length ≤ 64 := by
  simpa [chainRight] using h

def H10 (Pg : Nat → Option Fn) : Prop := Pg 10 = some (.code F10) ∧ H7 Pg ∧ H25 Pg
theorem K10 (h : H10 Pg) (l : List Ver) (s : Stamp) (hl : l.length < 2 ^ 60) : K' Pg 10 [eChain l, .agg (eStamp s)] = some (eOV (atC s l)) := by
  obtain ⟨h, h7, h25⟩ := h
  refine K'_code h rfl ?_
  have k7 := K7 h7 l hl
  simp only [eChain, eStamp] at k7
  cases hr : chainRight l with
  | false => simp only [go_sem, eChain, k7, hr, Bool.not_false, eOV, atC, zeroVer, Option.isSome_none, Bool.false_eq_true]
  | true =>
    have k25 := K25 h25 l s hl (right_chR hr).1
    simp only [eChain, eStamp] at k25
    simp only [go_sem, eChain, k7, hr, Bool.not_true, k25]
    refine wpc_i (fun hc => ?_) (fun hc => ?_)
    · have hc : upC s l = 0 := by simpa using hc
      simp only [go_sem, eOV, atC, hr, hc, zeroVer, Option.isSome_none]
    · have hc : upC s l ≠ 0 := by simpa using hc
      have hle := upC_le s l
      obtain ⟨x, hx, -⟩ := drop_at (l := l) (i := upC s l - 1) (by omega)
      have hdec : IntKind.i64.wrap ((upC s l : Int) - 1) = ((upC s l - 1 : Nat) : Int) := by rw [wrap64 (by omega) (by omega)]; omega
      simp only [go_sem, eOV, atC, hr, hc, zeroVer, Option.isSome_some, hdec, hx]

def valC (s : Stamp) (c : List Ver) : Option (List UInt8) := match atC s c with | some v => if v.gone then none else some v.val | none => none

def H12 (Pg : Nat → Option Fn) : Prop := Pg 12 = some (.code F12) ∧ H10 Pg
theorem K12 (h : H12 Pg) (l : List Ver) (s : Stamp) (hl : l.length < 2 ^ 60) : K' Pg 12 [eChain l, .agg (eStamp s)] = some (.tuple [.str (match atC s l with | some v => v.val | none => []), .bool (match atC s l with | some v => !v.gone | none => false)]) := by
  obtain ⟨h, h10⟩ := h
  refine K'_code h rfl ?_
  have k10 := K10 h10 l s hl
  simp only [eChain, eStamp, eOV, eVer] at k10
  cases hr : atC s l with
  | none => simp only [hr, zeroVer, Option.getD_none, Option.isSome_none] at k10; simp only [go_sem, eChain, k10]
  | some v => simp only [hr, zeroVer, Option.getD_some, Option.isSome_some] at k10; simp only [go_sem, eChain, k10]

def H23 (Pg : Nat → Option Fn) : Prop := Pg 23 = some (.prim (some 0) (cloneQ 5))
theorem K23 (h : H23 Pg) (rows : List (List V)) (hl : rows.length ≤ lim) : K' Pg 23 [.slice 5 rows] = some (.slice 5 rows) := by
  rw [K'_prim h]; simp [cloneQ, hl]

/-- a version more: the chain, the error's number -/
def addC (c : List Ver) (v : Ver) : List Ver × Int :=
  if !chainRight c || !verRight v then ([], 1)
  else if (match c.getLast? with | some w => decide (0 ≤ stampCmp w.at_ v.at_) | none => false) then ([], 9)
  else if c.length = 64 then ([], 6) else (c ++ [v], 0)

def H3 (Pg : Nat → Option Fn) : Prop := Pg 3 = some (.code F3) ∧ H7 Pg ∧ H22 Pg ∧ H15 Pg ∧ H23 Pg
theorem K3 (h : H3 Pg) (l : List Ver) (v : Ver) (hl : l.length < 2 ^ 60) : K' Pg 3 [eChain l, .agg (eVer v)] = some (.tuple [eChain (addC l v).1, iz (addC l v).2]) := by
  obtain ⟨h, h7, h22, h15, h23⟩ := h
  refine K'_code h rfl ?_
  have k7 := K7 h7 l hl
  have k22 := K22 h22 v
  have k15 := fun x y => K15 h15 x y
  simp only [eChain, eStamp, eVer] at k7 k22 k15
  cases hr : chainRight l with
  | false => simp only [go_sem, eChain, k7, hr, Bool.not_false, addC]
  | true =>
    cases hv : verRight v with
    | false => simp only [go_sem, eChain, k7, hr, Bool.not_false, Bool.not_true, addC, k22, hv]
    | true =>
      have hlen := (right_chR hr).2
      have k23 := K23 h23 (l.map eVer) (by simp [lim]; omega)
      have fin : Wp (K' Pg) c3 (start [eChain l, .agg (eVer v)]) (fun ex S => (ex = .norm ∨ ex = .ret) ∧ finish F3 S = some (.tuple [eChain (addC l v).1, iz (addC l v).2])) := by
        have hap : (l.map eVer).length + 1 ≤ lim := by simp [lim]; omega
        rcases Nat.eq_zero_or_pos l.length with hz | hz
        · have hgt : decide ((0 : Int) < (l.length : Int)) = false := by simp [hz]
          have h64 : decide ((l.length : Int) = 64) = false := by simp [hz]
          have hl0 : l = [] := List.eq_nil_of_length_eq_zero hz
          have hadd : addC l v = (l ++ [v], 0) := by simp only [addC, hr, hv]; simp [hl0]
          simp only [List.length_map] at hap
          simp only [go_sem, eChain, k7, hr, Bool.not_true, k22, hv, hgt, h64, k23, hadd, List.map_append, hap]
        · have hgt : decide ((0 : Int) < (l.length : Int)) = true := by simp [hz]
          obtain ⟨x, hx, -⟩ := drop_at (l := l) (i := l.length - 1) (by omega)
          have hdec : IntKind.i64.wrap ((l.length : Int) - 1) = ((l.length - 1 : Nat) : Int) := by rw [wrap64 (by omega) (by omega)]; omega
          have hlast : l.getLast? = some x := by rw [List.getLast?_eq_getElem?]; exact hx
          simp only [List.length_map] at hap
          simp only [go_sem, eChain, k7, hr, Bool.not_true, k22, hv, hgt, hdec, hx, k15]
          refine wpc_i (fun hc => ?_) (fun hc => ?_)
          · simp only [go_sem, addC, hr, hv, hlast, Bool.not_true, hc]
          · simp only [go_sem, eChain]
            refine wpc_i (fun h64 => ?_) (fun h64 => ?_)
            · have h64' : l.length = 64 := by have := of_decide_eq_true h64; omega
              simp only [go_sem, addC, hr, hv, hlast, Bool.not_true, hc, h64']
            · have h64' : ¬ l.length = 64 := by have := of_decide_eq_false h64; omega
              have hadd : addC l v = (l ++ [v], 0) := by simp [addC, hr, hv, hlast, h64', hc]
              simp only [go_sem, eChain, k23, hadd, List.map_append, hap]
      exact fin
end Sg
