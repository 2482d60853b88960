/- StoreNews, at every input: proved over a checked abstract run of the translated code; no condition. A part. -/
import Derived.KernelRfl
import Derived.Test.YtofkbkonceifeaaGreatDoorCards
import Derived.Test.YtofkbkonceifeaaGreatDoorTie
import Derived.ProofKit
import Derived.OpenShut
import Derived.Lib.LaidIn
import Derived.Lib.LaidTab
import Derived.Deep.DeepHandedRow
import Derived.Deep.DeepWitnessRowRef
import Derived.Test.YtofkbkonceifeaaGreatDoorRows
import Derived.Test.YtofkbkonceifeaaGreatDoorStoreNewsA5
import Derived.Test.YtofkbkonceifeaaGreatDoorStoreNewsJ
namespace Sg
set_option linter.unusedSimpArgs false
set_option linter.unusedVariables false
theorem chR_all : ∀ {l : List Ver} {p : Option Ver}, chR p l = true → ∀ v ∈ l, verRight v = true
  | [], _, _, v, hv => by simp at hv
  | a :: l, p, h, v, hv => by
    simp only [chR, Bool.and_eq_true] at h
    rcases List.mem_cons.1 hv with rfl | hv
    · exact h.1.1
    · exact chR_all h.2 v hv
theorem ixG_all : ∀ {l : List Entr} {p : Option Entr}, ixG p l = true → ∀ v ∈ l, entR v = true
  | [], _, _, v, hv => by simp at hv
  | a :: l, p, h, v, hv => by
    simp only [ixG, Bool.and_eq_true] at h
    rcases List.mem_cons.1 hv with rfl | hv
    · exact h.1
    · exact ixG_all h.2.2 v hv
theorem rtR_all' : ∀ {l : List Done} {p : Int}, rtR p l = true → ∀ v ∈ l, rowR v = true
  | [], _, _, v, hv => by simp at hv
  | a :: l, p, h, v, hv => by
    simp only [rtR, Bool.and_eq_true] at h
    rcases List.mem_cons.1 hv with rfl | hv
    · exact h.2.1
    · exact rtR_all' h.2.2 v hv
theorem ver_ok {v : Ver} (h : verRight v = true) : VerV v := by
  simp only [verRight, Bool.and_eq_true, decide_eq_true_eq] at h
  exact ⟨⟨h.1.1, trivial, by omega⟩, trivial⟩
theorem ent_ok {e : Entr} (h : entR e = true) : EntV e := by
  simp only [entR, chainRight, Bool.and_eq_true, decide_eq_true_eq] at h
  obtain ⟨h1, h2, h3, h4⟩ := h
  exact ⟨by have := (keyR_len h1).1; omega, by omega, fun v hv => ver_ok (chR_all h3 v hv)⟩
theorem toNat_cast {n : Int} (h : 0 ≤ n) : ((n.toNat : Nat) : Int) = n := by omega
theorem row_ok {d : Done} (h : rowR d = true) : DoneV d := by
  simp only [rowR, numD, plainA, Bool.and_eq_true, decide_eq_true_eq, Bool.not_eq_true'] at h
  obtain ⟨⟨a1, a2⟩, ⟨b1, b2⟩, c1, c2, c3, c4, c5, c6, c7⟩ := h
  refine ⟨⟨by omega, by omega, by omega, c3, trivial, by omega⟩, ?_⟩
  obtain ⟨cl, rq, ⟨er, at_, fo, va, it, nx, mo⟩⟩ := d
  simp only at a1 b1 c1 c5 c6 c7
  subst c5; subst c6; subst c7
  simp only [mkD, unD, toNat_cast (show (0 : Int) ≤ cl by omega), toNat_cast (show (0 : Int) ≤ rq by omega), toNat_cast c1]
theorem shd_ok {s : Shd} (h : shR s = true) : ShV s := by
  simp only [shR, shR0, numD, nou, spanR, ixR, rightT, Bool.and_eq_true, Bool.or_eq_true, decide_eq_true_eq, List.all_eq_true] at h
  obtain ⟨⟨⟨a1, a2⟩, ⟨b1, b2⟩, ⟨c1, c2⟩, ⟨d1, d2⟩, ⟨e1, e2⟩, ⟨f1, f2⟩, g1, g2, ⟨i1, i2⟩, ⟨j1, j2⟩, k1, k2, l1, l2⟩, -⟩ := h
  refine ⟨⟨by omega, by omega, by omega, by omega, by omega, by omega, by omega, ?_, ?_, k1, k2, ⟨by omega, fun e he => ent_ok (ixG_all j2 e he)⟩, ⟨by omega, fun d hd => row_ok (rtR_all' l1 d hd)⟩⟩, ?_⟩
  · rcases i1 with i1 | i1
    · rw [i1]; simp
    · have := (keyR_len i1).1; omega
  · rcases i2 with i2 | i2
    · rw [i2]; simp
    · have := (keyR_len i2.1).1; omega
  · obtain ⟨id, ep, ⟨lo, hi⟩, ph, en, mk, tp, dn, ho, se, mv, cl⟩ := s
    simp only at a1 b1 c1 d1 e1 f1 g1
    simp only [mkS, unS, toNat_cast (show (0 : Int) ≤ id by omega), toNat_cast (show (0 : Int) ≤ ep by omega), toNat_cast c1, toNat_cast d1, toNat_cast e1, toNat_cast f1, toNat_cast (show (0 : Int) ≤ ph by omega)]
end Sg
namespace Sg
open _root_.Go (IntKind BinOp UnOp)
set_option linter.unusedSimpArgs false
set_option linter.unusedVariables false
set_option maxRecDepth 10000
variable {Pg : Nat → Option Fn}
end Sg
namespace Sg
open _root_.Go (IntKind BinOp UnOp)
set_option linter.unusedSimpArgs false
set_option linter.unusedVariables false
set_option maxRecDepth 10000
variable {Pg : Nat → Option Fn}
structure Place where
  span : Span
  shard : Int
  cell : Int
  epoch : Int
  deriving DecidableEq
@[go_sem] def ePl (p : Place) : List V := [.str p.span.lo, .str p.span.hi, iz p.shard, iz p.cell, iz p.epoch]
@[go_sem] def ePls (l : List Place) : V := .slice 5 (l.map ePl)
def zeroPl : Place := ⟨⟨[], []⟩, 0, 0, 0⟩
@[go_sem] def eOP (o : Option Place) : V := .tuple [.agg (ePl (o.getD zeroPl)), .bool o.isSome]
end Sg
namespace Sg
open _root_.Go (IntKind BinOp UnOp)
set_option linter.unusedSimpArgs false
set_option linter.unusedVariables false
set_option maxRecDepth 10000
variable {Pg : Nat → Option Fn}
structure Lse where
  id : Int
  lft : Int
  at_ : Stamp
  deriving DecidableEq
@[go_sem] def eLse (l : Lse) : List V := [iz l.id, iz l.lft, iz l.at_.wall, iz l.at_.tick, iz l.at_.node]
@[go_sem] def eLses (l : List Lse) : V := .slice 5 (l.map eLse)
def zeroLse : Lse := ⟨0, 0, ⟨0, 0, 0⟩⟩
@[go_sem] def eOL (o : Option Lse) : V := .tuple [.agg (eLse (o.getD zeroLse)), .bool o.isSome]
end Sg
namespace Sg
open _root_.Go (IntKind BinOp UnOp)
set_option linter.unusedSimpArgs false
set_option linter.unusedVariables false
set_option maxRecDepth 10000
variable {Pg : Nat → Option Fn}
@[go_sem] def eLE (x : List Lse × Int) : V := .tuple [eLses x.1, iz x.2]
def oneL (id : Int) (at_ : Stamp) : Lse := ⟨id, 20, at_⟩
def opened (t : List Lse) (id : Int) (at_ : Stamp) : List Lse := (t.filter fun x => decide (x.id < id)) ++ oneL id at_ :: t.filter fun x => decide (id < x.id)
def closed (t : List Lse) (id : Int) : List Lse := t.filter fun x => !decide (x.id = id)
def zeroStamp : Stamp := ⟨0, 0, 0⟩
@[go_sem] def eOS (o : Option Stamp) : V := .tuple [.agg (eStamp (o.getD zeroStamp)), .bool o.isSome]
end Sg
namespace Sg
open _root_.Go (IntKind BinOp UnOp)
set_option linter.unusedSimpArgs false
set_option linter.unusedVariables false
set_option maxRecDepth 10000
variable {Pg : Nat → Option Fn}
@[go_sem] def eStamps (l : List Stamp) : V := .slice 3 (l.map eStamp)
structure IsMin (m : Stamp) (l : List Stamp) : Prop where
  mem : m ∈ l
  le : ∀ x ∈ l, stampCmp m x ≤ 0
end Sg
namespace Sg
set_option maxRecDepth 100000
set_option linter.unusedVariables false
variable {Pg : Nat → Option Fn}
theorem callN_tab {T : Nat → Option Fn} (h : ∀ f x, T f = some x → Pg f = some x) : ∀ n, Le (callN T n) (callN Pg n)
  | 0 => fun f a r h => by simp [callN] at h
  | n + 1 => fun f a r hr => by
    rw [callN] at hr ⊢
    split at hr
    · simp at hr
    · rename_i o p hT
      rw [h _ _ hT]
      exact hr
    · rename_i F k hT
      rw [h _ _ hT]
      simp only
      split at hr <;> try (simp at hr; done)
      rename_i hl
      rw [if_pos hl]
      split at hr <;> try (simp at hr; done)
      simp only [Option.bind_eq_some_iff] at hr ⊢
      obtain ⟨x, h0, y, h1, h2⟩ := hr
      exact ⟨x, h0, y, exec_mono (callN_tab h n) (Nat.le_refl n) h1, h2⟩
    · rename_i F hT
      rw [h _ _ hT]
      simp only
      split at hr <;> try (simp at hr; done)
      rename_i hl
      rw [if_pos hl]
      simp only [Option.bind_eq_some_iff] at hr ⊢
      obtain ⟨x, h1, h2⟩ := hr
      exact ⟨x, exec_mono (callN_tab h n) (Nat.le_refl n) h1, h2⟩
def lookT : List (Nat × Fn) → Nat → Option Fn
  | [], _ => none
  | a :: l, n => bif Nat.beq a.1 n then some a.2 else lookT l n
def isT : Option V → Bool
  | some (.bool true) => true
  | _ => false
theorem isT_eq : ∀ {x : Option V}, isT x = true → x = some (.bool true)
  | some (.bool true), _ => rfl
  | none, h => by simp [isT] at h
  | some (.bool false), h => by simp [isT] at h
  | some (.int _ _), h => by simp [isT] at h
  | some .undef, h => by simp [isT] at h
theorem lookT_all : ∀ {l : List (Nat × Fn)}, (∀ a ∈ l, Pg a.1 = some a.2) → ∀ f x, lookT l f = some x → Pg f = some x
  | [], _, f, x, h => by simp [lookT] at h
  | a :: l, ha, f, x, h => by
    rw [lookT] at h
    cases q : Nat.beq a.1 f with
    | true =>
      rw [q, cond_true] at h
      rw [← Nat.eq_of_beq_eq_true q, ← h]
      exact ha a (.head _)
    | false =>
      rw [q, cond_false] at h
      exact lookT_all (fun b hb => ha b (.tail _ hb)) f x h
end Sg
namespace Sg
open _root_.Go (IntKind BinOp UnOp)
set_option linter.unusedSimpArgs false
set_option linter.unusedVariables false
set_option maxRecDepth 10000
variable {Pg : Nat → Option Fn}
structure Inf where
  view : Int
  mem : List Int
  whole : Bool
  deriving DecidableEq
structure Jb where
  kind : Int
  step : Int
  id : Int
  shard : Int
  other : Int
  cell : Int
  to : Int
  epoch : Int
  key : List UInt8
  parts : List (List UInt8)
  of_ : Int
  client : Int
  req : Int
  span : Span
  wait : List Int
  at_ : Stamp
  mem : List Int
structure ORw where
  client : Int
  req : Int
  lease : Int
  at_ : Stamp
  err : Int
structure Drc where
  places : List Place
  cells : List Inf
  next : Int
  leases : List Lse
  lows : List Stamp
  mark : Stamp
  job : Jb
  opened : List ORw
def eS1 (s : List UInt8) : List V := [.str s]
@[go_sem] def eStrs (l : List (List UInt8)) : V := .slice 1 (l.map eS1)
@[go_sem] def eInf (i : Inf) : List V := [iz i.view, eInts i.mem, .bool i.whole]
@[go_sem] def eInfs (l : List Inf) : V := .slice 3 (l.map eInf)
@[go_sem] def eJb (j : Jb) : List V := [iz j.kind, iz j.step, iz j.id, iz j.shard, iz j.other, iz j.cell, iz j.to, iz j.epoch, .str j.key, eStrs j.parts, iz j.of_, iz j.client, iz j.req, .str j.span.lo, .str j.span.hi, eInts j.wait, iz j.at_.wall, iz j.at_.tick, iz j.at_.node, eInts j.mem]
@[go_sem] def eORw (r : ORw) : List V := [iz r.client, iz r.req, iz r.lease, iz r.at_.wall, iz r.at_.tick, iz r.at_.node, iz r.err]
@[go_sem] def eORws (l : List ORw) : V := .slice 7 (l.map eORw)
@[go_sem] def eDrc (d : Drc) : List V := [ePls d.places, eInfs d.cells, iz d.next, eLses d.leases, eStamps d.lows, iz d.mark.wall, iz d.mark.tick, iz d.mark.node, iz d.job.kind, iz d.job.step, iz d.job.id, iz d.job.shard, iz d.job.other, iz d.job.cell, iz d.job.to, iz d.job.epoch, .str d.job.key, eStrs d.job.parts, iz d.job.of_, iz d.job.client, iz d.job.req, .str d.job.span.lo, .str d.job.span.hi, eInts d.job.wait, iz d.job.at_.wall, iz d.job.at_.tick, iz d.job.at_.node, eInts d.job.mem, eORws d.opened]
@[go_sem] def zDrc : List V := [.slice 5 [], .slice 3 [], .int .i64 0, .slice 5 [], .slice 3 [], .int .i64 0, .int .i64 0, .int .i64 0, .int .i64 0, .int .i64 0, .int .i64 0, .int .i64 0, .int .i64 0, .int .i64 0, .int .i64 0, .int .i64 0, .str [], .slice 1 [], .int .i64 0, .int .i64 0, .int .i64 0, .str [], .str [], .slice 1 [], .int .i64 0, .int .i64 0, .int .i64 0, .slice 1 [], .slice 7 []]
@[go_sem] def bx (d : Drc) (c o : V) : List V := [ePls d.places, c, iz d.next, eLses d.leases, eStamps d.lows, iz d.mark.wall, iz d.mark.tick, iz d.mark.node, iz d.job.kind, iz d.job.step, iz d.job.id, iz d.job.shard, iz d.job.other, iz d.job.cell, iz d.job.to, iz d.job.epoch, .str d.job.key, eStrs d.job.parts, iz d.job.of_, iz d.job.client, iz d.job.req, .str d.job.span.lo, .str d.job.span.hi, eInts d.job.wait, iz d.job.at_.wall, iz d.job.at_.tick, iz d.job.at_.node, eInts d.job.mem, o]
def nilOr (s z n : Nat) : V := if n = 0 then .nslice z else .own s z n
def nilA (z : Nat) (rows : List (List V)) (n : Nat) : Option (Nat × List (List V) × Fz) := if n = 0 then none else some (z, rows, .live)
@[go_sem] theorem cells_nil {s z n : Nat} : (nilOr s z n).cells = some [nilOr s z n] := by unfold nilOr; split <;> rfl
def apQ (S : St) (s z n : Nat) (y : V) (a : Option (Nat × List (List V) × Fz)) : Option (V × St) := if n = 0 then apnA S s z y a else apA S s z n y a
theorem appN_q {S : St} {s z n : Nat} {y : V} : appN S s z (nilOr s z n) y = apQ S s z n y (S.A s) := by
  unfold nilOr apQ
  split
  · exact appN_n
  · rw [appN_o, app_o]
theorem apq_s {S : St} {s z n : Nat} {rows : List (List V)} {r : List V} (hr : rows.length = n) (hl : n + 1 ≤ lim) :
    apQ S s z n (.slice z [r]) (nilA z rows n) = some (nilOr s z (n + 1), ⟨S.ρ, S.μ, upd S.A s (nilA z (rows ++ [r]) (n + 1))⟩) := by
  have e1 : nilOr s z (n + 1) = .own s z (n + 1) := rfl
  have e2 : nilA z (rows ++ [r]) (n + 1) = some (z, rows ++ [r], .live) := rfl
  rw [e1, e2]
  unfold apQ nilA
  split
  · rename_i h
    subst h
    have hr : rows = [] := List.eq_nil_of_length_eq_zero hr
    subst hr
    have : 1 ≤ lim := by simpa using hl
    simp [apnA, V.rowsOf, this]
  · rw [apa_s]
    simp [V.rowsOf, hr, hl]
theorem nil_toDC {A : Nat → Option (Nat × List (List V) × Fz)} {s z n : Nat} {rows : List (List V)} (hA : A s = nilA z rows n) (hr : rows.length = n) : toDC A (nilOr s z n) = some (.slice z rows) := by
  unfold nilOr
  split
  · rename_i h
    subst h
    have hr : rows = [] := List.eq_nil_of_length_eq_zero hr
    rw [hr, toDC_ns]
  · rename_i h
    have : A s = some (z, rows, .live) := by rw [hA, nilA, if_neg h]
    simp [toDC, this, hr]
end Sg
namespace Sg
open _root_.Go (IntKind BinOp UnOp)
set_option linter.unusedSimpArgs false
set_option linter.unusedVariables false
set_option maxRecDepth 10000
variable {Pg : Nat → Option Fn}
def shP (s : Shd) (e d : V) : List V := [iz s.id, iz s.epoch, .str s.span.lo, .str s.span.hi, iz s.phase, e, iz s.mark.wall, iz s.mark.tick, iz s.mark.node, iz s.top.wall, iz s.top.tick, iz s.top.node, d, iz s.hold, iz s.seen, iz s.move, iz s.closed]
def zSh : List V := [.int .i64 0, .int .i64 0, .str [], .str [], .int .i64 0, .slice 2 [], .int .i64 0, .int .i64 0, .int .i64 0, .int .i64 0, .int .i64 0, .int .i64 0, .slice 11 [], .int .i64 0, .int .i64 0, .int .i64 0, .int .i64 0]
theorem scrub_nil {Wa : List Nat} {s z n : Nat} (h : Wa.contains s = false) : scrubC Wa (nilOr s z n) = nilOr s z n := by
  unfold nilOr; split
  · rfl
  · simp only [scrubC, h, Bool.false_eq_true, if_false]
theorem head_shP {S : St} {v : Nat} {Wv Wa : List Nat} {x : Shd} {s z n s' z' n' : Nat} (hm : S.μ v = some (shP x (nilOr s z n) (nilOr s' z' n'), false)) (hv : Wv.contains v = false) (h : Wa.contains s = false) (h' : Wa.contains s' = false) :
    (S.head [] [] Wv Wa).μ v = some (shP x (nilOr s z n) (nilOr s' z' n'), false) := by
  show (if Wv.contains v then none else (S.μ v).map _) = _
  rw [hv, hm]
  simp only [Bool.false_eq_true, if_false, Option.map_some]
  have : (shP x (nilOr s z n) (nilOr s' z' n')).map (scrubC Wa) = shP x (nilOr s z n) (nilOr s' z' n') := by
    simp only [shP, List.map_cons, List.map_nil, scrub_nil h, scrub_nil h']
    rfl
  rw [this]
  cases Wa.isEmpty <;> rfl
theorem head_Ax {S : St} {Wv Wa : List Nat} {x : Nat} (h : Wa.contains x = false) : (S.head [] [] Wv Wa).A x = S.A x := by
  show (if Wa.contains x then none else S.A x) = S.A x
  rw [h]; rfl
structure E467 (S : St) (y : Rd) (sh : Shd) (m j : Nat) (vs : List Entr) : Prop where
  r0 : S.ρ 0 = .lref 0 0
  r2 : S.ρ 2 = .lref 2 0
  r3 : S.ρ 3 = .lref 3 0
  m0 : S.μ 0 = some (eRd y, false)
  m2 : S.μ 2 = some (zSh, false)
  m3 : S.μ 3 = some (shP sh (nilOr 69 2 j) (nilOr 95 11 0), false)
  m5 : S.μ 5 = none
  a69 : S.A 69 = nilA 2 (vs.map eEnt) j
  a95 : S.A 95 = none
  vl : vs.length = j
end Sg
namespace Sg
open _root_.Go (IntKind BinOp UnOp)
set_option linter.unusedSimpArgs false
set_option linter.unusedVariables false
set_option maxRecDepth 10000
variable {Pg : Nat → Option Fn}
structure P467 (S : St) (y : Rd) (sh : Shd) (es : List Entr) (ds : List Done) (j : Nat) : Prop where
  r0 : S.ρ 0 = .lref 0 0
  r2 : S.ρ 2 = .lref 2 0
  r3 : S.ρ 3 = .lref 3 0
  m0 : S.μ 0 = some (eRd y, false)
  m2 : S.μ 2 = some (zSh, false)
  m3 : S.μ 3 = some (shP sh (nilOr 69 2 es.length) (nilOr 95 11 j), false)
  a69 : S.A 69 = nilA 2 (es.map eEnt) es.length
  a95 : S.A 95 = nilA 11 (ds.map eDone) j
  vl : ds.length = j
end Sg
namespace Sg
open _root_.Go (IntKind BinOp UnOp)
set_option linter.unusedSimpArgs false
set_option linter.unusedVariables false
set_option maxRecDepth 10000
variable {Pg : Nat → Option Fn}
end Sg
namespace Sg
open _root_.Go (IntKind BinOp UnOp)
set_option linter.unusedSimpArgs false
set_option linter.unusedVariables false
set_option maxRecDepth 10000
variable {Pg : Nat → Option Fn}
theorem lt1D {n : Int} : decide (n < 1) = !decide (1 ≤ n) := by by_cases h : 1 ≤ n <;> simp [h] <;> omega
theorem gt3D {n : Int} : decide (3 < n) = !decide (n ≤ 3) := by by_cases h : n ≤ 3 <;> simp [h] <;> omega
def rgB (m n : Int) : Bool := !(decide (n < m) || decide (1099511627776 < n))
theorem rg1 (n : Int) : rgB 1 n = numD n := by
  simp only [rgB, numD]; by_cases h : 1 ≤ n <;> by_cases h2 : n ≤ 1099511627776 <;> simp [h, h2] <;> omega
theorem rg0 (n : Int) : rgB 0 n = nou n := by
  simp only [rgB, nou]; by_cases h : 0 ≤ n <;> by_cases h2 : n ≤ 1099511627776 <;> simp [h, h2] <;> omega
def H313 (Pg : Nat → Option Fn) : Prop := Pg 313 = some (.code F313)
theorem K313 (h : H313 Pg) (n m : Int) : K' Pg 313 [iz n, .cptr [iz m] 0] = some (.bool (decide (n < m) || decide (1099511627776 < n))) := by
  refine K'_code h rfl ?_
  cases c : decide (n < m) <;> simp only [go_sem, c, Bool.true_or, Bool.false_or]
def H284 (Pg : Nat → Option Fn) : Prop := Pg 284 = some (.code F284) ∧ H67 Pg ∧ H313 Pg
theorem K284 (h : H284 Pg) (m : Int) (l : List Int) (hl : l.length < 2 ^ 60) : K' Pg 284 [iz m, eInts l] = some (.bool (!(l.any fun n => decide (n < m) || decide (1099511627776 < n)))) := by
  obtain ⟨h, h67, h313⟩ := h
  have k := K67 h67 l 313 [.cptr [iz m] 0] (fun n => decide (n < m) || decide (1099511627776 < n)) hl rfl (fun n _ => K313 h313 n m)
  simp only [eInts] at k
  refine K'_code h rfl ?_
  simp only [go_sem, eInts, k]
theorem K284a (h : H284 Pg) (m a : Int) : K' Pg 284 [iz m, .slice 1 [[iz a]]] = some (.bool (rgB m a)) := by
  have := K284 h m [a] (by simp)
  simpa [eInts, rgB] using this
theorem K284b (h : H284 Pg) (m a b : Int) : K' Pg 284 [iz m, .slice 1 [[iz a], [iz b]]] = some (.bool (rgB m a && rgB m b)) := by
  have := K284 h m [a, b] (by simp)
  simpa [eInts, rgB, Bool.and_assoc] using this
theorem K284d (h : H284 Pg) (m a b c d : Int) : K' Pg 284 [iz m, .slice 1 [[iz a], [iz b], [iz c], [iz d]]] = some (.bool (rgB m a && (rgB m b && (rgB m c && rgB m d)))) := by
  have := K284 h m [a, b, c, d] (by simp)
  simpa [eInts, rgB, Bool.and_assoc] using this
def H298 (Pg : Nat → Option Fn) : Prop := Pg 298 = some (.code F298) ∧ H171 Pg
theorem K298 (h : H298 Pg) (e : Entr) (s : Shd) : K' Pg 298 [.agg (eEnt e), .cptr (eShd s) 0] = some (.bool (!hasS s.span e.key)) := by
  obtain ⟨h, h171⟩ := h
  have k := K171 h171 s.span e.key
  simp only [eSpan] at k
  refine K'_code h rfl ?_
  simp only [go_sem, eChain, k]
def idxE : List Entr → (Entr → Bool) → Nat → Int
  | [], _, _ => -1
  | a :: l, p, i => if p a then i else idxE l p (i + 1)
theorem idxE_any : ∀ {l : List Entr} {p : Entr → Bool} {i : Nat}, decide (0 ≤ idxE l p i) = l.any p
  | [], p, i => by simp [idxE]
  | a :: l, p, i => by
    simp only [idxE]
    split
    · rename_i h; simp [h]
    · rename_i h; rw [idxE_any]; simp [h]
def H315 (Pg : Nat → Option Fn) : Prop := Pg 315 = some (.code F315)
theorem K315 (h : H315 Pg) (l : List Entr) (g : Nat) (cap : List V) (p : Entr → Bool) (hl : l.length < 2 ^ 60) (hg : ∀ x ∈ l, K' Pg g (.agg (eEnt x) :: cap) = some (.bool (p x))) :
    K' Pg 315 [eEnts l, .func g cap] = some (iz (idxE l p 0)) := by
  refine K'_code h rfl ?_
  simp only [eEnt, eChain] at hg
  simp only [go_sem]
  unfold l315_0
  refine wp_lp (fun (i : Nat) S => i ≤ l.length ∧ S.ρ 0 = eEnts l ∧ S.ρ 1 = .func g cap ∧ S.ρ 7 = iz l.length ∧ S.ρ 8 = iz i ∧ idxE (l.drop i) p i = idxE l p 0) (fun i => l.length - i) 0 ?_ ?_
  · simp [go_sem]
  · intro i S ⟨hi, h0, h1, h7, h8, ho⟩
    simp only [go_sem, h0, h1, h7, h8]
    refine wpc_i (fun h => ?_) (fun h => ?_)
    · have h := lt_of h
      obtain ⟨x, hx, hd⟩ := drop_at h
      rw [hd] at ho
      have hgx := hg x (List.mem_of_getElem? hx)
      simp only [go_sem, eChain, h0, h1, h7, h8, hx, hgx]
      refine wpc_i (fun hc => ?_) (fun hc => ?_)
      · simp only [idxE, hc, if_true] at ho
        simp only [go_sem, ← ho]
      · simp only [idxE, hc, Bool.false_eq_true, if_false] at ho
        simp only [go_sem, h0, h1, h7, h8]
        exact ⟨i + 1, by omega, by omega, by rw [inc64 h hl], ho⟩
    · have h := eq_of hi h
      subst h
      simp only [List.drop_length, idxE] at ho
      simp only [go_sem, ← ho]
def H299 (Pg : Nat → Option Fn) : Prop := Pg 299 = some (.code F299) ∧ H315 Pg
theorem K299 (h : H299 Pg) (l : List Entr) (g : Nat) (cap : List V) (p : Entr → Bool) (hl : l.length < 2 ^ 60) (hg : ∀ x ∈ l, K' Pg g (.agg (eEnt x) :: cap) = some (.bool (p x))) :
    K' Pg 299 [eEnts l, .func g cap] = some (.bool (l.any p)) := by
  obtain ⟨h, h315⟩ := h
  have k := K315 h315 l g cap p hl hg
  simp only [eEnts] at k
  refine K'_code h rfl ?_
  simp only [go_sem, k, idxE_any]
theorem any_not {α : Type} {l : List α} {p : α → Bool} : (!(l.any fun x => !p x)) = l.all p := by
  induction l with
  | nil => rfl
  | cons a l ih => simp only [List.any_cons, List.all_cons, ← ih]; cases p a <;> simp
def H244 (Pg : Nat → Option Fn) : Prop := Pg 244 = some (.code F244) ∧ H28 Pg ∧ H81 Pg ∧ H186 Pg ∧ H203 Pg ∧ H284 Pg ∧ H298 Pg ∧ H299 Pg
theorem K244 (h : H244 Pg) (s : Shd) (hs : SmS s) : K' Pg 244 [.agg (eShd s)] = some (.bool (shR s)) := by
  obtain ⟨h, h28, h81, h186, h203, h284, h298, h299⟩ := h
  have hlen := hs.1.len
  have a1 := K284b h284 1 s.id s.epoch
  have a2 := K284d h284 0 s.hold s.seen s.move s.closed
  have k186 := K186 h186 s.span
  have k203 := K203 h203 s.ents hs.1
  have kmark := K28 h28 s.mark
  have ktop := K28 h28 s.top
  have k81 := K81 h81 s.done (by have := hs.2.1; omega)
  have k299 := K299 h299 s.ents 298 [.cptr (eShd s) 0] (fun e => !hasS s.span e.key) (by omega) (fun e _ => K298 h298 e s)
  simp only [rg1] at a1
  simp only [rg0] at a2
  simp only [eShd, eSpan, eStamp, eEnts, eDones] at k186 k203 kmark ktop k81 k299
  clear hs hlen h28 h81 h186 h203 h284 h298 h299
  refine K'_code h rfl ?_
  clear h
  cases c1 : numD s.id with
  | false => simp only [go_sem, shR, shR0, *]
  | true =>
  cases c2 : numD s.epoch with
  | false => simp only [go_sem, shR, shR0, *]
  | true =>
  cases c3 : nou s.hold with
  | false => simp only [go_sem, shR, shR0, *]
  | true =>
  cases c4 : nou s.seen with
  | false => simp only [go_sem, shR, shR0, *]
  | true =>
  cases c5 : nou s.move with
  | false => simp only [go_sem, shR, shR0, *]
  | true =>
  cases c6 : nou s.closed with
  | false => simp only [go_sem, shR, shR0, *]
  | true =>
  cases c7 : decide (1 ≤ s.phase) with
  | false => simp only [go_sem, shR, shR0, lt1D, *]
  | true =>
  cases c8 : decide (s.phase ≤ 3) with
  | false => simp only [go_sem, shR, shR0, lt1D, gt3D, *]
  | true =>
  cases c9 : spanR s.span with
  | false => simp only [go_sem, shR, shR0, lt1D, gt3D, *]
  | true =>
  cases c10 : ixR s.ents with
  | false => simp only [go_sem, shR, shR0, lt1D, gt3D, *]
  | true =>
  cases c11 : stampRight s.mark with
  | false => simp only [go_sem, shR, shR0, lt1D, gt3D, *]
  | true =>
  cases c12 : stampRight s.top with
  | false => simp only [go_sem, shR, shR0, lt1D, gt3D, *]
  | true =>
  cases c13 : rightT s.done with
  | false => simp only [go_sem, shR, shR0, lt1D, gt3D, *]
  | true =>
  simp only [go_sem, shR, shR0, lt1D, gt3D, any_not, *]
end Sg
namespace Sg
open _root_.Go (IntKind BinOp UnOp)
set_option linter.unusedSimpArgs false
set_option linter.unusedVariables false
set_option maxRecDepth 10000
variable {Pg : Nat → Option Fn}
def H316 (Pg : Nat → Option Fn) : Prop := Pg 316 = some (.code F316) ∧ H15 Pg
theorem K316 (h : H316 Pg) (e : Entr) (t : Stamp) (v : Ver) (hv : e.chain.getLast? = some v) (hl : e.chain.length ≤ 10000) : K' Pg 316 [.agg (eEnt e), .cptr (eStamp t) 0] = some (.bool (decide (0 < stampCmp v.at_ t))) := by
  obtain ⟨h, h15⟩ := h
  have k15 := K15 h15 v.at_ t
  have hpos : 0 < e.chain.length := List.length_pos_iff.2 fun e0 => by rw [e0] at hv; simp at hv
  have hx : e.chain[e.chain.length - 1]? = some v := by rw [← List.getLast?_eq_getElem?]; exact hv
  have hdec : IntKind.i64.wrap ((e.chain.length : Int) - 1) = ((e.chain.length - 1 : Nat) : Int) := dec64 hpos (by omega)
  simp only [eStamp] at k15
  refine K'_code h rfl ?_
  simp only [go_sem, eChain, hdec, hx, k15]
def lateE (t : Stamp) (e : Entr) : Bool := match e.chain.getLast? with | some v => decide (0 < stampCmp v.at_ t) | none => false
theorem upto_late {s : Shd} {t : Stamp} : uptoE s t = !(s.ents.any (lateE t)) := by
  rw [List.not_any_eq_all_not]
  simp only [uptoE]
  congr 1
  funext e
  unfold lateE
  cases e.chain.getLast? with
  | none => rfl
  | some v => by_cases h : stampCmp v.at_ t ≤ 0 <;> simp [h] <;> omega
def H301 (Pg : Nat → Option Fn) : Prop := Pg 301 = some (.code F301) ∧ H299 Pg ∧ H316 Pg
theorem K301 (h : H301 Pg) (s : Shd) (t : Stamp) (hs : Sm s.ents) (hn : ∀ e ∈ s.ents, e.chain ≠ []) : K' Pg 301 [.agg (eShd s), .agg (eStamp t)] = some (.bool (uptoE s t)) := by
  obtain ⟨h, h299, h316⟩ := h
  have hlen := hs.len
  have k := K299 h299 s.ents 316 [.cptr (eStamp t) 0] (lateE t) (by omega) (fun e he => by
    cases hv : e.chain.getLast? with
    | none => exact absurd (List.getLast?_eq_none_iff.1 hv) (hn e he)
    | some v => rw [K316 h316 e t v hv (hs.2 e he).1]; simp only [lateE, hv])
  simp only [eEnts, eStamp] at k
  refine K'_code h rfl ?_
  simp only [go_sem, k, upto_late]
theorem shR_ents {s : Shd} (h : shR s = true) : ixR s.ents = true ∧ ∀ e ∈ s.ents, e.chain ≠ [] := by
  simp only [shR, shR0, Bool.and_eq_true] at h
  exact ⟨h.1.2.2.2.2.2.2.2.2.2.1, fun e he => (entR_iff.1 ((ixR_iff.1 h.1.2.2.2.2.2.2.2.2.2.1).2.2 e he)).2.1⟩
def lastC (l : List Shd) (i : Nat) : Int := if i = 0 then 0 else (l[i - 1]?.map Shd.id).getD 0
theorem lastC_s {l : List Shd} {i : Nat} {x : Shd} (h : l[i]? = some x) : lastC l (i + 1) = x.id := by simp [lastC, h]
def H249 (Pg : Nat → Option Fn) : Prop := Pg 249 = some (.code F249) ∧ H28 Pg ∧ H244 Pg ∧ H284 Pg ∧ H301 Pg
theorem le8 {n : Nat} : decide ((n : Int) ≤ 8) = decide (n ≤ 8) := led (b := 8)
theorem ltS_le {a b : Int} : decide (a ≤ b) = !decide (b < a) := by by_cases h : b < a <;> simp [h] <;> omega
theorem K249 (h : H249 Pg) (c : Cel) (hc : SmC c) : K' Pg 249 [.agg (eCel c)] = some (.bool (celR c)) := by
  obtain ⟨h, h28, h244, h284, h301⟩ := h
  have hlen := hc.1
  have k28 := K28 h28 c.top
  have k284 := K284a h284 0 c.dropped
  simp only [rg0] at k284
  simp only [eStamp] at k28
  refine K'_code h rfl ?_
  simp only [go_sem]
  unfold l249_0
  refine wp_lp (fun (i : Nat) S => i ≤ c.shards.length ∧ S.ρ 1 = .lref 1 0 ∧ S.μ 1 = some (eCel c, false) ∧ S.ρ 3 = iz (lastC c.shards i) ∧ S.μ 5 = none ∧ S.ρ 7 = eShds c.shards ∧ S.ρ 8 = iz c.shards.length ∧ S.ρ 9 = iz i ∧ cgo c.top (lastC c.shards i) (c.shards.drop i) = cgo c.top 0 c.shards) (fun i => c.shards.length - i) 0 ?_ ?_
  · simp [go_sem, lastC]
  · intro i S ⟨hi, h1, m1, h3, m5, h7, h8, h9, ho⟩
    simp only [go_sem, h1, m1, h3, m5, h7, h8, h9]
    refine wpc_i (fun h => ?_) (fun h => ?_)
    · have h := lt_of h
      obtain ⟨x, hx, hd⟩ := drop_at h
      have hxs := hc.2 x (List.mem_of_getElem? hx)
      have k244 := K244 h244 x hxs
      have hinc : IntKind.i64.wrap ((i : Int) + 1) = ((i + 1 : Nat) : Int) := inc64 h (by omega)
      rw [hd] at ho
      simp only [cgo] at ho
      simp only [eShd, eEnts, eDones] at k244
      simp only [go_sem, h1, m1, h3, m5, h7, h8, h9, hx, ltS_le]
      cases c1 : decide (lastC c.shards i < x.id) with
      | false =>
        simp only [c1, Bool.false_and] at ho
        simp only [go_sem, h1, m1, h3, m5, h7, h8, h9, hx, ltS_le, c1, celR, ← ho]
      | true =>
      cases c2 : shR x with
      | false =>
        simp only [c1, c2, Bool.false_and, Bool.and_false] at ho
        simp only [go_sem, h1, m1, h3, m5, h7, h8, h9, hx, ltS_le, c1, c2, k244, celR, ← ho]
      | true =>
      have k301 := K301 h301 x c.top hxs.1 (shR_ents c2).2
      simp only [eShd, eEnts, eDones, eStamp] at k301
      cases c3 : uptoE x c.top with
      | false =>
        simp only [c1, c2, c3, Bool.false_and, Bool.and_false] at ho
        simp only [go_sem, h1, m1, h3, m5, h7, h8, h9, hx, ltS_le, c1, c2, c3, k244, k301, celR, ← ho]
      | true =>
      simp only [c1, c2, c3, Bool.true_and] at ho
      simp only [go_sem, h1, m1, h3, m5, h7, h8, h9, hx, ltS_le, c1, c2, c3, k244, k301]
      exact ⟨i + 1, by omega, by omega, by rw [lastC_s hx], by rw [hinc], by rw [lastC_s hx]; exact ho⟩
    · have h := eq_of hi h
      subst h
      rw [List.drop_length] at ho
      simp only [cgo] at ho
      simp only [go_sem, h1, m1, le8]
      cases c1 : decide (c.shards.length ≤ 8) with
      | false => simp only [go_sem, h1, m1, c1, celR]
      | true =>
      cases c2 : stampRight c.top with
      | false => simp only [go_sem, h1, m1, c1, c2, k28, celR]
      | true => simp only [go_sem, h1, m1, c1, c2, k28, k284, celR, ← ho]
end Sg
namespace Sg
open _root_.Go (IntKind BinOp UnOp)
set_option linter.unusedSimpArgs false
set_option linter.unusedVariables false
set_option maxRecDepth 10000
variable {Pg : Nat → Option Fn}
def clP (t : Stamp) (d : Int) (e : V) : List V := [e, iz t.wall, iz t.tick, iz t.node, iz d]
structure C428 (S : St) (y : Rd) (t : Stamp) (d : Int) (vs : List Shd) (j : Nat) : Prop where
  r2 : S.ρ 2 = .lref 2 0
  r4 : S.ρ 4 = .lref 8 0
  r5 : S.ρ 5 = .lref 5 0
  m8 : S.μ 8 = some (eRd y, false)
  m2 : S.μ 2 = some ([.slice 17 [], .int .i64 0, .int .i64 0, .int .i64 0, .int .i64 0], false)
  m5 : S.μ 5 = some (clP t d (nilOr 23 17 j), false)
  a23 : S.A 23 = nilA 17 (vs.map eShd) j
  vl : vs.length = j
end Sg
namespace Sg
open _root_.Go (IntKind BinOp UnOp)
set_option linter.unusedSimpArgs false
set_option linter.unusedVariables false
set_option maxRecDepth 10000
variable {Pg : Nat → Option Fn}
theorem head_μe {S : St} {Wv : List Nat} {v : Nat} (hv : Wv.contains v = false) : (S.head [] [] Wv []).μ v = S.μ v := by
  show (if Wv.contains v then none else (S.μ v).map _) = _
  rw [hv]
  cases S.μ v <;> rfl
structure B436 (S : St) (y : Rd) (sh : Shd) (es : List Entr) (ds : List Done) : Prop where
  r0 : S.ρ 0 = .lref 0 0
  r2 : S.ρ 2 = .lref 2 0
  r3 : S.ρ 3 = .lref 3 0
  m0 : S.μ 0 = some (eRd y, false)
  m2 : S.μ 2 = some (zSh, false)
  m3 : S.μ 3 = some (shP sh (nilOr 97 2 es.length) (nilOr 139 11 ds.length), false)
  m11 : S.μ 11 = none
  a97 : S.A 97 = nilA 2 (es.map eEnt) es.length
  a139 : S.A 139 = nilA 11 (ds.map eDone) ds.length
theorem B436.head {S : St} {y : Rd} {sh : Shd} {es : List Entr} {ds : List Done} {Wv Wa : List Nat} (h : B436 S y sh es ds) (h0 : Wv.contains 0 = false) (h2 : Wv.contains 2 = false) (h3 : Wv.contains 3 = false) (h97 : Wa.contains 97 = false) (h139 : Wa.contains 139 = false) :
    B436 (S.head [] [] Wv Wa) y sh es ds :=
  ⟨head_ρs h.r0 (by simp only [stay, h0]; rfl), head_ρs h.r2 (by simp only [stay, h2]; rfl), head_ρs h.r3 (by simp only [stay, h3]; rfl), head_μs h.m0 rfl h0, head_μs h.m2 rfl h2, head_shP h.m3 h3 h97 h139, head_μn (.inl h.m11), (head_Ax h97).trans h.a97, (head_Ax h139).trans h.a139⟩
structure V436 (S : St) (M I m j : Nat) (key : List UInt8) (vs : List Ver) : Prop where
  r4 : S.ρ 4 = iz M
  r5 : S.ρ 5 = iz I
  r6 : S.ρ 6 = .lref 6 0
  r7 : S.ρ 7 = iz m
  r8 : S.ρ 8 = iz j
  m6 : S.μ 6 = some ([.str key, nilOr 91 5 vs.length], false)
  m9 : S.μ 9 = none
  a91 : S.A 91 = nilA 5 (vs.map eVer) vs.length
  vl : vs.length = j
end Sg
namespace Sg
open _root_.Go (IntKind BinOp UnOp)
set_option linter.unusedSimpArgs false
set_option linter.unusedVariables false
set_option maxRecDepth 10000
variable {Pg : Nat → Option Fn}
end Sg
namespace Sg
open _root_.Go (IntKind BinOp UnOp)
set_option linter.unusedSimpArgs false
set_option linter.unusedVariables false
set_option maxRecDepth 10000
variable {Pg : Nat → Option Fn}
end Sg
namespace Sg
open _root_.Go (IntKind BinOp UnOp)
set_option linter.unusedSimpArgs false
set_option linter.unusedVariables false
set_option maxRecDepth 10000
variable {Pg : Nat → Option Fn}
end Sg
namespace Sg
open _root_.Go (IntKind BinOp UnOp)
set_option linter.unusedSimpArgs false
set_option linter.unusedVariables false
set_option maxRecDepth 10000
variable {Pg : Nat → Option Fn}
end Sg
namespace Sg
open _root_.Go (IntKind BinOp UnOp)
set_option linter.unusedSimpArgs false
set_option linter.unusedVariables false
set_option maxRecDepth 10000
variable {Pg : Nat → Option Fn}
structure HW (S : St) (v : Nat) (b : List UInt8) (a : Nat) : Prop where
  m : S.μ v = some ([.own a 1 b.length], false)
  a : S.A a = some (1, b.map rowB, .live)
def eWrT (b : List UInt8) : List V := [.tuple [.slice 1 (b.map rowB)]]
theorem start_wr {args : List V} {b : List UInt8} : startR args 0 (eWrT b) = some ⟨fun i => if i = 0 then .lref 0 0 else (args[i]?).getD .undef, upd (fun _ => none) 0 (some ([.own 9000 1 b.length], false)), upd (fun _ => none) 9000 (some (1, b.map rowB, .live))⟩ := by
  unfold startR eWrT
  simp only [take_cons, takeC_t, tko_n, take_nil, Option.bind_some, List.length_map]
theorem hand_wr {A : AA} {b : List UInt8} {a : Nat} (h : A a = some (1, b.map rowB, .live)) : handL [.own a 1 b.length] A = some (eWrT b, upd A a (some (1, [], .dead))) := by
  simp only [hand_cons, hand_nil, handC_o, h, hdo_s, List.length_map, if_true, Option.bind_some]
  rfl
structure SWr (S : St) (rest : List V) (b : List UInt8) : Prop where
  r0 : S.ρ 0 = .lref 0 0
  r : ∀ i, S.ρ (i + 1) = (rest[i]?).getD .undef
  h : HW S 0 b 9000
  m : ∀ i, (i == 0) = false → S.μ i = none
  a : ∀ x, x ≠ 9000 → S.A x = none
theorem K'_wr {f : Nat} {F : F} {rest : List V} {b b' : List UInt8} (hF : Pg f = some (.codeR F 0)) (hl : rest.length + 1 = F.np) (hrs : F.res = [])
    (h : ∀ S, SWr S rest b → Wp (K' Pg) F.body S fun ex S' => (ex = .norm ∨ ex = .ret) ∧ ∃ a, HW S' 0 b' a) :
    K' Pg f (.tuple (.lref 0 0 :: eWrT b) :: rest) = some (.tuple [.tuple [], .tuple (eWrT b')]) := by
  have hm : ∀ i, (i == 0) = false → (upd (fun _ => none) 0 (some ([V.own 9000 1 b.length], false)) : Nat → Option (List V × Bool)) i = none := fun i hi => upd_ne_ hi
  refine K'_codeR hF (by simpa using hl) rfl start_wr ((h _ ⟨rfl, fun i => rfl, ⟨by simp [upd], by simp [upd]⟩, hm, fun x hx => by simp only [upd]; rw [if_neg hx]⟩).mono fun ex S' hq => ⟨hq.1, ?_⟩)
  obtain ⟨a, h1⟩ := hq.2
  unfold finishR
  rw [hrs]
  simp only [mapO, Option.bind_some, h1.m, hand_wr h1.a]
  rfl
theorem HW.head {S : St} {v : Nat} {b : List UInt8} {a h1 : Nat} {Wv Wa : List Nat} (hT : HW S v b a) (hv : Wv.contains v = false) (hw : Wa.contains h1 = false) :
    HW (S.head [] [v, 0, h1] Wv Wa) v b h1 ∧ (∀ x, Wa.contains x = true → (S.head [] [v, 0, h1] Wv Wa).A x = none) ∧ (∀ x, x ≠ a → x ≠ h1 → S.A x = none → (S.head [] [v, 0, h1] Wv Wa).A x = none) := by
  have e1 : S.swp1 v 0 h1 = S.ren a h1 := by rw [swp1_e, hT.m, sw1_s]; rfl
  have eh : S.head [] [v, 0, h1] Wv Wa = (S.ren a h1).scrub [] Wv Wa := by rw [head_sw, e1]; rfl
  rw [eh]
  refine ⟨⟨?_, ?_⟩, fun x hx => ?_, fun x h2 h3 h0 => ?_⟩
  · show (if Wv.contains v then none else ((S.μ v).map _).map _) = _
    rw [hv, hT.m]
    have : swp a h1 a = h1 := swp_l
    simp only [Bool.false_eq_true, if_false, Option.map_some, List.map_cons, List.map_nil, renC, this, scrubC, hw]
    cases Wa.isEmpty <;> rfl
  · show (if Wa.contains h1 then none else S.A (swp a h1 h1)) = _
    rw [hw, swp_r]; exact hT.a
  · show (if Wa.contains x then none else _) = _
    rw [hx]; rfl
  · show (if Wa.contains x then none else S.A (swp a h1 x)) = _
    split
    · rfl
    · rw [swp_keep h2 h3]; exact h0
end Sg
namespace Sg
open _root_.Go (IntKind BinOp UnOp)
set_option linter.unusedSimpArgs false
set_option linter.unusedVariables false
set_option maxRecDepth 10000
variable {Pg : Nat → Option Fn}
theorem rowsB_str (l : List UInt8) : (l.map fun b => [V.int .u8 (b.toNat : Int)]) = l.map rowB := rfl
def H422 (Pg : Nat → Option Fn) : Prop := Pg 422 = some (.codeR F422 0) ∧ H456 Pg
theorem K422 (h : H422 Pg) (b : List UInt8) (l : List Int) (hl : ∀ n ∈ l, 0 ≤ n ∧ n < 2 ^ 63) (hb : b.length + 9 * l.length ≤ 2 ^ 24) :
    K' Pg 422 [.tuple (.lref 0 0 :: eWrT b), eInts l] = some (.tuple [.tuple [], .tuple (eWrT (b ++ numsB l))]) := by
  obtain ⟨h, h456⟩ := h
  refine K'_wr h rfl rfl fun S0 ⟨r0, r, hT0, m0, a0⟩ => ?_
  have r1 := r 0
  simp only [get_z, Option.getD_some] at r1
  simp only [go_sem] at r1
  simp only [F422, c422, go_sem, r0, r1, List.length_map]
  unfold l422_0
  refine wp_lp (fun (i : Nat) S => i ≤ l.length ∧ S.ρ 0 = .lref 0 0 ∧ S.ρ 8 = eInts l ∧ S.ρ 9 = iz l.length ∧ S.ρ 10 = iz i ∧ HW S 0 (b ++ numsB (l.take i)) 9000) (fun i => l.length - i) 0 ?_ ?_
  · exact ⟨Nat.zero_le _, head_ρs (by simp only [go_sem, r0]) rfl, head_ρs (by simp only [go_sem, r1]) rfl, head_ρs (by simp only [go_sem]) rfl, head_ρs (by simp only [go_sem]) rfl, (HW.head (a := 9000) (h1 := 9000) ⟨by simp only [go_sem, hT0.m] <;> simp [numsB], by simp only [hT0.a] <;> simp [numsB]⟩ rfl rfl).1⟩
  · intro i S ⟨hi, s0, s8, s9, s10, hT⟩
    have hm := hT.m
    have hA := hT.a
    cases c1 : decide ((i : Int) < (l.length : Int)) with
    | false =>
      have hil : i = l.length := by have := of_decide_eq_false c1; omega
      rw [hil, List.take_length] at hT
      simp only [go_sem, s9, s10, c1]
      exact ⟨9000, hT.m, hT.a⟩
    | true =>
      have hlt := lt_of c1
      obtain ⟨n, hn, -⟩ := drop_at hlt
      have hinc : IntKind.i64.wrap ((i : Int) + 1) = ((i + 1 : Nat) : Int) := by rw [wrap64 (by omega) (by omega)]; omega
      obtain ⟨n0, n1⟩ := hl n (List.mem_of_getElem? hn)
      have k : K' Pg 456 [iz n] = some (.tuple [.str (putB n.toNat), iz 0]) := by
        have := K456 h456 n.toNat (by omega)
        rw [show ((n.toNat : Nat) : Int) = n by omega] at this
        exact this
      have htk : l.take (i + 1) = l.take i ++ [n] := by rw [List.take_add_one, hn]; rfl
      have hbl := numsB_len (l := l.take i) fun m hm => by have := hl m (List.mem_of_mem_take hm); omega
      rw [List.length_take] at hbl
      have hp := putB_9.2 (show n.toNat < 2 ^ 63 by omega)
      have hlim : (b ++ numsB (l.take i)).length + (putB n.toNat).length ≤ lim := by rw [List.length_append]; unfold lim; omega
      generalize hg : b ++ numsB (l.take i) = g at *
      have hfull : b ++ numsB (l.take (i + 1)) = g ++ putB n.toNat := by rw [htk, numsB_s, ← List.append_assoc, hg]
      simp only [go_sem, s0, s8, s9, s10, c1, hn, hlt, k, hinc, hm, hA, hlim, List.length_map]
      refine ⟨i + 1, by omega, by omega, head_ρs (by simp only [go_sem, s0]) rfl, head_ρs (by simp only [go_sem, s8]) rfl, head_ρs (by simp only [go_sem, s9]) rfl, head_ρs (by simp only [go_sem]) rfl, (HW.head (a := 9000) (h1 := 9000) ⟨?_, ?_⟩ rfl rfl).1⟩
      · rw [hfull]; simp only [go_sem, List.length_append]
      · rw [hfull]; simp only [go_sem, List.map_append] <;> rfl
end Sg
namespace Sg
open _root_.Go (IntKind BinOp UnOp)
set_option linter.unusedSimpArgs false
set_option linter.unusedVariables false
set_option maxRecDepth 10000
variable {Pg : Nat → Option Fn}
def eStrL (l : List (List UInt8)) : V := .slice 1 (l.map fun t => [.str t])
attribute [go_sem] eStrL
def textsB (l : List (List UInt8)) : List UInt8 := l.flatMap textB
theorem textsB_s {l : List (List UInt8)} {n : List UInt8} : textsB (l ++ [n]) = textsB l ++ textB n := by simp [textsB]
def H457 (Pg : Nat → Option Fn) : Prop := Pg 457 = some (.codeR F457 0) ∧ H484 Pg
theorem K457 (h : H457 Pg) (b : List UInt8) (l : List (List UInt8)) (hl : ∀ n ∈ l, n.length ≤ 2 ^ 20) (hb : b.length + (textsB l).length ≤ 2 ^ 24) :
    K' Pg 457 [.tuple (.lref 0 0 :: eWrT b), eStrL l] = some (.tuple [.tuple [], .tuple (eWrT (b ++ textsB l))]) := by
  obtain ⟨h, h484⟩ := h
  have hll : l.length ≤ (textsB l).length := flat_len (P := fun _ => True) (fun a _ => text_pos) (fun _ _ => trivial)
  refine K'_wr h rfl rfl fun S0 ⟨r0, r, hT0, m0, a0⟩ => ?_
  have r1 := r 0
  simp only [get_z, Option.getD_some] at r1
  simp only [go_sem] at r1
  simp only [F457, c457, go_sem, r0, r1, List.length_map]
  unfold l457_0
  refine wp_lp (fun (i : Nat) S => i ≤ l.length ∧ S.ρ 0 = .lref 0 0 ∧ S.ρ 6 = eStrL l ∧ S.ρ 7 = iz l.length ∧ S.ρ 8 = iz i ∧ HW S 0 (b ++ textsB (l.take i)) 9000) (fun i => l.length - i) 0 ?_ ?_
  · exact ⟨Nat.zero_le _, head_ρs (by simp only [go_sem, r0]) rfl, head_ρs (by simp only [go_sem, r1]) rfl, head_ρs (by simp only [go_sem]) rfl, head_ρs (by simp only [go_sem]) rfl, (HW.head (a := 9000) (h1 := 9000) ⟨by simp only [go_sem, hT0.m] <;> simp [textsB], by simp only [hT0.a] <;> simp [textsB]⟩ rfl rfl).1⟩
  · intro i S ⟨hi, s0, s6x, s7x, s8x, hT⟩
    have hm := hT.m
    have hA := hT.a
    cases c1 : decide ((i : Int) < (l.length : Int)) with
    | false =>
      have hil : i = l.length := by have := of_decide_eq_false c1; omega
      rw [hil, List.take_length] at hT
      simp only [go_sem, s7x, s8x, c1]
      exact ⟨9000, hT.m, hT.a⟩
    | true =>
      have hlt := lt_of c1
      obtain ⟨n, hn, -⟩ := drop_at hlt
      have hinc : IntKind.i64.wrap ((i : Int) + 1) = ((i + 1 : Nat) : Int) := by rw [wrap64 (by omega) (by omega)]; omega
      have n0 := hl n (List.mem_of_getElem? hn)
      have k := K484 h484 n (by omega)
      have htk : l.take (i + 1) = l.take i ++ [n] := by rw [List.take_add_one, hn]; rfl
      have hbl : (textsB (l.take (i + 1))).length ≤ (textsB l).length := by
        conv => rhs; rw [← List.take_append_drop (i + 1) l]
        simp only [textsB, List.flatMap_append, List.length_append]; omega
      rw [htk, textsB_s, List.length_append] at hbl
      have hlim : (b ++ textsB (l.take i)).length + (textB n).length ≤ lim := by rw [List.length_append]; unfold lim; omega
      generalize hg : b ++ textsB (l.take i) = g at *
      have hfull : b ++ textsB (l.take (i + 1)) = g ++ textB n := by rw [htk, textsB_s, ← List.append_assoc, hg]
      simp only [go_sem, s0, s6x, s7x, s8x, c1, hn, hlt, k, hinc, hm, hA, hlim, List.length_map]
      refine ⟨i + 1, by omega, by omega, head_ρs (by simp only [go_sem, s0]) rfl, head_ρs (by simp only [go_sem, s6x]) rfl, head_ρs (by simp only [go_sem, s7x]) rfl, head_ρs (by simp only [go_sem]) rfl, (HW.head (a := 9000) (h1 := 9000) ⟨?_, ?_⟩ rfl rfl).1⟩
      · rw [hfull]; simp only [go_sem, List.length_append]
      · rw [hfull]; simp only [go_sem, List.map_append] <;> rfl
end Sg
namespace Sg
open _root_.Go (IntKind BinOp UnOp)
set_option linter.unusedSimpArgs false
set_option linter.unusedVariables false
set_option maxRecDepth 10000
variable {Pg : Nat → Option Fn}
theorem st_pos {s : Stamp} : 1 ≤ (stB s).length := by
  have := putB_pos s.wall.toNat
  simp only [stB, List.length_append]; omega
def stampsB (l : List Stamp) : List UInt8 := l.flatMap stB
theorem stampsB_s {l : List Stamp} {n : Stamp} : stampsB (l ++ [n]) = stampsB l ++ stB n := by simp [stampsB]
def H421 (Pg : Nat → Option Fn) : Prop := Pg 421 = some (.codeR F421 0) ∧ H455 Pg
theorem K421 (h : H421 Pg) (b : List UInt8) (l : List Stamp) (hl : ∀ n ∈ l, stampRight n = true) (hb : b.length + (stampsB l).length ≤ 2 ^ 24) :
    K' Pg 421 [.tuple (.lref 0 0 :: eWrT b), eStamps l] = some (.tuple [.tuple [], .tuple (eWrT (b ++ stampsB l))]) := by
  obtain ⟨h, h455⟩ := h
  have hll : l.length ≤ (stampsB l).length := flat_len (P := fun _ => True) (fun a _ => st_pos) (fun _ _ => trivial)
  refine K'_wr h rfl rfl fun S0 ⟨r0, r, hT0, m0, a0⟩ => ?_
  have r1 := r 0
  simp only [get_z, Option.getD_some] at r1
  simp only [go_sem] at r1
  simp only [F421, c421, go_sem, r0, r1, List.length_map]
  unfold l421_0
  refine wp_lp (fun (i : Nat) S => i ≤ l.length ∧ S.ρ 0 = .lref 0 0 ∧ S.ρ 8 = eStamps l ∧ S.ρ 9 = iz l.length ∧ S.ρ 10 = iz i ∧ HW S 0 (b ++ stampsB (l.take i)) 9000 ∧ S.μ 5 = none) (fun i => l.length - i) 0 ?_ ?_
  · exact ⟨Nat.zero_le _, head_ρs (by simp only [go_sem, r0]) rfl, head_ρs (by simp only [go_sem, r1]) rfl, head_ρs (by simp only [go_sem]) rfl, head_ρs (by simp only [go_sem]) rfl, (HW.head (a := 9000) (h1 := 9000) ⟨by simp only [go_sem, hT0.m] <;> simp [stampsB], by simp only [hT0.a] <;> simp [stampsB]⟩ rfl rfl).1, head_μn (.inr rfl)⟩
  · intro i S ⟨hi, s0, s6x, s7x, s8x, hT, n5⟩
    have hm := hT.m
    have hA := hT.a
    cases c1 : decide ((i : Int) < (l.length : Int)) with
    | false =>
      have hil : i = l.length := by have := of_decide_eq_false c1; omega
      rw [hil, List.take_length] at hT
      simp only [go_sem, s7x, s8x, c1]
      exact ⟨9000, hT.m, hT.a⟩
    | true =>
      have hlt := lt_of c1
      obtain ⟨n, hn, -⟩ := drop_at hlt
      have hinc : IntKind.i64.wrap ((i : Int) + 1) = ((i + 1 : Nat) : Int) := by rw [wrap64 (by omega) (by omega)]; omega
      have n0 := hl n (List.mem_of_getElem? hn)
      have k := K455 h455 n n0
      simp only [go_sem] at k
      have htk : l.take (i + 1) = l.take i ++ [n] := by rw [List.take_add_one, hn]; rfl
      have hbl : (stampsB (l.take (i + 1))).length ≤ (stampsB l).length := by
        conv => rhs; rw [← List.take_append_drop (i + 1) l]
        simp only [stampsB, List.flatMap_append, List.length_append]; omega
      rw [htk, stampsB_s, List.length_append] at hbl
      have hlim : (b ++ stampsB (l.take i)).length + (stB n).length ≤ lim := by rw [List.length_append]; unfold lim; omega
      generalize hg : b ++ stampsB (l.take i) = g at *
      have hfull : b ++ stampsB (l.take (i + 1)) = g ++ stB n := by rw [htk, stampsB_s, ← List.append_assoc, hg]
      simp only [go_sem, s0, s6x, s7x, s8x, c1, hn, hlt, k, hinc, hm, hA, n5, hlim, List.length_map]
      refine ⟨i + 1, by omega, by omega, head_ρs (by simp only [go_sem, s0]) rfl, head_ρs (by simp only [go_sem, s6x]) rfl, head_ρs (by simp only [go_sem, s7x]) rfl, head_ρs (by simp only [go_sem]) rfl, (HW.head (a := 9000) (h1 := 9000) ⟨?_, ?_⟩ rfl rfl).1, head_μn (.inr rfl)⟩
      · rw [hfull]; simp only [go_sem, List.length_append]
      · rw [hfull]; simp only [go_sem, List.map_append] <;> rfl
end Sg
namespace Sg
open _root_.Go (IntKind BinOp UnOp)
set_option linter.unusedSimpArgs false
set_option linter.unusedVariables false
set_option maxRecDepth 10000
variable {Pg : Nat → Option Fn}
def H458 (Pg : Nat → Option Fn) : Prop := Pg 458 = some (.codeR F458 0) ∧ H485 Pg
theorem K458 (h : H458 Pg) (b : List UInt8) (x : Bool) (hb : b.length ≤ 2 ^ 24) :
    K' Pg 458 [.tuple (.lref 0 0 :: eWrT b), .bool x] = some (.tuple [.tuple [], .tuple (eWrT (b ++ flagB x))]) := by
  obtain ⟨h, h485⟩ := h
  have k := K485 h485 x
  have hl1 : (flagB x).length = 1 := by simp [flagB]
  refine K'_wr h rfl rfl fun S0 ⟨r0, r, hT0, m0, a0⟩ => ?_
  have r1 := r 0
  simp only [get_z, Option.getD_some] at r1
  have hm := hT0.m
  have hA := hT0.a
  have hlim : b.length + (flagB x).length ≤ lim := by unfold lim; omega
  generalize flagB x = g at *
  simp only [F458, c458, go_sem, r0, r1, hm, hA, k, hlim, List.length_map]
  exact ⟨9000, by simp only [go_sem, List.length_append], by simp only [go_sem, List.map_append] <;> rfl⟩
end Sg
namespace Sg
open _root_.Go (IntKind BinOp UnOp)
set_option linter.unusedSimpArgs false
set_option linter.unusedVariables false
set_option maxRecDepth 10000
variable {Pg : Nat → Option Fn}
theorem k422n (h : H422 Pg) (g : List UInt8) (l : List Int) (hl : ∀ n ∈ l, 0 ≤ n ∧ n < 2 ^ 63) (hb : g.length + 9 * l.length ≤ 2 ^ 24) :
    K' Pg 422 [.tuple [.lref 0 0, .tuple [.slice 1 (g.map rowB)]], .slice 1 (l.map fun a => [iz a])] = some (.tuple [.tuple [], .tuple [.tuple [.slice 1 ((g ++ numsB l).map rowB)]]]) := K422 h g l hl hb
theorem k457n (h : H457 Pg) (g : List UInt8) (l : List (List UInt8)) (hl : ∀ n ∈ l, n.length ≤ 2 ^ 20) (hb : g.length + (textsB l).length ≤ 2 ^ 24) :
    K' Pg 457 [.tuple [.lref 0 0, .tuple [.slice 1 (g.map rowB)]], .slice 1 (l.map fun t => [.str t])] = some (.tuple [.tuple [], .tuple [.tuple [.slice 1 ((g ++ textsB l).map rowB)]]]) := K457 h g l hl hb
theorem k421n (h : H421 Pg) (g : List UInt8) (l : List Stamp) (hl : ∀ n ∈ l, stampRight n = true) (hb : g.length + (stampsB l).length ≤ 2 ^ 24) :
    K' Pg 421 [.tuple [.lref 0 0, .tuple [.slice 1 (g.map rowB)]], .slice 3 (l.map eStamp)] = some (.tuple [.tuple [], .tuple [.tuple [.slice 1 ((g ++ stampsB l).map rowB)]]]) := K421 h g l hl hb
theorem k458n (h : H458 Pg) (g : List UInt8) (x : Bool) (hb : g.length ≤ 2 ^ 24) :
    K' Pg 458 [.tuple [.lref 0 0, .tuple [.slice 1 (g.map rowB)]], .bool x] = some (.tuple [.tuple [], .tuple [.tuple [.slice 1 ((g ++ flagB x).map rowB)]]]) := K458 h g x hb
theorem flat_tk {α : Type} {W : α → List UInt8} {l : List α} {i : Nat} : ((l.take i).flatMap W).length ≤ (l.flatMap W).length := by
  conv => rhs; rw [← List.take_append_drop i l]
  simp only [List.flatMap_append, List.length_append]; omega
def HWr (Pg : Nat → Option Fn) : Prop := H422 Pg ∧ H457 Pg ∧ H421 Pg ∧ H458 Pg
theorem ver423 (hw : HWr Pg) {g : List UInt8} {e : Entr} (he : EntV e) (hst : ∀ v ∈ e.chain, v.val.length ≤ 2 ^ 20) (hc : e.chain.length < 2 ^ 60) (hb : g.length + (e.chain.flatMap verB).length ≤ 2 ^ 24) {S : St} {Q : Ex → St → Prop} {x3 : List V} {w50 w51 w52 : V}
    (h50 : stay [7] w50 = true) (h51 : stay [7] w51 = true) (h52 : stay [7] w52 = true) (hx3 : x3.all V.datC = true)
    (s0 : S.ρ 0 = .lref 0 0) (s3 : S.ρ 3 = .lref 3 0) (s50 : S.ρ 50 = w50) (s51 : S.ρ 51 = w51) (s52 : S.ρ 52 = w52) (m3 : S.μ 3 = some (x3, false))
    (s68 : S.ρ 68 = .slice 5 (e.chain.map eVer)) (s69 : S.ρ 69 = iz e.chain.length) (s70 : S.ρ 70 = iz 0) {a : Nat} (hT : HW S 0 g a) (a9 : S.A 20900 = none)
    (hq : ∀ S', S'.ρ 0 = .lref 0 0 → S'.ρ 3 = .lref 3 0 → S'.ρ 50 = w50 → S'.ρ 51 = w51 → S'.ρ 52 = w52 → S'.μ 3 = some (x3, false) → HW S' 0 (g ++ e.chain.flatMap verB) 9000 → S'.A 20900 = none → Q .norm S') : Wp (K' Pg) l423_1 S (Blk 2 Q) := by
  obtain ⟨h422, h457, h421, h458⟩ := hw
  unfold l423_1
  refine wp_lp (fun (i : Nat) S => i ≤ e.chain.length ∧ S.ρ 0 = .lref 0 0 ∧ S.ρ 3 = .lref 3 0 ∧ S.ρ 50 = w50 ∧ S.ρ 51 = w51 ∧ S.ρ 52 = w52 ∧ S.μ 3 = some (x3, false) ∧ S.ρ 68 = .slice 5 (e.chain.map eVer) ∧ S.ρ 69 = iz e.chain.length ∧ S.ρ 70 = iz i ∧ HW S 0 (g ++ (e.chain.take i).flatMap verB) 9000 ∧ S.μ 7 = none ∧ S.A 20600 = none ∧ S.A 20700 = none ∧ S.A 20800 = none ∧ S.A 20900 = none) (fun i => e.chain.length - i) 0 ?_ ?_
  · have hA0 := hT.a
    have hh := HW.head (Wv := [7]) (Wa := [20600, 20700, 20800]) (h1 := 9000) hT rfl rfl
    exact ⟨Nat.zero_le _, head_ρs s0 rfl, head_ρs s3 rfl, head_ρs s50 h50, head_ρs s51 h51, head_ρs s52 h52, head_μs m3 hx3 rfl, head_ρs s68 rfl, head_ρs s69 rfl, head_ρs s70 rfl, by simpa using hh.1, head_μn (.inr rfl), hh.2.1 _ rfl, hh.2.1 _ rfl, hh.2.1 _ rfl, hh.2.2 _ (fun e => by rw [← e, a9] at hA0; cases hA0) (by decide) a9⟩
  · intro i S ⟨hi, s0, s3, s50, s51, s52, m3, s68, s69, s70, hT, n7, a1, a2, a3, a9⟩
    have hm := hT.m
    have hA := hT.a
    cases c1 : decide ((i : Int) < (e.chain.length : Int)) with
    | false =>
      have hil : i = e.chain.length := by have := of_decide_eq_false c1; omega
      rw [hil, List.take_length] at hT
      simp only [go_sem, s69, s70, c1]
      exact hq _ (by simp only [go_sem, s0]) (by simp only [go_sem, s3]) (by simp only [go_sem, s50]) (by simp only [go_sem, s51]) (by simp only [go_sem, s52]) m3 ⟨hT.m, hT.a⟩ a9
    | true =>
      have hlt := lt_of c1
      obtain ⟨v, hn, -⟩ := drop_at hlt
      have hinc : IntKind.i64.wrap ((i : Int) + 1) = ((i + 1 : Nat) : Int) := by rw [wrap64 (by omega) (by omega)]; omega
      have hmem := List.mem_of_getElem? hn
      have hv := he.2.2 v hmem
      have hvl := hst v hmem
      have htk : e.chain.take (i + 1) = e.chain.take i ++ [v] := by rw [List.take_add_one, hn]; rfl
      have hbl := flat_tk (W := verB) (l := e.chain) (i := i + 1)
      have hfull : g ++ (e.chain.take (i + 1)).flatMap verB = g ++ (e.chain.take i).flatMap verB ++ stB v.at_ ++ flagB v.gone ++ textB v.val := by rw [htk]; simp [verB]
      rw [htk, List.flatMap_append, List.length_append] at hbl
      simp only [List.flatMap_cons, List.flatMap_nil, List.append_nil, verB, List.length_append] at hbl
      generalize hg : g ++ (e.chain.take i).flatMap verB = g1 at *
      have hgl : g1.length = g.length + ((e.chain.take i).flatMap verB).length := by rw [← hg, List.length_append]
      have q1 := k421n h421 g1 [v.at_] (by simpa using hv.1.1) (by simp only [stampsB, List.flatMap_cons, List.flatMap_nil, List.append_nil]; omega)
      have q2 := k458n h458 (g1 ++ stampsB [v.at_]) v.gone (by simp only [stampsB, List.flatMap_cons, List.flatMap_nil, List.append_nil, List.length_append]; omega)
      have q3 := k457n h457 (g1 ++ stampsB [v.at_] ++ flagB v.gone) [v.val] (by simpa using hvl) (by simp only [stampsB, textsB, List.flatMap_cons, List.flatMap_nil, List.append_nil, List.length_append]; omega)
      simp only [stampsB, textsB, List.flatMap_cons, List.flatMap_nil, List.append_nil, List.map_cons, List.map_nil] at q1 q2 q3
      simp only [go_sem] at q1 q2 q3
      generalize stB v.at_ = b1 at *
      generalize flagB v.gone = b2 at *
      generalize textB v.val = b3 at *
      simp only [go_sem, rcall_e, s0, s68, s69, s70, c1, hn, hlt, hm, hA, n7, a1, a2, a3, q1, q2, q3, hinc, List.length_map]
      have hh := fun {S : St} {a : Nat} (h : HW S 0 (g1 ++ b1 ++ b2 ++ b3) a) => HW.head (Wv := [7]) (Wa := [20600, 20700, 20800]) (h1 := 9000) h rfl rfl
      have h4 := fun {S : St} (h : HW S 0 (g1 ++ b1 ++ b2 ++ b3) 20800) => hh h
      have hf : ∀ S, HW S 0 (g1 ++ b1 ++ b2 ++ b3) 9000 → HW S 0 (g ++ (e.chain.take (i + 1)).flatMap verB) 9000 := fun S h => by rw [hfull]; exact h
      refine ⟨i + 1, by omega, by omega, head_ρs (by simp only [go_sem, s0]) rfl, head_ρs (by simp only [go_sem, s3]) rfl, head_ρs (by simp only [go_sem, s50]) h50, head_ρs (by simp only [go_sem, s51]) h51, head_ρs (by simp only [go_sem, s52]) h52, head_μs (by simp only [go_sem, m3]) hx3 rfl, head_ρs (by simp only [go_sem, s68]) rfl, head_ρs (by simp only [go_sem, s69]) rfl, head_ρs (by simp only [go_sem]) rfl, hf _ (h4 ⟨?_, ?_⟩).1, head_μn (.inr rfl), (h4 ⟨?_, ?_⟩).2.1 _ rfl, (h4 ⟨?_, ?_⟩).2.1 _ rfl, (h4 ⟨?_, ?_⟩).2.1 _ rfl, (h4 ⟨?_, ?_⟩).2.2 _ (by decide) (by decide) ?_⟩
      all_goals simp only [go_sem, a9, List.length_append]
end Sg
namespace Sg
open _root_.Go (IntKind BinOp UnOp)
set_option linter.unusedSimpArgs false
set_option linter.unusedVariables false
set_option maxRecDepth 10000
variable {Pg : Nat → Option Fn}
def EntW (e : Entr) : Prop := EntV e ∧ e.key.length ≤ 2 ^ 20 ∧ (∀ v ∈ e.chain, v.val.length ≤ 2 ^ 20) ∧ e.chain.length < 2 ^ 60
theorem HW.out {S : St} {v : Nat} {b b' : List UInt8} {a : Nat} (h : HW S v b a) (e : b = b') : HW S v b' a := e ▸ h
theorem ent423 (hw : HWr Pg) {g : List UInt8} {es : List Entr} (he : ∀ e ∈ es, EntW e) (hc : es.length < 2 ^ 60) (hb : g.length + (es.flatMap entB).length + 100 ≤ 2 ^ 24) {S : St} {Q : Ex → St → Prop} {x3 : List V}
    (hx3 : x3.all V.datC = true)
    (s0 : S.ρ 0 = .lref 0 0) (s3 : S.ρ 3 = .lref 3 0) (m3 : S.μ 3 = some (x3, false))
    (s50 : S.ρ 50 = .slice 2 (es.map eEnt)) (s51 : S.ρ 51 = iz es.length) (s52 : S.ρ 52 = iz 0) {a : Nat} (hT : HW S 0 g a) (a9 : S.A 20900 = none)
    (hq : ∀ S', S'.ρ 0 = .lref 0 0 → S'.ρ 3 = .lref 3 0 → S'.μ 3 = some (x3, false) → HW S' 0 (g ++ es.flatMap entB) 9000 → S'.A 20900 = none → Q .norm S') : Wp (K' Pg) l423_0 S (Blk 0 Q) := by
  have hw0 := hw
  obtain ⟨h422, h457, h421, h458⟩ := hw
  unfold l423_0
  refine wp_lp (fun (i : Nat) S => i ≤ es.length ∧ S.ρ 0 = .lref 0 0 ∧ S.ρ 3 = .lref 3 0 ∧ S.μ 3 = some (x3, false) ∧ S.ρ 50 = .slice 2 (es.map eEnt) ∧ S.ρ 51 = iz es.length ∧ S.ρ 52 = iz i ∧ HW S 0 (g ++ (es.take i).flatMap entB) 9000 ∧ S.μ 5 = none ∧ S.A 20400 = none ∧ S.A 20500 = none ∧ S.A 20900 = none) (fun i => es.length - i) 0 ?_ ?_
  · have hA0 := hT.a
    have hh := HW.head (Wv := [5, 7]) (Wa := [20400, 20500, 20600, 20700, 20800]) (h1 := 9000) hT rfl rfl
    exact ⟨Nat.zero_le _, head_ρs s0 rfl, head_ρs s3 rfl, head_μs m3 hx3 rfl, head_ρs s50 rfl, head_ρs s51 rfl, head_ρs s52 rfl, by simpa using hh.1, head_μn (.inr rfl), hh.2.1 _ rfl, hh.2.1 _ rfl, hh.2.2 _ (fun e => by rw [← e, a9] at hA0; cases hA0) (by decide) a9⟩
  · intro i S ⟨hi, s0, s3, m3, s50, s51, s52, hT, n5, a1, a2, a9⟩
    have hm := hT.m
    have hA := hT.a
    cases c1 : decide ((i : Int) < (es.length : Int)) with
    | false =>
      have hil : i = es.length := by have := of_decide_eq_false c1; omega
      rw [hil, List.take_length] at hT
      simp only [go_sem, s51, s52, c1]
      exact hq _ (by simp only [go_sem, s0]) (by simp only [go_sem, s3]) m3 ⟨hT.m, hT.a⟩ a9
    | true =>
      have hlt := lt_of c1
      obtain ⟨e, hn, -⟩ := drop_at hlt
      have hinc : IntKind.i64.wrap ((i : Int) + 1) = ((i + 1 : Nat) : Int) := by rw [wrap64 (by omega) (by omega)]; omega
      obtain ⟨hv, hk, hvl, hcl⟩ := he e (List.mem_of_getElem? hn)
      have htk : es.take (i + 1) = es.take i ++ [e] := by rw [List.take_add_one, hn]; rfl
      have hbl := flat_tk (W := entB) (l := es) (i := i + 1)
      have hfull : g ++ (es.take (i + 1)).flatMap entB = g ++ (es.take i).flatMap entB ++ textB e.key ++ putB e.chain.length ++ e.chain.flatMap verB := by rw [htk]; simp [entB, lstB]
      rw [htk, List.flatMap_append, List.length_append] at hbl
      simp only [List.flatMap_cons, List.flatMap_nil, List.append_nil, entB, lstB, List.length_append] at hbl
      generalize hg : g ++ (es.take i).flatMap entB = g1 at *
      have hgl : g1.length = g.length + ((es.take i).flatMap entB).length := by rw [← hg, List.length_append]
      have q1 := k457n h457 g1 [e.key] (by simpa using hk) (by simp only [textsB, List.flatMap_cons, List.flatMap_nil, List.append_nil]; omega)
      have q2 := k422n h422 (g1 ++ textsB [e.key]) [(e.chain.length : Int)] (by simp only [List.mem_singleton, forall_eq]; omega) (by simp only [textsB, List.flatMap_cons, List.flatMap_nil, List.append_nil, List.length_append, List.length_cons, List.length_nil]; omega)
      simp only [numsB, textsB, List.flatMap_cons, List.flatMap_nil, List.append_nil, List.map_cons, List.map_nil, Int.toNat_natCast] at q1 q2
      simp only [go_sem, eChain, rcall_e, s0, s50, s51, s52, c1, hn, hlt, hm, hA, n5, a1, a2, q1, q2, List.length_map]
      refine ver423 hw0 (g := g1 ++ textB e.key ++ putB e.chain.length) (w50 := .slice 2 (es.map eEnt)) (w51 := iz es.length) (w52 := iz i) hv hvl hcl (by simp only [List.length_append]; omega) rfl rfl rfl hx3 (by simp only [go_sem, s0]) (by simp only [go_sem, s3]) (by simp only [go_sem, s50]) (by simp only [go_sem, s51]) (by simp only [go_sem, s52]) (by simp only [go_sem, m3]) (by simp only [go_sem]) (by simp only [go_sem]) (by simp only [go_sem]) (a := 20500) ⟨by simp only [go_sem, List.length_append], by simp only [go_sem]⟩ (by simp only [go_sem, a9]) fun S1 t0 t3 t50 t51 t52 u3 hT1 b9 => ?_
      have hh := HW.head (Wv := [5, 7]) (Wa := [20400, 20500, 20600, 20700, 20800]) (h1 := 9000) (S := ⟨upd S1.ρ 52 (iz ((i + 1 : Nat) : Int)), S1.μ, S1.A⟩) (v := 0) ⟨hT1.m, hT1.a⟩ rfl rfl
      simp only [go_sem, t52, hinc]
      refine ⟨i + 1, by omega, by omega, head_ρs (by simp only [go_sem, t0]) rfl, head_ρs (by simp only [go_sem, t3]) rfl, head_μs (by simp only [go_sem, u3]) hx3 rfl, head_ρs (by simp only [go_sem, t50]) rfl, head_ρs (by simp only [go_sem, t51]) rfl, head_ρs (by simp only [go_sem]) rfl, hh.1.out hfull.symm, head_μn (.inr rfl), hh.2.1 _ rfl, hh.2.1 _ rfl, hh.2.2 _ (by decide) (by decide) b9⟩
def DonW (d : Done) : Prop := (0 ≤ d.client ∧ d.client < 2 ^ 63) ∧ (0 ≤ d.req ∧ d.req < 2 ^ 63) ∧ (0 ≤ d.ans.err ∧ d.ans.err < 2 ^ 63) ∧ stampRight d.ans.at_ = true ∧ d.ans.val.length ≤ 2 ^ 20
theorem done423 (hw : HWr Pg) {g : List UInt8} {ds : List Done} (he : ∀ d ∈ ds, DonW d) (hc : ds.length < 2 ^ 60) (hb : g.length + (ds.flatMap doneB).length + 100 ≤ 2 ^ 24) {S : St} {Q : Ex → St → Prop}
    (s0 : S.ρ 0 = .lref 0 0) 
    (s97 : S.ρ 97 = .slice 11 (ds.map eDone)) (s98 : S.ρ 98 = iz ds.length) (s99 : S.ρ 99 = iz 0) {a : Nat} (hT : HW S 0 g a)
    (hq : ∀ S', HW S' 0 (g ++ ds.flatMap doneB) 9000 → Q .norm S') : Wp (K' Pg) l423_2 S (Blk 4 Q) := by
  have hw0 := hw
  obtain ⟨h422, h457, h421, h458⟩ := hw
  unfold l423_2
  refine wp_lp (fun (i : Nat) S => i ≤ ds.length ∧ S.ρ 0 = .lref 0 0 ∧ S.ρ 97 = .slice 11 (ds.map eDone) ∧ S.ρ 98 = iz ds.length ∧ S.ρ 99 = iz i ∧ HW S 0 (g ++ (ds.take i).flatMap doneB) 9000 ∧ S.μ 9 = none ∧ S.A 21000 = none ∧ S.A 21100 = none ∧ S.A 21200 = none ∧ S.A 21300 = none) (fun i => ds.length - i) 0 ?_ ?_
  · have hA0 := hT.a
    have hh := HW.head (Wv := [9]) (Wa := [21000, 21100, 21200, 21300]) (h1 := 9000) hT rfl rfl
    exact ⟨Nat.zero_le _, head_ρs s0 rfl, head_ρs s97 rfl, head_ρs s98 rfl, head_ρs s99 rfl, by simpa using hh.1, head_μn (.inr rfl), hh.2.1 _ rfl, hh.2.1 _ rfl, hh.2.1 _ rfl, hh.2.1 _ rfl⟩
  · intro i S ⟨hi, s0, s97, s98, s99, hT, n9, a1, a2, a3, a4⟩
    have hm := hT.m
    have hA := hT.a
    cases c1 : decide ((i : Int) < (ds.length : Int)) with
    | false =>
      have hil : i = ds.length := by have := of_decide_eq_false c1; omega
      rw [hil, List.take_length] at hT
      simp only [go_sem, s98, s99, c1]
      exact hq _ ⟨hT.m, hT.a⟩
    | true =>
      have hlt := lt_of c1
      obtain ⟨d, hn, -⟩ := drop_at hlt
      have hinc : IntKind.i64.wrap ((i : Int) + 1) = ((i + 1 : Nat) : Int) := by rw [wrap64 (by omega) (by omega)]; omega
      obtain ⟨d1, d2, d3, d4, d5⟩ := he d (List.mem_of_getElem? hn)
      have htk : ds.take (i + 1) = ds.take i ++ [d] := by rw [List.take_add_one, hn]; rfl
      have hbl := flat_tk (W := doneB) (l := ds) (i := i + 1)
      have hfull : g ++ (ds.take (i + 1)).flatMap doneB = g ++ (ds.take i).flatMap doneB ++ (putB d.client.toNat ++ (putB d.req.toNat ++ putB d.ans.err.toNat)) ++ stB d.ans.at_ ++ flagB d.ans.found ++ textB d.ans.val := by rw [htk]; simp [doneB]
      rw [htk, List.flatMap_append, List.length_append] at hbl
      simp only [List.flatMap_cons, List.flatMap_nil, List.append_nil, doneB, List.length_append] at hbl
      have p1 := putB_9.2 (show d.client.toNat < 2 ^ 63 by omega)
      have p2 := putB_9.2 (show d.req.toNat < 2 ^ 63 by omega)
      have p3 := putB_9.2 (show d.ans.err.toNat < 2 ^ 63 by omega)
      generalize hg : g ++ (ds.take i).flatMap doneB = g1 at *
      have hgl : g1.length = g.length + ((ds.take i).flatMap doneB).length := by rw [← hg, List.length_append]
      have q1 := k422n h422 g1 [d.client, d.req, d.ans.err] (by intro n hn; simp only [List.mem_cons, List.not_mem_nil, or_false] at hn; rcases hn with rfl | rfl | rfl <;> assumption) (by simp only [List.length_cons, List.length_nil]; omega)
      have q2 := k421n h421 (g1 ++ numsB [d.client, d.req, d.ans.err]) [d.ans.at_] (by simpa using d4) (by simp only [numsB, stampsB, List.flatMap_cons, List.flatMap_nil, List.append_nil, List.length_append]; omega)
      have q3 := k458n h458 (g1 ++ numsB [d.client, d.req, d.ans.err] ++ stampsB [d.ans.at_]) d.ans.found (by simp only [numsB, stampsB, List.flatMap_cons, List.flatMap_nil, List.append_nil, List.length_append]; omega)
      have q4 := k457n h457 (g1 ++ numsB [d.client, d.req, d.ans.err] ++ stampsB [d.ans.at_] ++ flagB d.ans.found) [d.ans.val] (by simpa using d5) (by simp only [numsB, stampsB, textsB, List.flatMap_cons, List.flatMap_nil, List.append_nil, List.length_append]; omega)
      simp only [numsB, stampsB, textsB, List.flatMap_cons, List.flatMap_nil, List.append_nil, List.map_cons, List.map_nil] at q1 q2 q3 q4
      simp only [go_sem] at q1 q2 q3 q4
      generalize putB d.client.toNat ++ (putB d.req.toNat ++ putB d.ans.err.toNat) = b0 at *
      generalize stB d.ans.at_ = b1 at *
      generalize flagB d.ans.found = b2 at *
      generalize textB d.ans.val = b3 at *
      simp only [go_sem, rcall_e, s0, s97, s98, s99, c1, hn, hlt, hm, hA, n9, a1, a2, a3, a4, q1, q2, q3, q4, hinc, List.length_map]
      have h4 := fun {S : St} (h : HW S 0 (g1 ++ b0 ++ b1 ++ b2 ++ b3) 21300) => HW.head (Wv := [9]) (Wa := [21000, 21100, 21200, 21300]) (h1 := 9000) h rfl rfl
      refine ⟨i + 1, by omega, by omega, head_ρs (by simp only [go_sem, s0]) rfl, head_ρs (by simp only [go_sem, s97]) rfl, head_ρs (by simp only [go_sem, s98]) rfl, head_ρs (by simp only [go_sem]) rfl, (h4 ⟨?_, ?_⟩).1.out hfull.symm, head_μn (.inr rfl), (h4 ⟨?_, ?_⟩).2.1 _ rfl, (h4 ⟨?_, ?_⟩).2.1 _ rfl, (h4 ⟨?_, ?_⟩).2.1 _ rfl, (h4 ⟨?_, ?_⟩).2.1 _ rfl⟩
      all_goals simp only [go_sem, List.length_append]
def ShdW (s : Shd) : Prop := (∀ n ∈ [s.id, s.epoch, s.phase, s.hold, s.seen, s.move, s.closed], 0 ≤ n ∧ n < 2 ^ 63) ∧ s.span.lo.length ≤ 2 ^ 20 ∧ s.span.hi.length ≤ 2 ^ 20 ∧ stampRight s.mark = true ∧ stampRight s.top = true ∧
  (∀ e ∈ s.ents, EntW e) ∧ s.ents.length < 2 ^ 60 ∧ (∀ d ∈ s.done, DonW d) ∧ s.done.length < 2 ^ 60
def H423 (Pg : Nat → Option Fn) : Prop := Pg 423 = some (.codeR F423 0) ∧ H422 Pg ∧ H457 Pg ∧ H421 Pg ∧ H458 Pg
set_option maxHeartbeats 1000000 in
theorem K423 (h : H423 Pg) (b : List UInt8) (s : Shd) (hs : ShdW s) (hb : b.length + (shB s).length + 300 ≤ 2 ^ 24) :
    K' Pg 423 [.tuple (.lref 0 0 :: eWrT b), .agg (eShd s)] = some (.tuple [.tuple [], .tuple (eWrT (b ++ shB s))]) := by
  obtain ⟨h, hw⟩ := h
  have hw0 : HWr Pg := hw
  obtain ⟨h422, h457, h421, h458⟩ := hw
  obtain ⟨n7, lo, hi, mk, tp, he, hel, hd, hdl⟩ := hs
  have hbl := hb
  simp only [shB, lstB, List.length_append] at hbl
  have q1 := k422n h422 b [s.id, s.epoch, s.phase, s.hold, s.seen, s.move, s.closed] n7 (by simp only [List.length_cons, List.length_nil]; omega)
  have hnl := numsB_len (l := [s.id, s.epoch, s.phase, s.hold, s.seen, s.move, s.closed]) fun m hm => by have := n7 m hm; omega
  simp only [List.length_cons, List.length_nil] at hnl
  have hne : numsB [s.id, s.epoch, s.phase, s.hold, s.seen, s.move, s.closed] = putB s.id.toNat ++ (putB s.epoch.toNat ++ (putB s.phase.toNat ++ (putB s.hold.toNat ++ (putB s.seen.toNat ++ (putB s.move.toNat ++ putB s.closed.toNat))))) := by simp [numsB]
  have hsh : shB s = numsB [s.id, s.epoch, s.phase, s.hold, s.seen, s.move, s.closed] ++ (textsB [s.span.lo, s.span.hi] ++ (stampsB [s.mark, s.top] ++ (numsB [(s.ents.length : Int)] ++ (s.ents.flatMap entB ++ (numsB [(s.done.length : Int)] ++ s.done.flatMap doneB))))) := by
    simp [shB, lstB, numsB, textsB, stampsB]
  have hlen : (shB s).length = (numsB [s.id, s.epoch, s.phase, s.hold, s.seen, s.move, s.closed]).length + ((textsB [s.span.lo, s.span.hi]).length + ((stampsB [s.mark, s.top]).length + ((numsB [(s.ents.length : Int)]).length + ((s.ents.flatMap entB).length + ((numsB [(s.done.length : Int)]).length + (s.done.flatMap doneB).length))))) := by
    rw [hsh]; simp only [List.length_append]
  rw [hsh]
  generalize numsB [s.id, s.epoch, s.phase, s.hold, s.seen, s.move, s.closed] = c1 at *
  have q2 := k457n h457 (b ++ c1) [s.span.lo, s.span.hi] (by simpa using ⟨lo, hi⟩) (by simp only [List.length_append]; omega)
  generalize textsB [s.span.lo, s.span.hi] = c2 at *
  have q3 := k421n h421 (b ++ c1 ++ c2) [s.mark, s.top] (by simpa using ⟨mk, tp⟩) (by simp only [List.length_append]; omega)
  generalize stampsB [s.mark, s.top] = c3 at *
  have q4 := k422n h422 (b ++ c1 ++ c2 ++ c3) [(s.ents.length : Int)] (by simp only [List.mem_singleton, forall_eq]; omega) (by simp only [List.length_append, List.length_cons, List.length_nil]; omega)
  generalize numsB [(s.ents.length : Int)] = c4 at *
  generalize hc5 : s.ents.flatMap entB = c5 at *
  have q6 := k422n h422 (b ++ c1 ++ c2 ++ c3 ++ c4 ++ c5) [(s.done.length : Int)] (by simp only [List.mem_singleton, forall_eq]; omega) (by simp only [List.length_append, List.length_cons, List.length_nil]; omega)
  generalize numsB [(s.done.length : Int)] = c6 at *
  generalize hc7 : s.done.flatMap doneB = c7 at *
  simp only [List.map_cons, List.map_nil] at q1 q2 q3 q4 q6
  simp only [go_sem] at q1 q2 q3 q4 q6
  refine K'_wr h rfl rfl fun S0 ⟨r0, r, hT0, m0, a0⟩ => ?_
  have r1 := r 0
  simp only [get_z, Option.getD_some] at r1
  simp only [go_sem] at r1
  have hm := hT0.m
  have hA := hT0.a
  have m3 := m0 3 rfl
  have a1 := a0 20000 (by decide)
  have a2 := a0 20100 (by decide)
  have a3 := a0 20200 (by decide)
  have a4 := a0 20300 (by decide)
  have a9 := a0 20900 (by decide)
  simp only [F423, c423, go_sem, rcall_e, r0, r1, hm, hA, m3, a1, a2, a3, a4, q1, q2, q3, q4, List.length_map]
  refine ent423 hw0 (g := b ++ c1 ++ c2 ++ c3 ++ c4) (es := s.ents) (x3 := eShd s) he hel (by simp only [List.length_append, hc5]; omega) rfl (by simp only [go_sem, r0]) (by simp only [go_sem]) (by simp only [go_sem]) (by simp only [go_sem]) (by simp only [go_sem]) (by simp only [go_sem]) (a := 20300) ⟨by simp only [go_sem, List.length_append], by simp only [go_sem]⟩ (by simp only [go_sem, a9]) fun S1 t0 t3 u3 hT1 b9 => ?_
  rw [hc5] at hT1
  have hm1 := hT1.m
  have hA1 := hT1.a
  simp only [go_sem] at u3
  simp only [go_sem, rcall_e, t0, t3, u3, hm1, hA1, b9, q6, List.length_map]
  refine done423 hw0 (g := b ++ c1 ++ c2 ++ c3 ++ c4 ++ c5 ++ c6) (ds := s.done) hd hdl (by simp only [List.length_append, hc7]; omega) (by simp only [go_sem, t0]) (by simp only [go_sem]) (by simp only [go_sem]) (by simp only [go_sem]) (a := 20900) ⟨by simp only [go_sem, List.length_append], by simp only [go_sem]⟩ fun S2 hT2 => ?_
  rw [hc7] at hT2
  simp only [go_sem]
  exact ⟨9000, hT2.out (by simp)⟩
end Sg
namespace Sg
open _root_.Go (IntKind BinOp UnOp)
set_option linter.unusedSimpArgs false
set_option linter.unusedVariables false
set_option maxRecDepth 10000
variable {Pg : Nat → Option Fn}
theorem putB_1 {n : Nat} (h : n < 128) : (putB n).length ≤ 1 := (putB_len 0 n).2 (by simpa using h)
theorem putB_3 {n : Nat} (h : n < 2 ^ 21) : (putB n).length ≤ 3 := (putB_len 2 n).2 (by simpa using h)
theorem putB_2 {n : Nat} (h : n < 2 ^ 14) : (putB n).length ≤ 2 := (putB_len 1 n).2 (by simpa using h)
theorem putB_6 {n : Nat} (h : n < 2 ^ 42) : (putB n).length ≤ 6 := (putB_len 5 n).2 (by simpa using h)
theorem flat_mx {α : Type} {W : α → List UInt8} {k : Nat} : ∀ {l : List α}, (∀ a ∈ l, (W a).length ≤ k) → (l.flatMap W).length ≤ k * l.length
  | [], _ => by simp
  | a :: l, h => by
    have h1 := h a (List.mem_cons_self ..)
    have h2 := flat_mx (l := l) fun b hb => h b (List.mem_cons_of_mem _ hb)
    simp only [List.flatMap_cons, List.length_append, List.length_cons, Nat.mul_succ]; omega
theorem st_max {s : Stamp} (h : stampRight s = true) : (stB s).length ≤ 11 := by
  simp only [stampRight, within, Bool.and_eq_true, decide_eq_true_eq] at h
  have h1 := putB_6 (n := s.wall.toNat) (by omega)
  have h2 := putB_3 (n := s.tick.toNat) (by omega)
  have h3 := putB_2 (n := s.node.toNat) (by omega)
  simp only [stB, List.length_append]; omega
theorem text_max {t : List UInt8} (h : t.length ≤ 16) : (textB t).length ≤ 17 := by
  have := putB_1 (n := t.length) (by omega)
  simp only [textB, List.length_append]; omega
theorem flag_max {x : Bool} : (flagB x).length = 1 := by simp [flagB]
theorem ver_max {v : Ver} (h : verRight v = true) : (verB v).length ≤ 29 := by
  simp only [verRight, Bool.and_eq_true, decide_eq_true_eq] at h
  have h1 := st_max h.1.1
  have h2 := text_max h.1.2
  have h3 := flag_max (x := v.gone)
  simp only [verB, List.length_append]; omega
theorem ent_max {e : Entr} (h : entR e = true) : (entB e).length ≤ 1874 := by
  simp only [entR, chainRight, Bool.and_eq_true, decide_eq_true_eq] at h
  obtain ⟨h1, h2, h3, h4⟩ := h
  have k1 := text_max (keyR_len h1).1
  have k2 := putB_1 (n := e.chain.length) (by omega)
  have k3 := flat_mx (W := verB) (l := e.chain) (k := 29) fun v hv => ver_max (chR_all h3 v hv)
  simp only [entB, lstB, List.length_append]; omega
theorem row_num {d : Done} (h : rowR d = true) : (0 ≤ d.client ∧ d.client ≤ 1099511627776) ∧ (0 ≤ d.req ∧ d.req ≤ 1099511627776) ∧ (0 ≤ d.ans.err ∧ d.ans.err < 128) ∧ stampRight d.ans.at_ = true ∧ d.ans.val.length ≤ 16 := by
  simp only [rowR, numD, plainA, Bool.and_eq_true, decide_eq_true_eq, Bool.not_eq_true'] at h
  obtain ⟨⟨h1, h2⟩, ⟨h3, h4⟩, c1, c2, c3, c4, c5, c6, c7⟩ := h
  exact ⟨⟨by omega, by omega⟩, ⟨by omega, by omega⟩, ⟨by omega, by omega⟩, c3, c4⟩
theorem done_max {d : Done} (h : rowR d = true) : (doneB d).length ≤ 42 := by
  obtain ⟨h1, h2, h3, h4, h5⟩ := row_num h
  have k1 := putB_6 (n := d.client.toNat) (by omega)
  have k2 := putB_6 (n := d.req.toNat) (by omega)
  have k3 := putB_1 (n := d.ans.err.toNat) (by omega)
  have k4 := st_max h4
  have k5 := text_max h5
  have k6 := flag_max (x := d.ans.found)
  simp only [doneB, List.length_append]; omega
theorem nou_le {n : Int} (h : nou n = true) : 0 ≤ n ∧ n ≤ 1099511627776 := by simpa [nou] using h
theorem shd_w {s : Shd} (hr : shR s = true) : ShdW s ∧ (shB s).length ≤ 121000 := by
  simp only [shR, shR0, numD, spanR, ixR, rightT, Bool.and_eq_true, Bool.or_eq_true, decide_eq_true_eq, List.all_eq_true] at hr
  obtain ⟨⟨⟨a1, a2⟩, ⟨b1, b2⟩, c1, d1, e1, f1, g1, g2, ⟨i1, i2⟩, ⟨j1, j2⟩, k1, k2, l1, l2⟩, -⟩ := hr
  have c1 := nou_le c1
  have d1 := nou_le d1
  have e1 := nou_le e1
  have f1 := nou_le f1
  have lo : s.span.lo.length ≤ 16 := by
    rcases i1 with i1 | i1
    · rw [i1]; simp
    · exact (keyR_len i1).1
  have hi : s.span.hi.length ≤ 16 := by
    rcases i2 with i2 | i2
    · rw [i2]; simp
    · exact (keyR_len i2.1).1
  have q1 := putB_6 (n := s.id.toNat) (by omega)
  have q2 := putB_6 (n := s.epoch.toNat) (by omega)
  have q3 := putB_1 (n := s.phase.toNat) (by omega)
  have q4 := putB_6 (n := s.hold.toNat) (by omega)
  have q5 := putB_6 (n := s.seen.toNat) (by omega)
  have q6 := putB_6 (n := s.move.toNat) (by omega)
  have q7 := putB_6 (n := s.closed.toNat) (by omega)
  have q8 := text_max lo
  have q9 := text_max hi
  have q10 := st_max k1
  have q11 := st_max k2
  have q12 := putB_1 (n := s.ents.length) (by omega)
  have q13 := putB_1 (n := s.done.length) (by omega)
  have q14 := flat_mx (W := entB) (l := s.ents) (k := 1874) fun e he => ent_max (ixG_all j2 e he)
  have q15 := flat_mx (W := doneB) (l := s.done) (k := 42) fun d hd => done_max (rtR_all' l1 d hd)
  refine ⟨⟨?_, by omega, by omega, k1, k2, fun e he => ?_, by omega, fun d hd => ?_, by omega⟩, ?_⟩
  · intro n hn
    simp only [List.mem_cons, List.not_mem_nil, or_false] at hn
    rcases hn with rfl | rfl | rfl | rfl | rfl | rfl | rfl <;> omega
  · have h0 := ixG_all j2 e he
    have h1 := h0
    simp only [entR, chainRight, Bool.and_eq_true, decide_eq_true_eq] at h1
    refine ⟨ent_ok h0, by have := (keyR_len h1.1).1; omega, fun v hv => ?_, by omega⟩
    have := chR_all h1.2.2.1 v hv
    simp only [verRight, Bool.and_eq_true, decide_eq_true_eq] at this
    omega
  · obtain ⟨h1, h2, h3, h4, h5⟩ := row_num (rtR_all' l1 d hd)
    exact ⟨by omega, by omega, by omega, h4, by omega⟩
  · simp only [shB, lstB, List.length_append]; omega
theorem cgo_all {top : Stamp} : ∀ {l : List Shd} {p : Int}, cgo top p l = true → ∀ s ∈ l, shR s = true
  | [], _, _, s, hs => by cases hs
  | x :: l, p, h, s, hs => by
    simp only [cgo, Bool.and_eq_true] at h
    rcases List.mem_cons.1 hs with rfl | hs
    · exact h.2.1
    · exact cgo_all h.2.2.2 s hs
theorem cel_r {c : Cel} (h : celR c = true) : c.shards.length ≤ 8 ∧ stampRight c.top = true ∧ (0 ≤ c.dropped ∧ c.dropped ≤ 1099511627776) ∧ ∀ s ∈ c.shards, shR s = true := by
  simp only [celR, Bool.and_eq_true, decide_eq_true_eq] at h
  exact ⟨h.1, h.2.1, nou_le h.2.2.1, cgo_all h.2.2.2⟩
theorem cel_max {c : Cel} (h : celR c = true) : (cB c).length ≤ 968030 := by
  obtain ⟨h1, h2, h3, h4⟩ := cel_r h
  have k1 := st_max h2
  have k2 := putB_6 (n := c.dropped.toNat) (by omega)
  have k3 := putB_1 (n := c.shards.length) (by omega)
  have k4 := flat_mx (W := shB) (l := c.shards) (k := 121000) fun s hs => (shd_w (h4 s hs)).2
  simp only [cB, lstB, List.length_append]; omega
theorem shd_small {s : Shd} (hr : shR s = true) : SmS s := by
  have h0 := hr
  simp only [shR, shR0, numD, spanR, ixR, rightT, Bool.and_eq_true, Bool.or_eq_true, decide_eq_true_eq, List.all_eq_true] at hr
  obtain ⟨⟨⟨a1, a2⟩, ⟨b1, b2⟩, c1, d1, e1, f1, g1, g2, ⟨i1, i2⟩, ⟨j1, j2⟩, k1, k2, l1, l2⟩, -⟩ := hr
  have lo : s.span.lo.length ≤ 16 := by
    rcases i1 with i1 | i1
    · rw [i1]; simp
    · exact (keyR_len i1).1
  have hi : s.span.hi.length ≤ 16 := by
    rcases i2 with i2 | i2
    · rw [i2]; simp
    · exact (keyR_len i2.1).1
  refine ⟨⟨by omega, fun e he => ?_⟩, by omega, fun d hd => ?_, by omega, by omega⟩
  · have h1 := ixG_all j2 e he
    simp only [entR, chainRight, Bool.and_eq_true, decide_eq_true_eq] at h1
    have := (keyR_len h1.1).1
    omega
  · have := rtR_all' l1 d hd
    simp only [rowR, numD, plainA, Bool.and_eq_true, decide_eq_true_eq, Bool.not_eq_true'] at this
    obtain ⟨-, -, -, -, -, -, c5, -, -⟩ := this
    rw [c5]; simp
theorem cel_small {c : Cel} (h : celR c = true) : SmC c := by
  obtain ⟨h1, h2, h3, h4⟩ := cel_r h
  exact ⟨by omega, fun s hs => shd_small (h4 s hs)⟩
end Sg
namespace Sg
open _root_.Go (IntKind BinOp UnOp)
set_option linter.unusedSimpArgs false
set_option linter.unusedVariables false
set_option maxRecDepth 10000
variable {Pg : Nat → Option Fn}
theorem shd401 (h423 : H423 Pg) {g : List UInt8} {ss : List Shd} (he : ∀ s ∈ ss, shR s = true) (hc : ss.length < 2 ^ 60) (hb : g.length + (ss.flatMap shB).length + 300 ≤ 2 ^ 24) {S : St} {Q : Ex → St → Prop}
    (s4 : S.ρ 4 = .lref 4 0) (s22 : S.ρ 22 = .slice 17 (ss.map eShd)) (s23 : S.ρ 23 = iz ss.length) (s24 : S.ρ 24 = iz 0) {a : Nat} (hT : HW S 4 g a)
    (hq : ∀ S', S'.ρ 4 = .lref 4 0 → HW S' 4 (g ++ ss.flatMap shB) 10400 → Q .norm S') : Wp (K' Pg) l401_0 S (Blk 0 Q) := by
  unfold l401_0
  refine wp_lp (fun (i : Nat) S => i ≤ ss.length ∧ S.ρ 4 = .lref 4 0 ∧ S.ρ 22 = .slice 17 (ss.map eShd) ∧ S.ρ 23 = iz ss.length ∧ S.ρ 24 = iz i ∧ HW S 4 (g ++ (ss.take i).flatMap shB) 10400 ∧ S.μ 6 = none ∧ S.A 20200 = none) (fun i => ss.length - i) 0 ?_ ?_
  · have hh := HW.head (Wv := [6]) (Wa := [20200]) (h1 := 10400) hT rfl rfl
    exact ⟨Nat.zero_le _, head_ρs s4 rfl, head_ρs s22 rfl, head_ρs s23 rfl, head_ρs s24 rfl, by simpa using hh.1, head_μn (.inr rfl), hh.2.1 _ rfl⟩
  · intro i S ⟨hi, s4, s22, s23, s24, hT, n6, a1⟩
    have hm := hT.m
    have hA := hT.a
    cases c1 : decide ((i : Int) < (ss.length : Int)) with
    | false =>
      have hil : i = ss.length := by have := of_decide_eq_false c1; omega
      rw [hil, List.take_length] at hT
      simp only [go_sem, s23, s24, c1]
      exact hq _ (by simp only [go_sem, s4]) ⟨hT.m, hT.a⟩
    | true =>
      have hlt := lt_of c1
      obtain ⟨s, hn, -⟩ := drop_at hlt
      have hinc : IntKind.i64.wrap ((i : Int) + 1) = ((i + 1 : Nat) : Int) := by rw [wrap64 (by omega) (by omega)]; omega
      have hs := he s (List.mem_of_getElem? hn)
      have htk : ss.take (i + 1) = ss.take i ++ [s] := by rw [List.take_add_one, hn]; rfl
      have hbl := flat_tk (W := shB) (l := ss) (i := i + 1)
      have hfull : g ++ (ss.take (i + 1)).flatMap shB = g ++ (ss.take i).flatMap shB ++ shB s := by rw [htk]; simp
      rw [htk, List.flatMap_append, List.length_append] at hbl
      simp only [List.flatMap_cons, List.flatMap_nil, List.append_nil] at hbl
      generalize hg : g ++ (ss.take i).flatMap shB = g1 at *
      have hgl : g1.length = g.length + ((ss.take i).flatMap shB).length := by rw [← hg, List.length_append]
      have q1 := K423 h423 g1 s (shd_w hs).1 (by omega)
      simp only [eWrT] at q1
      simp only [go_sem] at q1
      generalize shB s = b1 at *
      simp only [go_sem, rcall_e, s4, s22, s23, s24, c1, hn, hlt, hm, hA, n6, a1, q1, hinc, List.length_map]
      have h4 := fun {S : St} (h : HW S 4 (g1 ++ b1) 20200) => HW.head (Wv := [6]) (Wa := [20200]) (h1 := 10400) h rfl rfl
      refine ⟨i + 1, by omega, by omega, head_ρs (by simp only [go_sem, s4]) rfl, head_ρs (by simp only [go_sem, s22]) rfl, head_ρs (by simp only [go_sem, s23]) rfl, head_ρs (by simp only [go_sem]) rfl, (h4 ⟨?_, ?_⟩).1.out hfull.symm, head_μn (.inr rfl), (h4 ⟨?_, ?_⟩).2.1 _ rfl⟩
      all_goals simp only [go_sem, List.length_append]
def H401 (Pg : Nat → Option Fn) : Prop := Pg 401 = some (.code F401) ∧ H249 Pg ∧ H421 Pg ∧ H422 Pg ∧ H423 Pg
set_option maxHeartbeats 1000000 in
theorem K401 (h : H401 Pg) (c : Cel) (hs : SmC c) : K' Pg 401 [.agg (eCel c)] = some (if celR c = true then .tuple [.str (cB c), iz 0] else .tuple [.str [], iz 1]) := by
  obtain ⟨h, h249, h421, h422, h423⟩ := h
  have k1 := K249 h249 c hs
  simp only [go_sem] at k1
  refine K'_code h rfl ?_
  cases c1 : celR c with
  | false =>
    rw [if_neg (by simp)]
    rw [c1] at k1
    simp only [F401, c401, go_sem, k1]
  | true =>
    rw [if_pos rfl]
    rw [c1] at k1
    obtain ⟨r1, r2, r3, r4⟩ := cel_r c1
    have hl := cel_max c1
    simp only [cB, lstB, List.length_append] at hl
    have q1 := k421n h421 [] [c.top] (by simpa using r2) (by simp only [stampsB, List.flatMap_cons, List.flatMap_nil, List.append_nil, List.length_nil]; omega)
    have q2 := k422n h422 ([] ++ stampsB [c.top]) [c.dropped, (c.shards.length : Int)] (by simp only [List.mem_cons, List.not_mem_nil, or_false, forall_eq_or_imp, forall_eq]; omega) (by simp only [stampsB, List.flatMap_cons, List.flatMap_nil, List.append_nil, List.length_append, List.length_cons, List.length_nil]; omega)
    have hcb : cB c = stampsB [c.top] ++ numsB [c.dropped, (c.shards.length : Int)] ++ c.shards.flatMap shB := by simp [cB, lstB, stampsB, numsB]
    have hn : (numsB [c.dropped, (c.shards.length : Int)]).length = (putB c.dropped.toNat).length + (putB c.shards.length).length := by simp [numsB]
    have ht : (stampsB [c.top]).length = (stB c.top).length := by simp [stampsB]
    simp only [List.nil_append, List.map_cons, List.map_nil] at q1 q2
    simp only [go_sem] at q1 q2
    rw [hcb]
    generalize stampsB [c.top] = b1 at *
    generalize numsB [c.dropped, (c.shards.length : Int)] = b2 at *
    simp only [F401, c401, go_sem, rcall_e, k1, q1, q2, List.length_map]
    refine shd401 h423 (g := b1 ++ b2) (ss := c.shards) r4 (by omega) (by simp only [List.length_append]; omega) (by simp only [go_sem]) (by simp only [go_sem]) (by simp only [go_sem]) (by simp only [go_sem]) (a := 20100) ⟨by simp only [go_sem, List.length_append], by simp only [go_sem]⟩ fun S1 t4 hT1 => ?_
    have hm1 := hT1.m
    have hA1 := hT1.a
    have hb := bytes_map (b1 ++ b2 ++ c.shards.flatMap shB)
    simp only [rowsB_str] at hb
    simp only [go_sem, t4, hm1, hA1, hb, List.length_map]
end Sg
namespace Sg
open _root_.Go (IntKind BinOp UnOp)
set_option linter.unusedSimpArgs false
set_option linter.unusedVariables false
set_option maxRecDepth 10000
variable {Pg : Nat → Option Fn}
theorem K487i (h : H487 Pg) (n : Int) (h0 : 0 ≤ n) (h1 : n < 2 ^ 63) : K' Pg 487 [iz n] = some (.tuple [.str (putB n.toNat), iz 0]) := by
  have := K487 h n.toNat (by omega)
  rw [show ((n.toNat : Nat) : Int) = n by omega] at this
  exact this
def H460 (Pg : Nat → Option Fn) : Prop := Pg 460 = some (.code F460) ∧ H487 Pg
theorem K460 (h : H460 Pg) (n : Int) (h0 : 0 ≤ n) (h1 : n < 2 ^ 63) : K' Pg 460 [iz n] = some (.str (putB n.toNat)) := by
  obtain ⟨h, h487⟩ := h
  have k := K487i h487 n h0 h1
  refine K'_code h rfl ?_
  simp only [F460, c460, go_sem, k]
def H503 (Pg : Nat → Option Fn) : Prop := Pg 503 = some (.code F503) ∧ H487 Pg
theorem K503 (h : H503 Pg) (t : List UInt8) (ht : t.length < 2 ^ 61) : K' Pg 503 [.str t] = some (.str (textB t)) := by
  obtain ⟨h, h487⟩ := h
  have k := K487 h487 t.length (by omega)
  have hl : (putB t.length).length + t.length ≤ 4611686018427387904 := by have := putB_9.2 (show t.length < 2 ^ 63 by omega); omega
  refine K'_code h rfl ?_
  simp only [F503, c503, go_sem, k, hl, textB]
def H488 (Pg : Nat → Option Fn) : Prop := Pg 488 = some (.code F488) ∧ H503 Pg
theorem K488 (h : H488 Pg) (t : List UInt8) (ht : t.length < 2 ^ 61) : K' Pg 488 [.str t] = some (.str (textB t)) := by
  obtain ⟨h, h503⟩ := h
  have k := K503 h503 t ht
  refine K'_code h rfl ?_
  simp only [F488, c488, go_sem, k]
def H504 (Pg : Nat → Option Fn) : Prop := Pg 504 = some (.code F504)
theorem K504 (h : H504 Pg) (b : Bool) : K' Pg 504 [.bool b] = some (.str (flagB b)) := by
  refine K'_code h rfl ?_
  cases b <;> simp only [F504, c504, go_sem, flagB] <;> rfl
def H489 (Pg : Nat → Option Fn) : Prop := Pg 489 = some (.code F489) ∧ H504 Pg
theorem K489 (h : H489 Pg) (b : Bool) : K' Pg 489 [.bool b] = some (.str (flagB b)) := by
  obtain ⟨h, h504⟩ := h
  have k := K504 h504 b
  refine K'_code h rfl ?_
  simp only [F489, c489, go_sem, k]
def H459 (Pg : Nat → Option Fn) : Prop := Pg 459 = some (.code F459) ∧ H486 Pg
theorem K459 (h : H459 Pg) (s : Stamp) (hs : stampRight s = true) : K' Pg 459 [.agg (eStamp s)] = some (.str (stB s)) := by
  obtain ⟨h, h486⟩ := h
  have k := K486 h486 s hs
  simp only [go_sem] at k
  refine K'_code h rfl ?_
  simp only [F459, c459, go_sem, k]
end Sg
namespace Sg
open _root_.Go (IntKind BinOp UnOp)
set_option linter.unusedSimpArgs false
set_option linter.unusedVariables false
set_option maxRecDepth 10000
variable {Pg : Nat → Option Fn}
theorem flat_take {α : Type} {W : α → List UInt8} {l : List α} {j : Nat} : ((l.take j).flatMap W).length ≤ (l.flatMap W).length := by
  conv => rhs; rw [← List.take_append_drop j l]
  simp only [List.flatMap_append, List.length_append]; omega
theorem flat_snoc {α : Type} {W : α → List UInt8} {l : List α} {j : Nat} {x : α} (h : l[j]? = some x) : (l.take (j + 1)).flatMap W = (l.take j).flatMap W ++ W x := by
  rw [List.take_add_one, h]; simp
theorem ver461 (h459 : H459 Pg) (h489 : H489 Pg) (h488 : H488 Pg) {sh : Shd} {key g : List UInt8} {chain : List Ver} {I : Nat} (hc : ∀ v ∈ chain, stampRight v.at_ = true ∧ v.val.length ≤ 2 ^ 20) (hn : chain.length ≤ 2 ^ 20) (hg : g.length + (chain.flatMap verB).length ≤ 2 ^ 40)
    {S : St} {Q : Ex → St → Prop} (s1 : S.ρ 1 = .lref 1 0) (s3 : S.ρ 3 = .str g) (s4 : S.ρ 4 = iz I) (s5 : S.ρ 5 = .lref 5 0) (s6 : S.ρ 6 = iz 0) (n1 : S.μ 1 = some (eShd sh, false)) (n5 : S.μ 5 = some ([.str key, eChain chain], false)) (n8 : S.μ 8 = none)
    (hq : ∀ S', S'.ρ 1 = .lref 1 0 → S'.ρ 3 = .str (g ++ chain.flatMap verB) → S'.ρ 4 = iz I → S'.μ 1 = some (eShd sh, false) → S'.μ 8 = none → Q .norm S') : Wp (K' Pg) l461_1 S (Blk 2 Q) := by
  unfold l461_1
  refine wp_lp (fun (j : Nat) S' => j ≤ chain.length ∧ S'.ρ 1 = .lref 1 0 ∧ S'.ρ 3 = .str (g ++ (chain.take j).flatMap verB) ∧ S'.ρ 4 = iz I ∧ S'.ρ 5 = .lref 5 0 ∧ S'.ρ 6 = iz j ∧ S'.μ 1 = some (eShd sh, false) ∧ S'.μ 5 = some ([.str key, eChain chain], false) ∧ S'.μ 8 = none) (fun j => chain.length - j) 0 ?_ ?_
  · simp only [head_nil]
    exact ⟨Nat.zero_le _, s1, by rw [s3]; simp, s4, s5, s6, n1, n5, n8⟩
  · intro j S' ⟨hj, t1, t3, t4, t5, t6, m1, m5, m8⟩
    simp only [eChain] at m5
    cases c1 : decide ((j : Int) < (chain.length : Int)) with
    | false =>
      have hjm : j = chain.length := by have := of_decide_eq_false c1; omega
      subst hjm
      rw [List.take_length] at t3
      simp only [go_sem, t5, t6, m5, c1, List.length_map]
      exact hq _ (by simp only [go_sem, t1]) (by simp only [go_sem, t3]) (by simp only [go_sem, t4]) m1 m8
    | true =>
      have hlt := lt_of c1
      obtain ⟨v, hv, -⟩ := drop_at hlt
      obtain ⟨v1, v2⟩ := hc v (List.mem_of_getElem? hv)
      have hinc : IntKind.i64.wrap ((j : Int) + 1) = ((j + 1 : Nat) : Int) := by rw [wrap64 (by omega) (by omega)]; omega
      have k1 := K459 h459 v.at_ v1
      have k2 := K489 h489 v.gone
      have k3 := K488 h488 v.val (by omega)
      have hsn := flat_snoc (W := verB) hv
      have hle := flat_take (W := verB) (l := chain) (j := j + 1)
      rw [hsn, List.length_append] at hle
      simp only [verB, List.length_append] at hle
      generalize hG : g ++ (chain.take j).flatMap verB = G at *
      have hGl : G.length = g.length + ((chain.take j).flatMap verB).length := by rw [← hG, List.length_append]
      have b1 : G.length + (stB v.at_).length ≤ 4611686018427387904 := by omega
      have b2 : G.length + (stB v.at_).length + (flagB v.gone).length ≤ 4611686018427387904 := by omega
      have b3 : G.length + (stB v.at_).length + (flagB v.gone).length + (textB v.val).length ≤ 4611686018427387904 := by omega
      simp only [go_sem] at k1
      simp only [go_sem, t1, t3, t4, t5, t6, m5, c1, hv, hlt, k1, k2, k3, hinc, b1, b2, b3, List.length_map, List.length_append, head_nil]
      refine ⟨j + 1, by omega, by omega, by rw [hsn, ← List.append_assoc, hG]; simp [verB], rfl, m1, rfl, m8⟩
end Sg
namespace Sg
open _root_.Go (IntKind BinOp UnOp)
set_option linter.unusedSimpArgs false
set_option linter.unusedVariables false
set_option maxRecDepth 10000
variable {Pg : Nat → Option Fn}
theorem ent461 (h459 : H459 Pg) (h489 : H489 Pg) (h488 : H488 Pg) (h460 : H460 Pg) {sh : Shd} {g : List UInt8} (hc : ∀ e ∈ sh.ents, e.key.length ≤ 2 ^ 20 ∧ e.chain.length ≤ 2 ^ 20 ∧ ∀ v ∈ e.chain, stampRight v.at_ = true ∧ v.val.length ≤ 2 ^ 20) (hn : sh.ents.length ≤ 2 ^ 20) (hg : g.length + (sh.ents.flatMap entB).length ≤ 2 ^ 40)
    {S : St} {Q : Ex → St → Prop} (s1 : S.ρ 1 = .lref 1 0) (s3 : S.ρ 3 = .str g) (s4 : S.ρ 4 = iz 0) (n1 : S.μ 1 = some (eShd sh, false)) (n5 : S.μ 5 = none) (n8 : S.μ 8 = none)
    (hq : ∀ S', S'.ρ 1 = .lref 1 0 → S'.ρ 3 = .str (g ++ sh.ents.flatMap entB) → S'.μ 1 = some (eShd sh, false) → S'.μ 8 = none → Q .norm S') : Wp (K' Pg) l461_0 S (Blk 0 Q) := by
  unfold l461_0
  refine wp_lp (fun (j : Nat) S' => j ≤ sh.ents.length ∧ S'.ρ 1 = .lref 1 0 ∧ S'.ρ 3 = .str (g ++ (sh.ents.take j).flatMap entB) ∧ S'.ρ 4 = iz j ∧ S'.μ 1 = some (eShd sh, false) ∧ S'.μ 5 = none ∧ S'.μ 8 = none) (fun j => sh.ents.length - j) 0 ?_ ?_
  · exact ⟨Nat.zero_le _, head_ρs s1 rfl, head_ρs (by rw [s3]; simp) rfl, head_ρs s4 rfl, (head_μe rfl).trans n1, head_μn (.inr rfl), head_μn (.inl n8)⟩
  · intro j S' ⟨hj, t1, t3, t4, m1, m5, m8⟩
    have m1' := m1
    simp only [go_sem] at m1'
    cases c1 : decide ((j : Int) < (sh.ents.length : Int)) with
    | false =>
      have hjm : j = sh.ents.length := by have := of_decide_eq_false c1; omega
      rw [hjm, List.take_length] at t3
      simp only [go_sem, t1, t4, m1', c1, List.length_map]
      exact hq _ (by simp only [go_sem, t1]) (by simp only [go_sem, t3]) m1 m8
    | true =>
      have hlt := lt_of c1
      obtain ⟨e, he, -⟩ := drop_at hlt
      obtain ⟨v1, v2, v3⟩ := hc e (List.mem_of_getElem? he)
      have hinc : IntKind.i64.wrap ((j : Int) + 1) = ((j + 1 : Nat) : Int) := by rw [wrap64 (by omega) (by omega)]; omega
      have k1 := K488 h488 e.key (by omega)
      have k2 := K460 h460 e.chain.length (by omega) (by omega)
      have hto : ((e.chain.length : Int)).toNat = e.chain.length := by omega
      rw [hto] at k2
      have hsn := flat_snoc (W := entB) he
      have hle := flat_take (W := entB) (l := sh.ents) (j := j + 1)
      rw [hsn, List.length_append] at hle
      simp only [entB, lstB, List.length_append] at hle
      generalize hG : g ++ (sh.ents.take j).flatMap entB = G at *
      have hGl : G.length = g.length + ((sh.ents.take j).flatMap entB).length := by rw [← hG, List.length_append]
      have b1 : G.length + (textB e.key).length ≤ 4611686018427387904 := by omega
      have b2 : G.length + (textB e.key).length + (putB e.chain.length).length ≤ 4611686018427387904 := by omega
      simp only [go_sem, eChain, t1, t3, t4, m1', m5, c1, he, hlt, k1, k2, b1, b2, List.length_map, List.length_append]
      refine ver461 h459 h489 h488 (sh := sh) (key := e.key) (g := G ++ textB e.key ++ putB e.chain.length) (chain := e.chain) (I := j) v3 v2 (by simp only [List.length_append]; omega) (by simp only [go_sem, t1]) (by simp only [go_sem]) (by simp only [go_sem, t4]) (by simp only [go_sem]) (by simp only [go_sem]) (by simp only [go_sem, m1']) (by simp only [go_sem, eChain]) (by simp only [go_sem, m8]) fun S2 u1 u3 u4 w1 w8 => ?_
      have w1' := w1
      have hfin : g ++ (sh.ents.take (j + 1)).flatMap entB = G ++ textB e.key ++ putB e.chain.length ++ e.chain.flatMap verB := by rw [hsn, ← List.append_assoc, hG]; simp [entB, lstB]
      simp only [go_sem, u4, hinc, u1, u3, w1', w8, Option.map_some, Option.map_none]
      exact ⟨j + 1, by omega, by omega, by rw [hfin], rfl⟩
end Sg
namespace Sg
open _root_.Go (IntKind BinOp UnOp)
set_option linter.unusedSimpArgs false
set_option linter.unusedVariables false
set_option maxRecDepth 10000
variable {Pg : Nat → Option Fn}
theorem done461 (h459 : H459 Pg) (h489 : H489 Pg) (h488 : H488 Pg) (h460 : H460 Pg) {sh : Shd} {g : List UInt8} (hc : ∀ d ∈ sh.done, rowR d = true) (hn : sh.done.length ≤ 2 ^ 20) (hg : g.length + (sh.done.flatMap doneB).length ≤ 2 ^ 40)
    {S : St} {Q : Ex → St → Prop} (s1 : S.ρ 1 = .lref 1 0) (s3 : S.ρ 3 = .str g) (s7 : S.ρ 7 = iz 0) (n1 : S.μ 1 = some (eShd sh, false)) (n8 : S.μ 8 = none)
    (hq : ∀ S', S'.ρ 3 = .str (g ++ sh.done.flatMap doneB) → Q .norm S') : Wp (K' Pg) l461_2 S (Blk 4 Q) := by
  unfold l461_2
  refine wp_lp (fun (j : Nat) S' => j ≤ sh.done.length ∧ S'.ρ 1 = .lref 1 0 ∧ S'.ρ 3 = .str (g ++ (sh.done.take j).flatMap doneB) ∧ S'.ρ 7 = iz j ∧ S'.μ 1 = some (eShd sh, false) ∧ S'.μ 8 = none) (fun j => sh.done.length - j) 0 ?_ ?_
  · exact ⟨Nat.zero_le _, head_ρs s1 rfl, head_ρs (by rw [s3]; simp) rfl, head_ρs s7 rfl, (head_μe rfl).trans n1, head_μn (.inr rfl)⟩
  · intro j S' ⟨hj, t1, t3, t7, m1, m8⟩
    have m1' := m1
    simp only [go_sem] at m1'
    cases c1 : decide ((j : Int) < (sh.done.length : Int)) with
    | false =>
      have hjm : j = sh.done.length := by have := of_decide_eq_false c1; omega
      rw [hjm, List.take_length] at t3
      simp only [go_sem, t1, t7, m1', c1, List.length_map]
      exact hq _ (by simp only [go_sem, t3])
    | true =>
      have hlt := lt_of c1
      obtain ⟨d, he, -⟩ := drop_at hlt
      have hr := hc d (List.mem_of_getElem? he)
      simp only [rowR, numD, plainA, Bool.and_eq_true, decide_eq_true_eq, Bool.not_eq_true'] at hr
      obtain ⟨⟨a1, a2⟩, ⟨a3, a4⟩, a5, a6, a7, a8, -⟩ := hr
      have hinc : IntKind.i64.wrap ((j : Int) + 1) = ((j + 1 : Nat) : Int) := by rw [wrap64 (by omega) (by omega)]; omega
      have k1 := K460 h460 d.client (by omega) (by omega)
      have k2 := K460 h460 d.req (by omega) (by omega)
      have k3 := K460 h460 d.ans.err a5 (by omega)
      have k4 := K459 h459 d.ans.at_ a7
      have k5 := K489 h489 d.ans.found
      have k6 := K488 h488 d.ans.val (by omega)
      have hsn := flat_snoc (W := doneB) he
      have hle := flat_take (W := doneB) (l := sh.done) (j := j + 1)
      rw [hsn, List.length_append] at hle
      simp only [doneB, List.length_append] at hle
      generalize hG : g ++ (sh.done.take j).flatMap doneB = G at *
      have hGl : G.length = g.length + ((sh.done.take j).flatMap doneB).length := by rw [← hG, List.length_append]
      have b1 : G.length + (putB d.client.toNat).length ≤ 4611686018427387904 := by omega
      have b2 : G.length + (putB d.client.toNat).length + (putB d.req.toNat).length ≤ 4611686018427387904 := by omega
      have b3 : G.length + (putB d.client.toNat).length + (putB d.req.toNat).length + (putB d.ans.err.toNat).length ≤ 4611686018427387904 := by omega
      have b4 : G.length + (putB d.client.toNat).length + (putB d.req.toNat).length + (putB d.ans.err.toNat).length + (stB d.ans.at_).length ≤ 4611686018427387904 := by omega
      have b5 : G.length + (putB d.client.toNat).length + (putB d.req.toNat).length + (putB d.ans.err.toNat).length + (stB d.ans.at_).length + (flagB d.ans.found).length ≤ 4611686018427387904 := by omega
      have b6 : G.length + (putB d.client.toNat).length + (putB d.req.toNat).length + (putB d.ans.err.toNat).length + (stB d.ans.at_).length + (flagB d.ans.found).length + (textB d.ans.val).length ≤ 4611686018427387904 := by omega
      have hfin : g ++ (sh.done.take (j + 1)).flatMap doneB = G ++ putB d.client.toNat ++ putB d.req.toNat ++ putB d.ans.err.toNat ++ stB d.ans.at_ ++ flagB d.ans.found ++ textB d.ans.val := by rw [hsn, ← List.append_assoc, hG]; simp [doneB]
      simp only [go_sem] at k4
      simp only [go_sem, t1, t3, t7, m1', m8, c1, he, hlt, k1, k2, k3, k4, k5, k6, b1, b2, b3, b4, b5, b6, hinc, List.length_map, List.length_append, Option.map_some, Option.map_none]
      exact ⟨j + 1, by omega, by omega, by rw [hfin], rfl⟩
end Sg
namespace Sg
open _root_.Go (IntKind BinOp UnOp)
set_option linter.unusedSimpArgs false
set_option linter.unusedVariables false
set_option maxRecDepth 10000
variable {Pg : Nat → Option Fn}
def H461 (Pg : Nat → Option Fn) : Prop := Pg 461 = some (.code F461) ∧ H459 Pg ∧ H489 Pg ∧ H488 Pg ∧ H460 Pg
set_option maxHeartbeats 1000000 in
theorem K461 (h : H461 Pg) (s : Shd) (hr : shR s = true) (hb : (shB s).length ≤ 2 ^ 40) : K' Pg 461 [.agg (eShd s)] = some (.str (shB s)) := by
  obtain ⟨h, h459, h489, h488, h460⟩ := h
  have hv := shd_ok hr
  simp only [shR, shR0, numD, nou, spanR, ixR, rightT, Bool.and_eq_true, Bool.or_eq_true, decide_eq_true_eq, List.all_eq_true] at hr
  obtain ⟨⟨⟨a1, a2⟩, ⟨b1, b2⟩, ⟨c1, c2⟩, ⟨d1, d2⟩, ⟨e1, e2⟩, ⟨f1, f2⟩, g1, g2, ⟨i1, i2⟩, ⟨j1, j2⟩, k1, k2, l1, l2⟩, -⟩ := hr
  have lo : s.span.lo.length ≤ 16 := by
    rcases i1 with i1 | i1
    · rw [i1]; simp
    · exact (keyR_len i1).1
  have hi : s.span.hi.length ≤ 16 := by
    rcases i2 with i2 | i2
    · rw [i2]; simp
    · exact (keyR_len i2.1).1
  have hents : ∀ e ∈ s.ents, e.key.length ≤ 2 ^ 20 ∧ e.chain.length ≤ 2 ^ 20 ∧ ∀ v ∈ e.chain, stampRight v.at_ = true ∧ v.val.length ≤ 2 ^ 20 := fun e he => by
    have := ixG_all j2 e he
    simp only [entR, chainRight, Bool.and_eq_true, decide_eq_true_eq] at this
    obtain ⟨h1, h2, h3, h4⟩ := this
    refine ⟨by have := (keyR_len h1).1; omega, by omega, fun v hv => ?_⟩
    have := chR_all h3 v hv
    simp only [verRight, Bool.and_eq_true, decide_eq_true_eq] at this
    exact ⟨this.1.1, by omega⟩
  have q1 := K460 h460 s.id (by omega) (by omega)
  have q2 := K460 h460 s.epoch (by omega) (by omega)
  have q3 := K460 h460 s.phase (by omega) (by omega)
  have q4 := K460 h460 s.hold (by omega) (by omega)
  have q5 := K460 h460 s.seen (by omega) (by omega)
  have q6 := K460 h460 s.move (by omega) (by omega)
  have q7 := K460 h460 s.closed (by omega) (by omega)
  have q8 := K488 h488 s.span.lo (by omega)
  have q9 := K488 h488 s.span.hi (by omega)
  have q10 := K459 h459 s.mark k1
  have q11 := K459 h459 s.top k2
  have q12 := K460 h460 s.ents.length (by omega) (by omega)
  have q13 := K460 h460 s.done.length (by omega) (by omega)
  rw [show ((s.ents.length : Int)).toNat = s.ents.length by omega] at q12
  rw [show ((s.done.length : Int)).toNat = s.done.length by omega] at q13
  simp only [go_sem] at q10 q11
  have hb' := hb
  simp only [shB, lstB, List.length_append] at hb'
  have w1 : (putB s.id.toNat).length + (putB s.epoch.toNat).length ≤ 4611686018427387904 := by omega
  have w2 : (putB s.id.toNat).length + (putB s.epoch.toNat).length + (putB s.phase.toNat).length ≤ 4611686018427387904 := by omega
  have w3 : (putB s.id.toNat).length + (putB s.epoch.toNat).length + (putB s.phase.toNat).length + (putB s.hold.toNat).length ≤ 4611686018427387904 := by omega
  have w4 : (putB s.id.toNat).length + (putB s.epoch.toNat).length + (putB s.phase.toNat).length + (putB s.hold.toNat).length + (putB s.seen.toNat).length ≤ 4611686018427387904 := by omega
  have w5 : (putB s.id.toNat).length + (putB s.epoch.toNat).length + (putB s.phase.toNat).length + (putB s.hold.toNat).length + (putB s.seen.toNat).length + (putB s.move.toNat).length ≤ 4611686018427387904 := by omega
  have w6 : (putB s.id.toNat).length + (putB s.epoch.toNat).length + (putB s.phase.toNat).length + (putB s.hold.toNat).length + (putB s.seen.toNat).length + (putB s.move.toNat).length + (putB s.closed.toNat).length ≤ 4611686018427387904 := by omega
  have w7 : (putB s.id.toNat).length + (putB s.epoch.toNat).length + (putB s.phase.toNat).length + (putB s.hold.toNat).length + (putB s.seen.toNat).length + (putB s.move.toNat).length + (putB s.closed.toNat).length + (textB s.span.lo).length ≤ 4611686018427387904 := by omega
  have w8 : (putB s.id.toNat).length + (putB s.epoch.toNat).length + (putB s.phase.toNat).length + (putB s.hold.toNat).length + (putB s.seen.toNat).length + (putB s.move.toNat).length + (putB s.closed.toNat).length + (textB s.span.lo).length + (textB s.span.hi).length ≤ 4611686018427387904 := by omega
  have w9 : (putB s.id.toNat).length + (putB s.epoch.toNat).length + (putB s.phase.toNat).length + (putB s.hold.toNat).length + (putB s.seen.toNat).length + (putB s.move.toNat).length + (putB s.closed.toNat).length + (textB s.span.lo).length + (textB s.span.hi).length + (stB s.mark).length ≤ 4611686018427387904 := by omega
  have w10 : (putB s.id.toNat).length + (putB s.epoch.toNat).length + (putB s.phase.toNat).length + (putB s.hold.toNat).length + (putB s.seen.toNat).length + (putB s.move.toNat).length + (putB s.closed.toNat).length + (textB s.span.lo).length + (textB s.span.hi).length + (stB s.mark).length + (stB s.top).length ≤ 4611686018427387904 := by omega
  have w11 : (putB s.id.toNat).length + (putB s.epoch.toNat).length + (putB s.phase.toNat).length + (putB s.hold.toNat).length + (putB s.seen.toNat).length + (putB s.move.toNat).length + (putB s.closed.toNat).length + (textB s.span.lo).length + (textB s.span.hi).length + (stB s.mark).length + (stB s.top).length + (putB s.ents.length).length ≤ 4611686018427387904 := by omega
  refine K'_code h rfl ?_
  simp only [F461, c461, go_sem, q1, q2, q3, q4, q5, q6, q7, q8, q9, q10, q11, q12, w1, w2, w3, w4, w5, w6, w7, w8, w9, w10, w11, List.length_map, List.length_append]
  refine ent461 h459 h489 h488 h460 (sh := s) (g := putB s.id.toNat ++ putB s.epoch.toNat ++ putB s.phase.toNat ++ putB s.hold.toNat ++ putB s.seen.toNat ++ putB s.move.toNat ++ putB s.closed.toNat ++ textB s.span.lo ++ textB s.span.hi ++ stB s.mark ++ stB s.top ++ putB s.ents.length) hents (by omega) (by simp only [List.length_append]; omega) (by simp only [go_sem]) (by simp only [go_sem]) (by simp only [go_sem]) (by simp only [go_sem] <;> rfl) (by simp only [go_sem]) (by simp only [go_sem]) fun S1 u1 u3 v1 v8 => ?_
  have v1' := v1
  simp only [go_sem] at v1'
  generalize hg : putB s.id.toNat ++ putB s.epoch.toNat ++ putB s.phase.toNat ++ putB s.hold.toNat ++ putB s.seen.toNat ++ putB s.move.toNat ++ putB s.closed.toNat ++ textB s.span.lo ++ textB s.span.hi ++ stB s.mark ++ stB s.top ++ putB s.ents.length ++ s.ents.flatMap entB = g at u3
  have hgl : g.length + (putB s.done.length).length ≤ 4611686018427387904 := by rw [← hg]; simp only [List.length_append]; omega
  have hgl2 : (g ++ putB s.done.length).length + (s.done.flatMap doneB).length ≤ 2 ^ 40 := by rw [← hg]; simp only [List.length_append]; omega
  simp only [go_sem, u1, u3, v1', q13, hgl, List.length_map]
  refine done461 h459 h489 h488 h460 (sh := s) (g := g ++ putB s.done.length) (fun d hd => rtR_all' l1 d hd) (by omega) hgl2 (by simp only [go_sem, u1]) (by simp only [go_sem]) (by simp only [go_sem]) (by simp only [go_sem, v1']) (by simp only [go_sem, v8]) fun S2 z3 => ?_
  have hall : g ++ putB s.done.length ++ s.done.flatMap doneB = shB s := by rw [← hg]; simp [shB, lstB]
  simp only [go_sem, z3, hall]
end Sg
namespace Sg
open _root_.Go (IntKind BinOp UnOp)
set_option linter.unusedSimpArgs false
set_option linter.unusedVariables false
set_option maxRecDepth 10000
variable {Pg : Nat → Option Fn}
def H424 (Pg : Nat → Option Fn) : Prop := Pg 424 = some (.code F424) ∧ H459 Pg ∧ H460 Pg ∧ H461 Pg
set_option maxHeartbeats 1000000 in
theorem K424 (h : H424 Pg) (c : Cel) (hr : celR c = true) : K' Pg 424 [.agg (eCel c)] = some (.str (cB c)) := by
  obtain ⟨h, h459, h460, h461⟩ := h
  obtain ⟨r1, r2, r3, r4⟩ := cel_r hr
  have hl := cel_max hr
  simp only [cB, lstB, List.length_append] at hl
  have q1 := K459 h459 c.top r2
  have q2 := K460 h460 c.dropped (by omega) (by omega)
  have q3 := K460 h460 c.shards.length (by omega) (by omega)
  rw [show ((c.shards.length : Int)).toNat = c.shards.length by omega] at q3
  simp only [go_sem] at q1
  have w1 : (stB c.top).length + (putB c.dropped.toNat).length ≤ 4611686018427387904 := by omega
  have w2 : (stB c.top).length + (putB c.dropped.toNat).length + (putB c.shards.length).length ≤ 4611686018427387904 := by omega
  refine K'_code h rfl ?_
  simp only [F424, c424, go_sem, q1, q2, q3, w1, w2, List.length_map, List.length_append]
  have hg : cB c = stB c.top ++ putB c.dropped.toNat ++ putB c.shards.length ++ c.shards.flatMap shB := by simp [cB, lstB]
  have hgl : (stB c.top ++ putB c.dropped.toNat ++ putB c.shards.length).length + (c.shards.flatMap shB).length ≤ 968030 := by simp only [List.length_append]; omega
  rw [hg]
  generalize stB c.top ++ putB c.dropped.toNat ++ putB c.shards.length = g at *
  unfold l424_0
  refine wp_lp (fun (j : Nat) S' => j ≤ c.shards.length ∧ S'.ρ 1 = .lref 1 0 ∧ S'.ρ 3 = .str (g ++ (c.shards.take j).flatMap shB) ∧ S'.ρ 4 = iz j ∧ S'.μ 1 = some (eCel c, false)) (fun j => c.shards.length - j) 0 ?_ ?_
  · simp [go_sem]
  · intro j S' ⟨hj, t1, t3, t4, m1⟩
    have m1' := m1
    simp only [go_sem] at m1'
    cases c1 : decide ((j : Int) < (c.shards.length : Int)) with
    | false =>
      have hjm : j = c.shards.length := by have := of_decide_eq_false c1; omega
      rw [hjm, List.take_length] at t3
      simp only [go_sem, t1, t3, t4, m1', c1, List.length_map]
    | true =>
      have hlt := lt_of c1
      obtain ⟨e, he, -⟩ := drop_at hlt
      have hs := r4 e (List.mem_of_getElem? he)
      have hinc : IntKind.i64.wrap ((j : Int) + 1) = ((j + 1 : Nat) : Int) := by rw [wrap64 (by omega) (by omega)]; omega
      have k1 := K461 h461 e hs (by have := (shd_w hs).2; omega)
      simp only [go_sem] at k1
      have htk : c.shards.take (j + 1) = c.shards.take j ++ [e] := by rw [List.take_add_one, he]; rfl
      have hle := flat_tk (W := shB) (l := c.shards) (i := j + 1)
      have hfull : g ++ (c.shards.take (j + 1)).flatMap shB = g ++ (c.shards.take j).flatMap shB ++ shB e := by rw [htk]; simp
      rw [htk, List.flatMap_append, List.length_append] at hle
      simp only [List.flatMap_cons, List.flatMap_nil, List.append_nil] at hle
      generalize hG : g ++ (c.shards.take j).flatMap shB = G at *
      have hGl : G.length = g.length + ((c.shards.take j).flatMap shB).length := by rw [← hG, List.length_append]
      have b1 : G.length + (shB e).length ≤ 4611686018427387904 := by omega
      simp only [go_sem, t1, t3, t4, m1', c1, he, hlt, k1, b1, hinc, List.length_map, head_nil]
      exact ⟨j + 1, by omega, by omega, by rw [hfull], rfl⟩
structure C411 (S : St) (y : Rd) (t : Stamp) (d : Int) (vs : List Shd) : Prop where
  r2 : S.ρ 2 = .lref 2 0
  r4 : S.ρ 4 = .lref 10 0
  r5 : S.ρ 5 = .lref 5 0
  m10 : S.μ 10 = some (eRd y, false)
  m2 : S.μ 2 = some ([.slice 17 [], .int .i64 0, .int .i64 0, .int .i64 0, .int .i64 0], false)
  m5 : S.μ 5 = some (clP t d (nilOr 36 17 vs.length), false)
  a36 : S.A 36 = nilA 17 (vs.map eShd) vs.length
theorem C411.head {S : St} {y : Rd} {t : Stamp} {d : Int} {vs : List Shd} (h : C411 S y t d vs) : C411 (S.head [] [] [] []) y t d vs := by rw [head_nil]; exact h
end Sg
namespace Sg
open _root_.Go (IntKind BinOp UnOp)
set_option linter.unusedSimpArgs false
set_option linter.unusedVariables false
set_option maxRecDepth 10000
variable {Pg : Nat → Option Fn}
def StoP (l : List Int) : Prop := l ≠ [] ∧ (∀ m ∈ l, 1 ≤ m ∧ m ≤ 3) ∧ l.Nodup
instance (l : List Int) : Decidable (StoP l) := inferInstanceAs (Decidable (_ ∧ _ ∧ _))
end Sg
namespace Sg
open _root_.Go (IntKind BinOp UnOp)
set_option linter.unusedSimpArgs false
set_option linter.unusedVariables false
set_option maxRecDepth 10000
variable {Pg : Nat → Option Fn}
end Sg
namespace Sg
open _root_.Go (IntKind BinOp UnOp)
set_option linter.unusedSimpArgs false
set_option linter.unusedVariables false
set_option maxRecDepth 10000
variable {Pg : Nat → Option Fn}
end Sg
namespace Sg
set_option maxRecDepth 100000
set_option linter.unusedVariables false
variable {Pg : Nat → Option Fn}
end Sg
namespace Sg
open _root_.Go (IntKind BinOp UnOp)
set_option linter.unusedSimpArgs false
set_option linter.unusedVariables false
set_option maxRecDepth 10000
variable {Pg : Nat → Option Fn}
def H153 (Pg : Nat → Option Fn) : Prop := Pg 153 = some (.code F153)
theorem K153 (h : H153 Pg) (t : List Place) (hl : t.length < 2 ^ 60) : K' Pg 153 [ePls t, ePls t] = some (.bool true) := by
  refine K'_code h rfl ?_
  simp only [go_sem]
  unfold l153_0
  refine wp_lp (fun (i : Nat) S => i ≤ t.length ∧ S.ρ 0 = ePls t ∧ S.ρ 1 = ePls t ∧ S.ρ 5 = iz i) (fun i => t.length - i) 0 ?_ ?_
  · simp [go_sem]
  · intro i S ⟨hi, h0, h1, h5⟩
    simp only [go_sem, h0, h1, h5]
    refine wpc_i (fun h => ?_) (fun h => ?_)
    · have h := lt_of h
      obtain ⟨x, hx, hd⟩ := drop_at h
      simp only [go_sem, h0, h1, h5, hx]
      exact ⟨i + 1, by omega, by omega, by rw [inc64 h hl]⟩
    · simp only [go_sem]
end Sg
namespace Sg
open _root_.Go (IntKind BinOp UnOp)
set_option linter.unusedSimpArgs false
set_option linter.unusedVariables false
set_option maxRecDepth 10000
variable {Pg : Nat → Option Fn}
@[go_sem] def ePE (x : List Place × Int) : V := .tuple [ePls x.1, iz x.2]
@[go_sem] def eII (x : Int × Int) : V := .tuple [iz x.1, iz x.2]
end Sg
namespace Sg
open _root_.Go (IntKind BinOp UnOp)
set_option linter.unusedSimpArgs false
set_option linter.unusedVariables false
set_option maxRecDepth 10000
variable {Pg : Nat → Option Fn}
end Sg
namespace Sg
open _root_.Go (IntKind BinOp UnOp)
set_option linter.unusedSimpArgs false
set_option linter.unusedVariables false
set_option maxRecDepth 10000
variable {Pg : Nat → Option Fn}
end Sg
namespace Sg
open _root_.Go (IntKind BinOp UnOp)
set_option linter.unusedSimpArgs false
set_option linter.unusedVariables false
set_option maxRecDepth 10000
variable {Pg : Nat → Option Fn}
end Sg
namespace Sg
open _root_.Go (IntKind BinOp UnOp)
set_option linter.unusedSimpArgs false
set_option linter.unusedVariables false
set_option maxRecDepth 10000
variable {Pg : Nat → Option Fn}
structure Cmd where
  kind : Int
  shard : Int
  other : Int
  to : Int
  key : List UInt8
  mem : List Int
@[go_sem] def eCmd (c : Cmd) : List V := [iz c.kind, iz c.shard, iz c.other, iz c.to, .str c.key, eInts c.mem]
@[go_sem] def eDE (x : Drc × Int) : V := .tuple [.agg (eDrc x.1), iz x.2]
end Sg
namespace Sg
open _root_.Go (IntKind BinOp UnOp)
set_option linter.unusedSimpArgs false
set_option linter.unusedVariables false
set_option maxRecDepth 10000
variable {Pg : Nat → Option Fn}
structure Msg where
  kind : Int
  from_ : Int
  to : Int
  shard : Int
  epoch : Int
  move : Int
  lease : Int
  n : Int
  of_ : Int
  at_ : Stamp
  text : List UInt8
  req : Rq
  ans : Ans
  places : List Place
  mem : List Int
@[go_sem] def eMsg (m : Msg) : List V := [iz m.kind, iz m.from_, iz m.to, iz m.shard, iz m.epoch, iz m.move, iz m.lease, iz m.n, iz m.of_, iz m.at_.wall, iz m.at_.tick, iz m.at_.node, .str m.text, iz m.req.client, iz m.req.req, iz m.req.kind, .str m.req.key, .str m.req.value, .bool m.req.had, .str m.req.old, iz m.req.at_.wall, iz m.req.at_.tick, iz m.req.at_.node, .str m.req.hi, iz m.req.limit, iz m.ans.err, iz m.ans.at_.wall, iz m.ans.at_.tick, iz m.ans.at_.node, .bool m.ans.found, .str m.ans.val, eItems m.ans.items, .str m.ans.next, .bool m.ans.more, ePls m.places, eInts m.mem]
@[go_sem] def eMsgs (l : List Msg) : V := .slice 36 (l.map eMsg)
def SmM (m : Msg) : Prop := m.ans.items.length ≤ 10000 ∧ m.places.length ≤ 10000 ∧ m.mem.length ≤ 10000
def H372 (Pg : Nat → Option Fn) : Prop := Pg 372 = some (.code F372) ∧ H101 Pg ∧ H153 Pg
set_option maxHeartbeats 1000000 in
theorem K372 (h : H372 Pg) (m : Msg) (hm : SmM m) : K' Pg 372 [.agg (eMsg m), .agg (eMsg m)] = some (.bool true) := by
  obtain ⟨h, h101, h153⟩ := h
  have k101 := K101 h101 m.ans (by have := hm.1; omega)
  have k153 := K153 h153 m.places (by have := hm.2.1; omega)
  have hl : m.mem.length < 2 ^ 60 := by have := hm.2.2; omega
  simp only [eAns, eItems, ePls] at k101 k153
  clear hm h101 h153
  refine K'_code h rfl ?_
  simp only [go_sem]
  unfold l372_0
  refine wp_lp (fun (i : Nat) S => i ≤ m.mem.length ∧ S.ρ 2 = .lref 2 0 ∧ S.μ 2 = some (eMsg m, false) ∧ S.ρ 3 = .lref 3 0 ∧ S.μ 3 = some (eMsg m, false) ∧ S.ρ 5 = iz i) (fun i => m.mem.length - i) 0 ?_ ?_
  · simp [go_sem]
  · intro i S ⟨hi, s2, m2, s3, m3, s5⟩
    simp only [go_sem, s2, m2, s3, m3, s5]
    refine wpc_i (fun h => ?_) (fun h => ?_)
    · have h := lt_of h
      obtain ⟨x, hx, hd⟩ := drop_at h
      simp only [go_sem, s2, m2, s3, m3, s5, hx]
      exact ⟨i + 1, by omega, by omega, by rw [inc64 h hl]⟩
    · simp only [go_sem, s2, m2, s3, m3, s5, k101, k153, beq_self_eq_true]
def H360 (Pg : Nat → Option Fn) : Prop := Pg 360 = some (.code F360) ∧ H372 Pg
theorem K360 (h : H360 Pg) (l : List Msg) (hl : l.length ≤ 10000) (hm : ∀ m ∈ l, SmM m) : K' Pg 360 [eMsgs l, eMsgs l] = some (.bool true) := by
  obtain ⟨h, h372⟩ := h
  have k372 : ∀ m ∈ l, K' Pg 372 [.agg (eMsg m), .agg (eMsg m)] = some (.bool true) := fun m h => K372 h372 m (hm m h)
  simp only [eMsg, eItems, ePls, eInts] at k372
  refine K'_code h rfl ?_
  simp only [go_sem]
  unfold l360_0
  refine wp_lp (fun (i : Nat) S => i ≤ l.length ∧ S.ρ 0 = eMsgs l ∧ S.ρ 1 = eMsgs l ∧ S.ρ 5 = iz i) (fun i => l.length - i) 0 ?_ ?_
  · simp [go_sem]
  · intro i S ⟨hi, s0, s1, s5⟩
    simp only [go_sem, s0, s1, s5]
    refine wpc_i (fun h => ?_) (fun h => ?_)
    · have h := lt_of h
      obtain ⟨x, hx, hd⟩ := drop_at h
      have k := k372 x (List.mem_of_getElem? hx)
      simp only [go_sem, s0, s1, s5, hx, k]
      exact ⟨i + 1, by omega, by omega, by rw [inc64 h (by omega)]⟩
    · simp only [go_sem]
end Sg
namespace Sg
open _root_.Go (IntKind BinOp UnOp)
set_option linter.unusedSimpArgs false
set_option linter.unusedVariables false
set_option maxRecDepth 10000
variable {Pg : Nat → Option Fn}
end Sg
namespace Sg
open _root_.Go (IntKind BinOp UnOp)
set_option linter.unusedSimpArgs false
set_option linter.unusedVariables false
variable {Pg : Nat → Option Fn}
theorem fix_len {r : Rep} : (fixR r).members = r.members ∧ (fixR r).acks = r.acks := by
  simp only [fixR]; split <;> exact ⟨rfl, rfl⟩
theorem ship_twice {r : Rep} {w : Word} (hr : rightB r = true) : (shipT (shipN r w) w).1 = shipN r w ∨ leadsR (shipN r w) = true := by
  cases hl : leadsR (shipN r w) with
  | true => exact .inr rfl
  | false =>
    left
    have e1 : ¬ w.view < (shipN r w).view := by simp [shipN]
    have e2 : ¬ w.n < (shipN r w).n := by simp [shipN]
    have e3 : ¬ (w.view ≠ (shipN r w).view ∨ (shipN r w).n < w.n) := by simp [shipN]
    simp only [shipT]
    rw [if_neg e1, if_neg (by rw [hl]; simp; omega), if_neg e3]
theorem twice {r : Rep} {w : Word} : (hearR (hearR r w).1 w).1 = (hearR r w).1 := by
  cases hr : rightB r with
  | false =>
    have e : (hearR r w).1 = r := by simp [hearR, hr]
    rw [e, e]
  | true =>
  by_cases ht : w.to = r.id
  · by_cases k1 : w.kind = 1
    · have e : hearR r w = shipR r w := by simp only [hearR]; rw [if_pos hr, if_pos ht, if_pos k1]
      rw [e]
      by_cases hsame : (shipR r w).1 = r
      · rw [hsame, e, hsame]
      · -- it was taken
        have c1 : decide (w.frm = r.id) = false := by
          cases c : decide (w.frm = r.id) with
          | false => rfl
          | true => exact absurd (by simp only [shipR, c]; rfl) hsame
        have c2 : membR w.members r.id w.frm = true := by
          cases c : membR w.members r.id w.frm with
          | true => rfl
          | false => exact absurd (by simp only [shipR, c1, c]; rfl) hsame
        have c3 : numG w.view 1 = true := by
          cases c : numG w.view 1 with
          | true => rfl
          | false => exact absurd (by simp only [shipR, c1, c2, c]; rfl) hsame
        have c4 : numG w.n 1 = true := by
          cases c : numG w.n 1 with
          | true => rfl
          | false => exact absurd (by simp only [shipR, c1, c2, c3, c]; rfl) hsame
        have e1 : shipR r w = shipT r w := by simp only [shipR, c1, c2, c3, c4]; rfl
        have e2 : (shipT r w).1 = shipN r w := by
          rw [e1] at hsame
          simp only [shipT] at hsame ⊢
          split at hsame
          · exact absurd rfl hsame
          · rename_i h1
            split at hsame
            · exact absurd rfl hsame
            · rename_i h2
              split at hsame
              · rename_i h3
                rw [if_neg h1, if_neg h2, if_pos h3]
              · exact absurd rfl hsame
        rw [e1, e2]
        -- again
        cases hr2 : rightB (shipN r w) with
        | false => simp [hearR, hr2]
        | true =>
          have e3 : hearR (shipN r w) w = shipR (shipN r w) w := by simp only [hearR]; rw [if_pos hr2, if_pos (show w.to = (shipN r w).id from ht), if_pos k1]
          have hid : (shipN r w).id = r.id := rfl
          have e4 : shipR (shipN r w) w = shipT (shipN r w) w := by simp only [shipR, hid, c1, c2, c3, c4]; rfl
          rw [e3, e4]
          rcases ship_twice (w := w) hr with h | h
          · exact h
          · exfalso
            simp only [membR, Bool.and_eq_true, decide_eq_true_eq] at c2
            have hh := c2.2.2
            have hm : (shipN r w).members = w.members := rfl
            simp only [leadsR, hm] at h
            cases hw : w.members with
            | nil => rw [hw] at h; simp at h
            | cons a l =>
              rw [hw] at h hh
              have h1 : a = r.id := of_decide_eq_true h
              have h2 : a = w.frm := by simpa using hh
              exact of_decide_eq_false c1 (h2.symm.trans h1)
    · by_cases k2 : w.kind = 2
      · have e : ∀ x, rightB x = true → w.to = x.id → hearR x w = (if ackB x w then (fixR (ackR x w), []) else (x, [])) := fun x h1 h2 => by
          simp only [hearR]; rw [if_pos h1, if_pos h2, if_neg k1, if_pos k2]
        cases ha : ackB r w with
        | false => have e0 : (hearR r w).1 = r := by rw [e r hr ht, ha]; rfl
                   rw [e0, e0]
        | true =>
          have e1 : (hearR r w).1 = fixR (ackR r w) := by rw [e r hr ht, ha]; rfl
          rw [e1]
          cases hr2 : rightB (fixR (ackR r w)) with
          | false => simp [hearR, hr2]
          | true =>
            have hid : (fixR (ackR r w)).id = r.id := by simp only [fixR]; split <;> rfl
            have hb : ackB (fixR (ackR r w)) w = false := by
              have : w.frm ∈ (fixR (ackR r w)).acks := by rw [fix_len.2]; simp [ackR]
              simp [ackB, this]
            rw [e _ hr2 (by rw [hid]; exact ht), hb]; rfl
      · by_cases k3 : w.kind = 3
        · have e : ∀ x, rightB x = true → w.to = x.id → hearR x w = (if x.view < w.view then (pastR x, []) else (x, [])) := fun x h1 h2 => by
            simp only [hearR]; rw [if_pos h1, if_pos h2, if_neg k1, if_neg k2, if_pos k3]
          by_cases hv : r.view < w.view
          · have e1 : (hearR r w).1 = pastR r := by rw [e r hr ht, if_pos hv]
            rw [e1]
            cases hr2 : rightB (pastR r) with
            | false => simp [hearR, hr2]
            | true => rw [e (pastR r) hr2 ht, if_pos (show (pastR r).view < w.view from hv)]; rfl
          · have e0 : (hearR r w).1 = r := by rw [e r hr ht, if_neg hv]
            rw [e0, e0]
        · have e0 : (hearR r w).1 = r := by simp only [hearR]; rw [if_pos hr, if_pos ht, if_neg k1, if_neg k2, if_neg k3]
          rw [e0, e0]
  · have e0 : (hearR r w).1 = r := by simp only [hearR]; rw [if_pos hr, if_neg ht]
    rw [e0, e0]
end Sg
namespace Sg
open _root_.Go (IntKind BinOp UnOp)
set_option linter.unusedSimpArgs false
set_option linter.unusedVariables false
set_option maxRecDepth 10000
variable {Pg : Nat → Option Fn}
structure Own where
  cell : Int
  rep : Rep
  outs : List Msg
structure Sto where
  id : Int
  owns : List Own
@[go_sem] def eOwn (o : Own) : List V := [iz o.cell, iz o.rep.id, iz o.rep.view, eInts o.rep.members, iz o.rep.n, .str o.rep.base, .str o.rep.text, eInts o.rep.acks, eMsgs o.outs]
@[go_sem] def eOwns (l : List Own) : V := .slice 9 (l.map eOwn)
@[go_sem] def eSto (s : Sto) : List V := [iz s.id, eOwns s.owns]
def H398 (Pg : Nat → Option Fn) : Prop := Pg 398 = some (.code F398)
theorem K398 (h : H398 Pg) (s : Sto) (ho : s.owns.length ≤ 1048576) : K' Pg 398 [.agg (eSto s)] = some (.agg (eSto s)) := by
  refine K'_code h rfl ?_
  simp only [F398, c398, go_sem, List.length_map]
  unfold l398_0
  refine wp_lp (fun (i : Nat) S => i ≤ s.owns.length ∧ S.ρ 2 = .lref 2 0 ∧ S.ρ 3 = .lref 3 0 ∧ S.ρ 10 = .slice 9 (s.owns.map eOwn) ∧ S.ρ 11 = iz s.owns.length ∧ S.ρ 12 = iz i ∧ S.μ 2 = some ([iz 0, .slice 9 []], false) ∧ S.μ 3 = some ([iz s.id, nilOr 26 9 i], false) ∧ S.μ 5 = none ∧ S.A 26 = nilA 9 ((s.owns.take i).map eOwn) i) (fun i => s.owns.length - i) 0 ?_ ?_
  · refine ⟨Nat.zero_le _, head_ρs (by simp only [go_sem]) rfl, head_ρs (by simp only [go_sem]) rfl, head_ρs (by simp only [go_sem]) rfl, head_ρs (by simp only [go_sem]) rfl, head_ρs (by simp only [go_sem]) rfl, head_μs (by simp only [go_sem]) rfl rfl, ?_, head_μn (.inr rfl), (head_Ax rfl).trans rfl⟩
    rw [head_μe rfl]; simp only [go_sem]; rfl
  · intro i S ⟨hi, s2, s3, s10, s11, s12, m2, m3, m5, a26⟩
    cases c1 : decide ((i : Int) < (s.owns.length : Int)) with
    | false =>
      have hil : i = s.owns.length := by have := of_decide_eq_false c1; omega
      rw [hil, List.take_length] at a26
      rw [hil] at m3
      have hc := nil_toDC a26 (by simp)
      simp only [go_sem, s2, s3, s11, s12, m2, m3, c1, cells_nil, hc]
    | true =>
      have hlt := lt_of c1
      obtain ⟨o, hn, -⟩ := drop_at hlt
      have hinc : IntKind.i64.wrap ((i : Int) + 1) = ((i + 1 : Nat) : Int) := by rw [wrap64 (by omega) (by omega)]; omega
      have ha := fun S => apq_s (S := S) (s := 26) (z := 9) (r := eOwn o) (n := i) (rows := (s.owns.take i).map eOwn) (by simp; omega) (by unfold lim; omega)
      have htk : s.owns.take (i + 1) = s.owns.take i ++ [o] := take_s hn
      simp only [go_sem] at ha
      simp only [go_sem, s2, s3, s10, s11, s12, m2, m3, m5, a26, c1, hn, hlt, appN_q, ha, hinc]
      exact ⟨i + 1, by omega, by omega, rfl, rfl, by rw [htk, List.map_append]; rfl⟩
def RepOk (r : Rep) : Prop := r.members.length ≤ 10000 ∧ r.acks.length ≤ 10000
theorem RepOk.ok {r : Rep} (h : RepOk r) : r.Ok := ⟨by have := h.1; omega, by have := h.2; omega⟩
def OwnOk (o : Own) : Prop := RepOk o.rep ∧ o.outs.length ≤ 10000 ∧ ∀ m ∈ o.outs, SmM m
def StoOk (s : Sto) : Prop := s.owns.length ≤ 10000 ∧ ∀ o ∈ s.owns, OwnOk o
def H399 (Pg : Nat → Option Fn) : Prop := Pg 399 = some (.code F399) ∧ H45 Pg ∧ H360 Pg
theorem K399 (h : H399 Pg) (s : Sto) (hs : StoOk s) : K' Pg 399 [.agg (eSto s), .agg (eSto s)] = some (.bool true) := by
  obtain ⟨h, h45, h360⟩ := h
  obtain ⟨hl, ho⟩ := hs
  refine K'_code h rfl ?_
  simp only [F399, c399, go_sem, List.length_map]
  unfold l399_0
  refine wp_lp (fun (i : Nat) S => i ≤ s.owns.length ∧ S.ρ 2 = .lref 2 0 ∧ S.ρ 3 = .lref 3 0 ∧ S.μ 2 = some (eSto s, false) ∧ S.μ 3 = some (eSto s, false) ∧ S.ρ 5 = iz i) (fun i => s.owns.length - i) 0 ?_ ?_
  · simp [go_sem]
  · intro i S ⟨hi, s2, s3, m2, m3, s5⟩
    have m2' := m2
    have m3' := m3
    simp only [go_sem] at m2' m3'
    cases c1 : decide ((i : Int) < (s.owns.length : Int)) with
    | false => simp only [go_sem, s2, m2', s5, c1, List.length_map]
    | true =>
      have hlt := lt_of c1
      obtain ⟨o, hn, -⟩ := drop_at hlt
      have hinc : IntKind.i64.wrap ((i : Int) + 1) = ((i + 1 : Nat) : Int) := by rw [wrap64 (by omega) (by omega)]; omega
      obtain ⟨o1, o2, o3⟩ := ho o (List.mem_of_getElem? hn)
      have k45 := K45 h45 o.rep o1.ok
      have k360 := K360 h360 o.outs o2 o3
      simp only [eRep, eInts, eMsgs, eMsg, eItems, ePls] at k45 k360
      simp only [go_sem, s2, s3, m2', m3', s5, c1, hn, k45, k360, hinc, List.length_map]
      exact ⟨i + 1, by omega, by omega, rfl⟩
end Sg
namespace Sg
open _root_.Go (IntKind BinOp UnOp)
set_option linter.unusedSimpArgs false
set_option linter.unusedVariables false
set_option maxRecDepth 10000
variable {Pg : Nat → Option Fn}
def cellQ (c : Int) : Bool := decide (1 ≤ c) && decide (c ≤ 3)
def H368 (Pg : Nat → Option Fn) : Prop := Pg 368 = some (.code F368)
theorem K368 (h : H368 Pg) (c : Int) : K' Pg 368 [iz c] = some (.bool (cellQ c)) := by
  refine K'_code h rfl ?_
  cases c1 : decide (1 ≤ c) <;> simp only [F368, c368, go_sem, c1, cellQ]
end Sg
namespace Sg
open _root_.Go (IntKind BinOp UnOp)
set_option maxRecDepth 100000
set_option linter.unusedVariables false
variable {Pg : Nat → Option Fn}
def saT : List (Nat × Fn) := [(400, .code F400), (395, .code F395), (345, .code F345), (397, .code F397), (401, .code F401), (406, .code F406), (407, .code F407), (408, .code F408), (413, .code F413), (43, .code F43), (368, .code F368), (420, .code F420), (249, .code F249), (421, .codeR F421 0), (422, .codeR F422 0), (423, .codeR F423 0), (427, .code F427), (40, .code F40), (428, .code F428), (51, .code F51), (429, .code F429), (39, .code F39), (430, .code F430), (41, .code F41), (431, .code F431), (432, .code F432), (341, .code F341), (439, .code F439), (440, .code F440), (15, .code F15), (442, .code F442), (68, .code F68), (244, .code F244), (301, .code F301), (28, .code F28), (284, .code F284), (455, .code F455), (456, .code F456), (457, .codeR F457 0), (458, .codeR F458 0), (462, .code F462), (463, .code F463), (464, .codeR F464 0), (465, .codeR F465 0), (466, .codeR F466 0), (467, .codeR F467 0), (72, .code F72), (63, .code F63), (64, .code F64), (65, .code F65), (66, .code F66), (67, .code F67), (468, .code F468), (366, .code F366), (367, .code F367), (473, .code F473), (474, .code F474), (240, .code F240), (26, .code F26), (27, .code F27), (47, .code F47), (186, .code F186), (203, .code F203), (81, .code F81), (298, .code F298), (299, .code F299), (316, .code F316), (32, .code F32), (313, .code F313), (483, .code F483), (484, .code F484), (485, .code F485), (490, .code F490), (491, .code F491), (492, .codeR F492 0), (493, .codeR F493 0), (75, .code F75), (76, .code F76), (71, .code F71), (496, .code F496), (499, .code F499), (285, .code F285), (287, .code F287), (171, .code F171), (288, .code F288), (289, .code F289), (290, .code F290), (31, .code F31), (304, .code F304), (192, .code F192), (7, .code F7), (97, .code F97), (98, .code F98), (315, .code F315), (506, .code F506), (507, .code F507), (314, .code F314), (82, .code F82), (84, .code F84), (200, .code F200), (88, .code F88), (312, .code F312), (220, .code F220), (221, .code F221), (22, .code F22), (319, .code F319), (320, .code F320), (100, .code F100), (3, .code F3), (225, .code F225), (106, .code F106), (69, .prim (some 0) (cloneQ 1)), (497, .prim (some 0) (cloneQ 9)), (307, .prim (some 0) (cloneQ 17)), (170, .prim none keyQ), (102, .prim (some 0) (cloneQ 11)), (23, .prim (some 0) (cloneQ 5)), (227, .prim (some 0) (cloneQ 2))]
def snT : List (Nat × Fn) := [(395, .code F395), (345, .code F345), (397, .code F397), (401, .code F401), (43, .code F43), (368, .code F368), (249, .code F249), (421, .codeR F421 0), (422, .codeR F422 0), (423, .codeR F423 0), (39, .code F39), (68, .code F68), (244, .code F244), (301, .code F301), (28, .code F28), (284, .code F284), (455, .code F455), (456, .code F456), (457, .codeR F457 0), (63, .code F63), (64, .code F64), (65, .code F65), (66, .code F66), (67, .code F67), (186, .code F186), (203, .code F203), (81, .code F81), (299, .code F299), (32, .code F32), (313, .code F313), (483, .code F483), (484, .code F484), (75, .code F75), (76, .code F76), (315, .code F315), (69, .prim (some 0) (cloneQ 1))]
def sdT : List (Nat × Fn) := [(396, .code F396), (402, .code F402), (44, .code F44), (424, .code F424), (61, .code F61), (62, .code F62), (459, .code F459), (460, .code F460), (461, .code F461), (486, .code F486), (487, .code F487), (488, .code F488), (502, .code F502), (503, .code F503)]
theorem sa_run : isT (callN (lookT saT) 60 400 []) = true := by decide +kernel
def beg1 : List UInt8 := [0, 0, 0, 0, 1, 1, 1, 1, 0, 0, 0, 0, 0, 0, 0, 0, 0, 0, 0, 0, 0, 0]
def beg0 : List UInt8 := [0, 0, 0, 0, 0]
def newS (k : Nat) : Sto := match k with
  | 1 => ⟨1, [⟨1, ⟨1, 1, [1, 2], 1, beg1, beg1, [1, 2]⟩, []⟩, ⟨3, ⟨1, 1, [3, 1], 1, beg0, beg0, []⟩, []⟩]⟩
  | 2 => ⟨2, [⟨1, ⟨2, 1, [1, 2], 1, beg1, beg1, []⟩, []⟩, ⟨2, ⟨2, 1, [2, 3], 1, beg0, beg0, [2, 3]⟩, []⟩]⟩
  | _ => ⟨3, [⟨2, ⟨3, 1, [2, 3], 1, beg0, beg0, []⟩, []⟩, ⟨3, ⟨3, 1, [3, 1], 1, beg0, beg0, [3, 1]⟩, []⟩]⟩
theorem sn_run1 : callN (lookT snT) 60 395 [iz 1] = some (.tuple [.agg (eSto (newS 1)), iz 0]) := by kernel_rfl
theorem sn_run2 : callN (lookT snT) 60 395 [iz 2] = some (.tuple [.agg (eSto (newS 2)), iz 0]) := by kernel_rfl
theorem sn_run3 : callN (lookT snT) 60 395 [iz 3] = some (.tuple [.agg (eSto (newS 3)), iz 0]) := by kernel_rfl
theorem sd_run1 : callN (lookT sdT) 60 396 [iz 1] = some (.tuple [.agg (eSto (newS 1)), .bool true]) := by kernel_rfl
theorem sd_run2 : callN (lookT sdT) 60 396 [iz 2] = some (.tuple [.agg (eSto (newS 2)), .bool true]) := by kernel_rfl
theorem sd_run3 : callN (lookT sdT) 60 396 [iz 3] = some (.tuple [.agg (eSto (newS 3)), .bool true]) := by kernel_rfl
def H7003 (Pg : Nat → Option Fn) : Prop := Pg 3 = some (.code F3)
def H7007 (Pg : Nat → Option Fn) : Prop := Pg 7 = some (.code F7)
def H7015 (Pg : Nat → Option Fn) : Prop := Pg 15 = some (.code F15)
def H7022 (Pg : Nat → Option Fn) : Prop := Pg 22 = some (.code F22)
def H7023 (Pg : Nat → Option Fn) : Prop := Pg 23 = some (.prim (some 0) (cloneQ 5))
def H7026 (Pg : Nat → Option Fn) : Prop := Pg 26 = some (.code F26)
def H7027 (Pg : Nat → Option Fn) : Prop := Pg 27 = some (.code F27)
def H7028 (Pg : Nat → Option Fn) : Prop := Pg 28 = some (.code F28)
def H7031 (Pg : Nat → Option Fn) : Prop := Pg 31 = some (.code F31)
def H7032 (Pg : Nat → Option Fn) : Prop := Pg 32 = some (.code F32)
def H7039 (Pg : Nat → Option Fn) : Prop := Pg 39 = some (.code F39)
def H7040 (Pg : Nat → Option Fn) : Prop := Pg 40 = some (.code F40)
def H7041 (Pg : Nat → Option Fn) : Prop := Pg 41 = some (.code F41)
def H7043 (Pg : Nat → Option Fn) : Prop := Pg 43 = some (.code F43)
def H7044 (Pg : Nat → Option Fn) : Prop := Pg 44 = some (.code F44)
def H7047 (Pg : Nat → Option Fn) : Prop := Pg 47 = some (.code F47)
def H7051 (Pg : Nat → Option Fn) : Prop := Pg 51 = some (.code F51)
def H7061 (Pg : Nat → Option Fn) : Prop := Pg 61 = some (.code F61)
def H7062 (Pg : Nat → Option Fn) : Prop := Pg 62 = some (.code F62)
def H7063 (Pg : Nat → Option Fn) : Prop := Pg 63 = some (.code F63)
def H7064 (Pg : Nat → Option Fn) : Prop := Pg 64 = some (.code F64)
def H7065 (Pg : Nat → Option Fn) : Prop := Pg 65 = some (.code F65)
def H7066 (Pg : Nat → Option Fn) : Prop := Pg 66 = some (.code F66)
def H7067 (Pg : Nat → Option Fn) : Prop := Pg 67 = some (.code F67)
def H7068 (Pg : Nat → Option Fn) : Prop := Pg 68 = some (.code F68)
def H7069 (Pg : Nat → Option Fn) : Prop := Pg 69 = some (.prim (some 0) (cloneQ 1))
def H7071 (Pg : Nat → Option Fn) : Prop := Pg 71 = some (.code F71)
def H7072 (Pg : Nat → Option Fn) : Prop := Pg 72 = some (.code F72)
def H7075 (Pg : Nat → Option Fn) : Prop := Pg 75 = some (.code F75)
def H7076 (Pg : Nat → Option Fn) : Prop := Pg 76 = some (.code F76)
def H7081 (Pg : Nat → Option Fn) : Prop := Pg 81 = some (.code F81)
def H7082 (Pg : Nat → Option Fn) : Prop := Pg 82 = some (.code F82)
def H7084 (Pg : Nat → Option Fn) : Prop := Pg 84 = some (.code F84)
def H7088 (Pg : Nat → Option Fn) : Prop := Pg 88 = some (.code F88)
def H7097 (Pg : Nat → Option Fn) : Prop := Pg 97 = some (.code F97)
def H7098 (Pg : Nat → Option Fn) : Prop := Pg 98 = some (.code F98)
def H7100 (Pg : Nat → Option Fn) : Prop := Pg 100 = some (.code F100)
def H7102 (Pg : Nat → Option Fn) : Prop := Pg 102 = some (.prim (some 0) (cloneQ 11))
def H7106 (Pg : Nat → Option Fn) : Prop := Pg 106 = some (.code F106)
def H7170 (Pg : Nat → Option Fn) : Prop := Pg 170 = some (.prim none keyQ)
def H7171 (Pg : Nat → Option Fn) : Prop := Pg 171 = some (.code F171)
def H7186 (Pg : Nat → Option Fn) : Prop := Pg 186 = some (.code F186)
def H7192 (Pg : Nat → Option Fn) : Prop := Pg 192 = some (.code F192)
def H7200 (Pg : Nat → Option Fn) : Prop := Pg 200 = some (.code F200)
def H7203 (Pg : Nat → Option Fn) : Prop := Pg 203 = some (.code F203)
def H7220 (Pg : Nat → Option Fn) : Prop := Pg 220 = some (.code F220)
def H7221 (Pg : Nat → Option Fn) : Prop := Pg 221 = some (.code F221)
def H7225 (Pg : Nat → Option Fn) : Prop := Pg 225 = some (.code F225)
def H7227 (Pg : Nat → Option Fn) : Prop := Pg 227 = some (.prim (some 0) (cloneQ 2))
def H7240 (Pg : Nat → Option Fn) : Prop := Pg 240 = some (.code F240)
def H7244 (Pg : Nat → Option Fn) : Prop := Pg 244 = some (.code F244)
def H7249 (Pg : Nat → Option Fn) : Prop := Pg 249 = some (.code F249)
def H7284 (Pg : Nat → Option Fn) : Prop := Pg 284 = some (.code F284)
def H7285 (Pg : Nat → Option Fn) : Prop := Pg 285 = some (.code F285)
def H7287 (Pg : Nat → Option Fn) : Prop := Pg 287 = some (.code F287)
def H7288 (Pg : Nat → Option Fn) : Prop := Pg 288 = some (.code F288)
def H7289 (Pg : Nat → Option Fn) : Prop := Pg 289 = some (.code F289)
def H7290 (Pg : Nat → Option Fn) : Prop := Pg 290 = some (.code F290)
def H7298 (Pg : Nat → Option Fn) : Prop := Pg 298 = some (.code F298)
def H7299 (Pg : Nat → Option Fn) : Prop := Pg 299 = some (.code F299)
def H7301 (Pg : Nat → Option Fn) : Prop := Pg 301 = some (.code F301)
def H7304 (Pg : Nat → Option Fn) : Prop := Pg 304 = some (.code F304)
def H7307 (Pg : Nat → Option Fn) : Prop := Pg 307 = some (.prim (some 0) (cloneQ 17))
def H7312 (Pg : Nat → Option Fn) : Prop := Pg 312 = some (.code F312)
def H7313 (Pg : Nat → Option Fn) : Prop := Pg 313 = some (.code F313)
def H7314 (Pg : Nat → Option Fn) : Prop := Pg 314 = some (.code F314)
def H7315 (Pg : Nat → Option Fn) : Prop := Pg 315 = some (.code F315)
def H7316 (Pg : Nat → Option Fn) : Prop := Pg 316 = some (.code F316)
def H7319 (Pg : Nat → Option Fn) : Prop := Pg 319 = some (.code F319)
def H7320 (Pg : Nat → Option Fn) : Prop := Pg 320 = some (.code F320)
def H7341 (Pg : Nat → Option Fn) : Prop := Pg 341 = some (.code F341)
def H7345 (Pg : Nat → Option Fn) : Prop := Pg 345 = some (.code F345)
def H7366 (Pg : Nat → Option Fn) : Prop := Pg 366 = some (.code F366)
def H7367 (Pg : Nat → Option Fn) : Prop := Pg 367 = some (.code F367)
def H7368 (Pg : Nat → Option Fn) : Prop := Pg 368 = some (.code F368)
def H7395 (Pg : Nat → Option Fn) : Prop := Pg 395 = some (.code F395)
def H7397 (Pg : Nat → Option Fn) : Prop := Pg 397 = some (.code F397)
def H7401 (Pg : Nat → Option Fn) : Prop := Pg 401 = some (.code F401)
def H7402 (Pg : Nat → Option Fn) : Prop := Pg 402 = some (.code F402)
def H7406 (Pg : Nat → Option Fn) : Prop := Pg 406 = some (.code F406)
def H7407 (Pg : Nat → Option Fn) : Prop := Pg 407 = some (.code F407)
def H7408 (Pg : Nat → Option Fn) : Prop := Pg 408 = some (.code F408)
def H7413 (Pg : Nat → Option Fn) : Prop := Pg 413 = some (.code F413)
def H7420 (Pg : Nat → Option Fn) : Prop := Pg 420 = some (.code F420)
def H7421 (Pg : Nat → Option Fn) : Prop := Pg 421 = some (.codeR F421 0)
def H7422 (Pg : Nat → Option Fn) : Prop := Pg 422 = some (.codeR F422 0)
def H7423 (Pg : Nat → Option Fn) : Prop := Pg 423 = some (.codeR F423 0)
def H7424 (Pg : Nat → Option Fn) : Prop := Pg 424 = some (.code F424)
def H7427 (Pg : Nat → Option Fn) : Prop := Pg 427 = some (.code F427)
def H7428 (Pg : Nat → Option Fn) : Prop := Pg 428 = some (.code F428)
def H7429 (Pg : Nat → Option Fn) : Prop := Pg 429 = some (.code F429)
def H7430 (Pg : Nat → Option Fn) : Prop := Pg 430 = some (.code F430)
def H7431 (Pg : Nat → Option Fn) : Prop := Pg 431 = some (.code F431)
def H7432 (Pg : Nat → Option Fn) : Prop := Pg 432 = some (.code F432)
def H7439 (Pg : Nat → Option Fn) : Prop := Pg 439 = some (.code F439)
def H7440 (Pg : Nat → Option Fn) : Prop := Pg 440 = some (.code F440)
def H7442 (Pg : Nat → Option Fn) : Prop := Pg 442 = some (.code F442)
def H7455 (Pg : Nat → Option Fn) : Prop := Pg 455 = some (.code F455)
def H7456 (Pg : Nat → Option Fn) : Prop := Pg 456 = some (.code F456)
def H7457 (Pg : Nat → Option Fn) : Prop := Pg 457 = some (.codeR F457 0)
def H7458 (Pg : Nat → Option Fn) : Prop := Pg 458 = some (.codeR F458 0)
def H7459 (Pg : Nat → Option Fn) : Prop := Pg 459 = some (.code F459)
def H7460 (Pg : Nat → Option Fn) : Prop := Pg 460 = some (.code F460)
def H7461 (Pg : Nat → Option Fn) : Prop := Pg 461 = some (.code F461)
def H7462 (Pg : Nat → Option Fn) : Prop := Pg 462 = some (.code F462)
def H7463 (Pg : Nat → Option Fn) : Prop := Pg 463 = some (.code F463)
def H7464 (Pg : Nat → Option Fn) : Prop := Pg 464 = some (.codeR F464 0)
def H7465 (Pg : Nat → Option Fn) : Prop := Pg 465 = some (.codeR F465 0)
def H7466 (Pg : Nat → Option Fn) : Prop := Pg 466 = some (.codeR F466 0)
def H7467 (Pg : Nat → Option Fn) : Prop := Pg 467 = some (.codeR F467 0)
def H7468 (Pg : Nat → Option Fn) : Prop := Pg 468 = some (.code F468)
def H7473 (Pg : Nat → Option Fn) : Prop := Pg 473 = some (.code F473)
def H7474 (Pg : Nat → Option Fn) : Prop := Pg 474 = some (.code F474)
def H7483 (Pg : Nat → Option Fn) : Prop := Pg 483 = some (.code F483)
def H7484 (Pg : Nat → Option Fn) : Prop := Pg 484 = some (.code F484)
def H7485 (Pg : Nat → Option Fn) : Prop := Pg 485 = some (.code F485)
def H7486 (Pg : Nat → Option Fn) : Prop := Pg 486 = some (.code F486)
def H7487 (Pg : Nat → Option Fn) : Prop := Pg 487 = some (.code F487)
def H7488 (Pg : Nat → Option Fn) : Prop := Pg 488 = some (.code F488)
def H7490 (Pg : Nat → Option Fn) : Prop := Pg 490 = some (.code F490)
def H7491 (Pg : Nat → Option Fn) : Prop := Pg 491 = some (.code F491)
def H7492 (Pg : Nat → Option Fn) : Prop := Pg 492 = some (.codeR F492 0)
def H7493 (Pg : Nat → Option Fn) : Prop := Pg 493 = some (.codeR F493 0)
def H7496 (Pg : Nat → Option Fn) : Prop := Pg 496 = some (.code F496)
def H7497 (Pg : Nat → Option Fn) : Prop := Pg 497 = some (.prim (some 0) (cloneQ 9))
def H7499 (Pg : Nat → Option Fn) : Prop := Pg 499 = some (.code F499)
def H7502 (Pg : Nat → Option Fn) : Prop := Pg 502 = some (.code F502)
def H7503 (Pg : Nat → Option Fn) : Prop := Pg 503 = some (.code F503)
def H7506 (Pg : Nat → Option Fn) : Prop := Pg 506 = some (.code F506)
def H7507 (Pg : Nat → Option Fn) : Prop := Pg 507 = some (.code F507)
def H400 (Pg : Nat → Option Fn) : Prop := Pg 400 = some (.code F400) ∧ H7395 Pg ∧ H7345 Pg ∧ H7397 Pg ∧ H7401 Pg ∧ H7406 Pg ∧ H7407 Pg ∧ H7408 Pg ∧ H7413 Pg ∧ H7043 Pg ∧ H7368 Pg ∧ H7420 Pg ∧ H7249 Pg ∧ H7421 Pg ∧ H7422 Pg ∧ H7423 Pg ∧ H7427 Pg ∧ H7040 Pg ∧ H7428 Pg ∧ H7051 Pg ∧ H7429 Pg ∧ H7039 Pg ∧ H7430 Pg ∧ H7041 Pg ∧ H7431 Pg ∧ H7432 Pg ∧ H7341 Pg ∧ H7439 Pg ∧ H7440 Pg ∧ H7015 Pg ∧ H7442 Pg ∧ H7068 Pg ∧ H7244 Pg ∧ H7301 Pg ∧ H7028 Pg ∧ H7284 Pg ∧ H7455 Pg ∧ H7456 Pg ∧ H7457 Pg ∧ H7458 Pg ∧ H7462 Pg ∧ H7463 Pg ∧ H7464 Pg ∧ H7465 Pg ∧ H7466 Pg ∧ H7467 Pg ∧ H7072 Pg ∧ H7063 Pg ∧ H7064 Pg ∧ H7065 Pg ∧ H7066 Pg ∧ H7067 Pg ∧ H7468 Pg ∧ H7366 Pg ∧ H7367 Pg ∧ H7473 Pg ∧ H7474 Pg ∧ H7240 Pg ∧ H7026 Pg ∧ H7027 Pg ∧ H7047 Pg ∧ H7186 Pg ∧ H7203 Pg ∧ H7081 Pg ∧ H7298 Pg ∧ H7299 Pg ∧ H7316 Pg ∧ H7032 Pg ∧ H7313 Pg ∧ H7483 Pg ∧ H7484 Pg ∧ H7485 Pg ∧ H7490 Pg ∧ H7491 Pg ∧ H7492 Pg ∧ H7493 Pg ∧ H7075 Pg ∧ H7076 Pg ∧ H7071 Pg ∧ H7496 Pg ∧ H7499 Pg ∧ H7285 Pg ∧ H7287 Pg ∧ H7171 Pg ∧ H7288 Pg ∧ H7289 Pg ∧ H7290 Pg ∧ H7031 Pg ∧ H7304 Pg ∧ H7192 Pg ∧ H7007 Pg ∧ H7097 Pg ∧ H7098 Pg ∧ H7315 Pg ∧ H7506 Pg ∧ H7507 Pg ∧ H7314 Pg ∧ H7082 Pg ∧ H7084 Pg ∧ H7200 Pg ∧ H7088 Pg ∧ H7312 Pg ∧ H7220 Pg ∧ H7221 Pg ∧ H7022 Pg ∧ H7319 Pg ∧ H7320 Pg ∧ H7100 Pg ∧ H7003 Pg ∧ H7225 Pg ∧ H7106 Pg ∧ H7069 Pg ∧ H7497 Pg ∧ H7307 Pg ∧ H7170 Pg ∧ H7102 Pg ∧ H7023 Pg ∧ H7227 Pg
theorem K400 (h : H400 Pg) : K' Pg 400 [] = some (.bool true) := by
  obtain ⟨h, h395, h345, h397, h401, h406, h407, h408, h413, h43, h368, h420, h249, h421, h422, h423, h427, h40, h428, h51, h429, h39, h430, h41, h431, h432, h341, h439, h440, h15, h442, h68, h244, h301, h28, h284, h455, h456, h457, h458, h462, h463, h464, h465, h466, h467, h72, h63, h64, h65, h66, h67, h468, h366, h367, h473, h474, h240, h26, h27, h47, h186, h203, h81, h298, h299, h316, h32, h313, h483, h484, h485, h490, h491, h492, h493, h75, h76, h71, h496, h499, h285, h287, h171, h288, h289, h290, h31, h304, h192, h7, h97, h98, h315, h506, h507, h314, h82, h84, h200, h88, h312, h220, h221, h22, h319, h320, h100, h3, h225, h106, h69, h497, h307, h170, h102, h23, h227⟩ := h
  exact K'_of (callN_tab (lookT_all (l := saT) (by
    unfold saT
    exact List.forall_mem_cons.2 ⟨h, List.forall_mem_cons.2 ⟨h395, List.forall_mem_cons.2 ⟨h345, List.forall_mem_cons.2 ⟨h397, List.forall_mem_cons.2 ⟨h401, List.forall_mem_cons.2 ⟨h406, List.forall_mem_cons.2 ⟨h407, List.forall_mem_cons.2 ⟨h408, List.forall_mem_cons.2 ⟨h413, List.forall_mem_cons.2 ⟨h43, List.forall_mem_cons.2 ⟨h368, List.forall_mem_cons.2 ⟨h420, List.forall_mem_cons.2 ⟨h249, List.forall_mem_cons.2 ⟨h421, List.forall_mem_cons.2 ⟨h422, List.forall_mem_cons.2 ⟨h423, List.forall_mem_cons.2 ⟨h427, List.forall_mem_cons.2 ⟨h40, List.forall_mem_cons.2 ⟨h428, List.forall_mem_cons.2 ⟨h51, List.forall_mem_cons.2 ⟨h429, List.forall_mem_cons.2 ⟨h39, List.forall_mem_cons.2 ⟨h430, List.forall_mem_cons.2 ⟨h41, List.forall_mem_cons.2 ⟨h431, List.forall_mem_cons.2 ⟨h432, List.forall_mem_cons.2 ⟨h341, List.forall_mem_cons.2 ⟨h439, List.forall_mem_cons.2 ⟨h440, List.forall_mem_cons.2 ⟨h15, List.forall_mem_cons.2 ⟨h442, List.forall_mem_cons.2 ⟨h68, List.forall_mem_cons.2 ⟨h244, List.forall_mem_cons.2 ⟨h301, List.forall_mem_cons.2 ⟨h28, List.forall_mem_cons.2 ⟨h284, List.forall_mem_cons.2 ⟨h455, List.forall_mem_cons.2 ⟨h456, List.forall_mem_cons.2 ⟨h457, List.forall_mem_cons.2 ⟨h458, List.forall_mem_cons.2 ⟨h462, List.forall_mem_cons.2 ⟨h463, List.forall_mem_cons.2 ⟨h464, List.forall_mem_cons.2 ⟨h465, List.forall_mem_cons.2 ⟨h466, List.forall_mem_cons.2 ⟨h467, List.forall_mem_cons.2 ⟨h72, List.forall_mem_cons.2 ⟨h63, List.forall_mem_cons.2 ⟨h64, List.forall_mem_cons.2 ⟨h65, List.forall_mem_cons.2 ⟨h66, List.forall_mem_cons.2 ⟨h67, List.forall_mem_cons.2 ⟨h468, List.forall_mem_cons.2 ⟨h366, List.forall_mem_cons.2 ⟨h367, List.forall_mem_cons.2 ⟨h473, List.forall_mem_cons.2 ⟨h474, List.forall_mem_cons.2 ⟨h240, List.forall_mem_cons.2 ⟨h26, List.forall_mem_cons.2 ⟨h27, List.forall_mem_cons.2 ⟨h47, List.forall_mem_cons.2 ⟨h186, List.forall_mem_cons.2 ⟨h203, List.forall_mem_cons.2 ⟨h81, List.forall_mem_cons.2 ⟨h298, List.forall_mem_cons.2 ⟨h299, List.forall_mem_cons.2 ⟨h316, List.forall_mem_cons.2 ⟨h32, List.forall_mem_cons.2 ⟨h313, List.forall_mem_cons.2 ⟨h483, List.forall_mem_cons.2 ⟨h484, List.forall_mem_cons.2 ⟨h485, List.forall_mem_cons.2 ⟨h490, List.forall_mem_cons.2 ⟨h491, List.forall_mem_cons.2 ⟨h492, List.forall_mem_cons.2 ⟨h493, List.forall_mem_cons.2 ⟨h75, List.forall_mem_cons.2 ⟨h76, List.forall_mem_cons.2 ⟨h71, List.forall_mem_cons.2 ⟨h496, List.forall_mem_cons.2 ⟨h499, List.forall_mem_cons.2 ⟨h285, List.forall_mem_cons.2 ⟨h287, List.forall_mem_cons.2 ⟨h171, List.forall_mem_cons.2 ⟨h288, List.forall_mem_cons.2 ⟨h289, List.forall_mem_cons.2 ⟨h290, List.forall_mem_cons.2 ⟨h31, List.forall_mem_cons.2 ⟨h304, List.forall_mem_cons.2 ⟨h192, List.forall_mem_cons.2 ⟨h7, List.forall_mem_cons.2 ⟨h97, List.forall_mem_cons.2 ⟨h98, List.forall_mem_cons.2 ⟨h315, List.forall_mem_cons.2 ⟨h506, List.forall_mem_cons.2 ⟨h507, List.forall_mem_cons.2 ⟨h314, List.forall_mem_cons.2 ⟨h82, List.forall_mem_cons.2 ⟨h84, List.forall_mem_cons.2 ⟨h200, List.forall_mem_cons.2 ⟨h88, List.forall_mem_cons.2 ⟨h312, List.forall_mem_cons.2 ⟨h220, List.forall_mem_cons.2 ⟨h221, List.forall_mem_cons.2 ⟨h22, List.forall_mem_cons.2 ⟨h319, List.forall_mem_cons.2 ⟨h320, List.forall_mem_cons.2 ⟨h100, List.forall_mem_cons.2 ⟨h3, List.forall_mem_cons.2 ⟨h225, List.forall_mem_cons.2 ⟨h106, List.forall_mem_cons.2 ⟨h69, List.forall_mem_cons.2 ⟨h497, List.forall_mem_cons.2 ⟨h307, List.forall_mem_cons.2 ⟨h170, List.forall_mem_cons.2 ⟨h102, List.forall_mem_cons.2 ⟨h23, List.forall_mem_cons.2 ⟨h227, fun _ h => by cases h⟩⟩⟩⟩⟩⟩⟩⟩⟩⟩⟩⟩⟩⟩⟩⟩⟩⟩⟩⟩⟩⟩⟩⟩⟩⟩⟩⟩⟩⟩⟩⟩⟩⟩⟩⟩⟩⟩⟩⟩⟩⟩⟩⟩⟩⟩⟩⟩⟩⟩⟩⟩⟩⟩⟩⟩⟩⟩⟩⟩⟩⟩⟩⟩⟩⟩⟩⟩⟩⟩⟩⟩⟩⟩⟩⟩⟩⟩⟩⟩⟩⟩⟩⟩⟩⟩⟩⟩⟩⟩⟩⟩⟩⟩⟩⟩⟩⟩⟩⟩⟩⟩⟩⟩⟩⟩⟩⟩⟩⟩⟩⟩⟩⟩⟩⟩⟩⟩)) 60 _ _ _ (isT_eq sa_run))
def H395 (Pg : Nat → Option Fn) : Prop := Pg 395 = some (.code F395) ∧ H7345 Pg ∧ H7397 Pg ∧ H7401 Pg ∧ H7043 Pg ∧ H7368 Pg ∧ H7249 Pg ∧ H7421 Pg ∧ H7422 Pg ∧ H7423 Pg ∧ H7039 Pg ∧ H7068 Pg ∧ H7244 Pg ∧ H7301 Pg ∧ H7028 Pg ∧ H7284 Pg ∧ H7455 Pg ∧ H7456 Pg ∧ H7457 Pg ∧ H7063 Pg ∧ H7064 Pg ∧ H7065 Pg ∧ H7066 Pg ∧ H7067 Pg ∧ H7186 Pg ∧ H7203 Pg ∧ H7081 Pg ∧ H7299 Pg ∧ H7032 Pg ∧ H7313 Pg ∧ H7483 Pg ∧ H7484 Pg ∧ H7075 Pg ∧ H7076 Pg ∧ H7315 Pg ∧ H7069 Pg
theorem K395 (h : H395 Pg) (id : Int) : K' Pg 395 [iz id] = some (if 1 ≤ id ∧ id ≤ 3 then .tuple [.agg (eSto (newS id.toNat)), iz 0] else .tuple [.agg [iz 0, .slice 9 []], iz 1]) := by
  obtain ⟨h, h345, h397, h401, h43, h368, h249, h421, h422, h423, h39, h68, h244, h301, h28, h284, h455, h456, h457, h63, h64, h65, h66, h67, h186, h203, h81, h299, h32, h313, h483, h484, h75, h76, h315, h69⟩ := h
  have hT := callN_tab (lookT_all (l := snT) (by
    unfold snT
    exact List.forall_mem_cons.2 ⟨h, List.forall_mem_cons.2 ⟨h345, List.forall_mem_cons.2 ⟨h397, List.forall_mem_cons.2 ⟨h401, List.forall_mem_cons.2 ⟨h43, List.forall_mem_cons.2 ⟨h368, List.forall_mem_cons.2 ⟨h249, List.forall_mem_cons.2 ⟨h421, List.forall_mem_cons.2 ⟨h422, List.forall_mem_cons.2 ⟨h423, List.forall_mem_cons.2 ⟨h39, List.forall_mem_cons.2 ⟨h68, List.forall_mem_cons.2 ⟨h244, List.forall_mem_cons.2 ⟨h301, List.forall_mem_cons.2 ⟨h28, List.forall_mem_cons.2 ⟨h284, List.forall_mem_cons.2 ⟨h455, List.forall_mem_cons.2 ⟨h456, List.forall_mem_cons.2 ⟨h457, List.forall_mem_cons.2 ⟨h63, List.forall_mem_cons.2 ⟨h64, List.forall_mem_cons.2 ⟨h65, List.forall_mem_cons.2 ⟨h66, List.forall_mem_cons.2 ⟨h67, List.forall_mem_cons.2 ⟨h186, List.forall_mem_cons.2 ⟨h203, List.forall_mem_cons.2 ⟨h81, List.forall_mem_cons.2 ⟨h299, List.forall_mem_cons.2 ⟨h32, List.forall_mem_cons.2 ⟨h313, List.forall_mem_cons.2 ⟨h483, List.forall_mem_cons.2 ⟨h484, List.forall_mem_cons.2 ⟨h75, List.forall_mem_cons.2 ⟨h76, List.forall_mem_cons.2 ⟨h315, List.forall_mem_cons.2 ⟨h69, fun _ h => by cases h⟩⟩⟩⟩⟩⟩⟩⟩⟩⟩⟩⟩⟩⟩⟩⟩⟩⟩⟩⟩⟩⟩⟩⟩⟩⟩⟩⟩⟩⟩⟩⟩⟩⟩⟩⟩))
  cases c1 : decide (id < 1) with
  | true =>
    rw [if_neg (by have := of_decide_eq_true c1; omega)]
    refine K'_code h rfl ?_
    simp only [F395, c395, go_sem, c1]
  | false =>
  cases c2 : decide (3 < id) with
  | true =>
    rw [if_neg (by have := of_decide_eq_true c2; omega)]
    refine K'_code h rfl ?_
    simp only [F395, c395, go_sem, c1, c2]
  | false =>
  have d1 := of_decide_eq_false c1
  have d2 := of_decide_eq_false c2
  rw [if_pos (by omega)]
  have d3 : id = 1 ∨ id = 2 ∨ id = 3 := by omega
  rcases d3 with rfl | rfl | rfl
  · exact K'_of (hT 60 _ _ _ sn_run1)
  · exact K'_of (hT 60 _ _ _ sn_run2)
  · exact K'_of (hT 60 _ _ _ sn_run3)
def H396 (Pg : Nat → Option Fn) : Prop := Pg 396 = some (.code F396) ∧ H7402 Pg ∧ H7044 Pg ∧ H7424 Pg ∧ H7061 Pg ∧ H7062 Pg ∧ H7459 Pg ∧ H7460 Pg ∧ H7461 Pg ∧ H7486 Pg ∧ H7487 Pg ∧ H7488 Pg ∧ H7502 Pg ∧ H7503 Pg
theorem K396 (h : H396 Pg) (id : Int) : K' Pg 396 [iz id] = some (if 1 ≤ id ∧ id ≤ 3 then .tuple [.agg (eSto (newS id.toNat)), .bool true] else .tuple [.agg [iz 0, .slice 9 []], .bool false]) := by
  obtain ⟨h, h402, h44, h424, h61, h62, h459, h460, h461, h486, h487, h488, h502, h503⟩ := h
  have hT := callN_tab (lookT_all (l := sdT) (by
    unfold sdT
    exact List.forall_mem_cons.2 ⟨h, List.forall_mem_cons.2 ⟨h402, List.forall_mem_cons.2 ⟨h44, List.forall_mem_cons.2 ⟨h424, List.forall_mem_cons.2 ⟨h61, List.forall_mem_cons.2 ⟨h62, List.forall_mem_cons.2 ⟨h459, List.forall_mem_cons.2 ⟨h460, List.forall_mem_cons.2 ⟨h461, List.forall_mem_cons.2 ⟨h486, List.forall_mem_cons.2 ⟨h487, List.forall_mem_cons.2 ⟨h488, List.forall_mem_cons.2 ⟨h502, List.forall_mem_cons.2 ⟨h503, fun _ h => by cases h⟩⟩⟩⟩⟩⟩⟩⟩⟩⟩⟩⟩⟩⟩))
  cases c1 : decide (id < 1) with
  | true =>
    rw [if_neg (by have := of_decide_eq_true c1; omega)]
    refine K'_code h rfl ?_
    simp only [F396, c396, go_sem, c1]
  | false =>
  cases c2 : decide (3 < id) with
  | true =>
    rw [if_neg (by have := of_decide_eq_true c2; omega)]
    refine K'_code h rfl ?_
    simp only [F396, c396, go_sem, c1, c2]
  | false =>
  have d1 := of_decide_eq_false c1
  have d2 := of_decide_eq_false c2
  rw [if_pos (by omega)]
  have d3 : id = 1 ∨ id = 2 ∨ id = 3 := by omega
  rcases d3 with rfl | rfl | rfl
  · exact K'_of (hT 60 _ _ _ sd_run1)
  · exact K'_of (hT 60 _ _ _ sd_run2)
  · exact K'_of (hT 60 _ _ _ sd_run3)
end Sg
namespace Sg
open _root_.Go (IntKind BinOp UnOp)
set_option linter.unusedSimpArgs false
set_option linter.unusedVariables false
set_option maxRecDepth 10000
variable {Pg : Nat → Option Fn}
end Sg
namespace Sg
open _root_.Go (IntKind BinOp UnOp)
set_option linter.unusedSimpArgs false
set_option linter.unusedVariables false
set_option maxRecDepth 10000
variable {Pg : Nat → Option Fn}
end Sg
namespace Sg
open _root_.Go (IntKind BinOp UnOp)
set_option linter.unusedSimpArgs false
set_option linter.unusedVariables false
set_option maxRecDepth 10000
variable {Pg : Nat → Option Fn}
@[go_sem] theorem scal_tib {k : IntKind} {n : Int} {b : Bool} : (V.tuple [.int k n, .bool b]).scalar = true := rfl
@[go_sem] theorem scal_zib {n : Int} {b : Bool} : (V.tuple [iz n, .bool b]).scalar = true := rfl
@[go_sem] def eOVr (o : Option Ver) : V := .tuple [.agg (eVer (o.getD zeroVer)), .bool o.isSome]
def H250 (Pg : Nat → Option Fn) : Prop := Pg 250 = some (.code F250) ∧ H86 Pg ∧ H202 Pg
theorem K250 (h : H250 Pg) (s : Shd) (hs : SmS s) : K' Pg 250 [.agg (eShd s), .agg (eShd s)] = some (.bool true) := by
  obtain ⟨h, h86, h202⟩ := h
  have k86 := K86 h86 s.done (by have := hs.2.1; omega) hs.2.2.1
  have k202 := K202 h202 s.ents hs.1
  simp only [eDones, eEnts] at k86 k202
  refine K'_code h rfl ?_
  simp only [go_sem, k86, k202]
def H242 (Pg : Nat → Option Fn) : Prop := Pg 242 = some (.code F242) ∧ H250 Pg
theorem K242 (h : H242 Pg) (c : Cel) (hc : SmC c) : K' Pg 242 [.agg (eCel c), .agg (eCel c)] = some (.bool true) := by
  obtain ⟨h, h250⟩ := h
  have hl := hc.1
  refine K'_code h rfl ?_
  simp only [go_sem]
  unfold l242_0
  refine wp_lp (fun (i : Nat) S => i ≤ c.shards.length ∧ S.ρ 2 = .lref 2 0 ∧ S.μ 2 = some (eCel c, false) ∧ S.ρ 3 = .lref 3 0 ∧ S.μ 3 = some (eCel c, false) ∧ S.ρ 5 = iz i) (fun i => c.shards.length - i) 0 ?_ ?_
  · simp [go_sem]
  · intro i S ⟨hi, h2, m2, h3, m3, h5⟩
    simp only [go_sem, h2, m2, h3, m3, h5]
    refine wpc_i (fun h => ?_) (fun h => ?_)
    · have h := lt_of h
      obtain ⟨x, hx, hd⟩ := drop_at h
      have k := K250 h250 x (hc.2 x (List.mem_of_getElem? hx))
      simp only [eShd, eEnts, eDones] at k
      simp only [go_sem, h2, m2, h3, m3, h5, hx, k]
      exact ⟨i + 1, by omega, by omega, by rw [inc64 h (by omega)]⟩
    · simp only [go_sem]
@[go_sem] def eOS' (o : Option Shd) : V := .tuple [.agg (eShd (o.getD zeroShd)), .bool o.isSome]
end Sg
namespace Sg
open _root_.Go (IntKind BinOp UnOp)
set_option linter.unusedSimpArgs false
set_option linter.unusedVariables false
set_option maxRecDepth 10000
variable {Pg : Nat → Option Fn}
def begC (c : Int) : Cel := if c = 1 then ⟨[⟨1, 1, ⟨[], []⟩, 1, [], ⟨0, 0, 0⟩, ⟨0, 0, 0⟩, [], 0, 0, 0, 0⟩], ⟨0, 0, 0⟩, 0⟩ else ⟨[], ⟨0, 0, 0⟩, 0⟩
theorem begC_right (c : Int) : celR (begC c) = true := by unfold begC; split <;> decide
def memS (c : Int) : List Int := if cellQ c = true then [c, c.tmod 3 + 1] else []
def H345 (Pg : Nat → Option Fn) : Prop := Pg 345 = some (.code F345) ∧ H368 Pg
theorem K345 (h : H345 Pg) (c : Int) : K' Pg 345 [iz c] = some (eInts (memS c)) := by
  obtain ⟨h, h368⟩ := h
  have k := K368 h368 c
  refine K'_code h rfl ?_
  unfold memS
  cases c1 : cellQ c with
  | false =>
    rw [c1] at k
    simp only [F345, c345, go_sem, k, Bool.false_eq_true, if_false, List.map_nil]
  | true =>
    rw [c1] at k
    simp only [cellQ, Bool.and_eq_true, decide_eq_true_eq] at c1
    have d3 : c = 1 ∨ c = 2 ∨ c = 3 := by omega
    rcases d3 with rfl | rfl | rfl <;> simp only [F345, c345, go_sem, k, if_true, List.map_cons, List.map_nil] <;> rfl
def H397 (Pg : Nat → Option Fn) : Prop := Pg 397 = some (.code F397)
theorem K397 (h : H397 Pg) (c : Int) : K' Pg 397 [iz c] = some (.agg (eCel (begC c))) := by
  refine K'_code h rfl ?_
  unfold begC
  by_cases hc : c = 1
  · have c1 : decide (c = 1) = true := decide_eq_true hc
    simp only [F397, c397, go_sem, c1, if_pos hc, List.map_nil, List.map_cons]
  · have c1 : decide (c = 1) = false := decide_eq_false hc
    simp only [F397, c397, go_sem, c1, if_neg hc, List.map_nil]
def H402 (Pg : Nat → Option Fn) : Prop := Pg 402 = some (.code F402) ∧ H424 Pg
theorem K402 (h : H402 Pg) (c : Int) : K' Pg 402 [iz c] = some (.str (cB (begC c))) := by
  obtain ⟨h, h424⟩ := h
  have k := K424 h424 (begC c) (begC_right c)
  refine K'_code h rfl ?_
  unfold begC at k ⊢
  by_cases hc : c = 1
  · have c1 : decide (c = 1) = true := decide_eq_true hc
    rw [if_pos hc] at k ⊢
    simp only [go_sem, List.map_nil, List.map_cons] at k
    simp only [F402, c402, go_sem, c1, k]
  · have c1 : decide (c = 1) = false := decide_eq_false hc
    rw [if_neg hc] at k ⊢
    simp only [go_sem, List.map_nil] at k
    simp only [F402, c402, go_sem, c1, k]
theorem newS_ok (k : Nat) : StoOk (newS k) ∧ (newS k).owns.length ≤ 1048576 := by
  unfold newS
  split <;> refine ⟨⟨by simp, fun o ho => ?_⟩, by simp⟩ <;> simp only [List.mem_cons, List.not_mem_nil, or_false] at ho <;> rcases ho with rfl | rfl <;> exact ⟨⟨by simp, by simp⟩, by simp, fun m hm => by cases hm⟩
def H394 (Pg : Nat → Option Fn) : Prop := Pg 394 = some (.code F394) ∧ H395 Pg ∧ H396 Pg ∧ H345 Pg ∧ H397 Pg ∧ H398 Pg ∧ H399 Pg ∧ H242 Pg ∧ H400 Pg ∧ H401 Pg ∧ H402 Pg
set_option maxHeartbeats 1000000 in
theorem K394 (h : H394 Pg) (id c : Int) : K' Pg 394 [iz id, iz c] = some (.bool true) := by
  obtain ⟨h, h395, h396, h345, h397, h398, h399, h242, h400, h401, h402⟩ := h
  have k395 := K395 h395 id
  have k396 := K396 h396 id
  have k345 := K345 h345 c
  have k397 := K397 h397 c
  have k400 := K400 h400
  have k401 := K401 h401 (begC c) (cel_small (begC_right c))
  rw [if_pos (begC_right c)] at k401
  have k402 := K402 h402 c
  have k242 := K242 h242 (begC c) (cel_small (begC_right c))
  refine K'_code h rfl ?_
  have main : ∀ (a : Sto) (e : Int) (b : Bool), StoOk a → a.owns.length ≤ 1048576 → K' Pg 395 [iz id] = some (.tuple [.agg (eSto a), iz e]) → K' Pg 396 [iz id] = some (.tuple [.agg (eSto a), .bool b]) → (e = 0 ∧ b = true ∨ e = 1 ∧ b = false) →
      Wp (K' Pg) F394.body (start [iz id, iz c]) fun ex S => (ex = .norm ∨ ex = .ret) ∧ finish F394 S = some (.bool true) := by
    intro a e b h1 h2 h3 h4 h5
    have k398 := K398 h398 a h2
    have k399 := K399 h399 a h1
    simp only [go_sem] at h3 h4 k398 k399
    cases hq : cellQ c with
    | false =>
      have hz : begC c = ⟨[], ⟨0, 0, 0⟩, 0⟩ := by
        unfold begC
        rw [if_neg]
        rintro rfl
        revert hq; decide
      have hm : memS c = [] := by unfold memS; rw [hq]; rfl
      rw [hz] at k397 k242
      rw [hm] at k345
      simp only [go_sem, List.map_nil] at k345 k397 k242
      cases c1 : decide (c < 1) with
      | true =>
        rcases h5 with ⟨rfl, rfl⟩ | ⟨rfl, rfl⟩ <;> simp only [F394, c394, go_sem, h3, h4, k345, k397, k398, k399, k242, k400, c1]
      | false =>
        have c2 : decide (3 < c) = true := by
          have := of_decide_eq_false c1
          simp only [cellQ, Bool.and_eq_false_iff, decide_eq_false_iff_not] at hq
          exact decide_eq_true (by omega)
        rcases h5 with ⟨rfl, rfl⟩ | ⟨rfl, rfl⟩ <;> simp only [F394, c394, go_sem, h3, h4, k345, k397, k398, k399, k242, k400, c1, c2]
    | true =>
      have hm : memS c = [c, c.tmod 3 + 1] := by unfold memS; rw [hq]; rfl
      rw [hm] at k345
      have hq' := hq
      simp only [cellQ, Bool.and_eq_true, decide_eq_true_eq] at hq'
      have c1 : decide (c < 1) = false := decide_eq_false (by omega)
      have c2 : decide (3 < c) = false := decide_eq_false (by omega)
      have hw : IntKind.i64.wrap (c.tmod 3 + 1) = c.tmod 3 + 1 := by
        have d3 : c = 1 ∨ c = 2 ∨ c = 3 := by omega
        rcases d3 with rfl | rfl | rfl <;> rfl
      simp only [go_sem, List.map_cons, List.map_nil] at k345 k397 k401
      generalize cB (begC c) = bs at *
      rcases h5 with ⟨rfl, rfl⟩ | ⟨rfl, rfl⟩ <;> simp only [F394, c394, go_sem, h3, h4, k345, k397, k398, k399, k400, k401, k402, c1, c2, hw]
  by_cases hi : 1 ≤ id ∧ id ≤ 3
  · rw [if_pos hi] at k395 k396
    exact main (newS id.toNat) 0 true (newS_ok _).1 (newS_ok _).2 k395 k396 (.inl ⟨rfl, rfl⟩)
  · rw [if_neg hi] at k395 k396
    exact main ⟨0, []⟩ 1 false ⟨by simp, fun o ho => by cases ho⟩ (by simp) k395 k396 (.inr ⟨rfl, rfl⟩)
end Sg
namespace Sg
open _root_.Go (IntKind BinOp UnOp)
set_option linter.unusedSimpArgs false
set_option linter.unusedVariables false
set_option maxRecDepth 10000
variable {Pg : Nat → Option Fn}
end Sg
namespace Sg
open _root_.Go (IntKind BinOp UnOp)
set_option linter.unusedSimpArgs false
set_option linter.unusedVariables false
set_option maxRecDepth 10000
variable {Pg : Nat → Option Fn}
end Sg
namespace Sg
open _root_.Go (IntKind BinOp UnOp)
set_option linter.unusedSimpArgs false
set_option linter.unusedVariables false
set_option maxRecDepth 10000
variable {Pg : Nat → Option Fn}
end Sg
namespace Sg
open _root_.Go (IntKind BinOp UnOp)
set_option linter.unusedSimpArgs false
set_option linter.unusedVariables false
set_option maxRecDepth 10000
variable {Pg : Nat → Option Fn}
end Sg
namespace Sg
open _root_.Go
set_option linter.unusedSimpArgs false
set_option linter.unusedVariables false
variable {N : Nat}
theorem has_int {k : IntKind} {x : V} (h : HasN N (.int k) x) : ∃ n, x = .int k n ∧ (Lit.int k n).wf = true := by cases h; exact ⟨_, rfl, by assumption⟩
theorem arg_int {x : V} (h : ArgVN N (false, [.int .i64]) x) : ∃ n, x = iz n ∧ (Lit.int .i64 n).wf = true := by
  obtain ⟨c, hc, h⟩ := h
  simp only [List.cons.injEq, and_true] at hc; subst hc
  exact has_int h
end Sg
namespace Sg
open _root_.Go
set_option linter.unusedSimpArgs false
set_option linter.unusedVariables false
end Sg
namespace Sg
open _root_.Go
set_option linter.unusedSimpArgs false
set_option linter.unusedVariables false
end Sg
namespace Sg
open _root_.Go _root_.Go.Proofs
set_option linter.unusedSimpArgs false
set_option maxRecDepth 100000
theorem t7345 : H7345 (look storeTab) := rfl
theorem t7397 : H7397 (look storeTab) := rfl
theorem t7401 : H7401 (look storeTab) := rfl
theorem t7043 : H7043 (look storeTab) := rfl
theorem t7368 : H7368 (look storeTab) := rfl
theorem t7249 : H7249 (look storeTab) := rfl
theorem t7421 : H7421 (look storeTab) := rfl
theorem t7422 : H7422 (look storeTab) := rfl
theorem t7423 : H7423 (look storeTab) := rfl
theorem t7039 : H7039 (look storeTab) := rfl
theorem t7068 : H7068 (look storeTab) := rfl
theorem t7244 : H7244 (look storeTab) := rfl
theorem t7301 : H7301 (look storeTab) := rfl
theorem t7028 : H7028 (look storeTab) := rfl
theorem t7284 : H7284 (look storeTab) := rfl
theorem t7455 : H7455 (look storeTab) := rfl
theorem t7456 : H7456 (look storeTab) := rfl
theorem t7457 : H7457 (look storeTab) := rfl
theorem t7063 : H7063 (look storeTab) := rfl
theorem t7064 : H7064 (look storeTab) := rfl
theorem t7065 : H7065 (look storeTab) := rfl
theorem t7066 : H7066 (look storeTab) := rfl
theorem t7067 : H7067 (look storeTab) := rfl
theorem t7186 : H7186 (look storeTab) := rfl
theorem t7203 : H7203 (look storeTab) := rfl
theorem t7081 : H7081 (look storeTab) := rfl
theorem t7299 : H7299 (look storeTab) := rfl
theorem t7032 : H7032 (look storeTab) := rfl
theorem t7313 : H7313 (look storeTab) := rfl
theorem t7483 : H7483 (look storeTab) := rfl
theorem t7484 : H7484 (look storeTab) := rfl
theorem t7075 : H7075 (look storeTab) := rfl
theorem t7076 : H7076 (look storeTab) := rfl
theorem t7315 : H7315 (look storeTab) := rfl
theorem t7069 : H7069 (look storeTab) := rfl
theorem t395 : H395 (look storeTab) := ⟨rfl, t7345, t7397, t7401, t7043, t7368, t7249, t7421, t7422, t7423, t7039, t7068, t7244, t7301, t7028, t7284, t7455, t7456, t7457, t7063, t7064, t7065, t7066, t7067, t7186, t7203, t7081, t7299, t7032, t7313, t7483, t7484, t7075, t7076, t7315, t7069⟩
theorem t7402 : H7402 (look storeTab) := rfl
theorem t7044 : H7044 (look storeTab) := rfl
theorem t7424 : H7424 (look storeTab) := rfl
theorem t7061 : H7061 (look storeTab) := rfl
theorem t7062 : H7062 (look storeTab) := rfl
theorem t7459 : H7459 (look storeTab) := rfl
theorem t7460 : H7460 (look storeTab) := rfl
theorem t7461 : H7461 (look storeTab) := rfl
theorem t7486 : H7486 (look storeTab) := rfl
theorem t7487 : H7487 (look storeTab) := rfl
theorem t7488 : H7488 (look storeTab) := rfl
theorem t7502 : H7502 (look storeTab) := rfl
theorem t7503 : H7503 (look storeTab) := rfl
theorem t396 : H396 (look storeTab) := ⟨rfl, t7402, t7044, t7424, t7061, t7062, t7459, t7460, t7461, t7486, t7487, t7488, t7502, t7503⟩
theorem t368 : H368 (look storeTab) := rfl
theorem t345 : H345 (look storeTab) := ⟨rfl, t368⟩
theorem t397 : H397 (look storeTab) := rfl
theorem t398 : H398 (look storeTab) := rfl
theorem t70 : H70 (look storeTab) := rfl
theorem t45 : H45 (look storeTab) := ⟨rfl, t70⟩
theorem t101 : H101 (look storeTab) := rfl
theorem t153 : H153 (look storeTab) := rfl
theorem t372 : H372 (look storeTab) := ⟨rfl, t101, t153⟩
theorem t360 : H360 (look storeTab) := ⟨rfl, t372⟩
theorem t399 : H399 (look storeTab) := ⟨rfl, t45, t360⟩
theorem t86 : H86 (look storeTab) := ⟨rfl, t101⟩
theorem t8 : H8 (look storeTab) := rfl
theorem t202 : H202 (look storeTab) := ⟨rfl, t8⟩
theorem t250 : H250 (look storeTab) := ⟨rfl, t86, t202⟩
theorem t242 : H242 (look storeTab) := ⟨rfl, t250⟩
theorem t7395 : H7395 (look storeTab) := rfl
theorem t7406 : H7406 (look storeTab) := rfl
theorem t7407 : H7407 (look storeTab) := rfl
theorem t7408 : H7408 (look storeTab) := rfl
theorem t7413 : H7413 (look storeTab) := rfl
theorem t7420 : H7420 (look storeTab) := rfl
theorem t7427 : H7427 (look storeTab) := rfl
theorem t7040 : H7040 (look storeTab) := rfl
theorem t7428 : H7428 (look storeTab) := rfl
theorem t7051 : H7051 (look storeTab) := rfl
theorem t7429 : H7429 (look storeTab) := rfl
theorem t7430 : H7430 (look storeTab) := rfl
theorem t7041 : H7041 (look storeTab) := rfl
theorem t7431 : H7431 (look storeTab) := rfl
theorem t7432 : H7432 (look storeTab) := rfl
theorem t7341 : H7341 (look storeTab) := rfl
theorem t7439 : H7439 (look storeTab) := rfl
theorem t7440 : H7440 (look storeTab) := rfl
theorem t7015 : H7015 (look storeTab) := rfl
theorem t7442 : H7442 (look storeTab) := rfl
theorem t7458 : H7458 (look storeTab) := rfl
theorem t7462 : H7462 (look storeTab) := rfl
theorem t7463 : H7463 (look storeTab) := rfl
theorem t7464 : H7464 (look storeTab) := rfl
theorem t7465 : H7465 (look storeTab) := rfl
theorem t7466 : H7466 (look storeTab) := rfl
theorem t7467 : H7467 (look storeTab) := rfl
theorem t7072 : H7072 (look storeTab) := rfl
theorem t7468 : H7468 (look storeTab) := rfl
theorem t7366 : H7366 (look storeTab) := rfl
theorem t7367 : H7367 (look storeTab) := rfl
theorem t7473 : H7473 (look storeTab) := rfl
theorem t7474 : H7474 (look storeTab) := rfl
theorem t7240 : H7240 (look storeTab) := rfl
theorem t7026 : H7026 (look storeTab) := rfl
theorem t7027 : H7027 (look storeTab) := rfl
theorem t7047 : H7047 (look storeTab) := rfl
theorem t7298 : H7298 (look storeTab) := rfl
theorem t7316 : H7316 (look storeTab) := rfl
theorem t7485 : H7485 (look storeTab) := rfl
theorem t7490 : H7490 (look storeTab) := rfl
theorem t7491 : H7491 (look storeTab) := rfl
theorem t7492 : H7492 (look storeTab) := rfl
theorem t7493 : H7493 (look storeTab) := rfl
theorem t7071 : H7071 (look storeTab) := rfl
theorem t7496 : H7496 (look storeTab) := rfl
theorem t7499 : H7499 (look storeTab) := rfl
theorem t7285 : H7285 (look storeTab) := rfl
theorem t7287 : H7287 (look storeTab) := rfl
theorem t7171 : H7171 (look storeTab) := rfl
theorem t7288 : H7288 (look storeTab) := rfl
theorem t7289 : H7289 (look storeTab) := rfl
theorem t7290 : H7290 (look storeTab) := rfl
theorem t7031 : H7031 (look storeTab) := rfl
theorem t7304 : H7304 (look storeTab) := rfl
theorem t7192 : H7192 (look storeTab) := rfl
theorem t7007 : H7007 (look storeTab) := rfl
theorem t7097 : H7097 (look storeTab) := rfl
theorem t7098 : H7098 (look storeTab) := rfl
theorem t7506 : H7506 (look storeTab) := rfl
theorem t7507 : H7507 (look storeTab) := rfl
theorem t7314 : H7314 (look storeTab) := rfl
theorem t7082 : H7082 (look storeTab) := rfl
theorem t7084 : H7084 (look storeTab) := rfl
theorem t7200 : H7200 (look storeTab) := rfl
theorem t7088 : H7088 (look storeTab) := rfl
theorem t7312 : H7312 (look storeTab) := rfl
theorem t7220 : H7220 (look storeTab) := rfl
theorem t7221 : H7221 (look storeTab) := rfl
theorem t7022 : H7022 (look storeTab) := rfl
theorem t7319 : H7319 (look storeTab) := rfl
theorem t7320 : H7320 (look storeTab) := rfl
theorem t7100 : H7100 (look storeTab) := rfl
theorem t7003 : H7003 (look storeTab) := rfl
theorem t7225 : H7225 (look storeTab) := rfl
theorem t7106 : H7106 (look storeTab) := rfl
theorem t7497 : H7497 (look storeTab) := rfl
theorem t7307 : H7307 (look storeTab) := rfl
theorem t7170 : H7170 (look storeTab) := rfl
theorem t7102 : H7102 (look storeTab) := rfl
theorem t7023 : H7023 (look storeTab) := rfl
theorem t7227 : H7227 (look storeTab) := rfl
theorem t400 : H400 (look storeTab) := ⟨rfl, t7395, t7345, t7397, t7401, t7406, t7407, t7408, t7413, t7043, t7368, t7420, t7249, t7421, t7422, t7423, t7427, t7040, t7428, t7051, t7429, t7039, t7430, t7041, t7431, t7432, t7341, t7439, t7440, t7015, t7442, t7068, t7244, t7301, t7028, t7284, t7455, t7456, t7457, t7458, t7462, t7463, t7464, t7465, t7466, t7467, t7072, t7063, t7064, t7065, t7066, t7067, t7468, t7366, t7367, t7473, t7474, t7240, t7026, t7027, t7047, t7186, t7203, t7081, t7298, t7299, t7316, t7032, t7313, t7483, t7484, t7485, t7490, t7491, t7492, t7493, t7075, t7076, t7071, t7496, t7499, t7285, t7287, t7171, t7288, t7289, t7290, t7031, t7304, t7192, t7007, t7097, t7098, t7315, t7506, t7507, t7314, t7082, t7084, t7200, t7088, t7312, t7220, t7221, t7022, t7319, t7320, t7100, t7003, t7225, t7106, t7069, t7497, t7307, t7170, t7102, t7023, t7227⟩
theorem t32 : H32 (look storeTab) := rfl
theorem t28 : H28 (look storeTab) := ⟨rfl, t32⟩
theorem t97 : H97 (look storeTab) := rfl
theorem t98 : H98 (look storeTab) := ⟨rfl, t28⟩
theorem t81 : H81 (look storeTab) := ⟨rfl, t97, t98⟩
theorem t170 : H170 (look storeTab) := rfl
theorem t190 : H190 (look storeTab) := rfl
theorem t192 : H192 (look storeTab) := ⟨rfl, t190⟩
theorem t186 : H186 (look storeTab) := ⟨rfl, t170, t192⟩
theorem t22 : H22 (look storeTab) := ⟨rfl, t28⟩
theorem t31 : H31 (look storeTab) := rfl
theorem t26 : H26 (look storeTab) := ⟨rfl, t31⟩
theorem t27 : H27 (look storeTab) := rfl
theorem t15 : H15 (look storeTab) := ⟨rfl, t26, t27⟩
theorem t7 : H7 (look storeTab) := ⟨rfl, t22, t15⟩
theorem t203 : H203 (look storeTab) := ⟨rfl, t7, t170, t192⟩
theorem t76 : H76 (look storeTab) := rfl
theorem t67 : H67 (look storeTab) := ⟨rfl, t76⟩
theorem t313 : H313 (look storeTab) := rfl
theorem t284 : H284 (look storeTab) := ⟨rfl, t67, t313⟩
theorem t171 : H171 (look storeTab) := ⟨rfl, t186, t170, t192⟩
theorem t298 : H298 (look storeTab) := ⟨rfl, t171⟩
theorem t315 : H315 (look storeTab) := rfl
theorem t299 : H299 (look storeTab) := ⟨rfl, t315⟩
theorem t244 : H244 (look storeTab) := ⟨rfl, t28, t81, t186, t203, t284, t298, t299⟩
theorem t316 : H316 (look storeTab) := ⟨rfl, t15⟩
theorem t301 : H301 (look storeTab) := ⟨rfl, t299, t316⟩
theorem t249 : H249 (look storeTab) := ⟨rfl, t28, t244, t284, t301⟩
theorem t456 : H456 (look storeTab) := rfl
theorem t483 : H483 (look storeTab) := ⟨rfl, t456⟩
theorem t455 : H455 (look storeTab) := ⟨rfl, t483, t28⟩
theorem t421 : H421 (look storeTab) := ⟨rfl, t455⟩
theorem t422 : H422 (look storeTab) := ⟨rfl, t456⟩
theorem t484 : H484 (look storeTab) := ⟨rfl, t456⟩
theorem t457 : H457 (look storeTab) := ⟨rfl, t484⟩
theorem t485 : H485 (look storeTab) := rfl
theorem t458 : H458 (look storeTab) := ⟨rfl, t485⟩
theorem t423 : H423 (look storeTab) := ⟨rfl, t422, t457, t421, t458⟩
theorem t401 : H401 (look storeTab) := ⟨rfl, t249, t421, t422, t423⟩
theorem t502 : H502 (look storeTab) := rfl
theorem t487 : H487 (look storeTab) := ⟨rfl, t502⟩
theorem t486 : H486 (look storeTab) := ⟨rfl, t487⟩
theorem t459 : H459 (look storeTab) := ⟨rfl, t486⟩
theorem t460 : H460 (look storeTab) := ⟨rfl, t487⟩
theorem t504 : H504 (look storeTab) := rfl
theorem t489 : H489 (look storeTab) := ⟨rfl, t504⟩
theorem t503 : H503 (look storeTab) := ⟨rfl, t487⟩
theorem t488 : H488 (look storeTab) := ⟨rfl, t503⟩
theorem t461 : H461 (look storeTab) := ⟨rfl, t459, t489, t488, t460⟩
theorem t424 : H424 (look storeTab) := ⟨rfl, t459, t460, t461⟩
theorem t402 : H402 (look storeTab) := ⟨rfl, t424⟩
theorem t394 : H394 (look storeTab) := ⟨rfl, t395, t396, t345, t397, t398, t399, t242, t400, t401, t402⟩
theorem all_ctr (f : Nat) (args : List V) (r : V) (h : K' (look storeTab) f args = some r) : Ctr Tryz.prog (cxU storeFm) (ownOf (look storeTab) f) f args r := by
  obtain ⟨n, hn⟩ := K'_iff.1 h
  refine tab_sound (by kernel_rfl) okAll (fun f own p hp => ?_) (fun f z p hlt hp => ?_) (fun f z p hp => ?_) n f args r hn
  · have hm := look_mem hp
    simp only [storeTab, List.mem_cons, Prod.mk.injEq, reduceCtorEq, and_false, false_and, false_or, Fn.prim.injEq, Option.some.injEq, List.not_mem_nil, or_false] at hm
    rcases hm with ⟨rfl, hz, rfl⟩ | ⟨rfl, hz, rfl⟩ | ⟨rfl, hz, rfl⟩ | ⟨rfl, hz, rfl⟩ | ⟨rfl, hz, rfl⟩ | ⟨rfl, hz, rfl⟩ | ⟨rfl, hz, rfl⟩ | ⟨rfl, hz, rfl⟩ | ⟨rfl, hz, rfl⟩ | ⟨rfl, hz, rfl⟩ | ⟨rfl, hz, rfl⟩ | ⟨rfl, hz, rfl⟩
    · subst hz
      exact clone_ctr (zero := [.int .i64 0]) (by kernel_rfl) okClone69
    · subst hz
      exact clone_ctr (zero := [.int .i64 0, .int .i64 0, .int .i64 0, .slice 1 [], .int .i64 0, .str [], .str [], .slice 1 [], .slice 36 []]) (by kernel_rfl) okClone497
    · intro args r h
      simp [noQ] at h
    · subst hz
      exact clone_ctr (zero := [.int .i64 0, .int .i64 0, .str [], .str [], .int .i64 0, .slice 2 [], .int .i64 0, .int .i64 0, .int .i64 0, .int .i64 0, .int .i64 0, .int .i64 0, .slice 11 [], .int .i64 0, .int .i64 0, .int .i64 0, .int .i64 0]) (by kernel_rfl) okClone307
    · subst hz
      exact keyCt _ 170 rfl
    · intro args r h
      simp [noQ] at h
    · subst hz
      exact decCt _ 190 rfl
    · intro args r h
      simp [noQ] at h
    · subst hz
      exact clone_ctr (zero := [.int .i64 0, .int .i64 0, .int .i64 0, .int .i64 0, .int .i64 0, .int .i64 0, .bool false, .str [], .slice 2 [], .str [], .bool false]) (by kernel_rfl) okClone102
    · intro args r h
      simp [noQ] at h
    · subst hz
      exact clone_ctr (zero := [.int .i64 0, .int .i64 0, .int .i64 0, .bool false, .str []]) (by kernel_rfl) okClone23
    · subst hz
      exact clone_ctr (zero := [.str [], .slice 5 []]) (by kernel_rfl) okClone227
  · have hm := look_mem hp
    simp only [storeTab, List.mem_cons, Prod.mk.injEq, reduceCtorEq, and_false, false_and, false_or, Fn.prim.injEq, Option.some.injEq, List.not_mem_nil, or_false] at hm
    rcases hm with ⟨rfl, hz, rfl⟩ | ⟨rfl, hz, rfl⟩ | ⟨rfl, hz, rfl⟩ | ⟨rfl, hz, rfl⟩ | ⟨rfl, hz, rfl⟩ | ⟨rfl, hz, rfl⟩ | ⟨rfl, hz, rfl⟩ | ⟨rfl, hz, rfl⟩ | ⟨rfl, hz, rfl⟩ | ⟨rfl, hz, rfl⟩
    · omega
    · omega
    · obtain rfl : z = 9 := by omega
      exact ⟨_, _, insC220⟩
    · omega
    · obtain rfl : z = 17 := by omega
      exact ⟨_, _, insC284⟩
    · obtain rfl : z = 2 := by omega
      exact ⟨_, _, insC300⟩
    · omega
    · obtain rfl : z = 11 := by omega
      exact ⟨_, _, insC302⟩
    · omega
    · omega
  · have hm := look_mem hp
    simp only [storeTab, List.mem_cons, Prod.mk.injEq, reduceCtorEq, and_false, false_and, false_or, Fn.prim.injEq, Option.some.injEq, List.not_mem_nil, or_false] at hm
    rcases hm with ⟨rfl, hz, rfl⟩ | ⟨rfl, hz, rfl⟩ | ⟨rfl, hz, rfl⟩ | ⟨rfl, hz, rfl⟩ | ⟨rfl, hz, rfl⟩ | ⟨rfl, hz, rfl⟩ | ⟨rfl, hz, rfl⟩ | ⟨rfl, hz, rfl⟩ | ⟨rfl, hz, rfl⟩ | ⟨rfl, hz, rfl⟩
    · omega
    · omega
    · omega
    · omega
    · omega
    · omega
    · omega
    · omega
    · omega
    · omega
end Sg
namespace Go.Proofs.YtofkbkonceifeaaGreatDoor
open Sg Go.RowKit
set_option maxRecDepth 100000
theorem own : ownKnob Tryz.prog.godebug = none := by kernel_rfl
theorem laid : laidOutB Tryz.prog = true := by kernel_rfl
theorem storeNews_ctr (xs : List V) (h : ArgsV [(false, [.int .i64]), (false, [.int .i64])] xs) : Ctr Tryz.prog (cxU storeFm) (ownOf (Sg.look storeTab) 394) 394 xs (.bool true) := by
  match xs, h with
  | [x0, x1], h =>
    obtain ⟨h0, h1, -⟩ := h
    obtain ⟨a0, rfl, w0⟩ := arg_int h0
    obtain ⟨a1, rfl, w1⟩ := arg_int h1
    exact all_ctr _ _ _ (K394 t394 a0 a1)
noncomputable def laidWorld (os : Os) : World :=
  let w0 := World.holding Tryz.prog os ⟨#[], #[], []⟩
  let put (h : Array Obj) (g : Nat) (cs : Array Value) : Array Obj := h.modify g fun
    | .cells _ t frozen => .cells cs t frozen
    | o => o
  let h1 := put w0.heap 0 (Lib.firstTab.map fun z => Value.int .u8 z).toArray
  let h2 := put h1 1 ((List.range 16).flatMap fun i => [Value.int .u8 (Lib.accLo i), Value.int .u8 (Lib.accHi i)]).toArray
  { w0 with heap := h2 }
theorem tabs_of {W : World} (hL : laidMetH Tryz.prog Rows.storeNewsRow.laid W) : Lib.Utf8Tabs 0 1 W :=
  utf8Tabs_of_reads (ρ := renU) { lays197 with } ⟨by kernel_rfl, by kernel_rfl, by kernel_rfl, by kernel_rfl, by kernel_rfl, by kernel_rfl, by kernel_rfl⟩
    ((show Go.Pinned.utf8First = Lib.firstData by kernel_rfl) ▸ Lib.laidMet.reads hL (.tail _ (.head _))) ((show Rows.laid_unicode_utf8_acceptRanges = Lib.acceptData by kernel_rfl) ▸ Lib.laidMet.reads hL (.head _))
theorem size_of {W : World} (h : Lib.Utf8Tabs 0 1 W) : 2 ≤ W.heap.size := by
  have lt : ∀ g o v, W.cell? ⟨g, o, none⟩ = some v → g < W.heap.size := fun g o v e => by
    rcases Nat.lt_or_ge g W.heap.size with h | h
    · exact h
    · simp [World.cell?, Array.getElem?_eq_none h] at e
  have h1 := lt _ _ _ (h.1 0 (by decide))
  have h2 := lt _ _ _ (h.2 0 (by decide)).1
  omega
theorem laid_met (os : Os) (args : Array Value) : laidMet Tryz.prog Rows.storeNewsRow.laid ((laidWorld os).forCall (fun _ _ => 0) ⟨#[], args, []⟩).memory :=
  (LaidIn.of_run (l := Rows.storeNewsRow.laid) [1, 0] 8 (by kernel_rfl) (by kernel_rfl) (by kernel_rfl) (by kernel_rfl)).met
abbrev storeNews_wits : Array Value := #[Value.int .i64 0, Value.int .i64 0]
set_option maxRecDepth 100000 in
theorem storeNews_reads (os : Os) {H : Type} (enc : TypeId × Value → H) :
    (OpenSpec.ofChange Rows.storeNewsSpec).preRow enc Tryz.prog Tryz.f3 Rows.storeNewsRow.domain false Rows.storeNewsRow.laid ((laidWorld os).forCall (fun _ _ => 0) ⟨#[], storeNews_wits, []⟩).memory storeNews_wits := by
  have hw : (DataW.whole enc Tryz.prog ((laidWorld os).forCall (fun _ _ => 0) ⟨#[], storeNews_wits, []⟩).memory Tryz.f3.params.toList Rows.storeNewsSpec.vars false storeNews_wits.toList 8).isSome = true := by kernel_rfl
  obtain ⟨⟨x1, x2, x3⟩, hx⟩ := Option.isSome_iff_exists.1 hw
  have hl : x1.length = 2 := by
    have := congrArg (Option.map fun x => x.1.length) hx
    have e : (DataW.whole enc Tryz.prog ((laidWorld os).forCall (fun _ _ => 0) ⟨#[], storeNews_wits, []⟩).memory Tryz.f3.params.toList Rows.storeNewsSpec.vars false storeNews_wits.toList 8).map (fun x => x.1.length) = some 2 := by kernel_rfl
    rw [hx] at e
    simpa using e
  exact OpenSpec.preRow_of_cond 8 hx (by kernel_rfl) (fun k hk => by cases hk) (by kernel_rfl) (laid_met os _)
theorem storeNews_lifted (os : Os) (started : os.Started) (H : Type) (enc : TypeId × Value → H) (F : Stop.Interp) :
    ReturnsInHanded {} Tryz.checked os 3 .any ((OpenSpec.ofChange Rows.storeNewsSpec).preRow enc Tryz.prog Tryz.f3 Rows.storeNewsRow.domain false Rows.storeNewsRow.laid) (((OpenSpec.ofChange Rows.storeNewsSpec).at F).post enc Tryz.prog Tryz.f3 false true false false) := by
  refine returnsInHanded_of_row (C := Tryz.checked) (s := OpenSpec.ofChange Rows.storeNewsSpec) own started (by kernel_rfl) Tryz.func3
    (witness_row_at (enc := enc) (C := Tryz.checked) false (laidWorld os) storeNews_wits rfl (by kernel_rfl) (by kernel_rfl) (by kernel_rfl) (storeNews_reads os enc)) ?_
  intro W base args ds gs before hval hW _ _ _ hL _ _
  have hT := tabs_of hL
  exact lift (s := Rows.storeNewsSpec) (conds := []) (cx := cxU storeFm) (own := ownOf (Sg.look storeTab) 394) (fid := 394) (ss := [(false, [.int .i64]), (false, [.int .i64])]) (tb := 4) (by kernel_rfl) (by kernel_rfl) (by kernel_rfl) laid rfl (by kernel_rfl) (by kernel_rfl)
    (fun ds h => by
      have h2 : Tryz.f3.params.toList.length = 2 := by kernel_rfl
      rw [h2] at h
      match ds, h with
      | [d0, d1], _ => rfl) storeNews_ctr W (size_of hT) hT base args ds gs before hval hW
theorem storeNews_said : Rows.StoreNewsSaid :=
  OpenClaim.holds_of_cond 3 Tryz.f3 rfl rfl rfl rfl rfl rfl rfl ⟨rfl, rfl, rfl, rfl, rfl⟩ rfl rfl rfl rfl rfl (by kernel_rfl) Tryz.func3 facts
    (of_decide_eq_true (by kernel_rfl)) (by unfold Func.isWrapper; first | (rw [if_pos (by decide +kernel)]; kernel_rfl) | (rw [if_neg (by decide +kernel)]; exact ⟨rfl, rfl⟩))
    (fun os started H enc _ F => by rw [OpenClaim.pre_eq_preRow]; exact storeNews_lifted os started H enc F)
theorem storeNews_plain (f : FuncId) (fn : Func) (hf : Tryz.pinned.checked.prog.funcNamed "stratigraph/stratigraphlaw18.StoreNews" = some f) (hfn : Tryz.pinned.checked.prog.funcs[f]? = some fn) :
    false = Tryz.pinned.checked.prog.looks [] ∧ ∀ (j : Nat) t, fn.params[j]? = some t → Tryz.pinned.checked.prog.wantsStandIn t = false := by
  obtain rfl : f = 3 := Option.some.inj ((show Tryz.prog.funcNamed "stratigraph/stratigraphlaw18.StoreNews" = some 3 by kernel_rfl).symm.trans hf) |>.symm
  obtain rfl : fn = Tryz.f3 := (Option.some.inj (Tryz.func3.symm.trans hfn)).symm
  refine ⟨by kernel_rfl, fun j t ht => ?_⟩
  rw [Tryz.params3] at ht
  have hm := Array.mem_of_getElem? ht
  simp only [List.mem_toArray, List.mem_cons, List.not_mem_nil, or_false] at hm
  rcases hm with rfl | rfl
  · exact (show Tryz.prog.wantsStandIn 3 = false by kernel_rfl)
  · exact (show Tryz.prog.wantsStandIn 3 = false by kernel_rfl)
theorem storeNews_holds : Rows.StoreNewsCardSaid :=
  Claim7.holds_tied_plain_at .later [] _ _ _ _ storeNews_said (fun _ h => by cases h) (by kernel_rfl) (fun _ h => by cases h) storeNews_row_tie rfl ⟨rfl, rfl⟩ (by kernel_rfl) rfl storeNews_plain (by kernel_rfl)
#print axioms storeNews_holds
end Go.Proofs.YtofkbkonceifeaaGreatDoor
