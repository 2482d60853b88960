/- A checked abstract run of translated code is sound: for every program and input that pass its checks. A general part, used by the proofs of this seat. -/
import Derived.ChangeSlices
import Derived.ChangeSame
import Derived.JoinedOf
import Derived.JoinedAt
import Derived.Carry
import Derived.Test.YtkmbagigchfhbaaG2
namespace Sg
open Go Go.RowKit Go.ChangeShapes Go.WideShapes
set_option linter.unusedSimpArgs false
set_option linter.unusedVariables false
def isAgg (P : Program) (t : TypeId) : Bool :=
  match P.underlying t with
  | some (.struct _) => true
  | _ => false
def sigT (P : Program) (t : TypeId) : Option (Bool × List CT) := (rowT P 20 t).bind fun r => some (isAgg P t, r)
def HasRowN (N : Nat) (r : List CT) (xs : List V) : Prop := xs.length = r.length ∧ ∀ j, j < r.length → HasN N (gt r j) (gv xs j)
def ArgVN (N : Nat) : Bool × List CT → V → Prop
  | (true, r), x => ∃ xs, x = .agg xs ∧ HasRowN N r xs
  | (false, r), x => ∃ c, r = [c] ∧ HasN N c x
def ArgsVN (N : Nat) : List (Bool × List CT) → List V → Prop
  | [], [] => True
  | s :: ss, x :: xs => ArgVN N s x ∧ ArgsVN N ss xs
  | _, _ => False
abbrev ArgsV : List (Bool × List CT) → List V → Prop := ArgsVN maxLen
section
variable {P : Program} {cx : Cx} {w : World} {N : Nat}
theorem arg_ok {H : Type} {enc : TypeId × Value → H} {bk : DataW H → Nat} {bkA : List (DataW H) → Nat} {t : TypeId} {v : Value} {d : DataW H} {ps : List MemPlace} {s : Bool × List CT} {base : Nat} (h : DataW.Trod enc P w 0 (fun _ => true) true t v d ps)
    (hw : Value.okWide P w .any base t v) (hs : sigT P t = some s) (hfit : Fit N bk bkA d) : ∃ x, RelD cx w (fun _ => False) v x ∧ ArgVN N s x := by
  unfold sigT at hs
  simp only [Option.bind_eq_some_iff, Option.some.injEq] at hs
  obtain ⟨r, hr, rfl⟩ := hs
  obtain ⟨fuel, hf⟩ := h
  obtain ⟨xs, hl, hx⟩ := reading (cx := cx) (N := N) (bk := bk) (bkA := bkA) fuel 20 t _ d ps r hf hr hfit
  have one : ∀ c, r = [c] → v.cells = #[v] → isAgg P t = false → ∃ x, RelD cx w (fun _ => False) v x ∧ ArgVN N (isAgg P t, r) x := by
    intro c hc hv ha
    subst hc
    obtain ⟨u, h1, h2, h3, h4⟩ := hx 0 (by simp)
    rw [hv] at h1
    simp at h1
    subst h1
    exact ⟨gv xs 0, h3, by rw [ha]; exact ⟨c, rfl, h4⟩⟩
  unfold rowT at hr
  split at hr
  · rename_i ht
    obtain ⟨b, rfl⟩ := okWide_bool ht hw
    simp only [Option.some.injEq] at hr
    exact one _ hr.symm rfl (by simp [isAgg, ht])
  · rename_i k ht
    obtain ⟨b, rfl⟩ := okWide_int ht hw
    simp only [Option.some.injEq] at hr
    exact one _ hr.symm rfl (by simp [isAgg, ht])
  · rename_i ht
    obtain ⟨b, rfl⟩ := okWide_string ht hw
    simp only [Option.some.injEq] at hr
    exact one _ hr.symm rfl (by simp [isAgg, ht])
  · rename_i e ht
    obtain ⟨a, len, cap, rfl⟩ := okWide_slice ht hw
    simp only [Option.bind_eq_some_iff] at hr
    obtain ⟨r1, -, hr⟩ := hr
    split at hr <;> simp only [Option.some.injEq, reduceCtorEq] at hr
    exact one _ hr.symm rfl (by simp [isAgg, ht])
  · rename_i fs ht
    obtain ⟨cs, rfl, hsz⟩ := okWide_struct ht hw
    simp only [Option.bind_eq_some_iff] at hr
    obtain ⟨r1, -, hr⟩ := hr
    split at hr <;> simp only [Option.some.injEq, reduceCtorEq] at hr
    rename_i hz
    subst hr
    have hcs : cs.size = r1.length := by rw [hsz]; exact szT_cells hz
    have ha : isAgg P t = true := by simp [isAgg, ht]
    obtain ⟨u, hu⟩ := pickf hx
    refine ⟨.agg xs, .agg cs xs u (by rw [hcs, hl]) (fun i hi => ?_) (fun i hi => ?_), ?_⟩
    · rw [hl] at hi
      have := (hu i hi).1
      exact ⟨by simpa [Value.cells] using this, (hu i hi).2.1⟩
    · rw [hl] at hi; exact (hu i hi).2.2.1
    · rw [ha]; exact ⟨xs, rfl, hl, fun j hj => (hu j hj).2.2.2⟩
  · simp at hr
theorem args_ok {H : Type} {enc : TypeId × Value → H} {bk : DataW H → Nat} {bkA : List (DataW H) → Nat} {base : Nat} : ∀ (ts : List TypeId) (vs : List Value) (ds : List (DataW H)) (ps : List MemPlace) (ss : List (Bool × List CT)), DataW.TrodAll enc P w 0 (fun _ => true) true ts vs ds ps →
    (∀ (j : Nat) t v, ts[j]? = some t → vs[j]? = some v → Value.okWide P w .any base t v) → mapO (sigT P) ts = some ss → (∀ d ∈ ds, Fit N bk bkA d) →
    ∃ xs : List V, xs.length = vs.length ∧ (∀ i, i < xs.length → ∃ u, vs[i]? = some u ∧ RelD cx w (fun _ => False) u (gv xs i)) ∧ ArgsVN N ss xs ∧ ds.length = ts.length
  | [], vs, ds, ps, ss, h, _, hs, _ => by
    obtain ⟨rfl, rfl, rfl⟩ := trodAll_nil h
    simp only [mapO, Option.some.injEq] at hs
    subst hs
    exact ⟨[], rfl, fun i hi => by simp at hi, trivial, rfl⟩
  | t :: ts, vs, ds, ps, ss, h, hok, hs, hfit => by
    match vs, ds, h, hfit with
    | v :: vs, d :: ds, h, hfit =>
      obtain ⟨p, q, h1, h2, rfl⟩ := h
      simp only [mapO, Option.bind_eq_some_iff, Option.some.injEq] at hs
      obtain ⟨s, hs1, ss', hs2, rfl⟩ := hs
      obtain ⟨x, hx1, hx2⟩ := arg_ok (cx := cx) (N := N) h1 (hok 0 t v rfl rfl) hs1 (hfit d (List.mem_cons_self ..))
      obtain ⟨xs, a, b, c, e⟩ := args_ok ts vs ds q ss' h2 (fun j t v hj hv => hok (j + 1) t v (by simpa using hj) (by simpa using hv)) hs2 (fun d hd => hfit d (List.mem_cons_of_mem _ hd))
      refine ⟨x :: xs, by simp [a], fun i hi => ?_, ⟨hx2, c⟩, by simp [e]⟩
      cases i with
      | zero => exact ⟨v, rfl, by simpa [gv] using hx1⟩
      | succ i => obtain ⟨u, p1, p2⟩ := b i (by simpa using hi); exact ⟨u, by simpa using p1, by simpa [gv] using p2⟩
theorem args_back {H : Type} {enc : TypeId × Value → H} {W W' : World} {sp : Nat → Bool} (hl : laidOutB P = true) (hb : Below W.heap.size W W') :
    ∀ (ts : List TypeId) (vs : List Value) (ds : List (DataW H)) (ps : List MemPlace), (ts.all fun t => P.readableRec t && decide (t < P.types.size)) = true →
    DataW.TrodAll enc P W 0 (fun _ => true) true ts vs ds ps → (∀ p ∈ ps, p.block < W.heap.size) → (∀ p ∈ ps, sp p.block = true) → DataW.TrodAll enc P W' 0 sp true ts vs ds ps
  | [], vs, ds, ps, _, h, _, _ => by
    obtain ⟨rfl, rfl, rfl⟩ := trodAll_nil h
    exact trodAll_mk0
  | t :: ts, vs, ds, ps, hc, h, hlt, hsp => by
    match vs, ds, h with
    | v :: vs, d :: ds, h =>
      obtain ⟨p, q, h1, h2, rfl⟩ := h
      simp only [List.all_cons, Bool.and_eq_true, decide_eq_true_eq] at hc
      exact ⟨p, q, WideElems.Trod_stays hl hc.1.1 hc.1.2 h1 (fun x hx => hb.same (hlt x (by simp [hx]))) (fun x hx => hsp x (by simp [hx])),
        args_back hl hb ts vs ds q (by simpa using hc.2) h2 (fun x hx => hlt x (by simp [hx])) (fun x hx => hsp x (by simp [hx])), rfl⟩
theorem liftN {H : Type} {enc : TypeId × Value → H} {bk : DataW H → Nat} {bkA : List (DataW H) → Nat} {fn : Func} {s : ChangeSpec} {conds : List PathCond} {apart fresh handsOn again : Bool} {own : Option Nat} {fid : Nat} {f : FuncId} {ss : List (Bool × List CT)} {tb : TypeId}
    (hcx : cx.fm fid = f) (hprm : mapO (sigT P) fn.params.toList = some ss) (hclosed : (fn.params.toList.all fun t => P.readableRec t && decide (t < P.types.size)) = true) (hl : laidOutB P = true)
    (hvars : s.vars = []) (hres : fn.resultTypes = #[tb]) (htb : P.underlying tb = some .bool)
    (hspec : ∀ ds : List (DataW H), ds.length = fn.params.toList.length → s.fn H ds = { results := [.lit (.bool true)], args := ds })
    (hctr : ∀ xs, ArgsVN N ss xs → Ctr P cx own fid xs (.bool true))
    (W : World) (hgn : cx.gn ≤ W.heap.size) (hG : cx.G W) (base : Nat) (args : Array Value) (ds gs : List (DataW H)) (before : List MemPlace)
    (hval : ∀ (j : Nat) t v, fn.params[j]? = some t → args[j]? = some v → Value.okWide P W .any base t v)
    (hW : DataW.Whole enc P fn.params.toList s.vars apart W args.toList ds gs before) (hfit : ∀ d ∈ ds, Fit N bk bkA d) :
    Calls P f args W fun e W' => ∃ v, e = .returned v ∧ s.post enc P fn apart fresh handsOn again W args v W' := by
  have hlt := hW.lt
  have hW' := hW
  obtain ⟨p, q, hA, hV, rfl, -, -⟩ := hW
  rw [hvars] at hV
  obtain ⟨rfl, rfl⟩ := trodVars_none hV
  obtain ⟨xs, h1, h2, h3, h4⟩ := args_ok (cx := cx) (N := N) (bk := bk) (bkA := bkA) (base := base) fn.params.toList args.toList ds p ss hA (fun j t v hj hv => hval j t v (by simpa using hj) (by simpa using hv)) hprm hfit
  obtain ⟨-, hc⟩ := hctr xs h3
  subst hcx
  refine (hc W (fun _ => False) args (fun b hb => hb.elim) hgn hG (by simpa using h1.symm) (fun i hi => by simpa using h2 i hi)).mono fun e W' ⟨v, he, hb, hr⟩ => ?_
  subst he
  have hr' := hr.data (fun b hb => hb.elim)
  have hv : v = .bool true := by cases hr'; rfl
  subst hv
  have hs := hspec ds h4
  have hlt' : ∀ x ∈ p, x.block < W.heap.size := fun x hx => hlt x (by simpa using hx)
  have res : ∀ (b : Nat) (sp : Nat → Bool) (hd : Bool), DataW.TrodAll enc P W' b sp hd fn.resultTypes.toList ((Value.bool true).resultList fn.resultTypes.size) (s.fn H (ds ++ [])).results [] := fun b sp hd => by
    rw [List.append_nil, hs, hres]; exact trodAll_mk1 (shut_bool htb true)
  have back : ∀ sp : Nat → Bool, (∀ x ∈ p, sp x.block = true) → DataW.TrodAll enc P W' 0 sp true fn.params.toList args.toList (s.fn H (ds ++ [])).args p := fun sp hsp => by
    rw [List.append_nil, hs]; exact args_back hl hb _ _ _ _ hclosed hA hlt' hsp
  have vars : ∀ sp : Nat → Bool, DataW.TrodVars enc P W' sp s.vars (s.fn H (ds ++ [])).vars [] := fun sp => by
    rw [List.append_nil, hs, hvars]; rfl
  refine ⟨_, rfl, ds, [], p ++ [], [], p, [], hW', res _ _ _, back _ (fun x hx => by simpa using hlt' x hx), vars _, hb.frame _, fun _ => ⟨ok_one hres rfl (okWide_bool_mk htb true), (s.fn H (ds ++ [])).results ++ (s.fn H (ds ++ [])).args, (s.fn H (ds ++ [])).vars, p, ?_, fun x hx _ => by simpa using hx⟩⟩
  obtain ⟨_, _, _, _, _, hz, hn⟩ := hW'
  refine ⟨p, [], ?_, vars _, by simp, fun b off hx => ?_, fun ha => by simpa using hn ha⟩
  · have := trodAll_append (back (fun _ => true) (fun _ _ => rfl)) (res 0 (fun _ => true) true)
    simpa using this
  · rw [hb.frozen (hlt' _ hx)]
    exact hz b off (by simpa using hx)
theorem lift {H : Type} {enc : TypeId × Value → H} {fn : Func} {s : ChangeSpec} {conds : List PathCond} {apart fresh handsOn again : Bool} {own : Option Nat} {fid : Nat} {f : FuncId} {ss : List (Bool × List CT)} {tb : TypeId}
    (hcx : cx.fm fid = f) (hprm : mapO (sigT P) fn.params.toList = some ss) (hclosed : (fn.params.toList.all fun t => P.readableRec t && decide (t < P.types.size)) = true) (hl : laidOutB P = true)
    (hvars : s.vars = []) (hres : fn.resultTypes = #[tb]) (htb : P.underlying tb = some .bool)
    (hspec : ∀ ds : List (DataW H), ds.length = fn.params.toList.length → s.fn H ds = { results := [.lit (.bool true)], args := ds })
    (hctr : ∀ xs, ArgsV ss xs → Ctr P cx own fid xs (.bool true))
    (W : World) (hgn : cx.gn ≤ W.heap.size) (hG : cx.G W) (base : Nat) (args : Array Value) (ds gs : List (DataW H)) (before : List MemPlace)
    (hval : ∀ (j : Nat) t v, fn.params[j]? = some t → args[j]? = some v → Value.okWide P W .any base t v)
    (hW : DataW.Whole enc P fn.params.toList s.vars apart W args.toList ds gs before) :
    Calls P f args W fun e W' => ∃ v, e = .returned v ∧ s.post enc P fn apart fresh handsOn again W args v W' :=
  liftN (conds := conds) (bk := fun _ => 0) (bkA := fun _ => 0) hcx hprm hclosed hl hvars hres htb hspec hctr W hgn hG base args ds gs before hval hW (fun _ _ => .inl (Nat.le_refl _))
end
end Sg
namespace Sg
@[go_sem] abbrev f_ (d : Nat) (k : K) : Op := ⟨some d, false, k, none⟩
@[go_sem] abbrev t_ (d : Nat) (k : K) : Op := ⟨some d, true, k, none⟩
@[go_sem] abbrev y_ (d j : Nat) (k : K) : Op := ⟨some d, false, k, some (j, true)⟩
@[go_sem] abbrev n_ (d j : Nat) (k : K) : Op := ⟨some d, false, k, some (j, false)⟩
@[go_sem] abbrev u_ (k : K) : Op := ⟨none, false, k, none⟩
@[go_sem] abbrev ci (n : Int) : Arg := .c (.int .i64 n)
@[go_sem] abbrev cb (b : Bool) : Arg := .c (.bool b)
def datO : Option (List V × Bool) → Bool
  | some m => m.1.all V.datC
  | none => true
theorem datsite_o {μ s} : datSite μ s = datO (μ s) := rfl
theorem dato_s {cs b} : datO (some (cs, b)) = cs.all V.datC := rfl
def capO (s : Nat) (sites : List Nat) : Option (List V × Bool) → Option V
  | some (cs, _) => if sites.contains s ∧ cs.all V.datC then some (.cptr cs 0) else none
  | none => none
theorem capv_l {μ sites s} : capV μ sites (.lref s 0) = capO s sites (μ s) := by
  unfold capV capO; rfl
theorem capo_s {s sites cs b} : capO s sites (some (cs, b)) = if sites.contains s ∧ cs.all V.datC then some (.cptr cs 0) else none := rfl
theorem capv_i {μ sites k n} : capV μ sites (.int k n) = some (.int k n) := rfl
theorem capv_b {μ sites n} : capV μ sites (.bool n) = some (.bool n) := rfl
theorem capv_s {μ sites n} : capV μ sites (.str n) = some (.str n) := rfl
theorem capv_r {μ sites z n} : capV μ sites (.slice z n) = some (.slice z n) := rfl
theorem frzm_nil {μ} : frzM μ [] = μ := rfl
theorem frzm_cons {μ s l} : frzM μ (s :: l) = frzM (upd μ s ((μ s).map fun m => (m.1, true))) l := rfl
def stE (S : St) (s i off m : Nat) (xs : List V) : Option (Nat × List (List V) × Fz) → Option St
  | some (z, rows, .live) => if rows.length = m then (rows[i]?).bind fun r => (setAt r off xs).bind fun r' => some { S with A := upd S.A s (some (z, rows.set i r', .live)) } else none
  | _ => none
theorem ste_s {S : St} {s i off m : Nat} {xs : List V} {z rows} : stE S s i off m xs (some (z, rows, .live)) = if rows.length = m then (rows[i]?).bind fun r => (setAt r off xs).bind fun r' => some ⟨S.ρ, S.μ, upd S.A s (some (z, rows.set i r', .live))⟩ else none := rfl
theorem st_e {S : St} {s n i off m x} : storeV S (.e s) n (.eref s i off m) x = x.cells.bind fun xs => if xs.length = n then (if xs.all V.datC then stE S s i off m xs (S.A s) else none) else none := by
  unfold storeV
  congr 1; funext xs
  split
  · simp only [true_and]
    split
    · unfold stE; rfl
    · rfl
  · rfl
def insA (S : St) (s z n k : Nat) (ys : List (List V)) : Option (Nat × List (List V) × Fz) → Option (V × St)
  | some (z3, rows, .live) => if z3 = z ∧ rows.length = n ∧ k ≤ n ∧ rows.length + ys.length ≤ lim then
      some (.own s z (rows.length + ys.length), { S with A := upd S.A s (some (z, rows.take k ++ (ys ++ rows.drop k), .live)) }) else none
  | _ => none
theorem insa_s {S : St} {s z n k : Nat} {ys rows} : insA S s z n k ys (some (z, rows, .live)) = if rows.length = n ∧ k ≤ n ∧ rows.length + ys.length ≤ lim then
      some (.own s z (rows.length + ys.length), ⟨S.ρ, S.μ, upd S.A s (some (z, rows.take k ++ (ys ++ rows.drop k), .live))⟩) else none := by simp [insA]
def insV (S : St) (s z : Nat) : V → V → V → Option (V × St)
  | .own s' z' n, .int .i64 k, .slice z'' ys => if s' = s ∧ z' = z ∧ z'' = z then (if 0 ≤ k then insA S s z n k.toNat ys (S.A s) else none) else none
  | _, _, _ => none
theorem insv_o {S : St} {s z n k : Nat} {ys} : insV S s z (.own s z n) (.int .i64 (k : Int)) (.slice z ys) = insA S s z n k ys (S.A s) := by simp [insV]
def delA (S : St) (d s z n k m : Nat) : Option (Nat × List (List V) × Fz) → Option (Nat × List (List V) × Fz) → Option (V × St)
  | some (z3, rows, .live), none => if z3 = z ∧ rows.length = n ∧ k ≤ m ∧ m ≤ n ∧ n ≤ lim then
      some (.own d z (rows.take k ++ rows.drop m).length, { S with A := upd (upd S.A s (some (z, [], .dead))) d (some (z, rows.take k ++ rows.drop m, .live)) }) else none
  | _, _ => none
theorem dela_s {S : St} {d s z n k m : Nat} {rows} : delA S d s z n k m (some (z, rows, .live)) none = if rows.length = n ∧ k ≤ m ∧ m ≤ n ∧ n ≤ lim then
      some (.own d z (rows.take k ++ rows.drop m).length, ⟨S.ρ, S.μ, upd (upd S.A s (some (z, [], .dead))) d (some (z, rows.take k ++ rows.drop m, .live))⟩) else none := by simp [delA]
def delV (S : St) (d s z : Nat) : V → V → V → Option (V × St)
  | .own s' z' n, .int .i64 k, .int .i64 m => if s' = s ∧ z' = z then (if 0 ≤ k ∧ 0 ≤ m then delA S d s z n k.toNat m.toNat (S.A s) (S.A d) else none) else none
  | _, _, _ => none
theorem delv_o {S : St} {d s z n k m : Nat} : delV S d s z (.own s z n) (.int .i64 (k : Int)) (.int .i64 (m : Int)) = delA S d s z n k m (S.A s) (S.A d) := by simp [delV]
section
variable {κ : Nat → List V → Option V} {S : St} {Q : St → Prop} {e : Nat → V} {i : Nat} {ops : List Op}
theorem wr_ins {dst : Option Nat} {gl : Bool} {f s z : Nat} {x y j : Arg} : Wr κ (⟨dst, gl, .ins f s z x j y, none⟩ :: ops) i e S Q = WrO κ dst gl ops i e Q (insV S s z (argv e S.ρ x) (argv e S.ρ j) (argv e S.ρ y)) := by
  rw [wr_op]
  congr 1
  simp only [ev, insV]
  split
  · rename_i s' z' n k z'' ys h1 h2 h3
    rw [h1, h2, h3]
    simp only
    split
    · unfold insA
      by_cases hk : 0 ≤ k
      · have e1 : ∀ n : Nat, (k ≤ (n : Int)) = (k.toNat ≤ n) := fun n => propext (by omega)
        simp only [hk, true_and, if_true, e1]
        rcases S.A s with _ | ⟨z3, rows, fz⟩
        · rfl
        · cases fz <;> rfl
      · simp only [hk, false_and, and_false, if_false]
        rcases S.A s with _ | ⟨z3, rows, fz⟩
        · rfl
        · cases fz <;> simp
    · rfl
  · rename_i h
    split
    · rename_i s' z' n k z'' ys h1 h2 h3; exact absurd h3 (h s' z' n k z'' ys h1 h2)
    · rfl
theorem wr_del {dst : Option Nat} {gl : Bool} {f s z : Nat} {x y j : Arg} : Wr κ (⟨dst, gl, .del f s z x j y, none⟩ :: ops) i e S Q = WrO κ dst gl ops i e Q (delV S (dst.getD 0) s z (argv e S.ρ x) (argv e S.ρ j) (argv e S.ρ y)) := by
  rw [wr_op]
  congr 1
  simp only [ev, delV]
  split
  · rename_i s' z' n k m h1 h2 h3
    rw [h1, h2, h3]
    simp only
    split
    · unfold delA
      by_cases hk : 0 ≤ k
      · by_cases hm : 0 ≤ m
        · have e1 : (k ≤ m) = (k.toNat ≤ m.toNat) := propext (by omega)
          have e2 : ∀ n : Nat, (m ≤ (n : Int)) = (m.toNat ≤ n) := fun n => propext (by omega)
          simp only [hk, hm, and_self, true_and, if_true, e1, e2]
          rcases S.A s with _ | ⟨z3, rows, fz⟩
          · rfl
          · cases fz <;> cases S.A (dst.getD 0) <;> rfl
        · have e3 : ∀ (p q : Prop), (p ∧ q ∧ k ≤ m) ↔ False := fun p q => ⟨fun h => by omega, fun h => h.elim⟩
          have e4 : ¬ (k ≤ m) := by omega
          simp only [hk, hm, e4, and_false, false_and, if_false]
          rcases S.A s with _ | ⟨z3, rows, fz⟩
          · rfl
          · cases fz <;> cases S.A (dst.getD 0) <;> simp
      · simp only [hk, false_and, and_false, if_false]
        rcases S.A s with _ | ⟨z3, rows, fz⟩
        · rfl
        · cases fz <;> cases S.A (dst.getD 0) <;> simp
    · rfl
  · rename_i h
    split
    · rename_i s' z' n k m h1 h2 h3; exact absurd h3 (h s' z' n k m h1 h2)
    · rfl
end
theorem iad_r0 {z rows k} : iadV z (.slice z rows) (.int k 0) = (rows[0]?).map fun r => .cptr r 0 := by simp [iadV]
theorem iad_r1 {z rows k} : iadV z (.slice z rows) (.int k 1) = (rows[1]?).map fun r => .cptr r 0 := by simp [iadV]
theorem iad_r2 {z rows k} : iadV z (.slice z rows) (.int k 2) = (rows[2]?).map fun r => .cptr r 0 := by simp [iadV]
theorem bound_0 {k d} : bound (some (.int k 0)) d = some 0 := rfl
theorem bound_1 {k d} : bound (some (.int k 1)) d = some 1 := rfl
theorem bound_2 {k d} : bound (some (.int k 2)) d = some 2 := rfl
attribute [go_sem] iad_r0 iad_r1 iad_r2 bound_0 bound_1 bound_2
attribute [go_sem] ste_s st_e insa_s insv_o dela_s delv_o
attribute [go_sem high] wr_ins wr_del
attribute [go_sem] datsite_o dato_s capv_l capo_s capv_i capv_b capv_s capv_r frzm_nil frzm_cons
end Sg
namespace Sg
open _root_.Go (IntKind BinOp UnOp)
section
variable {A : AA} {S : St} {κ : Nat → List V → Option V}
theorem hand_nil : handL [] A = some ([], A) := rfl
theorem hand_cons {x xs} : handL (x :: xs) A = (handC A x).bind fun r => (handL xs r.2).bind fun q => some (r.1 :: q.1, q.2) := rfl
theorem handC_i {k n} : handC A (.int k n) = some (.int k n, A) := rfl
theorem handC_b {n} : handC A (.bool n) = some (.bool n, A) := rfl
theorem handC_s {n} : handC A (.str n) = some (.str n, A) := rfl
theorem handC_r {z n} : handC A (.slice z n) = some (.slice z n, A) := rfl
theorem handC_ns {z} : handC A (.nslice z) = some (.tuple [.slice z []], A) := rfl
def hdO (A : AA) (s z n : Nat) : Option (Nat × List (List V) × Fz) → Option (V × AA)
  | some (z', rows, .live) => if z' = z ∧ rows.length = n then some (.tuple [.slice z rows], upd A s (some (z, [], .dead))) else none
  | _ => none
theorem handC_o {s z n} : handC A (.own s z n) = hdO A s z n (A s) := rfl
theorem hdo_s {s z n rows} : hdO A s z n (some (z, rows, .live)) = if rows.length = n then some (.tuple [.slice z rows], upd A s (some (z, [], .dead))) else none := by simp [hdO]
theorem take_nil {d} : takeL d [] A = some ([], A) := rfl
theorem take_cons {d x xs} : takeL d (x :: xs) A = (takeC d A x).bind fun r => (takeL (d + 1) xs r.2).bind fun q => some (r.1 :: q.1, q.2) := rfl
theorem takeC_i {d k n} : takeC d A (.int k n) = some (.int k n, A) := rfl
theorem takeC_b {d n} : takeC d A (.bool n) = some (.bool n, A) := rfl
theorem takeC_s {d n} : takeC d A (.str n) = some (.str n, A) := rfl
theorem takeC_r {d z n} : takeC d A (.slice z n) = some (.slice z n, A) := rfl
def tkO (d : Nat) (A : AA) (z : Nat) (rows : List (List V)) : Option (Nat × List (List V) × Fz) → Option (V × AA)
  | none => some (.own d z rows.length, upd A d (some (z, rows, .live)))
  | some _ => none
theorem takeC_t {d z rows} : takeC d A (.tuple [.slice z rows]) = tkO d A z rows (A d) := by
  simp only [takeC, tkO]
  cases A d <;> rfl
theorem tko_n {d z rows} : tkO d A z rows none = some (.own d z rows.length, upd A d (some (z, rows, .live))) := rfl
theorem nilT_n {z} : nilT (.nslice z) = .tuple [.slice z []] := rfl
theorem nilT_i {k n} : nilT (.int k n) = .int k n := rfl
theorem nilT_b {n} : nilT (.bool n) = .bool n := rfl
theorem nilT_s {n} : nilT (.str n) = .str n := rfl
theorem nilT_r {z n} : nilT (.slice z n) = .slice z n := rfl
theorem rcall_e {b f k s avs} : rcallV κ b S f k s avs = (rcallA S k s avs).bind fun q => (κ f q.1).bind fun r => rcallE b S s q.2 r := rfl
def rcA2 (S : St) (k : Nat) (avs bs : List V) : Option (List V × Bool) → Option (List V × AA)
  | some (cs, false) => (handL cs (frzA S.A ((avs.set k .undef).flatMap sitesV))).bind fun h => some (bs.set k (.tuple (.lref 0 0 :: h.1)), h.2)
  | _ => none
def rcA1 (S : St) (k s : Nat) (avs : List V) : Option V → Option (List V × AA)
  | some (.lref s' 0) => if s' = s then (mapO (toD S.A) (avs.set k .undef)).bind fun bs => rcA2 S k avs bs (S.μ s) else none
  | _ => none
theorem rcallA_e {k s avs} : rcallA S k s avs = rcA1 S k s avs (avs[k]?) := rfl
theorem rcA1_l {k s avs} : rcA1 S k s avs (some (.lref s 0)) = (mapO (toD S.A) (avs.set k .undef)).bind fun bs => rcA2 S k avs bs (S.μ s) := by simp [rcA1]
theorem rcA2_s {k avs bs cs} : rcA2 S k avs bs (some (cs, false)) = (handL cs (frzA S.A ((avs.set k .undef).flatMap sitesV))).bind fun h => some (bs.set k (.tuple (.lref 0 0 :: h.1)), h.2) := rfl
theorem rcallE_t {b s r0 us} : rcallE b S s A (.tuple [r0, .tuple us]) = (takeL b us A).bind fun t => some (r0, ⟨S.ρ, upd S.μ s (some (t.1, false)), t.2⟩) := rfl
theorem toD_u : toD A .undef = some .undef := rfl
theorem sites_u : sitesV .undef = [] := rfl
theorem appW_o {s z z' n y} : appW S z (.own s z' n) y = appV S s z (.own s z' n) y := rfl
theorem ld_x {n s i off m} : loadV S .x n (.eref s i off m) = ldE n i off m (S.A s) := rfl
def bsO : Option V → Option V
  | some (.slice 1 rows) => (bytesR rows).bind fun l => some (.str l)
  | _ => none
theorem b2s_e {x} : b2sV A x = bsO (toDC A x) := rfl
theorem bso_s {rows} : bsO (some (.slice 1 rows)) = (bytesR rows).bind fun l => some (.str l) := rfl
theorem bytes_one {n : Int} : bytesR [[.int .u8 n]] = some [UInt8.ofNat n.toNat] := rfl
def fzO (z n : Nat) : Option (Nat × List (List V) × Fz) → Option V
  | some (z', rows, .frz) => if z' = z ∧ rows.length = n then some (.slice z rows) else none
  | _ => none
theorem frzD_o {s z n} : frzD A s (.own s z n) = fzO z n (A s) := by simp [frzD, fzO]; rfl
theorem fzo_s {z n rows} : fzO z n (some (z, rows, .frz)) = if rows.length = n then some (.slice z rows) else none := by simp [fzO]
theorem head_sw {s j h : Nat} {L Wv Wa : List Nat} : S.head [] (s :: j :: h :: L) Wv Wa = (S.swp1 s j h).head [] L Wv Wa := rfl
def sw2 (S : St) (h : Nat) : Option V → St
  | some (.own x _ _) => S.ren x h
  | _ => S
def sw1 (S : St) (j h : Nat) : Option (List V × Bool) → St
  | some (cs, _) => sw2 S h cs[j]?
  | none => S
theorem swp1_e {s j h : Nat} : S.swp1 s j h = sw1 S j h (S.μ s) := by
  unfold St.swp1 sw1 sw2
  rfl
theorem sw1_s {j h cs f} : sw1 S j h (some (cs, f)) = sw2 S h cs[j]? := rfl
theorem sw2_o {h x z n} : sw2 S h (some (.own x z n)) = S.ren x h := rfl
theorem ren_ρ {x h t} : (S.ren x h).ρ t = renV x h (S.ρ t) := rfl
theorem ren_μ {x h t} : (S.ren x h).μ t = (S.μ t).map fun m => (m.1.map (renC x h), m.2) := rfl
theorem ren_A {x h t} : (S.ren x h).A t = S.A (swp x h t) := rfl
theorem renV_i {x h k n} : renV x h (.int k n) = .int k n := rfl
theorem renV_b {x h n} : renV x h (.bool n) = .bool n := rfl
theorem renV_s {x h n} : renV x h (.str n) = .str n := rfl
theorem renV_r {x h z n} : renV x h (.slice z n) = .slice z n := rfl
theorem renV_f {x h z n} : renV x h (.func z n) = .func z n := rfl
theorem renV_u {x h} : renV x h .undef = .undef := rfl
theorem renV_l {x h s o} : renV x h (.lref s o) = .lref s o := rfl
theorem renV_o {x h s z n} : renV x h (.own s z n) = .own (swp x h s) z n := rfl
theorem renV_a {x h cs} : renV x h (.agg cs) = .agg (cs.map (renC x h)) := rfl
theorem renC_i {x h k n} : renC x h (.int k n) = .int k n := rfl
theorem renC_b {x h n} : renC x h (.bool n) = .bool n := rfl
theorem renC_s {x h n} : renC x h (.str n) = .str n := rfl
theorem renC_r {x h z n} : renC x h (.slice z n) = .slice z n := rfl
theorem renC_o {x h s z n} : renC x h (.own s z n) = .own (swp x h s) z n := rfl
theorem swp_l {x h : Nat} : swp x h x = h := by simp [swp]
theorem swp_r {x h : Nat} : swp x h h = x := by unfold swp; split <;> simp_all
theorem swp_n {x h t : Nat} (h1 : (t == x) = false) (h2 : (t == h) = false) : swp x h t = t := by
  have h1 : t ≠ x := by simpa using h1
  have h2 : t ≠ h := by simpa using h2
  simp [swp, h1, h2]
end
attribute [go_sem] frzD_o fzo_s hand_nil hand_cons handC_i handC_b handC_s handC_r handC_ns handC_o hdo_s take_nil take_cons takeC_i takeC_b takeC_s takeC_r takeC_t tko_n nilT_n nilT_i nilT_b nilT_s nilT_r rcallA_e rcA1_l rcA2_s rcallE_t toD_u sites_u appW_o ld_x b2s_e bso_s bytes_one
attribute [go_sem] swp1_e sw1_s sw2_o ren_ρ ren_μ ren_A renV_i renV_b renV_s renV_r renV_f renV_u renV_l renV_o renV_a renC_i renC_b renC_s renC_r renC_o swp_l swp_r swp_n
section
variable {S : St} {s off n : Nat}
theorem sto_o {a z m} : storeV S (.v s) 1 (.lref s off) (.own a z m) = stV S s off [.own a z m] (S.μ s) := by rw [st_v]; rfl
theorem sto_i {k m} : storeV S (.v s) 1 (.lref s off) (.int k m) = stV S s off [.int k m] (S.μ s) := by rw [st_v]; rfl
theorem sto_b {m} : storeV S (.v s) 1 (.lref s off) (.bool m) = stV S s off [.bool m] (S.μ s) := by rw [st_v]; rfl
theorem sto_s {m} : storeV S (.v s) 1 (.lref s off) (.str m) = stV S s off [.str m] (S.μ s) := by rw [st_v]; rfl
theorem sto_r {z m} : storeV S (.v s) 1 (.lref s off) (.slice z m) = stV S s off [.slice z m] (S.μ s) := by rw [st_v]; rfl
theorem sto_ns {z} : storeV S (.v s) 1 (.lref s off) (.nslice z) = stV S s off [.nslice z] (S.μ s) := by rw [st_v]; rfl
theorem sto_a {cs} : storeV S (.v s) n (.lref s off) (.agg cs) = if cs.length = n then stV S s off cs (S.μ s) else none := by rw [st_v]; rfl
end
attribute [go_sem high] sto_o sto_i sto_b sto_s sto_r sto_ns sto_a
attribute [go_sem] List.set_cons_zero List.set_cons_succ
end Sg
namespace Sg
def stay (Wv : List Nat) : V → Bool
  | .int .. | .bool _ | .str _ | .slice .. | .func .. | .undef => true
  | .lref s _ => !Wv.contains s
  | _ => false
section
variable {S : St}
theorem ren_stay {Wv : List Nat} {x h : Nat} {v : V} (hs : stay Wv v = true) : renV x h v = v := by cases v <;> simp_all [stay, renV]
theorem scrub_stay {Wv Wa : List Nat} {v : V} (hs : stay Wv v = true) : scrubV Wv Wa v = v := by
  cases v <;> simp_all [stay, scrubV]
theorem ren_data {x h : Nat} {cs : List V} (hd : cs.all V.datC = true) : cs.map (renC x h) = cs := by
  rw [List.all_eq_true] at hd
  conv => rhs; rw [← List.map_id cs]
  refine List.map_congr_left fun y hy => ?_
  have := hd y hy
  cases y <;> simp_all [renC, V.datC]
theorem scrub_data {Wa : List Nat} {cs : List V} (hd : cs.all V.datC = true) : cs.map (scrubC Wa) = cs := by
  rw [List.all_eq_true] at hd
  conv => rhs; rw [← List.map_id cs]
  refine List.map_congr_left fun y hy => ?_
  have := hd y hy
  cases y <;> simp_all [scrubC, V.datC]
theorem swp1_ρ {s j h i : Nat} {Wv : List Nat} (hs : stay Wv (S.ρ i) = true) : (S.swp1 s j h).ρ i = S.ρ i := by
  unfold St.swp1
  split
  · split
    · exact ren_stay hs
    · rfl
  · rfl
theorem swp1_μ {s j h i : Nat} {cs : List V} {f : Bool} (hm : S.μ i = some (cs, f)) (hd : cs.all V.datC = true) : (S.swp1 s j h).μ i = some (cs, f) := by
  unfold St.swp1
  split
  · split
    · simp only [St.ren, hm, Option.map_some, ren_data hd]
    · exact hm
  · exact hm
theorem swp1_μn {s j h i : Nat} (hm : S.μ i = none) : (S.swp1 s j h).μ i = none := by
  unfold St.swp1
  split
  · split
    · simp only [St.ren, hm, Option.map_none]
    · exact hm
  · exact hm
theorem swps_keep {Wv : List Nat} : ∀ (n : Nat) (L : List Nat) (S : St), L.length ≤ n → (∀ i, stay Wv (S.ρ i) = true → (S.swps L).ρ i = S.ρ i) ∧ (∀ i cs f, S.μ i = some (cs, f) → cs.all V.datC = true → (S.swps L).μ i = some (cs, f)) ∧
    ∀ i, S.μ i = none → (S.swps L).μ i = none := by
  intro n
  induction n with
  | zero =>
    intro L S hL
    have : L = [] := List.eq_nil_of_length_eq_zero (by omega)
    subst this
    exact ⟨fun _ _ => rfl, fun _ _ _ h _ => h, fun _ h => h⟩
  | succ n ih =>
    intro L S hL
    match L, hL with
    | [], _ => exact ⟨fun _ _ => rfl, fun _ _ _ h _ => h, fun _ h => h⟩
    | [_], _ => exact ⟨fun _ _ => rfl, fun _ _ _ h _ => h, fun _ h => h⟩
    | [_, _], _ => exact ⟨fun _ _ => rfl, fun _ _ _ h _ => h, fun _ h => h⟩
    | s :: j :: h :: l, hL =>
      obtain ⟨i1, i2, i3⟩ := ih l (S.swp1 s j h) (by simp at hL; omega)
      refine ⟨fun i hs => ?_, fun i cs f hm hd => i2 i cs f (swp1_μ hm hd) hd, fun i hm => i3 i (swp1_μn hm)⟩
      have e := swp1_ρ (s := s) (j := j) (h := h) hs
      exact (i1 i (by rw [e]; exact hs)).trans e
theorem head_ρs {L Wv Wa : List Nat} {i : Nat} {v : V} (hv : S.ρ i = v) (hs : stay Wv v = true) : (S.head [] L Wv Wa).ρ i = v := by
  subst hv
  have e := (swps_keep (Wv := Wv) L.length L S (Nat.le_refl _)).1 i hs
  show scrubV Wv Wa ((S.swps L).ρ i) = _
  rw [e]; exact scrub_stay hs
theorem head_μs {L Wv Wa : List Nat} {i : Nat} {cs : List V} {f : Bool} (hm : S.μ i = some (cs, f)) (hd : cs.all V.datC = true) (hw : Wv.contains i = false) : (S.head [] L Wv Wa).μ i = some (cs, f) := by
  have e := (swps_keep (Wv := Wv) L.length L S (Nat.le_refl _)).2.1 i cs f hm hd
  show (if Wv.contains i then none else _) = _
  rw [hw, e]
  simp only [Bool.false_eq_true, if_false, Option.map_some, scrub_data hd]
  cases Wa.isEmpty <;> rfl
theorem head_μn {L Wv Wa : List Nat} {i : Nat} (hm : S.μ i = none ∨ Wv.contains i = true) : (S.head [] L Wv Wa).μ i = none := by
  show (if Wv.contains i then none else _) = _
  rcases hm with hm | hm
  · have e := (swps_keep (Wv := Wv) L.length L S (Nat.le_refl _)).2.2 i hm
    rw [e]; split <;> rfl
  · rw [hm]; rfl
theorem head_nil : S.head [] [] [] [] = S := by
  obtain ⟨ρ, μ, A⟩ := S
  have e1 : ∀ v : V, scrubV [] [] v = v := fun v => by cases v <;> simp [scrubV]
  show St.mk _ _ _ = _
  congr 1
  · funext t; exact e1 _
  · funext s
    show (μ s).map _ = μ s
    cases μ s <;> rfl
theorem head_An {Wv : List Nat} : (S.head [] [] Wv []).A = S.A := by
  funext x
  show (if ([] : List Nat).contains x then none else S.A x) = S.A x
  simp
def Fr (A : AA) (n : Nat) : Prop := ∀ x, n ≤ x → A x = none
end
end Sg
