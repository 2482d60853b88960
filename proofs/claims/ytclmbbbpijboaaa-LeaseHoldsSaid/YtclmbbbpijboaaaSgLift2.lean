/- From a law function's answer to the given statement. -/
import Derived.Test.YtclmbbbpijboaaaSgLift
import Derived.ChangeSlices
import Derived.ChangeSame
import Derived.JoinedOf
import Derived.JoinedAt
import Derived.Carry
namespace Sg
open Go Go.RowKit Go.ChangeShapes Go.WideShapes
set_option linter.unusedSimpArgs false
set_option linter.unusedVariables false

def isAgg (P : Program) (t : TypeId) : Bool :=
  match P.underlying t with
  | some (.struct _) => true
  | _ => false

def sigT (P : Program) (t : TypeId) : Option (Bool × List CT) := (rowT P 20 t).bind fun r => some (isAgg P t, r)

def HasRow (r : List CT) (xs : List V) : Prop := xs.length = r.length ∧ ∀ j, j < r.length → Has (gt r j) (gv xs j)

/-- an argument has its type -/
def ArgV : Bool × List CT → V → Prop
  | (true, r), x => ∃ xs, x = .agg xs ∧ HasRow r xs
  | (false, r), x => ∃ c, r = [c] ∧ Has c x

def ArgsV : List (Bool × List CT) → List V → Prop
  | [], [] => True
  | s :: ss, x :: xs => ArgV s x ∧ ArgsV ss xs
  | _, _ => False

section
variable {P : Program} {cx : Cx} {w : World}

theorem arg_ok {H : Type} {enc : TypeId × Value → H} {t : TypeId} {v : Value} {d : DataW H} {ps : List MemPlace} {s : Bool × List CT} {base : Nat} (h : DataW.Trod enc P w 0 (fun _ => true) true t v d ps)
    (hw : Value.okWide P w .any base t v) (hs : sigT P t = some s) : ∃ x, RelD cx w (fun _ => False) v x ∧ ArgV s x := by
  unfold sigT at hs
  simp only [Option.bind_eq_some_iff, Option.some.injEq] at hs
  obtain ⟨r, hr, rfl⟩ := hs
  obtain ⟨fuel, hf⟩ := h
  obtain ⟨xs, hl, hx⟩ := reading (cx := cx) fuel 20 t _ d ps r hf hr
  have one : ∀ c, r = [c] → v.cells = #[v] → isAgg P t = false → ∃ x, RelD cx w (fun _ => False) v x ∧ ArgV (isAgg P t, r) x := by
    intro c hc hv ha
    subst hc
    obtain ⟨u, h1, h2, h3, h4⟩ := hx 0 (by simp)
    rw [hv] at h1
    simp at h1
    subst h1
    exact ⟨gv xs 0, h3, by rw [ha]; exact ⟨c, rfl, h4⟩⟩
  unfold rowT at hr
  split at hr
  · rename_i ht
    obtain ⟨b, rfl⟩ := okWide_bool ht hw
    simp only [Option.some.injEq] at hr
    exact one _ hr.symm rfl (by simp [isAgg, ht])
  · rename_i k ht
    obtain ⟨b, rfl⟩ := okWide_int ht hw
    simp only [Option.some.injEq] at hr
    exact one _ hr.symm rfl (by simp [isAgg, ht])
  · rename_i ht
    obtain ⟨b, rfl⟩ := okWide_string ht hw
    simp only [Option.some.injEq] at hr
    exact one _ hr.symm rfl (by simp [isAgg, ht])
  · rename_i e ht
    obtain ⟨a, len, cap, rfl⟩ := okWide_slice ht hw
    simp only [Option.bind_eq_some_iff] at hr
    obtain ⟨r1, -, hr⟩ := hr
    split at hr <;> simp only [Option.some.injEq, reduceCtorEq] at hr
    exact one _ hr.symm rfl (by simp [isAgg, ht])
  · rename_i fs ht
    obtain ⟨cs, rfl, hsz⟩ := okWide_struct ht hw
    simp only [Option.bind_eq_some_iff] at hr
    obtain ⟨r1, -, hr⟩ := hr
    split at hr <;> simp only [Option.some.injEq, reduceCtorEq] at hr
    rename_i hz
    subst hr
    have hcs : cs.size = r1.length := by rw [hsz]; exact szT_cells hz
    have ha : isAgg P t = true := by simp [isAgg, ht]
    obtain ⟨u, hu⟩ := pickf hx
    refine ⟨.agg xs, .agg cs xs u (by rw [hcs, hl]) (fun i hi => ?_) (fun i hi => ?_), ?_⟩
    · rw [hl] at hi
      have := (hu i hi).1
      exact ⟨by simpa [Value.cells] using this, (hu i hi).2.1⟩
    · rw [hl] at hi; exact (hu i hi).2.2.1
    · rw [ha]; exact ⟨xs, rfl, hl, fun j hj => (hu j hj).2.2.2⟩
  · simp at hr

theorem args_ok {H : Type} {enc : TypeId × Value → H} {base : Nat} : ∀ (ts : List TypeId) (vs : List Value) (ds : List (DataW H)) (ps : List MemPlace) (ss : List (Bool × List CT)), DataW.TrodAll enc P w 0 (fun _ => true) true ts vs ds ps →
    (∀ (j : Nat) t v, ts[j]? = some t → vs[j]? = some v → Value.okWide P w .any base t v) → mapO (sigT P) ts = some ss →
    ∃ xs : List V, xs.length = vs.length ∧ (∀ i, i < xs.length → ∃ u, vs[i]? = some u ∧ RelD cx w (fun _ => False) u (gv xs i)) ∧ ArgsV ss xs ∧ ds.length = ts.length
  | [], vs, ds, ps, ss, h, _, hs => by
    obtain ⟨rfl, rfl, rfl⟩ := trodAll_nil h
    simp only [mapO, Option.some.injEq] at hs
    subst hs
    exact ⟨[], rfl, fun i hi => by simp at hi, trivial, rfl⟩
  | t :: ts, vs, ds, ps, ss, h, hok, hs => by
    match vs, ds, h with
    | v :: vs, d :: ds, h =>
      obtain ⟨p, q, h1, h2, rfl⟩ := h
      simp only [mapO, Option.bind_eq_some_iff, Option.some.injEq] at hs
      obtain ⟨s, hs1, ss', hs2, rfl⟩ := hs
      obtain ⟨x, hx1, hx2⟩ := arg_ok (cx := cx) h1 (hok 0 t v rfl rfl) hs1
      obtain ⟨xs, a, b, c, e⟩ := args_ok ts vs ds q ss' h2 (fun j t v hj hv => hok (j + 1) t v (by simpa using hj) (by simpa using hv)) hs2
      refine ⟨x :: xs, by simp [a], fun i hi => ?_, ⟨hx2, c⟩, by simp [e]⟩
      cases i with
      | zero => exact ⟨v, rfl, by simpa [gv] using hx1⟩
      | succ i => obtain ⟨u, p1, p2⟩ := b i (by simpa using hi); exact ⟨u, by simpa using p1, by simpa [gv] using p2⟩

theorem args_back {H : Type} {enc : TypeId × Value → H} {W W' : World} {sp : Nat → Bool} (hl : laidOutB P = true) (hb : Below W.heap.size W W') :
    ∀ (ts : List TypeId) (vs : List Value) (ds : List (DataW H)) (ps : List MemPlace), (ts.all fun t => P.readableRec t && decide (t < P.types.size)) = true →
    DataW.TrodAll enc P W 0 (fun _ => true) true ts vs ds ps → (∀ p ∈ ps, p.block < W.heap.size) → (∀ p ∈ ps, sp p.block = true) → DataW.TrodAll enc P W' 0 sp true ts vs ds ps
  | [], vs, ds, ps, _, h, _, _ => by
    obtain ⟨rfl, rfl, rfl⟩ := trodAll_nil h
    exact trodAll_mk0
  | t :: ts, vs, ds, ps, hc, h, hlt, hsp => by
    match vs, ds, h with
    | v :: vs, d :: ds, h =>
      obtain ⟨p, q, h1, h2, rfl⟩ := h
      simp only [List.all_cons, Bool.and_eq_true, decide_eq_true_eq] at hc
      exact ⟨p, q, WideElems.Trod_stays hl hc.1.1 hc.1.2 h1 (fun x hx => hb.same (hlt x (by simp [hx]))) (fun x hx => hsp x (by simp [hx])),
        args_back hl hb ts vs ds q (by simpa using hc.2) h2 (fun x hx => hlt x (by simp [hx])) (fun x hx => hsp x (by simp [hx])), rfl⟩

/-- a law function that answers true meets its statement's contract -/
theorem lift {H : Type} {enc : TypeId × Value → H} {fn : Func} {s : ChangeSpec} {conds : List PathCond} {apart fresh handsOn again : Bool} {own : Option Nat} {fid : Nat} {f : FuncId} {ss : List (Bool × List CT)} {tb : TypeId}
    (hcx : cx.fm fid = f) (hprm : mapO (sigT P) fn.params.toList = some ss) (hclosed : (fn.params.toList.all fun t => P.readableRec t && decide (t < P.types.size)) = true) (hl : laidOutB P = true)
    (hvars : s.vars = []) (hres : fn.resultTypes = #[tb]) (htb : P.underlying tb = some .bool)
    (hspec : ∀ ds : List (DataW H), ds.length = fn.params.toList.length → s.fn H ds = { results := [.lit (.bool true)], args := ds })
    (hctr : ∀ xs, ArgsV ss xs → Ctr P cx own fid xs (.bool true))
    (W : World) (base : Nat) (args : Array Value) (ds gs : List (DataW H)) (before : List MemPlace)
    (hval : ∀ (j : Nat) t v, fn.params[j]? = some t → args[j]? = some v → Value.okWide P W .any base t v)
    (hW : DataW.Whole enc P fn.params.toList s.vars apart W args.toList ds gs before) :
    Calls P f args W fun e W' => ∃ v, e = .returned v ∧ s.post enc P fn apart fresh handsOn again W args v W' := by
  have hlt := hW.lt
  have hW' := hW
  obtain ⟨p, q, hA, hV, rfl, -, -⟩ := hW
  rw [hvars] at hV
  obtain ⟨rfl, rfl⟩ := trodVars_none hV
  obtain ⟨xs, h1, h2, h3, h4⟩ := args_ok (cx := cx) (base := base) fn.params.toList args.toList ds p ss hA (fun j t v hj hv => hval j t v (by simpa using hj) (by simpa using hv)) hprm
  obtain ⟨-, hc⟩ := hctr xs h3
  subst hcx
  refine (hc W (fun _ => False) args (fun b hb => hb.elim) (by simpa using h1.symm) (fun i hi => by simpa using h2 i hi)).mono fun e W' ⟨v, he, hb, hr⟩ => ?_
  subst he
  have hr' := hr.data (fun b hb => hb.elim)
  have hv : v = .bool true := by cases hr'; rfl
  subst hv
  have hs := hspec ds h4
  have hlt' : ∀ x ∈ p, x.block < W.heap.size := fun x hx => hlt x (by simpa using hx)
  have res : ∀ (b : Nat) (sp : Nat → Bool) (hd : Bool), DataW.TrodAll enc P W' b sp hd fn.resultTypes.toList ((Value.bool true).resultList fn.resultTypes.size) (s.fn H (ds ++ [])).results [] := fun b sp hd => by
    rw [List.append_nil, hs, hres]; exact trodAll_mk1 (shut_bool htb true)
  have back : ∀ sp : Nat → Bool, (∀ x ∈ p, sp x.block = true) → DataW.TrodAll enc P W' 0 sp true fn.params.toList args.toList (s.fn H (ds ++ [])).args p := fun sp hsp => by
    rw [List.append_nil, hs]; exact args_back hl hb _ _ _ _ hclosed hA hlt' hsp
  have vars : ∀ sp : Nat → Bool, DataW.TrodVars enc P W' sp s.vars (s.fn H (ds ++ [])).vars [] := fun sp => by
    rw [List.append_nil, hs, hvars]; rfl
  refine ⟨_, rfl, ds, [], p ++ [], [], p, [], hW', res _ _ _, back _ (fun x hx => by simpa using hlt' x hx), vars _, hb.frame _, fun _ => ⟨ok_one hres rfl (okWide_bool_mk htb true), (s.fn H (ds ++ [])).results ++ (s.fn H (ds ++ [])).args, (s.fn H (ds ++ [])).vars, p, ?_, fun x hx _ => by simpa using hx⟩⟩
  obtain ⟨_, _, _, _, _, hz, hn⟩ := hW'
  refine ⟨p, [], ?_, vars _, by simp, fun b off hx => ?_, fun ha => by simpa using hn ha⟩
  · have := trodAll_append (back (fun _ => true) (fun _ _ => rfl)) (res 0 (fun _ => true) true)
    simpa using this
  · rw [hb.frozen (hlt' _ hx)]
    exact hz b off (by simpa using hx)

end
end Sg
