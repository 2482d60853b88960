/- Functions and programs: the soundness of the interpreter. -/
import Derived.Test.YtclmbbbpijboaaaSgCode
namespace Sg
open Go Go.RowKit
set_option linter.unusedSimpArgs false
set_option linter.unusedVariables false

def ownOf (Pg : Nat → Option Fn) (f : Nat) : Option Nat :=
  match Pg f with
  | some (.code F) => F.own
  | some (.prim own _) => own
  | none => none

section
variable (P : Program) (cx : Cx) (Pg : Nat → Option Fn)

def okRes (rs : List ResultVar) (qs : List Res) : Bool :=
  match rs, qs with
  | [], [] => true
  | .tmp t :: rs, .t t' :: qs => t == t' && okRes rs qs
  | .cell a t :: rs, .cell a' n :: qs => a == a' && (P.underlying t).isSome && (if aggT P t then szT P t == n && n.isSome else n.isNone) && okRes rs qs
  | _, _ => false

/-- a compact function against the model's -/
def okF (f : FuncId) (F : F) : Bool :=
  match P.funcs[f]? with
  | some fn => (fn.name == "runtime.NumGoroutine") == false && (match fn.body with | some c => okC P cx (ownOf Pg) F.gl fn.ntmps c F.body | none => false) &&
      decide (F.np ≤ fn.ntmps) && (List.range F.np).all (F.gl.contains ·) && okRes P fn.results.toList F.res && (match F.own with | some j => decide (j < F.res.length) && decide (j < 1000) | none => true)
  | none => false

end

section
variable {P : Program} {cx : Cx} {Pg : Nat → Option Fn} {X : Nat → Prop}

theorem mapIdxO_some {α β : Type} {f : Nat → α → Option β} : ∀ {l : List α} {r : List β} {k : Nat}, mapIdxO f k l = some r → r.length = l.length ∧ ∀ (i : Nat) (x : α), l[i]? = some x → ∃ y, r[i]? = some y ∧ f (k + i) x = some y
  | [], r, k, h => by simp only [mapIdxO, Option.some.injEq] at h; subst h; exact ⟨rfl, fun i x hx => by simp at hx⟩
  | a :: l, r, k, h => by
    simp only [mapIdxO, Option.bind_eq_some_iff, Option.some.injEq] at h
    obtain ⟨y, hy, ys, hys, rfl⟩ := h
    obtain ⟨h1, h2⟩ := mapIdxO_some hys
    refine ⟨by simp [h1], fun i x hx => ?_⟩
    cases i with
    | zero => simp at hx; subst hx; exact ⟨y, rfl, hy⟩
    | succ i => have := h2 i x (by simpa using hx); simpa [Nat.add_assoc, Nat.add_comm 1 i] using this

/-- the results as the model reads them -/
theorem results_ok {B : Nat} {S : St} {w : World} {β : Nat → Nat} {α : Nat → Value} {M : Nat → Prop} {tm : Array Value} (hW : RelW cx B X S w β α M) (hg : ∀ t, RelT cx w (orP X M) S β α (tm.getD t undef) (S.ρ t)) :
    ∀ (rs : List ResultVar) (qs : List Res) (vs : List V), okRes P rs qs = true → mapO (resV S) qs = some vs →
      ∃ us : List Value, (rs.mapM fun | .tmp t => pure (tm.getD t undef) | .cell a t => do loadVar t (← asAddr (tm.getD a undef)) : Sem (List Value)).run P w = .ok us w ∧
        us.length = vs.length ∧ ∀ i, i < vs.length → ∃ u, us[i]? = some u ∧ RelT cx w (orP X M) S β α u (gv vs i)
  | [], [], vs, _, h => by
    simp only [mapO, Option.some.injEq] at h; subst h
    exact ⟨[], by simp, rfl, fun i hi => by simp at hi⟩
  | r :: rs, q :: qs, vs, hok, h => by
    simp only [mapO, Option.bind_eq_some_iff, Option.some.injEq] at h
    obtain ⟨v, hv, ws, hws, rfl⟩ := h
    have hok' : okRes P rs qs = true := by
      unfold okRes at hok
      split at hok <;> simp_all
    obtain ⟨us, h1, h2, h3⟩ := results_ok hW hg rs qs ws hok' hws
    have key : ∃ u, ((match r with | .tmp t => pure (tm.getD t undef) | .cell a t => do loadVar t (← asAddr (tm.getD a undef))) : Sem Value).run P w = .ok u w ∧ RelT cx w (orP X M) S β α u v := by
      cases r with
      | tmp t =>
        cases q with
        | cell a n => simp [okRes] at hok
        | t t' =>
          simp only [okRes, Bool.and_eq_true, beq_iff_eq] at hok
          obtain ⟨rfl, -⟩ := hok
          simp only [resV, Option.some.injEq] at hv
          subst hv
          exact ⟨tm.getD t undef, by simp, hg t⟩
      | cell a t =>
        cases q with
        | t t' => simp [okRes] at hok
        | cell a' n =>
          simp only [okRes, Bool.and_eq_true, beq_iff_eq] at hok
          obtain ⟨⟨⟨rfl, hu⟩, hn⟩, -⟩ := hok
          have ha := hg a
          simp only [resV] at hv
          split at hv <;> try (simp at hv; done)
          rename_i s hs
          split at hv <;> try (simp at hv; done)
          rename_i cs f hm
          rw [hs] at ha
          have hld := load_ok (P := P) (t := t) (n := n) (l := .v s) (p := .lref s 0) (r := v) hW ha hu hn (by simp [loadV, hm, hv])
          obtain ⟨u, hrun, hr⟩ := hld
          refine ⟨u, ?_, hr⟩
          show (do let x ← asAddr (tm.getD a undef); loadVar t x : Sem Value).run P w = _
          rw [rel_lref ha] at hrun ⊢
          simpa [Instr.loadAt, Instr.sureAddr, asAddr] using hrun
    obtain ⟨u, hrun, hr⟩ := key
    refine ⟨u :: us, ?_, by simp [h2], fun i hi => ?_⟩
    · rw [List.mapM_cons, Sem.run_bind, hrun]
      simp only [Result.andThen, Sem.run_bind, h1, Sem.run_pure]
    · cases i with
      | zero => exact ⟨u, rfl, by simpa [gv] using hr⟩
      | succ i => obtain ⟨x, p, q⟩ := h3 i (by simpa using hi); exact ⟨x, by simpa using p, by simpa [gv] using q⟩
  | [], _ :: _, vs, hok, h => by simp [okRes] at hok
  | _ :: _, [], vs, hok, h => by
    unfold okRes at hok
    split at hok <;> simp_all

theorem gv_some (l : List V) (j : Nat) (h : j < l.length) : l[j]? = some (gv l j) := by simp [gv, h]

/-- what a function hands back -/
theorem out_ok {S : St} {w w' : World} {β : Nat → Nat} {α : Nat → Value} {M : Nat → Prop} {own : Option Nat} {vs rs : List V} {us : List Value} (hW : RelW cx w.heap.size X S w' β α M)
    (hlen : us.length = vs.length) (hr : ∀ i, i < vs.length → ∃ u, us[i]? = some u ∧ RelT cx w' (orP X M) S β α u (gv vs i)) (ho : mapIdxO (outV S.A own) 0 vs = some rs) (hown : ∀ j, own = some j → j < vs.length) :
    ROut cx w w' X own (if us.length = 1 then us.getD 0 undef else .tuple us.toArray) (shut rs) := by
  obtain ⟨h1, h2⟩ := mapIdxO_some ho
  have at_ : ∀ i, i < rs.length → ∃ u, us[i]? = some u ∧ RelT cx w' (orP X M) S β α u (gv vs i) ∧ outV S.A own i (gv vs i) = some (gv rs i) := fun i hi => by
    have hi' : i < vs.length := by omega
    obtain ⟨u, p, q⟩ := hr i hi'
    obtain ⟨y, y1, y2⟩ := h2 i vs[i] (by simp [hi'])
    refine ⟨u, p, q, ?_⟩
    have e1 : gv vs i = vs[i] := by simp [gv, hi']
    have e2 : gv rs i = y := by simp [gv, y1]
    rw [e1, e2]; simpa using y2
  have hxb : ∀ s b, hdr (α s) = some b → (∃ z rows f, S.A s = some (z, rows, f) ∧ f ≠ .dead) → ¬ X b := fun s b hb hex hx => by
    obtain ⟨z, rows, f, e1, e2⟩ := hex
    have := ((hW.arr s z rows f e1 e2).2 b hb).1
    have := hW.xb b hx; omega
  cases own with
  | none =>
    have hd : ∀ i, i < rs.length → ∃ u, us[i]? = some u ∧ RelD cx w' X u (gv rs i) := fun i hi => by
      obtain ⟨u, p, q, r⟩ := at_ i hi
      simp only [outV, reduceCtorEq, if_false, if_true] at r
      exact ⟨u, p, toD_ok hW q r (fun b hb => .inl hb) (fun s _ b hb hex => hxb s b hb hex)⟩
    match rs, hd, h1 with
    | [r], hd, h1 =>
      obtain ⟨u, p, q⟩ := hd 0 (by simp)
      have : us.length = 1 := by simp at h1; omega
      rw [if_pos this]
      simp only [shut]
      have : us.getD 0 undef = u := by simp [List.getD_eq_getElem?_getD, p]
      rw [this]; exact q
    | [], hd, h1 =>
      have : us = [] := List.eq_nil_of_length_eq_zero (by simp at h1; omega)
      subst this
      exact RelD.tuple #[] [] (fun _ => undef) rfl (fun i hi => by simp at hi) (fun i hi => by simp at hi)
    | r :: r' :: rs, hd, h1 =>
      rw [if_neg (by simp at h1; omega)]
      obtain ⟨u, hu⟩ := pickf hd
      exact RelD.tuple us.toArray _ u (by simp at h1 ⊢; omega) (fun i hi => by simpa using (hu i hi).1) (fun i hi => (hu i hi).2)
  | some j =>
    have hj : j < rs.length := by have := hown j rfl; omega
    · obtain ⟨u, p, q, r⟩ := at_ j hj
      simp only [outV, if_true] at r
      split at r <;> try (simp at r; done)
      rename_i s z n hs
      split at r <;> try (simp at r; done)
      rename_i z' rows hA
      split at r <;> simp only [Option.some.injEq, reduceCtorEq] at r
      rename_i hc
      obtain ⟨rfl, hn⟩ := hc
      rw [hs] at q
      obtain ⟨rows', f, a, cap, hA', rfl, ha, hoo⟩ := q
      rw [hA] at hA'
      simp only [Option.some.injEq, Prod.mk.injEq] at hA'
      obtain ⟨-, rfl, rfl⟩ := hA'
      have hα := (hoo (by simp)).2 hn
      obtain ⟨a1, a2⟩ := hW.arr s z' rows .live hA (by simp)
      have hsub : ∀ b, hdr (α s) = some b → M b := fun b hb => (a2 b hb).2.1 rfl
      have hE : ∀ u x, RelD cx w' (orP X M) u x → RelD cx w' (orP X (fun b => hdr (α s) = some b)) u x := fun _ _ hr => sub_D hsub hr
      refine ⟨α s, z', rows, fun b => hdr (α s) = some b, fun b hb => ⟨(a2 b hb).1, a1.lt hb⟩, fun b hb => hb, a1.tr hE (fun _ _ => rfl), ?_⟩
      have oth : ∀ i, i < rs.length → i ≠ j → ∃ u, us[i]? = some u ∧ RelD cx w' (orP X (fun b => hdr (α s) = some b)) u (gv rs i) := fun i hi hne => by
        obtain ⟨u, p, q, r⟩ := at_ i hi
        simp only [outV, Option.some.injEq, Ne.symm hne, if_false, reduceCtorEq] at r
        split at r <;> simp only [Option.some.injEq, reduceCtorEq] at r
        rename_i hd
        rw [← r]
        exact ⟨u, p, hE _ _ (q.data hd)⟩
      match rs, at_, h1, hj, r, oth with
      | [r0], at_, h1, hj, r, oth =>
        have : us.length = 1 := by simp at h1; omega
        rw [if_pos this]
        have hj0 : j = 0 := by simp at hj; exact hj
        subst hj0
        refine .inl ⟨by simpa [shut, gv] using r.symm, ?_⟩
        rw [← hα]; simp [List.getD_eq_getElem?_getD, p]
      | r0 :: r1 :: rs, at_, h1, hj, r, oth =>
        rw [if_neg (by simp at h1; omega)]
        refine .inr ⟨r0 :: r1 :: rs, us.toArray, rfl, rfl, by simp at h1 ⊢; omega, hj, ?_, by rw [← hα]; simpa using p, fun i hi hne => ?_⟩
        · exact (gv_some _ j hj).trans (by rw [← r])
        · obtain ⟨u', p', q'⟩ := oth i hi hne
          exact ⟨u', by simpa using p', q'⟩
      | [], at_, h1, hj, r, oth => simp at hj

theorem fn_sound {f : Nat} {F : F} {κ : Nat → List V → Option V} {n : Nat} {args : List V} {r : V} (hm : P.follows .mixedOrders = true) (hκ : KOK P cx (ownOf Pg) κ)
    (hok : okF P cx Pg (cx.fm f) F = true) (hF : Pg f = some (.code F)) (hlen : args.length = F.np)
    (hr : ((exec κ n F.body (start args)).bind fun r => match r.1 with
          | .norm | .ret => finish F r.2
          | .exit _ => none) = some r) : Ctr P cx (ownOf Pg f) f args r := by
  unfold okF at hok
  split at hok <;> try (simp at hok; done)
  rename_i fn hfn
  simp only [Bool.and_eq_true, beq_iff_eq, decide_eq_true_eq] at hok
  obtain ⟨⟨⟨⟨⟨k1, k2⟩, k3⟩, k4⟩, k5⟩, k6⟩ := hok
  split at k2 <;> try (simp at k2; done)
  rename_i c hc
  have hown : ownOf Pg f = F.own := by simp [ownOf, hF]
  refine ⟨⟨fn, hfn, k1, by simp [hc]⟩, fun w X vs hX hsz hrel => ?_⟩
  simp only [Option.bind_eq_some_iff] at hr
  obtain ⟨⟨ex, S'⟩, hex, hfin⟩ := hr
  have hRW : RelW cx w.heap.size X (start args) w (fun _ => 0) (fun _ => undef) (fun _ => False) :=
    ⟨hX, Nat.le_refl _, fun b hb => hb.elim, fun s cs f hs => by simp [start] at hs, fun s s' hs => by simp [start] at hs, fun s z rows f hs => by simp [start] at hs, fun s s' z rows f z' rows' f' hs => by simp [start] at hs, fun s z rows f s' hs => by simp [start] at hs⟩
  have hFR : FR cx w.heap.size X F.gl [] (fun _ => .undef) (start args) (vs ++ Array.replicate (fn.ntmps - vs.size) undef) w := by
    refine ⟨fun t ht => ?_, _, _, _, hRW, fun t => ?_, fun i d hd => by simp at hd⟩
    · have : ¬ t < F.np := fun hlt => ht (by
        have := List.all_eq_true.1 k4 t (List.mem_range.2 hlt)
        simpa using this)
      simp only [start]
      rw [List.getElem?_eq_none (by omega)]; rfl
    · by_cases ht : t < args.length
      · obtain ⟨u, p, q⟩ := hrel t ht
        have : (vs ++ Array.replicate (fn.ntmps - vs.size) undef).getD t undef = u := by
          rw [Array.getD_eq_getD_getElem?, Array.getElem?_append_left (by omega), p]; rfl
        rw [this]
        have : (start args).ρ t = gv args t := by simp [start, gv, List.getD_eq_getElem?_getD]
        rw [this]
        exact .of_data (q.mono (Nat.le_refl _) (fun _ _ _ => rfl) (fun b _ hn hx => hn (hx.resolve_right id)))
      · have : (start args).ρ t = .undef := by simp only [start]; rw [List.getElem?_eq_none (by omega)]; rfl
        rw [this]; exact RelD.undef _
  refine calls_of_wp hfn hc (wp_mono ((code_sim (N := fn.ntmps) hm hκ n).1 c F.body (start args) S' ex _ w k2 hex hFR rfl (by simp; omega)) fun e a' w' hp => ?_)
  obtain ⟨p1, p2, p3, p4, p5⟩ := hp
  have hfin' : finish F S' = some r ∧ (e = .normal ∨ e = .ret) := by
    cases ex with
    | norm => exact ⟨hfin, .inl p1⟩
    | ret => exact ⟨hfin, .inr p1⟩
    | exit id => simp at hfin
  obtain ⟨hfin, he⟩ := hfin'
  unfold finish at hfin
  simp only [Option.bind_eq_some_iff, Option.some.injEq] at hfin
  obtain ⟨vs1, hv1, rs, hrs, rfl⟩ := hfin
  obtain ⟨hG, β, α, M, hW, hg, hl⟩ := p2
  obtain ⟨us, hrun, hlu, hru⟩ := results_ok (P := P) hW hg fn.results.toList F.res vs1 k5 hv1
  have hres : (results fn a'.tmps).run P w' = .ok (if us.length = 1 then us.getD 0 undef else .tuple us.toArray) w' := by
    unfold results
    rw [Array.mapM_eq_mapM_toList]
    simp only [map_eq_pure_bind, bind_assoc, pure_bind, Sem.run_bind]
    erw [hrun]
    simp only [Result.andThen, Sem.run_pure, List.size_toArray]
    congr 1
    split
    · rename_i h1
      rw [List.getD_eq_getElem?_getD]
      simp [h1]
    · rfl
  have hvl := (mapO_some hv1).1
  have hR := out_ok hW hlu hru hrs (fun j hj => by rw [hj] at k6; simp only [Bool.and_eq_true, decide_eq_true_eq] at k6; omega)
  rw [hown]
  rcases he with rfl | rfl
  · exact ⟨p3, _, hres, _, rfl, p5, hR⟩
  · exact ⟨p3, _, hres, _, rfl, p5, hR⟩

theorem callN_sound (hm : P.follows .mixedOrders = true) (hcode : ∀ f F, Pg f = some (.code F) → okF P cx Pg (cx.fm f) F = true)
    (hprim : ∀ f own p, Pg f = some (.prim own p) → ∀ args r, p args = some r → Ctr P cx own f args r)
    (hins : ∀ f z p, z < 1000 → Pg f = some (.prim (some (1000 + z)) p) → ∃ tS el, InsC P (cx.fm f) z tS el) (hdel : ∀ f z p, Pg f = some (.prim (some (2000 + z)) p) → DelC P (cx.fm f) z) : ∀ (n f : Nat) (args : List V) (r : V), callN Pg n f args = some r → Ctr P cx (ownOf Pg f) f args r
  | 0, f, args, r, h => by simp [callN] at h
  | n + 1, f, args, r, h => by
    simp only [callN] at h
    split at h
    · simp at h
    · rename_i own p hf
      have : ownOf Pg f = own := by simp [ownOf, hf]
      rw [this]; exact hprim f own p hf args r h
    · rename_i F hf
      split at h <;> try (simp at h; done)
      rename_i hlen
      have own_lt : ∀ g G j, Pg g = some (.code G) → G.own = some j → j < 1000 := fun g G j hg hj => by
        have := hcode g G hg
        unfold okF at this
        split at this
        · simp only [Bool.and_eq_true, hj, decide_eq_true_eq] at this
          exact this.2.2
        · simp at this
      refine fn_sound hm ⟨callN_sound hm hcode hprim hins hdel n, fun g z hz ho => ?_, fun g z ho => ?_⟩ (hcode f F hf) hf hlen h
      · simp only [ownOf] at ho
        split at ho
        · rename_i G hG; have := own_lt g G _ hG ho; omega
        · rename_i own p hG; subst ho; exact hins g z p hz hG
        · simp at ho
      · simp only [ownOf] at ho
        split at ho
        · rename_i G hG; have := own_lt g G _ hG ho; omega
        · rename_i own p hG; subst ho; exact hdel g z p hG
        · simp at ho

end
end Sg
