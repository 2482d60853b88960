/- One operation: what the interpreter says of it, the model does. -/
import Derived.Test.YtclmbbbpijboaaaSgCall
namespace Sg
open Go Go.RowKit
set_option linter.unusedSimpArgs false
set_option linter.unusedVariables false

/-- the model's operation comes to an end that meets 'post' -/
def Does (P : Program) (o : Oper) (a : Act) (w : World) (post : Value → World → Prop) : Prop :=
  (∃ v w', (execOp a.eval o).run P w = .ok (.value v) w' ∧ post v w') ∨
  (∃ w', (execOp a.eval o).run P w = .ok .skip w' ∧ post undef w') ∨
  ∃ f args w', (execOp a.eval o).run P w = .ok (.enter f args) w' ∧ Calls P f args w' fun e w'' => ∃ v, e = .returned v ∧ post v w''

theorem Does.wp {P : Program} {o : Oper} {a : Act} {w : World} {post : Value → World → Prop} (h : Does P o a w post) {K : Act → World → Prop} {Q : Exit → Act → World → Prop}
    (hK : ∀ v w', post v w' → K (a.put o.dst v) w') : o.wp P a w K Q := by
  unfold Oper.wp
  rcases h with ⟨v, w', hr, hp⟩ | ⟨w', hr, hp⟩ | ⟨f, args, w', hr, hc⟩
  · rw [hr]; exact hK _ _ hp
  · rw [hr]; exact hK _ _ hp
  · rw [hr]
    refine hc.mono fun e w'' he => ?_
    obtain ⟨v, rfl, hp⟩ := he
    exact hK _ _ hp

theorem Does.value {P : Program} {o : Oper} {a : Act} {w : World} {post : Value → World → Prop} {s : Sem Value} {v : Value} {w' : World}
    (he : execOp a.eval o = (do pure (.value (← s)) : Sem Next)) (hs : s.run P w = .ok v w') (hp : post v w') : Does P o a w post :=
  .inl ⟨v, w', by rw [he]; simp [hs, Result.andThen], hp⟩

theorem okArgs_rel {cx : Cx} {w : World} {Y : Nat → Prop} {S : St} {β : Nat → Nat} {α : Nat → Value} {a : Act} {ds : List (Option Nat)} {e : Nat → V}
    (hg : ∀ t, RelT cx w Y S β α (a.tmps.getD t undef) (S.ρ t)) (hl : ∀ i d, ds[i]? = some (some d) → RelT cx w Y S β α (a.tmps.getD d undef) (e i)) :
    ∀ (os : List Operand) (as : List Arg), okArgs cx ds os as = true → os.length = as.length ∧ ∀ i, i < as.length → ∃ u, (os.map a.eval)[i]? = some u ∧ RelT cx w Y S β α u (gv (as.map (argv e S.ρ)) i)
  | [], [], _ => ⟨rfl, fun i hi => by simp at hi⟩
  | o :: os, x :: as, h => by
    simp only [okArgs, Bool.and_eq_true] at h
    obtain ⟨h1, h2⟩ := okArgs_rel hg hl os as h.2
    refine ⟨by simp [h1], fun i hi => ?_⟩
    cases i with
    | zero => exact ⟨a.eval o, rfl, by simpa [gv] using arg_rel hg hl h.1⟩
    | succ i => obtain ⟨u, p, q⟩ := h2 i (by simpa using hi); exact ⟨u, by simpa using p, by simpa [gv] using q⟩
  | [], _ :: _, h => by simp [okArgs] at h
  | _ :: _, [], h => by simp [okArgs] at h

section
variable {P : Program} {cx : Cx} {B : Nat} {X : Nat → Prop} {S : St} {w : World} {β : Nat → Nat} {α : Nat → Value} {M : Nat → Prop}
variable {a : Act} {ds : List (Option Nat)} {e : Nat → V}

/-- a closure -/
theorem fn_ok {S1 : St} (h : RelW cx B X S w β α M) (hg : ∀ t, RelT cx w (orP X M) S β α (a.tmps.getD t undef) (S.ρ t)) (hl : ∀ i d, ds[i]? = some (some d) → RelT cx w (orP X M) S β α (a.tmps.getD d undef) (e i))
    {f : Nat} {os : List Operand} {as : List Arg} {sites : List Nat} {r : V} (hok : okArgs cx ds os as = true)
    (hev : (if sites.all (datSite S.μ) then
      (mapO (capV S.μ sites) (as.map (argv e S.ρ))).bind fun cs => some (V.func f cs, { S with μ := frzM S.μ sites })
    else none) = some (r, S1)) :
    OpPost cx B X S w β α M S1 r (.func (.func (cx.fm f)) #[] (os.map a.eval).toArray) w := by
  split at hev <;> try (simp at hev; done)
  rename_i hall
  simp only [Option.bind_eq_some_iff, Option.some.injEq, Prod.mk.injEq] at hev
  obtain ⟨cs, hcs, rfl, rfl⟩ := hev
  obtain ⟨M', h1, h2, h3, h4⟩ := frzM_ok sites h hall
  obtain ⟨hlen, hrel⟩ := okArgs_rel hg hl os as hok
  obtain ⟨m1, m2⟩ := mapO_some hcs
  have hD : ∀ u x, RelD cx w (orP X M) u x → RelD cx w (orP X M') u x := fun u x hr => sub_D h2 hr
  have hcap : ∀ i, i < cs.length → ∃ u, (os.map a.eval).toArray[i]? = some u ∧ RelD cx w (orP X M') u (gv cs i) := fun i hi => by
    have hi' : i < as.length := by simpa using (by omega : i < (as.map (argv e S.ρ)).length)
    obtain ⟨u, p, q⟩ := hrel i hi'
    obtain ⟨y, y1, y2⟩ := m2 i _ (List.getElem?_eq_getElem (by simpa using hi'))
    have hgv : gv cs i = y := by simp [gv, y1]
    have hga : gv (as.map (argv e S.ρ)) i = (as.map (argv e S.ρ))[i]'(by simpa using hi') := by simp [gv, hi']
    rw [hga] at q
    rw [hgv]
    refine ⟨u, by simpa using p, ?_⟩
    generalize (as.map (argv e S.ρ))[i]'(by simpa using hi') = x at q y2
    unfold capV at y2
    split at y2
    · rename_i s
      split at y2
      · rename_i c0 f0 hs
        split at y2 <;> simp only [Option.some.injEq, reduceCtorEq] at y2
        rename_i hc
        subst y2
        obtain ⟨q1, rfl⟩ := q
        obtain ⟨a1, a2, a3, c, el, a4, a5, a6⟩ := h.var s c0 f0 hs
        have hin : s ∈ sites := by simpa using hc.1
        refine cptr_mk (lt_of_some a4) ?_ a4 (Nat.le_refl _) (fun j hj => ?_)
        · rintro (hx | hm)
          · have := h.xb _ hx; omega
          · exact h4 s hin q1 hm
        · obtain ⟨u, b1, b2, b3⟩ := a6 j hj
          exact ⟨u, by simpa using b1, b2, hD _ _ (b3.data (datC_gv hc.2 j hj))⟩
      · simp at y2
    · split at y2 <;> simp only [Option.some.injEq, reduceCtorEq] at y2
      rename_i hd
      subst y2
      exact hD _ _ (q.data hd)
  obtain ⟨u, hu⟩ := pickf hcap
  refine ⟨β, α, M', h1, fun v x hv => RelT.tr (S' := { S with μ := frzM S.μ sites }) hD (show ATr S _ α α from ATr.refl S α) (fun s hs => ⟨h3 s hs, rfl⟩) hv, ?_, Below.refl _ _⟩
  exact RelD.func f _ cs u (by simp [hlen] at *; omega) (fun i hi => (hu i hi).1) (fun i hi => (hu i hi).2)

theorem callFunc_enter {f : FuncId} {args : Array Value} (h : Ent P f) : (callFunc f args).run P w = .ok (.enter f args) w := by
  obtain ⟨fn, h1, h2, h3⟩ := h
  unfold callFunc
  simp only [Sem.run_bind, run_program, Result.andThen, h1, h2, h3, Bool.false_eq_true, if_false, Sem.run_pure]

variable {κ : Nat → List V → Option V} {ownOf : Nat → Option Nat}

def okCal (cx : Cx) (ds : List (Option Nat)) (x : Operand) : Cal → Prop
  | .k f => x = .func (cx.fm f)
  | .v y => okArg cx ds x y = true

/-- the callee and what it captured -/
theorem callee_ok {x : Operand} {c : Cal} {fc : Nat × List V} {Y : Nat → Prop}
    (hg : ∀ t, RelT cx w Y S β α (a.tmps.getD t undef) (S.ρ t)) (hl : ∀ i d, ds[i]? = some (some d) → RelT cx w Y S β α (a.tmps.getD d undef) (e i))
    (hc : callee e S.ρ c = some fc) (hx : okCal cx ds x c) :
    ∃ caps : Array Value, a.eval x = .func (.func (cx.fm fc.1)) #[] caps ∧ caps.size = fc.2.length ∧ ∀ i, i < fc.2.length → ∃ u, caps[i]? = some u ∧ RelD cx w Y u (gv fc.2 i) := by
  cases c with
  | k f =>
    simp only [callee, Option.some.injEq] at hc
    subst hc
    simp only [okCal] at hx
    subst hx
    exact ⟨#[], rfl, rfl, fun i hi => by simp at hi⟩
  | v y =>
    have hr := arg_rel hg hl hx
    simp only [callee] at hc
    split at hc <;> simp only [Option.some.injEq, reduceCtorEq] at hc
    rename_i f cap hy
    subst hc
    rw [hy] at hr
    simp only [RelT] at hr
    generalize a.eval x = q at hr
    cases hr with
    | func f cs vs u hl hc hr => exact ⟨cs, rfl, hl, fun i hi => ⟨u i, hc i hi, hr i hi⟩⟩

theorem call_ok {S1 : St} {o : Oper} {c : Call} {x : Operand} {f : Cal} {cv : Cvm} {own : Option Nat} {as : List Arg} {r : V} {d : Nat}
    (h : RelW cx B X S w β α M) (hg : ∀ t, RelT cx w (orP X M) S β α (a.tmps.getD t undef) (S.ρ t)) (hl : ∀ i d, ds[i]? = some (some d) → RelT cx w (orP X M) S β α (a.tmps.getD d undef) (e i))
    (hκ : ∀ f args r, κ f args = some r → Ctr P cx (ownOf f) f args r) (hown : own = none ∨ ∃ g, f = .k g ∧ own = ownOf g)
    (ho : o.op = .call c) (hcx : c.callee = .value x) (hx : okCal cx ds x f) (hok : okArgs cx ds c.args.toList as = true)
    (hev : ((callee e S.ρ f).bind fun fc => callV κ d S cv own fc (as.map (argv e S.ρ))) = some (r, S1)) :
    Does P o a w (OpPost cx B X S w β α M S1 r) := by
  simp only [Option.bind_eq_some_iff] at hev
  obtain ⟨fc, hfc, hev⟩ := hev
  unfold callV at hev
  obtain ⟨caps, hcv, hcl, hcr⟩ := callee_ok hg hl hfc hx
  obtain ⟨hlen, hrel⟩ := okArgs_rel hg hl _ as hok
  have hownf : own = none ∨ own = ownOf fc.1 := by
    rcases hown with h | ⟨g, rfl, h⟩
    · exact .inl h
    · simp only [callee, Option.some.injEq] at hfc; subst hfc; exact .inr h
  have hrun : ∀ (hE : Ent P (cx.fm fc.1)), (execOp a.eval o).run P w = .ok (.enter (cx.fm fc.1) ((c.args.toList.map a.eval).toArray ++ caps)) w := by
    intro hE
    have hres : (resolve a.eval c o.type).run P w = .ok { target := .fn (.func (cx.fm fc.1)) caps, args := #[] ++ c.args.map a.eval } w := by
      unfold resolve
      rw [hcx]
      simp only
      rw [hcv]
      rfl
    unfold execOp
    simp only [ho, Sem.run_bind, hres, Result.andThen, invoke]
    rw [callFunc_enter hE]
    have : (c.args.toList.map a.eval).toArray = c.args.map a.eval := by apply Array.ext'; simp
    rw [this]
    simp
  have hXM : ∀ b, orP X M b → b < w.heap.size := fun b hb => by
    rcases hb with hb | hb
    · exact Nat.lt_of_lt_of_le (h.xb b hb) h.size
    · exact (h.m b hb).2
  have hsize : ((c.args.toList.map a.eval).toArray ++ caps).size = as.length + fc.2.length := by rw [Array.size_append, List.size_toArray, List.length_map, hlen, hcl]
  -- the arguments, as data under Y
  have args_ok : ∀ (Y : Nat → Prop) (bs : List V), bs.length = as.length → (∀ i, i < bs.length → ∃ u, (c.args.toList.map a.eval)[i]? = some u ∧ RelD cx w Y u (gv bs i)) → (∀ b, Y b → orP X M b) →
      ∀ i, i < (bs ++ fc.2).length → ∃ u, ((c.args.toList.map a.eval).toArray ++ caps)[i]? = some u ∧ RelD cx w Y u (gv (bs ++ fc.2) i) := by
    intro Y bs hbl hb hY i hi
    have hal : (c.args.toList.map a.eval).toArray.size = bs.length := by rw [List.size_toArray, List.length_map, hlen, hbl]
    rcases Nat.lt_or_ge i bs.length with hlt | hge
    · obtain ⟨u, p, q⟩ := hb i hlt
      refine ⟨u, ?_, ?_⟩
      · rw [Array.getElem?_append_left (by omega)]; simpa using p
      · simpa [gv, List.getD_eq_getElem?_getD, List.getElem?_append_left hlt] using q
    · obtain ⟨u, p, q⟩ := hcr (i - bs.length) (by simp at hi; omega)
      refine ⟨u, ?_, ?_⟩
      · rw [Array.getElem?_append_right (by omega), hal]; exact p
      · have q' : RelD cx w Y u (gv fc.2 (i - bs.length)) := q.mono (Nat.le_refl _) (fun _ _ _ => rfl) (fun b _ hn hy => hn (hY b hy))
        simpa [gv, List.getD_eq_getElem?_getD, List.getElem?_append_right hge] using q'
  have conv : ∀ (Y : Nat → Prop) (bs : List V), mapO (toD S.A) (as.map (argv e S.ρ)) = some bs → (∀ b, Y b → X b ∨ M b) →
      (∀ s ∈ (as.map (argv e S.ρ)).flatMap sitesV, ∀ b, hdr (α s) = some b → (∃ z rows f, S.A s = some (z, rows, f) ∧ f ≠ .dead) → ¬ Y b) →
      bs.length = as.length ∧ ∀ i, i < bs.length → ∃ u, (c.args.toList.map a.eval)[i]? = some u ∧ RelD cx w Y u (gv bs i) := by
    intro Y bs hbs hY hs
    obtain ⟨m1, m2⟩ := mapO_some hbs
    have m1' : bs.length = as.length := by simpa using m1
    refine ⟨m1', fun i hi => ?_⟩
    have hi' : i < as.length := by omega
    obtain ⟨u, p, q⟩ := hrel i hi'
    have hlt : i < (as.map (argv e S.ρ)).length := by simpa using hi'
    obtain ⟨y, y1, y2⟩ := m2 i _ (List.getElem?_eq_getElem hlt)
    have hgv : gv bs i = y := by simp [gv, y1]
    have hga : gv (as.map (argv e S.ρ)) i = (as.map (argv e S.ρ))[i]'hlt := by simp [gv, hi']
    rw [hga] at q
    rw [hgv]
    exact ⟨u, p, toD_ok h q y2 hY (fun s hs' => hs s (List.mem_flatMap.2 ⟨_, List.getElem_mem hlt, hs'⟩))⟩
  cases cv with
  | no =>
    simp only at hev
    split at hev <;> try (simp at hev; done)
    rename_i hdat
    simp only [Option.bind_eq_some_iff] at hev
    obtain ⟨r0, hr0, had⟩ := hev
    obtain ⟨hE, hC⟩ := hκ _ _ _ hr0
    refine .inr (.inr ⟨_, _, w, hrun hE, (hC w (orP X M) _ hXM (by rw [hsize]; simp) ?_).mono ?_⟩)
    · refine args_ok (orP X M) _ (by simp) (fun i hi => ?_) (fun _ h => h)
      have hi' : i < as.length := by simpa using hi
      obtain ⟨u, p, q⟩ := hrel i hi'
      refine ⟨u, p, q.data ?_⟩
      rw [List.all_eq_true] at hdat
      exact hdat _ (by simp only [gv, List.getD_eq_getElem?_getD, List.getElem?_eq_getElem hi, Option.getD_some]; exact List.getElem_mem hi)
    · rintro en w' ⟨v, rfl, hb, hr⟩
      exact ⟨v, rfl, adopt_ok h hb hownf hr hXM had⟩
  | borrow =>
    simp only [Option.bind_eq_some_iff] at hev
    obtain ⟨bs, hbs, r0, hr0, had⟩ := hev
    split at had <;> simp only [Option.some.injEq, Prod.mk.injEq, reduceCtorEq] at had
    rename_i hsc
    obtain ⟨rfl, rfl⟩ := had
    obtain ⟨hE, hC⟩ := hκ _ _ _ hr0
    obtain ⟨hbl, hb⟩ := conv (fun b => orP X M b ∧ ∀ s ∈ (as.map (argv e S.ρ)).flatMap sitesV, hdr (α s) ≠ some b) bs hbs (fun b hb => hb.1) (fun s hs b hb _ hn => hn.2 s hs hb)
    refine .inr (.inr ⟨_, _, w, hrun hE, (hC w (fun b => orP X M b ∧ ∀ s ∈ (as.map (argv e S.ρ)).flatMap sitesV, hdr (α s) ≠ some b) _ (fun b hb => hXM b hb.1) (by rw [hsize]; simp [hbl]) (args_ok _ bs hbl hb (fun b hb => hb.1))).mono ?_⟩)
    rintro en w' ⟨v, rfl, hbel, hr⟩
    have hw := h.grow (Grow.of_below hbel) (M' := M) (fun _ h => h) (fun _ h => .inl h)
    refine ⟨v, rfl, β, α, M, hw, fun u x hu => RelT.tr (fun _ _ hr => grow_D (Grow.of_below hbel) (fun _ h => .inl h) hr) (ATr.refl S α) (fun s hs => ⟨hs, rfl⟩) hu, .of_data (scalar_D (hr.data (fun b hb => hXM b hb.1)) hsc), hbel.mono h.size⟩
  | freeze =>
    simp only [Option.bind_eq_some_iff] at hev
    obtain ⟨bs, hbs, r0, hr0, had⟩ := hev
    obtain ⟨hE, hC⟩ := hκ _ _ _ hr0
    obtain ⟨M', f1, f2, f3, f4⟩ := frzA_ok ((as.map (argv e S.ρ)).flatMap sitesV) h
    obtain ⟨hbl, hb⟩ := conv (orP X M') bs hbs (fun b hb => hb.imp id (f2 b)) (fun s hs b hb hex hn => by
      rcases hn with hx | hm
      · obtain ⟨z, rows, f, e1, e2⟩ := hex
        have := ((h.arr s z rows f e1 e2).2 b hb).1
        have := h.xb b hx; omega
      · exact f4 s hs b hb hex hm)
    have hXM' : ∀ b, orP X M' b → b < w.heap.size := fun b hb => hXM b (hb.imp id (f2 b))
    refine .inr (.inr ⟨_, _, w, hrun hE, (hC w (orP X M') _ hXM' (by rw [hsize]; simp [hbl]) (args_ok _ bs hbl hb (fun b hb => hb.imp id (f2 b)))).mono ?_⟩)
    rintro en w' ⟨v, rfl, hbel, hr⟩
    obtain ⟨β', α', M'', q1, q2, q3, q4⟩ := adopt_ok f1 hbel hownf hr hXM' had
    exact ⟨v, rfl, β', α', M'', q1, fun u x hu => q2 u x (RelT.tr (S' := { S with A := frzA S.A ((as.map (argv e S.ρ)).flatMap sitesV) }) (fun _ _ hr => sub_D f2 hr) f3 (fun s hs => ⟨hs, rfl⟩) hu), q3, q4⟩

end
end Sg
