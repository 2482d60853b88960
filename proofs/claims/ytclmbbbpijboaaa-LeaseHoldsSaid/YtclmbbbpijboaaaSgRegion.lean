/- A region: the interpreter's one order serves every order that the model may draw. -/
import Derived.Test.YtclmbbbpijboaaaSgEv2
import Derived.Test.YtclmbbbpijboaaaSgOrder
namespace Sg
open Go Go.RowKit
set_option linter.unusedSimpArgs false
set_option linter.unusedVariables false

/-- the frame: tmps that outlive their regions, results of this region, memory -/
def FR (cx : Cx) (B : Nat) (X : Nat → Prop) (G : List Nat) (ds : List (Option Nat)) (e : Nat → V) (S : St) (tm : Array Value) (w : World) : Prop :=
  (∀ t, t ∉ G → S.ρ t = .undef) ∧ ∃ β α M, RelW cx B X S w β α M ∧ (∀ t, RelT cx w (orP X M) S β α (tm.getD t undef) (S.ρ t)) ∧
    ∀ i d, ds[i]? = some (some d) → RelT cx w (orP X M) S β α (tm.getD d undef) (e i)

section
variable (P : Program) (cx : Cx) (ownOf : Nat → Option Nat) (G : List Nat) (N : Nat)

/-- an operation's place in its region: its tmp, its guard -/
def okOper (ds : List (Option Nat)) (o : Oper) (p : Op) : Bool :=
  o.dst == p.dst && o.guard == p.gd && (match p.dst with | some d => p.gl == G.contains d && decide (d < N) | none => true) &&
  (match p.gd with | some (j, _) => (match ds[j]? with | some (some _) => true | _ => false) | none => true) &&
  okK P cx ds o.op p.k && okOwn ownOf p.k

def okOpers (ds : List (Option Nat)) : List Oper → List Op → Bool
  | [], [] => true
  | o :: os, p :: ps => okOper P cx ownOf G N ds o p && okOpers ds os ps
  | _, _ => false

/-- no tmp is written twice in a region -/
def distinctDst : List (Option Nat) → Bool
  | [] => true
  | none :: ds => distinctDst ds
  | some d :: ds => !ds.contains (some d) && distinctDst ds

def okRegion (draw : Bool) (os : Array Oper) (dr : Bool) (ps : List Op) : Bool :=
  let ds := ps.map (·.dst)
  okOpers P cx ownOf G N ds os.toList ps && distinctDst ds && draw == dr && (!draw || (okEdges os && okDraw os.toList ps))

end

theorem okOpers_get {P : Program} {cx : Cx} {ownOf : Nat → Option Nat} {G : List Nat} {N : Nat} {ds : List (Option Nat)} : ∀ {os : List Oper} {ps : List Op}, okOpers P cx ownOf G N ds os ps = true →
    os.length = ps.length ∧ ∀ (i : Nat) (o : Oper) (p : Op), os[i]? = some o → ps[i]? = some p → okOper P cx ownOf G N ds o p = true
  | [], [], _ => ⟨rfl, fun i o p h => by simp at h⟩
  | o :: os, p :: ps, h => by
    simp only [okOpers, Bool.and_eq_true] at h
    obtain ⟨h1, h2⟩ := okOpers_get h.2
    refine ⟨by simp [h1], fun i o' p' ho hp => ?_⟩
    cases i with
    | zero => simp at ho hp; subst ho; subst hp; exact h.1
    | succ i => exact h2 i o' p' (by simpa using ho) (by simpa using hp)
  | [], _ :: _, h => by simp [okOpers] at h
  | _ :: _, [], h => by simp [okOpers] at h

theorem distinct_spec : ∀ {ds : List (Option Nat)}, distinctDst ds = true → ∀ (i j : Nat) (d : Nat), ds[i]? = some (some d) → ds[j]? = some (some d) → i = j
  | [], _, i, j, d, h, _ => by simp at h
  | x :: ds, hd, i, j, d, hi, hj => by
    have hd' : distinctDst ds = true := by cases x <;> simp_all [distinctDst]
    have hx : ∀ d', x = some d' → some d' ∉ ds := fun d' e => by subst e; simp [distinctDst] at hd; exact hd.1
    cases i with
    | zero => cases j with
      | zero => rfl
      | succ j =>
        simp at hi hj
        exact absurd (List.mem_of_getElem? hj) (hx d hi)
    | succ i => cases j with
      | zero =>
        simp at hi hj
        exact absurd (List.mem_of_getElem? hi) (hx d hj)
      | succ j => rw [distinct_spec hd' i j d (by simpa using hi) (by simpa using hj)]

section
variable {P : Program} {cx : Cx} {ownOf : Nat → Option Nat} {G : List Nat} {N : Nat} {B : Nat} {X : Nat → Prop} {κ : Nat → List V → Option V}

theorem getD_set {tm : Array Value} {d t : Nat} {u : Value} (hd : d < tm.size) : (tm.setIfInBounds d u).getD t undef = if t = d then u else tm.getD t undef := by
  by_cases e : t = d
  · subst e; simp [hd]
  · have : d ≠ t := fun h => e h.symm
    simp [e, Array.getElem?_setIfInBounds_ne this]

/-- an operation's result is laid down -/
theorem FR.put {ds : List (Option Nat)} {e : Nat → V} {S S1 : St} {a : Act} {w w' : World} {i : Nat} {o : Oper} {p : Op} {v : V} {u : Value} {β α M}
    (hG : ∀ t, t ∉ G → S.ρ t = .undef) (hρ : S1.ρ = S.ρ) (hsz : a.tmps.size = N)
    (hg : ∀ t, RelT cx w (orP X M) S β α (a.tmps.getD t undef) (S.ρ t)) (hl : ∀ i d, ds[i]? = some (some d) → RelT cx w (orP X M) S β α (a.tmps.getD d undef) (e i))
    (hp : OpPost cx B X S w β α M S1 v u w') (hdi : ds[i]? = some p.dst) (hdist : distinctDst ds = true) (hdst : o.dst = p.dst)
    (hgl : ∀ d, p.dst = some d → p.gl = G.contains d ∧ d < N) : FR cx B X G ds (upd e i v) (S1.put p v) (a.put o.dst u).tmps w' := by
  obtain ⟨β', α', M', q1, q2, q3, -⟩ := hp
  have hw' : RelW cx B X (S1.put p v) w' β' α' M' := by
    have : (S1.put p v).μ = S1.μ ∧ (S1.put p v).A = S1.A := by unfold St.put; split <;> exact ⟨rfl, rfl⟩
    obtain ⟨e1, e2⟩ := this
    have : S1.put p v = { ρ := (S1.put p v).ρ, μ := S1.μ, A := S1.A } := by rw [← e1, ← e2]
    rw [this]
    exact ⟨q1.xb, q1.size, q1.m, q1.var, q1.varInj, q1.arr, q1.arrInj, q1.arrVar⟩
  have hT : ∀ {u x}, RelT cx w' (orP X M') S1 β' α' u x → RelT cx w' (orP X M') (S1.put p v) β' α' u x := by
    intro u x h
    have : (S1.put p v).μ = S1.μ ∧ (S1.put p v).A = S1.A := by unfold St.put; split <;> exact ⟨rfl, rfl⟩
    obtain ⟨e1, e2⟩ := this
    exact RelT.tr (S := S1) (S' := S1.put p v) (fun _ _ h => h) (fun s z rows f hs => ⟨rows, f, by rw [e2]; exact hs, fun hf => ⟨hf, Nat.le_refl _, fun _ => rfl⟩⟩) (fun s hs => ⟨by rw [e1]; exact hs, rfl⟩) h
  cases hd : p.dst with
  | none =>
    rw [hdst, hd]
    have hS : (S1.put p v).ρ = S.ρ := by unfold St.put; rw [hd]; cases p.gl <;> exact hρ
    refine ⟨fun t ht => by rw [hS]; exact hG t ht, β', α', M', hw', fun t => ?_, fun j d hj => ?_⟩
    · rw [hS]; exact hT (q2 _ _ (hg t))
    · have hne : j ≠ i := fun e' => by subst e'; rw [hdi, hd] at hj; simp at hj
      simp only [upd, if_neg hne]
      exact hT (q2 _ _ (hl j d hj))
  | some d =>
    obtain ⟨g1, g2⟩ := hgl d hd
    rw [hdst, hd]
    have hlt : d < a.tmps.size := by omega
    have hput : (a.put (some d) u).tmps = a.tmps.setIfInBounds d u := rfl
    rw [hput]
    have hSρ : ∀ t, (S1.put p v).ρ t = if t = d ∧ d ∈ G then v else S.ρ t := by
      intro t
      unfold St.put
      rw [hd, g1]
      by_cases hin : d ∈ G
      · have : G.contains d = true := by simpa using hin
        rw [this]
        simp only [upd, hρ, hin, and_true]
      · have : G.contains d = false := by simpa using hin
        rw [this]
        simp only [hρ, hin, and_false, if_false]
    refine ⟨fun t ht => ?_, β', α', M', hw', fun t => ?_, fun j d' hj => ?_⟩
    · rw [hSρ, if_neg (show ¬ (t = d ∧ d ∈ G) from fun h => ht (by rw [h.1]; exact h.2))]; exact hG t ht
    · rw [hSρ, getD_set hlt]
      by_cases e1 : t = d
      · subst e1
        by_cases hin : t ∈ G
        · simp only [hin, and_self, if_true]; exact hT q3
        · simp only [hin, and_false, if_false, if_true]; rw [hG t hin]; exact RelD.undef _
      · simp only [e1, false_and, if_false]; exact hT (q2 _ _ (hg t))
    · rw [getD_set hlt]
      by_cases e1 : j = i
      · subst e1
        rw [hdi, hd] at hj
        simp only [Option.some.injEq] at hj
        subst hj
        simp only [upd, if_true]; exact hT q3
      · have e2 : d' ≠ d := fun e' => e1 (distinct_spec hdist j i d (e' ▸ hj) (by rw [hdi, hd]))
        simp only [upd, if_neg e1, if_neg e2]
        exact hT (q2 _ _ (hl j d' hj))

/-- the operations of a region, in a given order -/
theorem ops_sim {ops : Array Oper} {ps : List Op} (hκ : KOK P cx ownOf κ)
    (hok : okOpers P cx ownOf G N (ps.map (·.dst)) ops.toList ps = true) (hdist : distinctDst (ps.map (·.dst)) = true) {Q : Exit → Act → World → Prop} {S' : St} {w0 : World}
    (hQ : ∀ (a : Act) (w : World) (e : Nat → V), FR cx B X G (ps.map (·.dst)) e S' a.tmps w → a.defers = [] → a.tmps.size = N → Below B w0 w → Q .normal a w) :
    ∀ (l : List Nat) (e : Nat → V) (S : St) (a : Act) (w : World), FR cx B X G (ps.map (·.dst)) e S a.tmps w → a.defers = [] → a.tmps.size = N → Below B w0 w →
      runIx κ ps l e S = some S' → wpOps P ops Q l a w := by
  obtain ⟨hlen, hget⟩ := okOpers_get hok
  intro l
  induction l with
  | nil =>
    intro e S a w hF hd hs hb hr
    simp only [runIx, Option.some.injEq] at hr
    subst hr
    exact hQ a w e hF hd hs hb
  | cons i l ih =>
    intro e S a w hF hd hs hb hr
    simp only [runIx] at hr
    simp only [wpOps]
    cases hp : ps[i]? with
    | none =>
      rw [hp] at hr
      have : ops[i]? = none := by
        have : ps.length ≤ i := by
          rcases Nat.lt_or_ge i ps.length with h' | h'
          · simp [h'] at hp
          · exact h'
        have h2 : ops.size ≤ i := by simpa using (by omega : ops.toList.length ≤ i)
        simp [h2]
      rw [this]
      exact ih e S a w hF hd hs hb hr
    | some p =>
      rw [hp] at hr
      have hi : i < ops.size := by
        have : i < ps.length := by
          rcases Nat.lt_or_ge i ps.length with h' | h'
          · exact h'
          · simp [List.getElem?_eq_none h'] at hp
        simpa using (by omega : i < ops.toList.length)
      have ho : ops[i]? = some ops[i] := by simp [hi]
      simp only [ho]
      have hoo := hget i ops[i] p (by simp [hi]) hp
      simp only [okOper, Bool.and_eq_true, beq_iff_eq] at hoo
      obtain ⟨⟨⟨⟨⟨o1, o2⟩, o3⟩, o4⟩, o5⟩, o6⟩ := hoo
      have hgl : ∀ d, p.dst = some d → p.gl = G.contains d ∧ d < N := fun d hd => by
        rw [hd] at o3; simpa using o3
      have hdi : (ps.map (·.dst))[i]? = some p.dst := by simp [hp]
      simp only [Option.bind_eq_some_iff] at hr
      obtain ⟨r, hst, hr⟩ := hr
      obtain ⟨hG, β, α, M, hW, hg, hl⟩ := hF
      unfold step at hst
      have hwant : ∀ b, wantedV e p.gd = some b → Region.wanted ops[i] (yielded ops a.tmps) = b := by
        intro b hb'
        unfold Region.wanted
        rw [o2]
        unfold wantedV at hb'
        cases hgd : p.gd with
        | none => rw [hgd] at hb'; simpa using hb'
        | some jb =>
          obtain ⟨j, want⟩ := jb
          rw [hgd] at hb' o4
          simp only at hb' o4 ⊢
          split at hb' <;> simp only [Option.some.injEq, reduceCtorEq] at hb'
          rotate_left
          · rename_i hej
            subst hb'
            split at o4
            · rename_i d hdj
              have hr := hl j d hdj
              rw [hej] at hr
              obtain ⟨cs, hv, hsz, -⟩ := hr
              have hcs : cs = #[] := Array.eq_empty_of_size_eq_zero hsz
              have hyd : yielded ops a.tmps j = none := by
                unfold yielded
                split
                · rename_i t hb
                  exfalso
                  simp only [Option.bind_eq_some_iff] at hb
                  obtain ⟨d', ⟨o', ho', hd'⟩, ht⟩ := hb
                  have hj : j < ops.size := by
                    rcases Nat.lt_or_ge j ops.size with h' | h'
                    · exact h'
                    · simp [Array.getElem?_eq_none h'] at ho'
                  have hpj : ∃ q, ps[j]? = some q ∧ q.dst = some d := by
                    simp only [List.getElem?_map, Option.map_eq_some_iff] at hdj
                    exact hdj
                  obtain ⟨q, hq1, hq2⟩ := hpj
                  have hoj := hget j o' q (by simpa using ho') hq1
                  simp only [okOper, Bool.and_eq_true, beq_iff_eq] at hoj
                  have : o'.dst = some d := by rw [hoj.1.1.1.1.1]; exact hq2
                  rw [this] at hd'
                  simp only [Option.some.injEq] at hd'
                  subst hd'
                  rw [Array.getD_eq_getD_getElem?, ht] at hv
                  simp at hv
                · rfl
              rw [hyd]; rfl
            · simp at o4
          rename_i t hej
          subst hb'
          split at o4
          · rename_i d hdj
            have hr := hl j d hdj
            rw [hej] at hr
            have hv := rel_bool hr
            have hj : j < ops.size := by
              have : j < (ps.map (·.dst)).length := by
                rcases Nat.lt_or_ge j (ps.map (·.dst)).length with h' | h'
                · exact h'
                · simp [List.getElem?_eq_none h'] at hdj
              simp only [List.length_map] at this
              simpa using (by omega : j < ops.toList.length)
            have hpj : ∃ q, ps[j]? = some q ∧ q.dst = some d := by
              simp only [List.getElem?_map, Option.map_eq_some_iff] at hdj
              exact hdj
            obtain ⟨q, hq1, hq2⟩ := hpj
            have hoj := hget j ops[j] q (by simp [hj]) hq1
            simp only [okOper, Bool.and_eq_true, beq_iff_eq] at hoj
            have hdj' : ops[j].dst = some d := by rw [hoj.1.1.1.1.1]; exact hq2
            have hyd : yielded ops a.tmps j = some t := by
              unfold yielded
              have hoj' : ops[j]? = some ops[j] := by simp [hj]
              rw [hoj']
              simp only [Option.bind_some, hdj']
              have hin : d < a.tmps.size := by
                rcases Nat.lt_or_ge d a.tmps.size with h' | h'
                · exact h'
                · simp [h', undef] at hv
              simp only [hin, Array.getD_eq_getD_getElem?, Array.getElem?_eq_getElem, Option.getD_some] at hv
              simp [hin, hv]
            rw [hyd]; cases t <;> cases want <;> rfl
          · simp at o4
      split at hst
      · simp at hst
      · rename_i hw
        rw [hwant false hw]
        simp only [Option.some.injEq] at hst
        subst hst
        simp only [Bool.false_eq_true, if_false]
        have hpost : OpPost cx B X S w β α M S .un undef w := .pure hW ⟨#[], rfl, rfl, fun i hi => by simp at hi⟩
        have hF' := FR.put (G := G) (N := N) (o := ops[i]) hG rfl hs hg hl hpost hdi hdist o1 hgl
        refine ih _ _ _ _ hF' ?_ ?_ hb hr
        · unfold Act.put; cases ops[i].dst <;> exact hd
        · unfold Act.put; cases ops[i].dst
          · exact hs
          · simpa using hs
      · rename_i hw
        rw [hwant true hw]
        simp only [if_true]
        simp only [Option.bind_eq_some_iff, Option.some.injEq] at hst
        obtain ⟨⟨v, S1⟩, hev, rfl⟩ := hst
        have hdoes := ev_sound hW hg hl hκ o5 o6 hev
        refine .inl (hdoes.wp fun u w' hpost => ?_)
        have hρ : S1.ρ = S.ρ := by
          have := ev_same κ (p.dst.getD 0) p.k e e S S (fun _ _ => rfl) (fun _ _ => rfl) (fun _ _ => rfl)
          rw [hev] at this
          exact this.2.1
        have hF' := FR.put (G := G) (N := N) (o := ops[i]) hG hρ hs hg hl hpost hdi hdist o1 hgl
        obtain ⟨_, _, _, _, _, _, hbel⟩ := hpost
        refine ih _ _ _ _ hF' ?_ ?_ (hb.trans hbel) hr
        · unfold Act.put; cases ops[i].dst <;> exact hd
        · unfold Act.put; cases ops[i].dst
          · exact hs
          · simpa using hs

theorem FR.start {ds ds' : List (Option Nat)} {e : Nat → V} {S : St} {tm : Array Value} {w : World} (h : FR cx B X G ds e S tm w) : FR cx B X G ds' (fun _ => .undef) S tm w := by
  obtain ⟨hG, β, α, M, hW, hg, hl⟩ := h
  exact ⟨hG, β, α, M, hW, hg, fun _ _ _ => CR.undef _⟩

theorem FR.drew {ds : List (Option Nat)} {e : Nat → V} {S : St} {tm : Array Value} {w w' : World} (h : FR cx B X G ds e S tm w) (hh : w'.heap = w.heap) : FR cx B X G ds e S tm w' := by
  obtain ⟨hG, β, α, M, hW, hg, hl⟩ := h
  have hgr : Grow w w' := ⟨by rw [hh]; exact Nat.le_refl _, fun b _ => by rw [hh]⟩
  have hD : ∀ u x, RelD cx w (orP X M) u x → RelD cx w' (orP X M) u x := fun _ _ hr => grow_D hgr (fun _ h => .inl h) hr
  exact ⟨hG, β, α, M, hW.grow hgr (fun _ h => h) (fun _ h => .inl h), fun t => (hg t).tr hD (ATr.refl S α) (fun _ h => ⟨h, rfl⟩), fun i d hd => (hl i d hd).tr hD (ATr.refl S α) (fun _ h => ⟨h, rfl⟩)⟩

theorem region_sim {id : Nat} {ops : Array Oper} {draw dr : Bool} {ps : List Op} (hm : P.follows .mixedOrders = true) (hκ : KOK P cx ownOf κ)
    (hok : okRegion P cx ownOf G N draw ops dr ps = true) {S S' : St} {a : Act} {w : World} {Q : Exit → Act → World → Prop}
    (hF : FR cx B X G [] (fun _ => .undef) S a.tmps w) (hd : a.defers = []) (hs : a.tmps.size = N) (hr : runOps κ ps 0 (fun _ => .undef) S = some S')
    (hQ : ∀ (a' : Act) (w' : World), FR cx B X G [] (fun _ => .undef) S' a'.tmps w' → a'.defers = [] → a'.tmps.size = N → Below B w w' → Q .normal a' w') :
    (Code.region id ops draw).wp P Q a w := by
  simp only [okRegion, Bool.and_eq_true, beq_iff_eq] at hok
  obtain ⟨⟨⟨h1, h2⟩, rfl⟩, h4⟩ := hok
  obtain ⟨hlen, -⟩ := okOpers_get h1
  have hlen' : ps.length = ops.size := by simpa using hlen.symm
  have hix : runIx κ ps (List.range ps.length) (fun _ => .undef) S = some S' := by
    rw [List.range_eq_range', ← runOps_ix κ ps 0 _ _ (fun j => by simp)]; exact hr
  have hQ' : ∀ (a' : Act) (w' : World) (e : Nat → V), FR cx B X G (ps.map (·.dst)) e S' a'.tmps w' → a'.defers = [] → a'.tmps.size = N → Below B w w' → Q .normal a' w' :=
    fun a' w' e hF' hd' hs' hb' => hQ a' w' hF'.start hd' hs' hb'
  cases draw with
  | false =>
    refine wp_region (ops_sim hκ h1 h2 hQ' _ _ _ _ _ hF.start hd hs (Below.refl _ _) ?_)
    rw [← hlen']; exact hix
  | true =>
    simp only [Bool.not_true, Bool.false_or, Bool.and_eq_true] at h4
    refine wp_region_draw fun t => ?_
    simp only [Region.schedule, hm, Bool.true_or, if_true]
    refine ops_sim hκ h1 h2 hQ' _ (fun _ => .undef) S _ _ (hF.start.drew rfl) hd hs ⟨rfl, rfl, rfl, Nat.le_refl _, fun _ _ => rfl⟩ ?_
    rw [runIx_sort κ _ _ _ (draw_inv h4.1 hlen' h4.2 t), sortI_range (lin_ok h4.1 t).1, ← hlen']
    exact hix

end
end Sg
