/- Code, functions, programs: what the interpreter answers, the model's call returns. -/
import Derived.Test.YtclmbbbpijboaaaSgRegion
namespace Sg
open Go Go.RowKit
set_option linter.unusedSimpArgs false
set_option linter.unusedVariables false

section
variable (P : Program) (cx : Cx) (ownOf : Nat → Option Nat) (G : List Nat) (N : Nat)

def okC : Code → C → Bool
  | .skip, .skip => true
  | .region _ ops draw, .region dr ps => okRegion P cx ownOf G N draw ops dr ps
  | .seq a b, .seq a' b' => okC a a' && okC b b'
  | .cond x a b, .cond y a' b' => okArg cx [] x y && okC a a' && okC b b'
  | .block id c, .block id' c' => id == id' && okC c c'
  | .loop c, .loop _ _ _ _ c' => okC c c'
  | .exit id, .exit id' => id == id'
  | .ret, .ret => true
  | _, _ => false

end

section
variable {P : Program} {cx : Cx} {ownOf : Nat → Option Nat} {G : List Nat} {N : Nat} {B : Nat} {X : Nat → Prop} {κ : Nat → List V → Option V}

theorem head_A {S : St} {W L Wv Wa : List Nat} {s : Nat} (h : s ∉ Wa) : (S.head W L Wv Wa).A s = S.A s := by
  simp [St.head, h]
theorem head_A_some {S : St} {W L Wv Wa : List Nat} {s : Nat} {x} (h : (S.head W L Wv Wa).A s = some x) : s ∉ Wa ∧ S.A s = some x := by
  simp only [St.head] at h
  split at h
  · simp at h
  · rename_i hn; exact ⟨by simpa using hn, h⟩

theorem head_O {S : St} {W L Wv Wa : List Nat} {α : Nat → Value} {v : Value} {s z n : Nat} (h : RelO S α v s z n) (hs : s ∉ Wa) : RelO (S.head W L Wv Wa) α v s z n := by
  obtain ⟨rows, f, a, cap, hA, h⟩ := h
  exact ⟨rows, f, a, cap, by rw [head_A hs]; exact hA, h⟩

theorem head_C {S : St} {W L Wv Wa : List Nat} {α : Nat → Value} {w : World} {Y : Nat → Prop} {v : Value} {x : V} (h : RelC cx w Y S α v x) : RelC cx w Y (S.head W L Wv Wa) α v (scrubC Wa x) := by
  cases x with
  | own s z n =>
    simp only [scrubC]
    split
    · exact RelD.undef _
    · rename_i hn; exact head_O h (by simpa using hn)
  | _ => exact h

theorem head_T {S : St} {W L Wv Wa : List Nat} {α : Nat → Value} {β : Nat → Nat} {w : World} {Y : Nat → Prop} {v : Value} {x : V} (h : RelT cx w Y S β α v x) : RelT cx w Y (S.head W L Wv Wa) β α v (scrubV Wv Wa x) := by
  cases x with
  | own s z n =>
    simp only [scrubV]
    split
    · exact RelD.undef _
    · rename_i hn; exact head_O h (by simpa using hn)
  | lref s o =>
    simp only [scrubV]
    split
    · exact RelD.undef _
    · rename_i hn
      obtain ⟨h1, h2⟩ := h
      refine ⟨?_, h2⟩
      have : Wv.contains s = false := by simpa using hn
      simp only [St.head, this]
      cases hm : S.μ s with
      | none => simp [hm] at h1
      | some m => simp
  | eref s i o m =>
    simp only [scrubV]
    split
    · exact RelD.undef _
    · rename_i hn
      obtain ⟨z, rows, f, b, o', cap, hA, h⟩ := h
      exact ⟨z, rows, f, b, o', cap, by rw [head_A (by simpa using hn)]; exact hA, h⟩
  | agg vs =>
    simp only [scrubV]
    split
    · rename_i he
      have he' : Wa = [] := by simpa using he
      subst he'
      obtain ⟨cs, rfl, hl, hc⟩ := h
      refine ⟨cs, rfl, hl, fun i hi => ?_⟩
      obtain ⟨u, p, q, r⟩ := hc i hi
      refine ⟨u, p, q, ?_⟩
      have := head_C (W := W) (L := L) (Wv := Wv) (Wa := []) r
      have e : scrubC [] (gv vs i) = gv vs i := by cases gv vs i <;> simp [scrubC]
      rwa [e] at this
    · exact RelD.undef _
  | tuple vs =>
    simp only [scrubV]
    split
    · rename_i he
      have he' : Wa = [] := by simpa using he
      subst he'
      obtain ⟨cs, rfl, hl, hc⟩ := h
      refine ⟨cs, rfl, hl, fun i hi => ?_⟩
      obtain ⟨u, p, r⟩ := hc i hi
      refine ⟨u, p, ?_⟩
      have := head_C (W := W) (L := L) (Wv := Wv) (Wa := []) r
      have e : scrubC [] (gv vs i) = gv vs i := by cases gv vs i <;> simp [scrubC]
      rwa [e] at this
    · exact RelD.undef _
  | _ => exact h

theorem head_W {S : St} {W L Wv Wa : List Nat} {α : Nat → Value} {β : Nat → Nat} {w : World} {M : Nat → Prop} (h : RelW cx B X S w β α M) : RelW cx B X (S.head W L Wv Wa) w β α M := by
  have hm : ∀ s cs f, (S.head W L Wv Wa).μ s = some (cs, f) → ∃ cs0, S.μ s = some (cs0, f) ∧ cs = (bif Wa.isEmpty then cs0 else cs0.map (scrubC Wa)) := by
    intro s cs f hs
    simp only [St.head] at hs
    split at hs
    · simp at hs
    · cases hm : S.μ s with
      | none => simp [hm] at hs
      | some m =>
        simp only [hm, Option.map_some, Option.some.injEq, Prod.mk.injEq] at hs
        obtain ⟨rfl, rfl⟩ := hs
        exact ⟨m.1, rfl, rfl⟩
  have hi : ∀ s, ((S.head W L Wv Wa).μ s).isSome → (S.μ s).isSome := fun s hs => by
    obtain ⟨x, hx⟩ := Option.isSome_iff_exists.1 hs
    obtain ⟨cs0, h0, -⟩ := hm s x.1 x.2 hx
    simp [h0]
  refine ⟨h.xb, h.size, h.m, fun s cs f hs => ?_, fun s s' hs hs' he => h.varInj s s' (hi s hs) (hi s' hs') he, fun s z rows f hs hf => h.arr s z rows f (head_A_some hs).2 hf,
    fun s s' z rows f z' rows' f' hs hf hs' hf' => h.arrInj s s' z rows f z' rows' f' (head_A_some hs).2 hf (head_A_some hs').2 hf', fun s z rows f s' hs hf hs' => h.arrVar s z rows f s' (head_A_some hs).2 hf (hi s' hs')⟩
  obtain ⟨cs0, h0, rfl⟩ := hm s cs f hs
  obtain ⟨a1, a2, a3, c, e, a4, a5, a6⟩ := h.var s cs0 f h0
  have hlen : (bif Wa.isEmpty then cs0 else cs0.map (scrubC Wa)).length = cs0.length := by cases Wa.isEmpty <;> simp
  have hgv : ∀ i, i < cs0.length → gv (bif Wa.isEmpty then cs0 else cs0.map (scrubC Wa)) i = scrubC Wa (gv cs0 i) := by
    intro i hi'
    cases hW : Wa.isEmpty with
    | true =>
      have : Wa = [] := by simpa using hW
      subst this
      simp only [cond_true]
      cases gv cs0 i <;> simp [scrubC]
    | false => simp [gv, hi']
  refine ⟨a1, a2, fun hf => ⟨(a3 hf).1, ?_⟩, c, e, a4, by rw [hlen]; exact a5, fun i hi' => ?_⟩
  · have hd := (a3 hf).2
    cases Wa.isEmpty with
    | true => exact hd
    | false =>
      simp only [cond_false, List.all_map, List.all_eq_true, Function.comp] at hd ⊢
      intro x hx
      have := hd x hx
      cases x <;> simp_all [scrubC, V.datC]
  · rw [hlen] at hi'
    obtain ⟨u, p, q, r⟩ := a6 i hi'
    exact ⟨u, p, q, by rw [hgv i hi']; exact head_C r⟩

theorem FR.head {W L Wv Wa : List Nat} {ds : List (Option Nat)} {e : Nat → V} {S : St} {tm : Array Value} {w : World} (h : FR cx B X G ds e S tm w) : FR cx B X G [] (fun _ => .undef) (S.head W L Wv Wa) tm w := by
  obtain ⟨hG, β, α, M, hW, hg, hl⟩ := h
  refine ⟨fun t ht => ?_, β, α, M, head_W hW, fun t => ?_, fun i d hd => by simp at hd⟩
  · simp only [St.head, hG t ht, scrubV]; split <;> rfl
  · simp only [St.head]
    split
    · exact RelD.undef _
    · exact head_T (hg t)

/-- where a run of code ends, what the frame is then -/
def CPost (cx : Cx) (B : Nat) (X : Nat → Prop) (G : List Nat) (N : Nat) (w : World) (S' : St) (ex : Ex) : Exit → Act → World → Prop := fun e a' w' =>
  (match ex with | .norm => e = .normal | .ret => e = .ret | .exit id => e = .exit id) ∧ FR cx B X G [] (fun _ => .undef) S' a'.tmps w' ∧ a'.defers = [] ∧ a'.tmps.size = N ∧ Below B w w'

/-- inside a loop, at its head -/
def Head (P : Program) (c : Code) (Q : Exit → Act → World → Prop) (a : Act) (w : World) : Prop :=
  ∀ (b : Frame) (k : List Item) (cs : List Frame), ∃ e a' w', Q e a' w' ∧ Arrives P (lone (b.at a (.code c :: .inLoop c :: k)) cs w) b k cs e a' w'

theorem Head.loop {c : Code} {Q : Exit → Act → World → Prop} {a : Act} {w : World} (h : Head P c Q a w) : (Code.loop c).wp P Q a w := fun b k cs => by
  obtain ⟨e, a', w', hq, harr⟩ := h b k cs
  exact ⟨e, a', w', hq, .of_steps (.one step_loop) harr⟩

theorem Head.round {c : Code} {Q : Exit → Act → World → Prop} {a : Act} {w : World} (h : c.wp P (Exit.then (Head P c Q) Q) a w) : Head P c Q a w := fun b k cs => by
  obtain ⟨e, a₁, w₁, hq, harr⟩ := h b (.inLoop c :: k) cs
  cases e with
  | normal =>
    obtain ⟨e₂, a₂, w₂, hq₂, harr₂⟩ := hq b k cs
    exact ⟨e₂, a₂, w₂, hq₂, .of_steps (Steps.trans harr (.one step_inLoop)) harr₂⟩
  | exit id => exact ⟨_, a₁, w₁, hq, .pass (x := .inLoop c) rfl (fun _ _ => .inl (by simp)) harr⟩
  | goto l => exact ⟨_, a₁, w₁, hq, .pass (x := .inLoop c) rfl (fun _ _ => .inl (by simp)) harr⟩
  | ret => exact ⟨_, a₁, w₁, hq, .pass (x := .inLoop c) rfl (fun _ _ => .inl (by simp)) harr⟩
  | panic ch => exact ⟨_, a₁, w₁, hq, .pass (x := .inLoop c) rfl (fun _ _ => .inl (by simp)) harr⟩
  | outgrown => exact ⟨_, a₁, w₁, hq, .pass (x := .inLoop c) rfl (fun _ _ => .inl (by simp)) harr⟩

theorem code_sim (hm : P.follows .mixedOrders = true) (hκ : KOK P cx ownOf κ) : ∀ (m : Nat),
    (∀ (c : Code) (c' : C) (S S' : St) (ex : Ex) (a : Act) (w : World), okC P cx ownOf G N c c' = true → exec κ m c' S = some (ex, S') → FR cx B X G [] (fun _ => .undef) S a.tmps w → a.defers = [] → a.tmps.size = N →
      c.wp P (CPost cx B X G N w S' ex) a w) ∧
    (∀ (c : Code) (W L Wv Wa : List Nat) (c' : C) (S S' : St) (ex : Ex) (a : Act) (w : World), okC P cx ownOf G N c c' = true → exec κ m (.loop W L Wv Wa c') S = some (ex, S') → FR cx B X G [] (fun _ => .undef) S a.tmps w → a.defers = [] → a.tmps.size = N →
      Head P c (CPost cx B X G N w S' ex) a w) := by
  intro m
  induction m with
  | zero => exact ⟨fun c c' S S' ex a w _ h => by simp [exec] at h, fun c W L Wv Wa c' S S' ex a w _ h => by simp [exec] at h⟩
  | succ m ih =>
    obtain ⟨ih1, ih2⟩ := ih
    have loop : ∀ (c : Code) (W L Wv Wa : List Nat) (c' : C) (S S' : St) (ex : Ex) (a : Act) (w : World), okC P cx ownOf G N c c' = true → exec κ (m + 1) (.loop W L Wv Wa c') S = some (ex, S') → FR cx B X G [] (fun _ => .undef) S a.tmps w → a.defers = [] → a.tmps.size = N →
        Head P c (CPost cx B X G N w S' ex) a w := by
      intro c W L Wv Wa c' S S' ex a w hok hex hF hd hs
      simp only [exec, Option.bind_eq_some_iff] at hex
      obtain ⟨⟨x, S2⟩, h1, h2⟩ := hex
      refine Head.round (wp_mono (ih1 c c' _ S2 x a w hok h1 hF.head hd hs) fun e a' w' hp => ?_)
      obtain ⟨p1, p2, p3, p4, p5⟩ := hp
      cases x with
      | norm =>
        simp only at p1 h2
        subst p1
        intro b k cs
        obtain ⟨e2, a2, w2, q, r⟩ := ih2 c W L Wv Wa c' S2 S' ex a' w' hok h2 p2 p3 p4 b k cs
        obtain ⟨q1, q2, q3, q4, q5⟩ := q
        exact ⟨e2, a2, w2, ⟨q1, q2, q3, q4, p5.trans q5⟩, r⟩
      | ret =>
        simp only [Option.some.injEq, Prod.mk.injEq] at p1 h2
        obtain ⟨rfl, rfl⟩ := h2
        subst p1
        exact ⟨rfl, p2, p3, p4, p5⟩
      | exit id =>
        simp only [Option.some.injEq, Prod.mk.injEq] at p1 h2
        obtain ⟨rfl, rfl⟩ := h2
        subst p1
        exact ⟨rfl, p2, p3, p4, p5⟩
    refine ⟨fun c c' S S' ex a w hok hex hF hd hs => ?_, loop⟩
    cases c' with
    | skip =>
      cases c <;> try (simp [okC] at hok; done)
      simp only [exec, Option.some.injEq, Prod.mk.injEq] at hex
      obtain ⟨rfl, rfl⟩ := hex
      exact wp_skip ⟨rfl, hF, hd, hs, Below.refl _ _⟩
    | ret =>
      cases c <;> try (simp [okC] at hok; done)
      simp only [exec, Option.some.injEq, Prod.mk.injEq] at hex
      obtain ⟨rfl, rfl⟩ := hex
      exact wp_ret ⟨rfl, hF, hd, hs, Below.refl _ _⟩
    | exit id =>
      cases c <;> try (simp [okC] at hok; done)
      simp only [okC, beq_iff_eq] at hok
      subst hok
      simp only [exec, Option.some.injEq, Prod.mk.injEq] at hex
      obtain ⟨rfl, rfl⟩ := hex
      exact wp_exit ⟨rfl, hF, hd, hs, Below.refl _ _⟩
    | region dr ps =>
      cases c <;> try (simp [okC] at hok; done)
      simp only [okC] at hok
      simp only [exec, Option.bind_eq_some_iff, Option.some.injEq, Prod.mk.injEq] at hex
      obtain ⟨S2, hr, rfl, rfl⟩ := hex
      exact region_sim hm hκ hok hF hd hs hr fun a' w' q1 q2 q3 q4 => ⟨rfl, q1, q2, q3, q4⟩
    | seq x y =>
      cases c <;> try (simp [okC] at hok; done)
      rename_i cx' cy'
      simp only [okC, Bool.and_eq_true] at hok
      simp only [exec, Option.bind_eq_some_iff] at hex
      obtain ⟨⟨e1, S2⟩, h1, h2⟩ := hex
      refine wp_seq (wp_mono (ih1 _ x S S2 e1 a w hok.1 h1 hF hd hs) fun e a' w' hp => ?_)
      obtain ⟨p1, p2, p3, p4, p5⟩ := hp
      cases e1 with
      | norm =>
        simp only at p1 h2
        subst p1
        exact wp_mono (ih1 _ y S2 S' ex a' w' hok.2 h2 p2 p3 p4) fun e a'' w'' ⟨q1, q2, q3, q4, q5⟩ => ⟨q1, q2, q3, q4, p5.trans q5⟩
      | ret =>
        simp only [Option.some.injEq, Prod.mk.injEq] at p1 h2
        obtain ⟨rfl, rfl⟩ := h2
        subst p1
        exact ⟨rfl, p2, p3, p4, p5⟩
      | exit id =>
        simp only [Option.some.injEq, Prod.mk.injEq] at p1 h2
        obtain ⟨rfl, rfl⟩ := h2
        subst p1
        exact ⟨rfl, p2, p3, p4, p5⟩
    | cond x y z =>
      cases c <;> try (simp [okC] at hok; done)
      simp only [okC, Bool.and_eq_true] at hok
      simp only [exec] at hex
      split at hex <;> try (simp at hex; done)
      rename_i t ht
      obtain ⟨hG, β, α, M, hW, hg, hl⟩ := hF
      have hr := arg_rel (a := a) (ds := []) (e := fun _ => .undef) hg (fun i d hd => by simp at hd) hok.1.1
      rw [ht] at hr
      refine wp_cond (rel_bool hr) ?_
      cases t
      · exact ih1 _ z S S' ex a w hok.2 (by simpa using hex) ⟨hG, β, α, M, hW, hg, hl⟩ hd hs
      · exact ih1 _ y S S' ex a w hok.1.2 (by simpa using hex) ⟨hG, β, α, M, hW, hg, hl⟩ hd hs
    | block id x =>
      cases c <;> try (simp [okC] at hok; done)
      simp only [okC, Bool.and_eq_true, beq_iff_eq] at hok
      obtain ⟨rfl, hok⟩ := hok
      simp only [exec, Option.bind_eq_some_iff] at hex
      obtain ⟨⟨e1, S2⟩, h1, h2⟩ := hex
      refine wp_block (wp_mono (ih1 _ x S S2 e1 a w hok h1 hF hd hs) fun e a' w' hp => ?_)
      obtain ⟨p1, p2, p3, p4, p5⟩ := hp
      cases e1 with
      | norm =>
        simp only [Option.some.injEq, Prod.mk.injEq] at p1 h2
        obtain ⟨rfl, rfl⟩ := h2
        subst p1
        exact ⟨rfl, p2, p3, p4, p5⟩
      | ret =>
        simp only [Option.some.injEq, Prod.mk.injEq] at p1 h2
        obtain ⟨rfl, rfl⟩ := h2
        subst p1
        exact ⟨rfl, p2, p3, p4, p5⟩
      | exit id' =>
        simp only at p1 h2
        subst p1
        simp only [Exit.inBlock]
        split at h2
        · rename_i he
          simp only [Option.some.injEq, Prod.mk.injEq] at h2
          obtain ⟨rfl, rfl⟩ := h2
          rw [if_pos he]
          exact ⟨rfl, p2, p3, p4, p5⟩
        · rename_i he
          simp only [Option.some.injEq, Prod.mk.injEq] at h2
          obtain ⟨rfl, rfl⟩ := h2
          rw [if_neg he]
          exact ⟨rfl, p2, p3, p4, p5⟩
    | loop W L Wv Wa x =>
      cases c <;> try (simp [okC] at hok; done)
      simp only [okC] at hok
      exact (loop _ W L Wv Wa x S S' ex a w hok hex hF hd hs).loop

end
end Sg
