/- Two operations that touch nothing in common may change places. Plain: no program in sight. -/
import Derived.Test.YtclmbbbpijboaaaSgCore
namespace Sg
set_option linter.unusedSimpArgs false
set_option linter.unusedVariables false

def Arg.lr : Arg → List Nat
  | .l i => [i]
  | _ => []
def Arg.gr : Arg → List Nat
  | .g t => [t]
  | _ => []

def Cal.args : Cal → List Arg
  | .v x => [x]
  | .k _ => []

def K.args : K → List Arg
  | .mov x | .frz _ x | .box x | .nilq x | .un _ x | .conv _ x | .fad x _ | .ext x _ | .len _ x | .nilc x => [x]
  | .pick c a b => [c, a, b]
  | .alloc _ | .mko _ | .bad => []
  | .build _ ps => ps.map (·.2.2)
  | .mks _ _ _ ps | .mkb _ _ _ ps => ps.map (·.2)
  | .load _ _ p => [p]
  | .store _ _ p x => [p, x]
  | .bin _ x y | .eqa _ _ x y | .eqb _ x y | .sh _ x y | .mm _ x y | .iad _ x y | .iada _ _ x y | .idx x y | .app _ _ x y => [x, y]
  | .fn _ cap _ => cap
  | .sl _ _ x lo hi => x :: (lo.toList ++ hi.toList)
  | .ins _ _ _ x i y | .del _ _ _ x i y => [x, i, y]
  | .call f _ _ xs => f.args ++ xs

/-- the variables that an operation touches -/
def K.vs (d : Nat) : K → List Nat
  | .box _ | .alloc _ => [d]
  | .load (.v s) _ _ | .store (.v s) _ _ _ => [s]
  | .fn _ _ sites => sites
  | _ => []

/-- the variables that it turns -/
def K.vw (d : Nat) : K → List Nat
  | .load .. => []
  | k => k.vs d

/-- the arrays that it touches; none: any -/
def K.as (d : Nat) : K → Option (List Nat)
  | .mko _ | .mkb .. => some [d]
  | .load (.e s) _ _ | .store (.e s) _ _ _ | .app s _ _ _ | .ins _ s _ _ _ _ | .frz s _ => some [s]
  | .del _ s _ _ _ _ => some [s, d]
  | .call _ .no none _ => some []
  | .call _ .no (some _) _ => some [d]
  | .call .. => none
  | _ => some []

def K.aw (d : Nat) : K → Option (List Nat)
  | .load .. | .call _ .borrow _ _ => some []
  | k => k.as d

def inO (s : Nat) : Option (List Nat) → Prop
  | none => True
  | some l => s ∈ l

section
variable (κ : Nat → List V → Option V)

/-- what an operation does hangs on what it touches, and turns nothing else -/
def Same (d : Nat) (k : K) (S S' : St) : Option (V × St) → Option (V × St) → Prop
  | none, none => True
  | some (v, T), some (v', T') => v = v' ∧ T.ρ = S.ρ ∧ T'.ρ = S'.ρ ∧ (∀ s, s ∈ k.vw d → T.μ s = T'.μ s) ∧ (∀ s, s ∉ k.vw d → T.μ s = S.μ s ∧ T'.μ s = S'.μ s) ∧
      (∀ s, inO s (k.aw d) → T.A s = T'.A s) ∧ (∀ s, ¬ inO s (k.aw d) → T.A s = S.A s ∧ T'.A s = S'.A s)
  | _, _ => False

theorem Same.pure {d : Nat} {k : K} {S S' : St} {v : V} (h1 : ∀ s, s ∈ k.vw d → S.μ s = S'.μ s) (h2 : ∀ s, inO s (k.aw d) → S.A s = S'.A s) : Same d k S S' (some (v, S)) (some (v, S')) :=
  ⟨rfl, rfl, rfl, h1, fun _ _ => ⟨rfl, rfl⟩, h2, fun _ _ => ⟨rfl, rfl⟩⟩

theorem Same.bindV {d : Nat} {k : K} {S S' : St} {o : Option V} (h1 : ∀ s, s ∈ k.vw d → S.μ s = S'.μ s) (h2 : ∀ s, inO s (k.aw d) → S.A s = S'.A s) :
    Same d k S S' (o.bind fun v => some (v, S)) (o.bind fun v => some (v, S')) := by
  cases o with
  | none => exact trivial
  | some v => exact .pure h1 h2

theorem mapO_congr {α β : Type} {f g : α → Option β} {l : List α} (h : ∀ x ∈ l, f x = g x) : mapO f l = mapO g l := by
  induction l with
  | nil => rfl
  | cons a l ih =>
    simp only [mapO, h a (by simp)]
    rw [ih fun x hx => h x (by simp [hx])]

theorem frzM_at (l : List Nat) : ∀ (μ μ' : Nat → Option (List V × Bool)) (s : Nat), μ s = μ' s → frzM μ l s = frzM μ' l s := by
  induction l with
  | nil => intro μ μ' s h; exact h
  | cons a l ih =>
    intro μ μ' s h
    show frzM (upd μ a _) l s = frzM (upd μ' a _) l s
    refine ih _ _ s ?_
    simp only [upd]
    split
    · rename_i e; subst e; rw [h]
    · exact h

theorem frzM_out (l : List Nat) : ∀ (μ : Nat → Option (List V × Bool)) (s : Nat), s ∉ l → frzM μ l s = μ s := by
  induction l with
  | nil => intro μ s _; rfl
  | cons a l ih =>
    intro μ s h
    show frzM (upd μ a _) l s = μ s
    rw [ih _ s (fun hs => h (by simp [hs]))]
    simp only [upd]
    rw [if_neg (fun e => h (by simp [e]))]

theorem ev_same (d : Nat) (k : K) (e e' : Nat → V) (S S' : St) (ha : ∀ x ∈ k.args, argv e S.ρ x = argv e' S'.ρ x) (hv : ∀ s, s ∈ k.vs d → S.μ s = S'.μ s) (hA : ∀ s, inO s (k.as d) → S.A s = S'.A s) :
    Same d k S S' (ev κ d e S k) (ev κ d e' S' k) := by
  cases k with
  | mov x => simp only [ev, ha x (by simp [K.args])]; exact .pure (by simp [K.vw, K.vs]) (by simp [K.aw, K.as, inO])
  | pick c a b =>
    simp only [ev, ha c (by simp [K.args]), ha a (by simp [K.args]), ha b (by simp [K.args])]
    split
    · exact .pure (by simp [K.vw, K.vs]) (by simp [K.aw, K.as, inO])
    · exact trivial
  | box x =>
    simp only [ev, ha x (by simp [K.args]), hv d (by simp [K.vs])]
    split
    · exact trivial
    · cases (argv e' S'.ρ x).cells with
      | none => exact trivial
      | some cs =>
        refine ⟨rfl, rfl, rfl, fun s hs => ?_, fun s hs => ?_, fun s hs => by simp [K.aw, K.as, inO] at hs, fun s hs => ⟨rfl, rfl⟩⟩
        · simp [K.vw, K.vs] at hs; simp [upd, hs]
        · simp [K.vw, K.vs] at hs; simp [upd, hs]
  | alloc z =>
    simp only [ev, hv d (by simp [K.vs])]
    split
    · exact trivial
    · refine ⟨rfl, rfl, rfl, fun s hs => ?_, fun s hs => ?_, fun s hs => by simp [K.aw, K.as, inO] at hs, fun s hs => ⟨rfl, rfl⟩⟩
      · simp [K.vw, K.vs] at hs; simp [upd, hs]
      · simp [K.vw, K.vs] at hs; simp [upd, hs]
  | build z ps =>
    have : ps.map (fun p => (p.1, p.2.1, argv e S.ρ p.2.2)) = ps.map (fun p => (p.1, p.2.1, argv e' S'.ρ p.2.2)) := List.map_congr_left fun p hp => by rw [ha p.2.2 (by simp only [K.args, List.mem_map]; exact ⟨p, hp, rfl⟩)]
    simp only [ev, this]
    cases fillAt z (ps.map fun p => (p.1, p.2.1, argv e' S'.ρ p.2.2)) with
    | none => exact trivial
    | some cs => exact .pure (by simp [K.vw, K.vs]) (by simp [K.aw, K.as, inO])
  | mks z n zero ps =>
    have : ps.map (fun p => (p.1, argv e S.ρ p.2)) = ps.map (fun p => (p.1, argv e' S'.ρ p.2)) := List.map_congr_left fun p hp => by rw [ha p.2 (by simp only [K.args, List.mem_map]; exact ⟨p, hp, rfl⟩)]
    simp only [ev, this]
    cases fillRows z (List.replicate n zero) (ps.map fun p => (p.1, argv e' S'.ρ p.2)) with
    | none => exact trivial
    | some cs => exact .pure (by simp [K.vw, K.vs]) (by simp [K.aw, K.as, inO])
  | mko z =>
    simp only [ev, hA d (by simp [K.as, inO])]
    split
    · exact trivial
    · refine ⟨rfl, rfl, rfl, fun s hs => by simp [K.vw, K.vs] at hs, fun s hs => ⟨rfl, rfl⟩, fun s hs => ?_, fun s hs => ?_⟩
      · simp [K.aw, K.as, inO] at hs; simp [upd, hs]
      · simp [K.aw, K.as, inO] at hs; simp [upd, hs]
  | load l n p =>
    have : loadV S l n (argv e S.ρ p) = loadV S' l n (argv e' S'.ρ p) := by
      rw [ha p (by simp [K.args])]
      generalize argv e' S'.ρ p = p'
      unfold loadV
      cases l with
      | v s =>
        have h1 := hv s (by simp [K.vs])
        cases p' <;> simp only [h1]
      | e s =>
        have h1 := hA s (by simp [K.as, inO])
        cases p' <;> simp only [h1]
      | c => cases p' <;> rfl
    simp only [ev, this]
    exact .bindV (by simp [K.vw]) (by simp [K.aw, inO])
  | store l n p x =>
    simp only [ev, ha p (by simp [K.args]), ha x (by simp [K.args])]
    generalize argv e' S'.ρ p = p'
    generalize argv e' S'.ρ x = x'
    unfold storeV
    cases x'.cells with
    | none => exact trivial
    | some xs =>
      simp only [Option.bind_some]
      split
      · cases l with
        | v s =>
          cases p' <;> try exact trivial
          rename_i s' off
          simp only
          split
          · rw [hv s (by simp [K.vs])]
            split
            · rename_i cs _
              cases setAt cs off xs with
              | none => exact trivial
              | some cs' =>
                refine ⟨rfl, rfl, rfl, fun s hs => ?_, fun s hs => ?_, fun s hs => by simp [K.aw, K.as, inO] at hs, fun s hs => ⟨rfl, rfl⟩⟩
                · simp [K.vw, K.vs] at hs; simp [upd, hs]
                · simp [K.vw, K.vs] at hs; simp [upd, hs]
            · exact trivial
          · exact trivial
        | e s =>
          cases p' <;> try exact trivial
          rename_i s' i off m
          simp only
          split
          · rw [hA s (by simp [K.as, inO])]
            split
            · rename_i z rows _
              split
              · cases rows[i]? with
                | none => exact trivial
                | some r =>
                  simp only [Option.bind_some]
                  cases setAt r off xs with
                  | none => exact trivial
                  | some r' =>
                    refine ⟨rfl, rfl, rfl, fun s hs => by simp [K.vw, K.vs] at hs, fun s hs => ⟨rfl, rfl⟩, fun s hs => ?_, fun s hs => ?_⟩
                    · simp [K.aw, K.as, inO] at hs; simp [upd, hs]
                    · simp [K.aw, K.as, inO] at hs; simp [upd, hs]
              · exact trivial
            · exact trivial
          · exact trivial
        | c => cases p' <;> exact trivial
      · exact trivial
  | bin o x y => simp only [ev, ha x (by simp [K.args]), ha y (by simp [K.args])]; exact .bindV (by simp [K.vw, K.vs]) (by simp [K.aw, K.as, inO])
  | eqa ne sh x y =>
    simp only [ev, ha x (by simp [K.args]), ha y (by simp [K.args])]
    split
    · rename_i xs ys _ _
      cases eqVs sh xs ys with
      | none => exact trivial
      | some b => exact .pure (by simp [K.vw, K.vs]) (by simp [K.aw, K.as, inO])
    · exact trivial
  | eqb ne x y =>
    simp only [ev, ha x (by simp [K.args]), ha y (by simp [K.args])]
    split
    · exact .pure (by simp [K.vw, K.vs]) (by simp [K.aw, K.as, inO])
    · exact trivial
  | sh o x y => simp only [ev, ha x (by simp [K.args]), ha y (by simp [K.args])]; exact .bindV (by simp [K.vw, K.vs]) (by simp [K.aw, K.as, inO])
  | mm mx x y =>
    simp only [ev, ha x (by simp [K.args]), ha y (by simp [K.args])]
    split
    · split
      · exact .pure (by simp [K.vw, K.vs]) (by simp [K.aw, K.as, inO])
      · exact trivial
    · exact trivial
  | un o x => simp only [ev, ha x (by simp [K.args])]; exact .bindV (by simp [K.vw, K.vs]) (by simp [K.aw, K.as, inO])
  | conv c x => simp only [ev, ha x (by simp [K.args])]; exact .bindV (by simp [K.vw, K.vs]) (by simp [K.aw, K.as, inO])
  | fn f cap sites =>
    have hc : cap.map (argv e S.ρ) = cap.map (argv e' S'.ρ) := List.map_congr_left fun x hx => ha x (by simp [K.args, hx])
    have hd : sites.all (datSite S.μ) = sites.all (datSite S'.μ) := by
      rw [Bool.eq_iff_iff, List.all_eq_true, List.all_eq_true]
      constructor <;> intro h s hs
      · have := h s hs; simp only [datSite] at this ⊢; rwa [← hv s (by simpa [K.vs] using hs)]
      · have := h s hs; simp only [datSite] at this ⊢; rwa [hv s (by simpa [K.vs] using hs)]
    have hcap : ∀ x : V, capV S.μ sites x = capV S'.μ sites x := fun x => by
      unfold capV
      split
      · rename_i s
        by_cases hs : s ∈ sites
        · rw [hv s (by simpa [K.vs] using hs)]
        · have : sites.contains s = false := by simpa using hs
          rw [this]
          cases S.μ s <;> cases S'.μ s <;> simp
      · rfl
    simp only [ev, hc, hd, mapO_congr (fun x _ => hcap x)]
    split
    · cases mapO (capV S'.μ sites) (cap.map (argv e' S'.ρ)) with
      | none => exact trivial
      | some cs =>
        refine ⟨rfl, rfl, rfl, fun s hs => ?_, fun s hs => ?_, fun s hs => by simp [K.aw, K.as, inO] at hs, fun s hs => ⟨rfl, rfl⟩⟩
        · exact frzM_at sites _ _ s (hv s hs)
        · exact ⟨frzM_out sites _ s hs, frzM_out sites _ s hs⟩
    · exact trivial
  | sl st z x lo hi =>
    have hlo : lo.map (argv e S.ρ) = lo.map (argv e' S'.ρ) := by cases lo with | none => rfl | some a => simp [ha a (by simp [K.args])]
    have hhi : hi.map (argv e S.ρ) = hi.map (argv e' S'.ρ) := by cases hi with | none => rfl | some a => simp [ha a (by simp [K.args])]
    simp only [ev, ha x (by simp [K.args]), hlo, hhi]; exact .bindV (by simp [K.vw, K.vs]) (by simp [K.aw, K.as, inO])
  | fad x off => simp only [ev, ha x (by simp [K.args])]; exact .bindV (by simp [K.vw, K.vs]) (by simp [K.aw, K.as, inO])
  | iad z x i => simp only [ev, ha x (by simp [K.args]), ha i (by simp [K.args])]; exact .bindV (by simp [K.vw, K.vs]) (by simp [K.aw, K.as, inO])
  | iada z n x i => simp only [ev, ha x (by simp [K.args]), ha i (by simp [K.args])]; exact .bindV (by simp [K.vw, K.vs]) (by simp [K.aw, K.as, inO])
  | idx x i => simp only [ev, ha x (by simp [K.args]), ha i (by simp [K.args])]; exact .bindV (by simp [K.vw, K.vs]) (by simp [K.aw, K.as, inO])
  | ext x i => simp only [ev, ha x (by simp [K.args])]; exact .bindV (by simp [K.vw, K.vs]) (by simp [K.aw, K.as, inO])
  | len st x => simp only [ev, ha x (by simp [K.args])]; exact .bindV (by simp [K.vw, K.vs]) (by simp [K.aw, K.as, inO])
  | app s z x y =>
    simp only [ev, ha x (by simp [K.args]), ha y (by simp [K.args])]
    generalize argv e' S'.ρ x = x'
    generalize argv e' S'.ρ y = y'
    unfold appV
    cases x' <;> try exact trivial
    rename_i s' z' n
    simp only
    split
    · rw [hA s (by simp [K.as, inO])]
      split
      · rename_i z'' rows _
        split
        · cases V.rowsOf z y' with
          | none => exact trivial
          | some ys =>
            simp only [Option.bind_some]
            split
            · refine ⟨rfl, rfl, rfl, fun s hs => by simp [K.vw, K.vs] at hs, fun s hs => ⟨rfl, rfl⟩, fun s hs => ?_, fun s hs => ?_⟩
              · simp [K.aw, K.as, inO] at hs; simp [upd, hs]
              · simp [K.aw, K.as, inO] at hs; simp [upd, hs]
            · exact trivial
        · exact trivial
      · exact trivial
    · exact trivial
  | ins f s z x i y =>
    simp only [ev, ha x (by simp [K.args]), ha i (by simp [K.args]), ha y (by simp [K.args])]
    split
    · split
      · rw [hA s (by simp [K.as, inO])]
        split
        · split
          · refine ⟨rfl, rfl, rfl, fun s hs => by simp [K.vw, K.vs] at hs, fun s hs => ⟨rfl, rfl⟩, fun s hs => ?_, fun s hs => ?_⟩
            · simp [K.aw, K.as, inO] at hs; simp [upd, hs]
            · simp [K.aw, K.as, inO] at hs; simp [upd, hs]
          · exact trivial
        · exact trivial
      · exact trivial
    · exact trivial
  | del f s z x i j =>
    simp only [ev, ha x (by simp [K.args]), ha i (by simp [K.args]), ha j (by simp [K.args])]
    split
    · split
      · rw [hA s (by simp [K.as, inO]), hA d (by simp [K.as, inO])]
        split
        · split
          · refine ⟨rfl, rfl, rfl, fun s hs => by simp [K.vw, K.vs] at hs, fun s hs => ⟨rfl, rfl⟩, fun t ht => ?_, fun t ht => ?_⟩
            · simp [K.aw, K.as, inO] at ht
              by_cases e1 : t = d
              · simp [upd, e1]
              · have : t = s := by rcases ht with h | h <;> simp_all
                subst this; simp [upd, e1]
            · simp [K.aw, K.as, inO] at ht
              simp [upd, ht.1, ht.2]
          · exact trivial
        · exact trivial
      · exact trivial
    · exact trivial
  | call f cv own xs =>
    have hc : callee e S.ρ f = callee e' S'.ρ f := by
      cases f with
      | k f => rfl
      | v x => simp only [callee, ha x (by simp [K.args, Cal.args])]
    have hx : xs.map (argv e S.ρ) = xs.map (argv e' S'.ρ) := List.map_congr_left fun x hx => ha x (by simp [K.args, hx])
    simp only [ev, hc, hx]
    cases callee e' S'.ρ f with
    | none => exact trivial
    | some fc =>
      simp only [Option.bind_some]
      generalize xs.map (argv e' S'.ρ) = as
      unfold callV
      cases cv with
      | no =>
        simp only
        split
        · cases κ fc.1 (as ++ fc.2) with
          | none => exact trivial
          | some r =>
            simp only [Option.bind_some]
            cases own with
            | none => exact .pure (by simp [K.vw, K.vs]) (by simp [K.aw, K.as, inO])
            | some j =>
              simp only [adopt, hA d (by simp [K.as, inO])]
              split
              · exact trivial
              · split
                · refine ⟨rfl, rfl, rfl, fun s hs => by simp [K.vw, K.vs] at hs, fun s hs => ⟨rfl, rfl⟩, fun s hs => ?_, fun s hs => ?_⟩
                  · simp [K.aw, K.as, inO] at hs; simp [upd, hs]
                  · simp [K.aw, K.as, inO] at hs; simp [upd, hs]
                · split
                  · refine ⟨rfl, rfl, rfl, fun s hs => by simp [K.vw, K.vs] at hs, fun s hs => ⟨rfl, rfl⟩, fun s hs => ?_, fun s hs => ?_⟩
                    · simp [K.aw, K.as, inO] at hs; simp [upd, hs]
                    · simp [K.aw, K.as, inO] at hs; simp [upd, hs]
                  · exact trivial
                · exact trivial
        · exact trivial
      | borrow =>
        have : S.A = S'.A := funext fun s => hA s (by simp [K.as, inO])
        simp only [this]
        cases mapO (toD S'.A) as with
        | none => exact trivial
        | some bs =>
          simp only [Option.bind_some]
          cases κ fc.1 (bs ++ fc.2) with
          | none => exact trivial
          | some r =>
            simp only [Option.bind_some]
            split
            · exact .pure (by simp [K.vw, K.vs]) (by simp [K.aw, inO])
            · exact trivial
      | freeze =>
        have hAA : S.A = S'.A := funext fun s => hA s (by simp [K.as, inO])
        simp only [hAA]
        cases mapO (toD S'.A) as with
        | none => exact trivial
        | some bs =>
          simp only [Option.bind_some]
          cases κ fc.1 (bs ++ fc.2) with
          | none => exact trivial
          | some r =>
            simp only [Option.bind_some]
            unfold adopt
            cases own with
            | none => exact ⟨rfl, rfl, rfl, fun s hs => by simp [K.vw, K.vs] at hs, fun s hs => ⟨rfl, rfl⟩, fun s hs => rfl, fun s hs => by simp [K.aw, K.as, inO] at hs⟩
            | some j =>
              simp only
              split
              · exact trivial
              · split
                · exact ⟨rfl, rfl, rfl, fun s hs => by simp [K.vw, K.vs] at hs, fun s hs => ⟨rfl, rfl⟩, fun s hs => rfl, fun s hs => by simp [K.aw, K.as, inO] at hs⟩
                · split
                  · exact ⟨rfl, rfl, rfl, fun s hs => by simp [K.vw, K.vs] at hs, fun s hs => ⟨rfl, rfl⟩, fun s hs => rfl, fun s hs => by simp [K.aw, K.as, inO] at hs⟩
                  · exact trivial
                · exact trivial
  | nilc x =>
    simp only [ev, ha x (by simp [K.args])]
    split <;> first | exact trivial | exact .pure (by simp [K.vw, K.vs]) (by simp [K.aw, K.as, inO])
  | nilq x =>
    simp only [ev, ha x (by simp [K.args])]
    split <;> first | exact trivial | exact .pure (by simp [K.vw, K.vs]) (by simp [K.aw, K.as, inO])
  | frz s x =>
    simp only [ev, ha x (by simp [K.args])]
    have hA0 : S.A s = S'.A s := hA s (by simp [K.as, inO])
    split
    · rename_i s' z n hx
      split
      · have e1 : toDC S.A (.own s z n) = toDC S'.A (.own s z n) := by simp only [toDC, hA0]
        rw [e1]
        cases toDC S'.A (.own s z n) with
        | none => exact trivial
        | some v => exact ⟨rfl, rfl, rfl, fun s hs => by simp [K.vw, K.vs] at hs, fun s hs => ⟨rfl, rfl⟩, fun t ht => by
            simp [K.aw, K.as, inO] at ht; subst ht; simp [frzA, upd, hA0], fun t ht => by
            simp [K.aw, K.as, inO] at ht; exact ⟨by simp [frzA, upd, ht], by simp [frzA, upd, ht]⟩⟩
      · exact trivial
    · exact trivial
  | mkb z n zero ps =>
    have : ps.map (fun p => (p.1, argv e S.ρ p.2)) = ps.map (fun p => (p.1, argv e' S'.ρ p.2)) := List.map_congr_left fun p hp => by rw [ha p.2 (by simp only [K.args, List.mem_map]; exact ⟨p, hp, rfl⟩)]
    have hA0 : S.A d = S'.A d := hA d (by simp [K.as, inO])
    simp only [ev, this, adopt, ← hA0]
    cases fillRows z (List.replicate n zero) (ps.map fun p => (p.1, argv e' S'.ρ p.2)) with
    | none => exact trivial
    | some rows =>
      simp only [Option.bind_some]
      cases S.A d with
      | some x => exact trivial
      | none => exact ⟨rfl, rfl, rfl, fun s hs => by simp [K.vw, K.vs] at hs, fun s hs => ⟨rfl, rfl⟩, fun s hs => by
          simp [K.aw, K.as, inO] at hs; subst hs; simp [upd], fun s hs => by
          simp [K.aw, K.as, inO] at hs; exact ⟨by simp [upd, hs], by simp [upd, hs]⟩⟩
  | bad => exact trivial


/-- the tmp that outlives the region -/
def Op.gw (o : Op) : List Nat := if o.gl then o.dst.toList else []

def Op.d (o : Op) : Nat := o.dst.getD 0

def Op.lr (o : Op) : List Nat := (o.gd.toList.map (·.1)) ++ o.k.args.flatMap Arg.lr
def Op.gr (o : Op) : List Nat := o.k.args.flatMap Arg.gr

/-- states and results that agree where an operation looks -/
structure Agree (o : Op) (e e' : Nat → V) (S S' : St) : Prop where
  l : ∀ i, i ∈ o.lr → e i = e' i
  g : ∀ t, t ∈ o.gr → S.ρ t = S'.ρ t
  v : ∀ s, s ∈ o.k.vs o.d → S.μ s = S'.μ s
  a : ∀ s, inO s (o.k.as o.d) → S.A s = S'.A s

def SameS (o : Op) (S S' : St) : Option (V × St) → Option (V × St) → Prop
  | none, none => True
  | some (v, T), some (v', T') => v = v' ∧ (∀ t, t ∈ o.gw → T.ρ t = T'.ρ t) ∧ (∀ t, t ∉ o.gw → T.ρ t = S.ρ t ∧ T'.ρ t = S'.ρ t) ∧
      (∀ s, s ∈ o.k.vw o.d → T.μ s = T'.μ s) ∧ (∀ s, s ∉ o.k.vw o.d → T.μ s = S.μ s ∧ T'.μ s = S'.μ s) ∧
      (∀ s, inO s (o.k.aw o.d) → T.A s = T'.A s) ∧ (∀ s, ¬ inO s (o.k.aw o.d) → T.A s = S.A s ∧ T'.A s = S'.A s)
  | _, _ => False

theorem vw_vs {d : Nat} {k : K} {s : Nat} (h : s ∈ k.vw d) : s ∈ k.vs d := by
  cases k <;> simp_all [K.vw]

theorem aw_as {d : Nat} {k : K} {s : Nat} (h : inO s (k.aw d)) : inO s (k.as d) := by
  cases k <;> try (exact h)
  · simp [K.aw, inO] at h
  · rename_i f cv own xs
    cases cv
    · exact h
    · simp [K.aw, inO] at h
    · exact h

theorem put_ρ (S : St) (o : Op) (v : V) : (∀ t, t ∈ o.gw → (S.put o v).ρ t = v) ∧ (∀ t, t ∉ o.gw → (S.put o v).ρ t = S.ρ t) ∧ (S.put o v).μ = S.μ ∧ (S.put o v).A = S.A := by
  unfold St.put Op.gw
  cases o.gl <;> cases o.dst <;> simp [upd]
  intro t ht e; exact absurd e ht

theorem step_same (o : Op) (e e' : Nat → V) (S S' : St) (h : Agree o e e' S S') : SameS o S S' (step κ o e S) (step κ o e' S') := by
  have hw : wantedV e o.gd = wantedV e' o.gd := by
    unfold wantedV
    cases hg : o.gd with
    | none => rfl
    | some jb => obtain ⟨j, b⟩ := jb; simp only; rw [h.l j (by simp [Op.lr, hg])]
  unfold step
  rw [hw]
  have ha : ∀ x ∈ o.k.args, argv e S.ρ x = argv e' S'.ρ x := fun x hx => by
    cases x with
    | g t => exact h.g t (by simp only [Op.gr, List.mem_flatMap]; exact ⟨_, hx, by simp [Arg.gr]⟩)
    | l i => exact h.l i (by simp only [Op.lr, List.mem_append, List.mem_flatMap]; exact .inr ⟨_, hx, by simp [Arg.lr]⟩)
    | c v => rfl
    | f k => rfl
  split
  · exact trivial
  · obtain ⟨p1, p2, p3, p4⟩ := put_ρ S o .un
    obtain ⟨q1, q2, q3, q4⟩ := put_ρ S' o .un
    refine ⟨rfl, fun t ht => by rw [p1 t ht, q1 t ht], fun t ht => ⟨p2 t ht, q2 t ht⟩, fun s hs => by rw [p3, q3]; exact h.v s (vw_vs hs), fun s hs => by rw [p3, q3]; exact ⟨rfl, rfl⟩,
      fun s hs => by rw [p4, q4]; exact h.a s (aw_as hs), fun s hs => by rw [p4, q4]; exact ⟨rfl, rfl⟩⟩
  · have hev := ev_same κ o.d o.k e e' S S' ha h.v h.a
    show SameS o S S' ((ev κ o.d e S o.k).bind _) ((ev κ o.d e' S' o.k).bind _)
    generalize ev κ o.d e S o.k = r at hev
    generalize ev κ o.d e' S' o.k = r' at hev
    cases r with
    | none => cases r' with
      | none => exact trivial
      | some _ => exact hev.elim
    | some r => cases r' with
      | none => exact hev.elim
      | some r' =>
        obtain ⟨v, T⟩ := r
        obtain ⟨v', T'⟩ := r'
        obtain ⟨rfl, h1, h2, h3, h4, h5, h6⟩ := hev
        obtain ⟨p1, p2, p3, p4⟩ := put_ρ T o v
        obtain ⟨q1, q2, q3, q4⟩ := put_ρ T' o v
        exact ⟨rfl, fun t ht => by rw [p1 t ht, q1 t ht], fun t ht => ⟨by rw [p2 t ht, h1], by rw [q2 t ht, h2]⟩, fun s hs => by rw [p3, q3]; exact h3 s hs, fun s hs => by rw [p3, q3]; exact h4 s hs,
          fun s hs => by rw [p4, q4]; exact h5 s hs, fun s hs => by rw [p4, q4]; exact h6 s hs⟩

def disO : Option (List Nat) → Option (List Nat) → Bool
  | some [], _ => true
  | _, some [] => true
  | some l, some m => l.all fun s => !m.contains s
  | _, _ => false

theorem disO_spec {a b : Option (List Nat)} (h : disO a b = true) (s : Nat) (ha : inO s a) : ¬ inO s b := by
  unfold disO at h
  split at h
  · simp [inO] at ha
  · simp [inO]
  · rw [List.all_eq_true] at h; have := h s ha; simpa [inO] using this
  · simp at h

theorem contF (l : List Nat) (x : Nat) : l.contains x = false ↔ x ∉ l := by simp

/-- nothing in common -/
def indep (i j : Nat) (p q : Op) : Bool :=
  !q.lr.contains i && !p.lr.contains j &&
  (p.gw.all fun t => !q.gr.contains t && !q.gw.contains t) && (q.gw.all fun t => !p.gr.contains t) &&
  ((p.k.vw p.d).all fun s => !(q.k.vs q.d).contains s) && ((q.k.vw q.d).all fun s => !(p.k.vs p.d).contains s) &&
  disO (p.k.aw p.d) (q.k.as q.d) && disO (q.k.aw q.d) (p.k.as p.d)

theorem SameS.refl {o : Op} {e : Nat → V} {S : St} : SameS o S S (step κ o e S) (step κ o e S) := step_same κ o e e S S ⟨fun _ _ => rfl, fun _ _ => rfl, fun _ _ => rfl, fun _ _ => rfl⟩

theorem St.ext' {S T : St} (h1 : ∀ t, S.ρ t = T.ρ t) (h2 : ∀ s, S.μ s = T.μ s) (h3 : ∀ s, S.A s = T.A s) : S = T := by
  cases S; cases T; congr <;> funext x <;> simp_all

theorem step_comm {i j : Nat} (hij : i ≠ j) {p q : Op} (h : indep i j p q = true) (e : Nat → V) (S : St) :
    ((step κ p e S).bind fun r => (step κ q (upd e i r.1) r.2).bind fun r' => some (upd (upd e i r.1) j r'.1, r'.2)) =
    ((step κ q e S).bind fun r => (step κ p (upd e j r.1) r.2).bind fun r' => some (upd (upd e j r.1) i r'.1, r'.2)) := by
  simp only [indep, Bool.and_eq_true, List.all_eq_true, Bool.not_eq_true', contF] at h
  obtain ⟨⟨⟨⟨⟨⟨⟨h1, h2⟩, h3⟩, h4⟩, h5⟩, h6⟩, h7⟩, h8⟩ := h
  have a7 := disO_spec h7
  have a8 := disO_spec h8
  -- q behind p
  have Q : ∀ v T, step κ p e S = some (v, T) → SameS q S T (step κ q e S) (step κ q (upd e i v) T) := fun v T hp => by
    have := SameS.refl κ (o := p) (e := e) (S := S)
    rw [hp] at this
    obtain ⟨-, -, g, -, m, -, a⟩ := this
    refine step_same κ q e (upd e i v) S T ⟨fun k hk => ?_, fun t ht => ?_, fun s hs => ?_, fun s hs => ?_⟩
    · have : k ≠ i := fun he => h1 (he ▸ hk)
      simp [upd, this]
    · exact (g t (fun hg => (h3 t hg).1 ht)).1.symm
    · exact (m s (fun hm => h5 s hm hs)).1.symm
    · exact (a s (fun ha => a7 s ha hs)).1.symm
  have P : ∀ v T, step κ q e S = some (v, T) → SameS p S T (step κ p e S) (step κ p (upd e j v) T) := fun v T hq => by
    have := SameS.refl κ (o := q) (e := e) (S := S)
    rw [hq] at this
    obtain ⟨-, -, g, -, m, -, a⟩ := this
    refine step_same κ p e (upd e j v) S T ⟨fun k hk => ?_, fun t ht => ?_, fun s hs => ?_, fun s hs => ?_⟩
    · have : k ≠ j := fun he => h2 (he ▸ hk)
      simp [upd, this]
    · exact (g t (fun hg => h4 t hg ht)).1.symm
    · exact (m s (fun hm => h6 s hm hs)).1.symm
    · exact (a s (fun ha => a8 s ha hs)).1.symm
  cases hp : step κ p e S with
  | none =>
    cases hq : step κ q e S with
    | none => rfl
    | some r =>
      have := P r.1 r.2 (by rw [hq])
      rw [hp] at this
      cases hh : step κ p (upd e j r.1) r.2 with
      | none => simp [hh]
      | some _ => rw [hh] at this; exact this.elim
  | some r =>
    obtain ⟨v, T⟩ := r
    have hQ := Q v T hp
    cases hq : step κ q e S with
    | none =>
      rw [hq] at hQ
      cases hh : step κ q (upd e i v) T with
      | none => simp [hh]
      | some _ => rw [hh] at hQ; exact hQ.elim
    | some r' =>
      obtain ⟨u, U⟩ := r'
      have hP := P u U hq
      rw [hq] at hQ
      rw [hp] at hP
      cases hh : step κ q (upd e i v) T with
      | none => rw [hh] at hQ; exact hQ.elim
      | some x =>
        cases hh' : step κ p (upd e j u) U with
        | none => rw [hh'] at hP; exact hP.elim
        | some y =>
          obtain ⟨u', T2⟩ := x
          obtain ⟨v', U2⟩ := y
          rw [hh] at hQ
          rw [hh'] at hP
          obtain ⟨rfl, q1, q2, q3, q4, q5, q6⟩ := hQ
          obtain ⟨rfl, p1, p2, p3, p4, p5, p6⟩ := hP
          simp only [Option.bind_some, hh, hh', Option.some.injEq, Prod.mk.injEq]
          refine ⟨?_, St.ext' (fun t => ?_) (fun s => ?_) (fun s => ?_)⟩
          · funext k; simp only [upd]; split <;> split <;> simp_all
          · by_cases t1 : t ∈ p.gw
            · rw [← p1 t t1]; exact (q2 t (h3 t t1).2).2
            · rw [(p2 t t1).2]
              by_cases t2 : t ∈ q.gw
              · exact (q1 t t2).symm
              · rw [(q2 t t2).2, (q2 t t2).1, (p2 t t1).1]
          · by_cases t1 : s ∈ p.k.vw p.d
            · rw [← p3 s t1]; exact (q4 s (fun hh => h5 s t1 (vw_vs hh))).2
            · rw [(p4 s t1).2]
              by_cases t2 : s ∈ q.k.vw q.d
              · exact (q3 s t2).symm
              · rw [(q4 s t2).2, (q4 s t2).1, (p4 s t1).1]
          · by_cases t1 : inO s (p.k.aw p.d)
            · rw [← p5 s t1]; exact (q6 s (fun hh => a7 s t1 (aw_as hh))).2
            · rw [(p6 s t1).2]
              by_cases t2 : inO s (q.k.aw q.d)
              · exact (q5 s t2).symm
              · rw [(q6 s t2).2, (q6 s t2).1, (p6 s t1).1]

/-- a region's operations in any order -/
def runIx (ops : List Op) : List Nat → (Nat → V) → St → Option St
  | [], _, S => some S
  | i :: l, e, S => match ops[i]? with
    | none => runIx ops l e S
    | some o => (step κ o e S).bind fun r => runIx ops l (upd e i r.1) r.2

theorem runIx_swap {ops : List Op} {i j : Nat} (hij : i ≠ j) (h : ∀ p q, ops[i]? = some p → ops[j]? = some q → indep i j p q = true) (l : List Nat) (e : Nat → V) (S : St) :
    runIx κ ops (i :: j :: l) e S = runIx κ ops (j :: i :: l) e S := by
  simp only [runIx]
  cases hi : ops[i]? with
  | none => cases hj : ops[j]? <;> rfl
  | some p => cases hj : ops[j]? with
    | none => rfl
    | some q =>
      have := step_comm κ hij (h p q hi hj) e S
      have c := congrArg (fun x => x.bind fun r : (Nat → V) × St => runIx κ ops l r.1 r.2) this
      simpa [Option.bind_assoc] using c

def insI (a : Nat) : List Nat → List Nat
  | [] => [a]
  | b :: l => if a ≤ b then a :: b :: l else b :: insI a l

def sortI : List Nat → List Nat
  | [] => []
  | a :: l => insI a (sortI l)

theorem mem_insI {a x : Nat} {l : List Nat} : x ∈ insI a l ↔ x = a ∨ x ∈ l := by
  induction l with
  | nil => simp [insI]
  | cons b l ih =>
    simp only [insI]
    split
    · simp
    · simp [ih]; constructor
      · rintro (h | h | h) <;> simp_all
      · rintro (h | h | h) <;> simp_all

theorem mem_sortI {x : Nat} {l : List Nat} : x ∈ sortI l ↔ x ∈ l := by
  induction l with
  | nil => simp [sortI]
  | cons a l ih => simp [sortI, mem_insI, ih]

theorem runIx_ins {ops : List Op} {a : Nat} : ∀ (s : List Nat) (e : Nat → V) (S : St), (∀ b ∈ s, b < a → ∀ p q, ops[a]? = some p → ops[b]? = some q → indep a b p q = true) →
    runIx κ ops (a :: s) e S = runIx κ ops (insI a s) e S
  | [], e, S, _ => rfl
  | b :: s, e, S, h => by
    simp only [insI]
    split
    · rfl
    · rename_i hab
      rw [runIx_swap κ (by omega) (h b (by simp) (by omega))]
      simp only [runIx]
      cases ops[b]? with
      | none => exact runIx_ins s e S fun c hc => h c (by simp [hc])
      | some q =>
        simp only
        cases step κ q e S with
        | none => rfl
        | some r => exact runIx_ins s _ _ fun c hc => h c (by simp [hc])

/-- every inversion is of two that have nothing in common -/
theorem runIx_sort {ops : List Op} : ∀ (l : List Nat) (e : Nat → V) (S : St), (l.Pairwise fun a b => b < a → ∀ p q, ops[a]? = some p → ops[b]? = some q → indep a b p q = true) →
    runIx κ ops l e S = runIx κ ops (sortI l) e S
  | [], e, S, _ => rfl
  | a :: l, e, S, h => by
    rw [List.pairwise_cons] at h
    have h1 : runIx κ ops (a :: l) e S = runIx κ ops (a :: sortI l) e S := by
      simp only [runIx]
      cases ops[a]? with
      | none => exact runIx_sort l e S h.2
      | some p =>
        simp only
        cases step κ p e S with
        | none => rfl
        | some r => exact runIx_sort l _ _ h.2
    rw [h1]
    exact runIx_ins κ (sortI l) e S fun b hb => h.1 b (mem_sortI.1 hb)

theorem sorted_insI {a : Nat} {l : List Nat} (h : l.Pairwise (· ≤ ·)) : (insI a l).Pairwise (· ≤ ·) := by
  induction l with
  | nil => simp [insI]
  | cons b l ih =>
    rw [List.pairwise_cons] at h
    simp only [insI]
    split
    · rename_i hab
      rw [List.pairwise_cons]
      exact ⟨fun c hc => by rcases List.mem_cons.1 hc with rfl | hc; exact hab; exact Nat.le_trans hab (h.1 c hc), List.pairwise_cons.2 h⟩
    · rename_i hab
      rw [List.pairwise_cons]
      refine ⟨fun c hc => ?_, ih h.2⟩
      rcases mem_insI.1 hc with rfl | hc
      · omega
      · exact h.1 c hc

theorem sorted_sortI (l : List Nat) : (sortI l).Pairwise (· ≤ ·) := by
  induction l with
  | nil => simp [sortI]
  | cons a l ih => exact sorted_insI ih

theorem perm_insI (a : Nat) (l : List Nat) : (insI a l).Perm (a :: l) := by
  induction l with
  | nil => exact .refl _
  | cons b l ih =>
    simp only [insI]
    split
    · exact .refl _
    · exact (ih.cons b).trans (.swap a b l)

theorem perm_sortI (l : List Nat) : (sortI l).Perm l := by
  induction l with
  | nil => exact .refl _
  | cons a l ih => exact (perm_insI a _).trans (ih.cons a)

theorem sortI_range {l : List Nat} {n : Nat} (h : l.Perm (List.range n)) : sortI l = List.range n := by
  refine List.Perm.eq_of_pairwise (le := (· ≤ ·)) (fun a b _ _ h1 h2 => Nat.le_antisymm h1 h2) (sorted_sortI l) ?_ ((perm_sortI l).trans h)
  exact List.pairwise_le_range

theorem runOps_ix {ops : List Op} : ∀ (l : List Op) (i : Nat) (e : Nat → V) (S : St), (∀ j, l[j]? = ops[i + j]?) → runOps κ l i e S = runIx κ ops (List.range' i l.length) e S
  | [], i, e, S, _ => rfl
  | o :: l, i, e, S, h => by
    have h0 : ops[i]? = some o := by simpa using (h 0).symm
    simp only [runOps, List.length_cons, List.range'_succ, runIx, h0]
    cases step κ o e S with
    | none => rfl
    | some r => exact runOps_ix l (i + 1) _ _ fun j => by have := h (j + 1); simpa [Nat.add_assoc, Nat.add_comm 1 j] using this

end
end Sg
