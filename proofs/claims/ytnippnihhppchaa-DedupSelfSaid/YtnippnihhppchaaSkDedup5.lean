import Derived.Test.YtnippnihhppchaaSkDedup4
namespace Sg
open _root_.Go (IntKind BinOp UnOp)
set_option linter.unusedSimpArgs false
set_option linter.unusedVariables false
set_option maxRecDepth 10000
variable {Pg : Nat → Option Fn}

def fA (a b : List Done) : List Done := a.filter fun x => decide (reqT b x.client ≤ x.req)
def fB (a b : List Done) : List Done := b.filter fun y => decide (reqT a y.client < y.req)
def Apart (l : List Done) : Prop := l.Pairwise fun a b => a.client ≠ b.client
theorem apart_row : ∀ {l : List Done} {y : Done}, Apart l → y ∈ l → doneAt l y.client = some y
  | [], _, _, h => by simp at h
  | a :: l, y, h, hy => by
    simp only [Apart, List.pairwise_cons] at h
    rcases List.mem_cons.1 hy with rfl | hy
    · simp [doneAt]
    · simp only [doneAt, if_neg (h.1 y hy)]
      exact apart_row h.2 hy
theorem apart_nodup {l : List Done} (h : Apart l) : l.Nodup := h.imp fun hab e => hab (by rw [e])
theorem req_mem {l : List Done} {p : Int} {y : Done} (h : rtR p l = true) (hy : y ∈ l) : reqT l y.client = y.req := by
  rw [req_row, rt_mem h hy]
theorem req_pos {l : List Done} {p : Int} {y : Done} (h : rtR p l = true) (hy : y ∈ l) : 0 < y.req := by
  have := rt_row h hy
  simp only [rowR, numD, Bool.and_eq_true, decide_eq_true_eq] at this; omega
theorem ab_apart {a b : List Done} (ha : rtR 0 a = true) (hb : rtR 0 b = true) : Apart (fA a b ++ fB a b) := by
  have inc : ∀ {l : List Done}, Inc l → Apart l := fun h => h.imp fun hab => by omega
  rw [Apart, List.pairwise_append]
  refine ⟨(inc (rt_inc ha)).filter _, (inc (rt_inc hb)).filter _, fun x hx y hy e => ?_⟩
  simp only [fA, fB, List.mem_filter, decide_eq_true_eq] at hx hy
  have h1 := req_mem ha hx.1
  have h2 := req_mem hb hy.1
  rw [e] at h1 hx
  omega
theorem merge_mem {a b : List Done} (ha : rtR 0 a = true) (hb : rtR 0 b = true) {x : Done} (hx : x ∈ mergeD a b) : x ∈ fA a b ++ fB a b := by
  have h := rt_mem (merge_rt a b 0 ha hb) hx
  rw [merge_row a b 0 _ ha hb] at h
  rw [List.mem_append]
  simp only [fA, fB, List.mem_filter, decide_eq_true_eq]
  have ra := req_row (l := a) (c := x.client)
  have rb := req_row (l := b) (c := x.client)
  cases h1 : doneAt a x.client with
  | none =>
    rw [h1] at h ra
    simp only at h ra
    have hm := (rowT_some h).2
    exact .inr ⟨hm, by rw [ra]; exact req_pos hb hm⟩
  | some u =>
    rw [h1] at h ra
    simp only at ra
    cases h2 : doneAt b x.client with
    | none =>
      rw [h2] at h rb
      simp only [Option.some.injEq] at h rb
      subst h
      have hm := (rowT_some h1).2
      exact .inl ⟨hm, by rw [rb]; have := req_pos ha hm; omega⟩
    | some v =>
      rw [h2] at h rb
      simp only at h rb
      split at h
      · rename_i hq
        simp only [Option.some.injEq] at h
        subst h
        exact .inl ⟨(rowT_some h1).2, by rw [rb]; exact hq⟩
      · rename_i hq
        simp only [Option.some.injEq] at h
        subst h
        exact .inr ⟨(rowT_some h2).2, by rw [ra]; omega⟩
theorem sort_merge {a b : List Done} (ha : rtR 0 a = true) (hb : rtR 0 b = true) : SortOf (fA a b ++ fB a b) (mergeD a b) := by
  refine ⟨rt_inc (merge_rt a b 0 ha hb), fun x hx => apart_row (ab_apart ha hb) (merge_mem ha hb hx), fun y hy => ?_⟩
  have hm := merge_row a b 0 y.client ha hb
  have hne : ∃ x, doneAt (mergeD a b) y.client = some x := by
    rw [hm]
    rcases List.mem_append.1 hy with hy | hy <;> simp only [fA, fB, List.mem_filter] at hy
    · obtain ⟨x, hx⟩ := row_exists hy.1
      rw [hx]
      cases doneAt b y.client with
      | none => exact ⟨x, rfl⟩
      | some v => simp only; split <;> exact ⟨_, rfl⟩
    · obtain ⟨x, hx⟩ := row_exists hy.1
      rw [hx]
      cases doneAt a y.client with
      | none => exact ⟨x, rfl⟩
      | some v => simp only; split <;> exact ⟨_, rfl⟩
  obtain ⟨x, hx⟩ := hne
  exact ⟨x, (rowT_some hx).2, (rowT_some hx).1⟩
theorem merge_length {a b : List Done} (ha : rtR 0 a = true) (hb : rtR 0 b = true) : (mergeD a b).length = (fA a b ++ fB a b).length := by
  have hs := sort_merge ha hb
  have h1 := nodup_lenD (inc_nodup hs.inc) (fun x hx => merge_mem ha hb hx)
  have h2 := nodup_lenD (apart_nodup (ab_apart ha hb)) (m := mergeD a b) fun y hy => by
    obtain ⟨x, hx, he⟩ := hs.all y hy
    have e1 := apart_row (ab_apart ha hb) hy
    have e2 := hs.first x hx
    rw [he, e1] at e2
    simp only [Option.some.injEq] at e2
    rw [e2]; exact hx
  omega

theorem fA_s {a b : List Done} {i : Nat} {x : Done} (hx : a[i]? = some x) : (a.take (i + 1)).filter (fun x => decide (reqT b x.client ≤ x.req)) =
    if reqT b x.client ≤ x.req then (a.take i).filter (fun x => decide (reqT b x.client ≤ x.req)) ++ [x] else (a.take i).filter (fun x => decide (reqT b x.client ≤ x.req)) := by
  rw [take_s hx, List.filter_append]
  split <;> simp_all
theorem fB_s {a b : List Done} {i : Nat} {x : Done} (hx : b[i]? = some x) : (b.take (i + 1)).filter (fun y => decide (reqT a y.client < y.req)) =
    if reqT a x.client < x.req then (b.take i).filter (fun y => decide (reqT a y.client < y.req)) ++ [x] else (b.take i).filter (fun y => decide (reqT a y.client < y.req)) := by
  rw [take_s hx, List.filter_append]
  split <;> simp_all

def H92 (Pg : Nat → Option Fn) : Prop := Pg 92 = some (.code F92) ∧ H80 Pg ∧ H99 Pg ∧ H104 Pg
theorem K92 (h : H92 Pg) (a b : List Done) (hla : a.length ≤ 1000) (hlb : b.length ≤ 1000) : K' Pg 92 [eDones a, eDones b] = some (eTE (mergeT a b)) := by
  obtain ⟨h, h80, h99, h104⟩ := h
  have k80a := K80 h80 a (by omega)
  have k80b := K80 h80 b (by omega)
  have k99a := fun c => K99 h99 a c (by omega)
  have k99b := fun c => K99 h99 b c (by omega)
  simp only [eDones] at k80a k80b k99a k99b
  refine K'_code h rfl ?_
  cases hra : rightT a with
  | false => simp only [go_sem, k80a, hra, mergeT]
  | true =>
  cases hrb : rightT b with
  | false => simp only [go_sem, k80a, k80b, hra, hrb, mergeT]
  | true =>
    have hta := right_rt hra
    have htb := right_rt hrb
    have hml := merge_length hta.1 htb.1
    have k104 := K104 h104 (fA a b ++ fB a b) (by have := merge_len a b; omega) _ (sort_merge hta.1 htb.1)
    simp only [eDones] at k104
    simp only [go_sem, k80a, k80b, hra, hrb, mergeT, mkA]
    unfold l92_0
    refine wp_lp (fun (i : Nat) S => i ≤ a.length ∧ S.ρ 0 = eDones a ∧ S.ρ 1 = eDones b ∧ S.A 6 = some (11, (fA (a.take i) b).map eDone, .live) ∧ S.ρ 6 = .own 6 11 (fA (a.take i) b).length ∧ S.ρ 7 = iz i) (fun i => a.length - i) 0 ?_ ?_
    · simp [go_sem, fA]
    · intro i S ⟨hi, h0, h1, a6, h6, h7⟩
      have hle : (fA (a.take i) b).length ≤ i := Nat.le_trans (List.length_filter_le _ _) (by simp; omega)
      have hlim : (fA (a.take i) b).length + 1 ≤ lim := by simp only [lim]; omega
      simp only [go_sem, h0, h1, a6, h6, h7]
      refine wpc_i (fun h => ?_) (fun h => ?_)
      · have h := lt_of h
        obtain ⟨x, hx, hd⟩ := drop_at h
        have hs := fA_s (b := b) hx
        simp only [go_sem, h0, h1, a6, h6, h7, hx, k99b]
        refine wpc_i (fun hc => ?_) (fun hc => ?_)
        · rw [if_pos (of_decide_eq_true hc)] at hs
          simp only [go_sem, h0, h1, a6, h6, h7, hx, hlim]
          exact ⟨i + 1, by omega, by omega, by simp only [fA] at hs ⊢; rw [hs]; simp [eDone, eItems], by simp only [fA] at hs ⊢; rw [hs]; simp, by rw [inc64 h (by omega)]⟩
        · rw [if_neg (of_decide_eq_false hc)] at hs
          simp only [go_sem, h0, h1, a6, h6, h7, hx, hlim]
          exact ⟨i + 1, by omega, by omega, by simp only [fA] at hs ⊢; rw [hs], by simp only [fA] at hs ⊢; rw [hs], by rw [inc64 h (by omega)]⟩
      · have h := eq_of hi h
        subst h
        rw [List.take_length] at a6 h6 hle
        simp only [go_sem, h0, h1, a6, h6, h7]
        unfold l92_1
        refine wp_lp (fun (i : Nat) S => i ≤ b.length ∧ S.ρ 0 = eDones a ∧ S.ρ 1 = eDones b ∧ S.A 6 = some (11, (fA a b ++ fB a (b.take i)).map eDone, .live) ∧ S.ρ 6 = .own 6 11 (fA a b ++ fB a (b.take i)).length ∧ S.ρ 8 = iz i) (fun i => b.length - i) 0 ?_ ?_
        · simp [go_sem, fB, h0, h1, a6, h6]
        · intro i S ⟨hi, h0, h1, a6, h6, h7⟩
          have hle2 : (fB a (b.take i)).length ≤ i := Nat.le_trans (List.length_filter_le _ _) (by simp; omega)
          have hlim : (fA a b ++ fB a (b.take i)).length + 1 ≤ lim := by simp only [lim, List.length_append]; omega
          simp only [go_sem, h0, h1, a6, h6, h7]
          refine wpc_i (fun h => ?_) (fun h => ?_)
          · have h := lt_of h
            obtain ⟨x, hx, hd⟩ := drop_at h
            have hs := fB_s (a := a) hx
            simp only [List.length_append] at hlim
            simp only [go_sem, h0, h1, a6, h6, h7, hx, k99a]
            refine wpc_i (fun hc => ?_) (fun hc => ?_)
            · rw [if_pos (of_decide_eq_true hc)] at hs
              simp only [go_sem, h0, h1, a6, h6, h7, hx, hlim, List.map_append]
              exact ⟨i + 1, by omega, by omega, by simp only [fB] at hs ⊢; rw [hs]; simp [eDone, eItems], by simp only [fB] at hs ⊢; rw [hs]; simp; omega, by rw [inc64 h (by omega)]⟩
            · rw [if_neg (of_decide_eq_false hc)] at hs
              simp only [go_sem, h0, h1, a6, h6, h7, hx, hlim, List.map_append]
              exact ⟨i + 1, by omega, by omega, by simp only [fB] at hs ⊢; rw [hs], by simp only [fB] at hs ⊢; rw [hs], by rw [inc64 h (by omega)]⟩
          · have h := eq_of hi h
            subst h
            rw [List.take_length] at a6 h6
            have e8 : decide ((8 : Int) < (((fA a b).length + (fB a b).length : Nat) : Int)) = decide (8 < (mergeD a b).length) := decide_eq_decide.2 (by rw [hml, List.length_append]; omega)
            simp only [List.map_append] at a6 k104
            simp only [List.length_append] at h6
            have hn : 8 < (mergeD a b).length ∨ ¬ 8 < (mergeD a b).length := by omega
            rcases hn with hn | hn
            · simp only [go_sem, h0, h1, a6, h6, e8, hn]
            · simp only [go_sem, h0, h1, a6, h6, e8, hn, k104]
end Sg
