import Derived.Test.YtclmbbbpijboaaaSgIns
import Derived.Test.YtclmbbbpijboaaaChecked
namespace Sg
open Go Go.RowKit Go.Lib Go.Proofs
set_option linter.unusedVariables false
set_option linter.unusedSimpArgs false

set_option maxHeartbeats 4000000 in
set_option maxRecDepth 100000 in
/-- slices.Insert: there is room, i < len(s): in place. -/
theorem ins37_shift (b off n c i vb voff m vc : Nat) (cs vs : List Value) (w : World) (hi : i < n) (hm : 0 < m) (hroom : n + m ≤ c) (hlim : n + m ≤ 1073741824) (hvb : vb ≠ b)
    (hcl : cs.length = n * 5) (hvl : vs.length = m * 5)
    (hcs : ∀ j v, cs[j]? = some v → w.cell? ⟨b, off + j, none⟩ = some v) (hsp : ∀ j, j < (n + m) * 5 → (w.cell? ⟨b, off + j, none⟩).isSome = true) (hfz : ∀ j, w.frozen? ⟨b, j, none⟩ = false)
    (hvs : ∀ j v, vs[j]? = some v → w.cell? ⟨vb, voff + j, none⟩ = some v) (h1c : ∀ v ∈ cs, v.oneCell' = true) (h1v : ∀ v ∈ vs, v.oneCell' = true)
    (tA tB : TypeId) (kA kB : Nat) (hsa : w.shape? vb = some (tA, kA)) (hsb : w.shape? b = some (tB, kB)) (hkA : kA ≠ 0) :
    Calls Try.prog 37 #[.slice (some ⟨b, off, none⟩) n c, .int .i64 i, .slice (some ⟨vb, voff, none⟩) m vc] w fun e w' =>
      e = .returned (.slice (some ⟨b, off, none⟩) (n + m) c) ∧ w' = (w.drew.setCells b (off + (i + m) * 5) (cs.drop (i * 5))).setCells b (off + i * 5) vs := by
  have t0 := Try.underlying0; have t3 := Try.underlying3; have t4 := Try.underlying4; have t9 := Try.underlying35; have t24 := Try.underlying25
  have a0 := Try.isAgg0; have a3 := Try.isAgg3; have a4 := Try.isAgg4; have a9 := Try.isAgg35; have a24 := Try.isAgg25
  have z0 := Try.sizeOf0; have z3 := Try.sizeOf3; have z4 := Try.sizeOf4; have z9 := Try.sizeOf35; have z24 := Try.sizeOf25
  have v0 := Try.zeroValue0; have v3 := Try.zeroValue3; have v4 := Try.zeroValue4; have v24 := Try.zeroValue25
  have u0 := run_underlying t0; have u3 := run_underlying t3; have u4 := run_underlying t4; have u24 := run_underlying t24
  have hz1 : ¬ ((m : Int) = 0) := by omega
  have hz2 : ¬ ((i : Int) = (n : Int)) := by omega
  have hsz : (Try.prog.info? 35).map (·.size) = some 5 := by kernel_rfl
  have hov : ∀ lb cb, (callFunc 45 #[.slice (some ⟨vb, voff, none⟩) m vc, .slice (some ⟨b, off + (i + m) * 5, none⟩) lb cb]).run Try.prog w = .ok (.value (.bool false)) w := fun lb cb => by
    rw [run_callFunc_extern Try.func45 (by kernel_rfl) (by kernel_rfl) (by kernel_rfl) (e := Extern.SlicesOverlaps.overlaps #[25, 25] #[4]) (by kernel_rfl),
      run_overlaps_k w 25 4 35 t24 5 z9 ⟨vb, voff, none⟩ ⟨b, off + (i + m) * 5, none⟩ m vc lb cb hvb tA tB kA kB hsa hsb hkA (hfz _) (hfz _)]
    rfl
  have hdl : (cs.drop (i * 5)).length = (n - i) * 5 := by rw [List.length_drop, hcl]; omega
  have mixed : Try.prog.follows .mixedOrders = true := by kernel_rfl
  have hw1 : IntKind.i64.wrap ((i : Int) + (m : Int)) = (i : Int) + (m : Int) := by rw [IntKind.wrap_i64]; omega
  have hb1 : (0 : Int) ≤ (i : Int) + (m : Int) := by omega
  have hin : i ≤ n := by omega
  have htn : ((i : Int) + (m : Int)).toNat = i + m := by omega
  have hb2 : ¬ (c = i + m) := by omega
  have hb3 : (i : Int) ≤ (n : Int) + (m : Int) := by omega
  have hb4 : ¬ (c = i) := by omega
  have hcp1 : ∀ ty dc sc, (Builtin.copy_ #[25, 25] ty #[.slice (some ⟨b, off + (i + m) * 5, none⟩) (n + m - (i + m)) dc, .slice (some ⟨b, off + i * 5, none⟩) (n + m - i) sc]).run Try.prog w.drew = .ok (goInt (n - i : Nat)) (w.drew.setCells b (off + (i + m) * 5) (cs.drop (i * 5))) := fun ty dc sc =>
    run_copy_k 5 w.drew _ _ ty 35 b (off + (i + m) * 5) (n + m - (i + m)) dc ⟨b, off + i * 5, none⟩ (n + m - i) sc (cs.drop (i * 5)) (n - i) t24 hsz (by simp only [Nat.min_def]; split <;> omega) (by rw [hdl])
      (fun j v hj => by rw [Addr.add_lit, Nat.add_assoc]; exact hcs (i * 5 + j) v (by rwa [List.getElem?_drop] at hj))
      (fun j hj => by rw [Nat.add_assoc]; exact hsp _ (by omega)) (fun j hj => hfz _) (fun v hv => h1c v (List.mem_of_mem_drop hv))
  obtain ⟨W1, hW1⟩ : ∃ W1, W1 = w.drew.setCells b (off + (i + m) * 5) (cs.drop (i * 5)) := ⟨_, rfl⟩
  have hsp1 : ∀ k, k < (n + m) * 5 → (W1.cell? ⟨b, off + k, none⟩).isSome = true := fun k hk => by
    rw [hW1]
    exact isSome_setK b _ _ _ (fun j hj => by rw [Nat.add_assoc]; exact hsp _ (by omega)) _ (hsp k hk)
  have hcp2 : ∀ (W : World), (∀ x, W.cell? x = W1.cell? x) → (∀ x, W.frozen? x = W1.frozen? x) → ∀ ty dc, (Builtin.copy_ #[25, 25] ty #[.slice (some ⟨b, off + i * 5, none⟩) (n + m - i) dc, .slice (some ⟨vb, voff, none⟩) m vc]).run Try.prog W = .ok (goInt (m : Nat)) (W.setCells b (off + i * 5) vs) := fun W hWc hWf ty dc =>
    run_copy_k 5 W _ _ ty 35 b (off + i * 5) (n + m - i) dc ⟨vb, voff, none⟩ m vc vs m t24 hsz (by simp only [Nat.min_def]; split <;> omega) hvl
      (fun j v hj => by
        rw [Addr.add_lit, hWc, hW1, World.cell?_setCells_out b _ _ _ _ (fun h _ => absurd h hvb)]
        exact hvs j v hj)
      (fun j hj => by rw [hWc, Nat.add_assoc]; exact hsp1 _ (by omega)) (fun j hj => by rw [hWf, hW1, World.frozen?_setCells]; exact hfz _) h1v
  rw [← hW1] at hcp1
  go_enter Try.func37, Try.ntmps37
  go_wp2_with (simp only [hov])
  go_region_law_o (refine step_copy_k rfl _ _ 25 25 rfl _ _ (by simp [Act.eval, Act.put]) (by simp [Act.eval, Act.put]) (hcp1 _ _ _) ?_)
  go_wp2_with (at_builtin; refine wpList_copy_k _ rfl _ _ 25 25 rfl _ _ rfl rfl (hcp2 _ (fun _ => rfl) (fun _ => rfl) _ _) ?_)
  go_ret
  first | exact ⟨rfl, rfl⟩ | exact ⟨rfl, by rw [hW1]⟩
set_option maxHeartbeats 4000000 in
set_option maxRecDepth 100000 in
/-- slices.Insert at the end: as append. -/
theorem ins37_end (base : Option Addr) (n c m vc : Nat) (vb : Option Addr) (w w' : World) (q : Value) (hm : 0 < m) (hnc : n ≤ c) (hlim : n + m ≤ 1073741824) (hnil : base = none → n = 0)
    (hrun : (Builtin.append_ #[25, 25] 25 #[.slice base n c, .slice vb m vc]).run Try.prog w = .ok q w') :
    Calls Try.prog 37 #[.slice base n c, .int .i64 n, .slice vb m vc] w fun e w1 => e = .returned q ∧ w1 = w' := by
  have t0 := Try.underlying0; have t3 := Try.underlying3; have t4 := Try.underlying4; have t9 := Try.underlying35; have t24 := Try.underlying25
  have a0 := Try.isAgg0; have a3 := Try.isAgg3; have a4 := Try.isAgg4; have a9 := Try.isAgg35; have a24 := Try.isAgg25
  have z0 := Try.sizeOf0; have z3 := Try.sizeOf3; have z4 := Try.sizeOf4; have z9 := Try.sizeOf35; have z24 := Try.sizeOf25
  have v0 := Try.zeroValue0; have v3 := Try.zeroValue3; have v4 := Try.zeroValue4; have v24 := Try.zeroValue25
  have u0 := run_underlying t0; have u3 := run_underlying t3; have u4 := run_underlying t4; have u24 := run_underlying t24
  have mixed : Try.prog.follows .mixedOrders = true := by kernel_rfl
  have hz1 : ¬ ((m : Int) = 0) := by omega
  go_enter Try.func37, Try.ntmps37
  cases base with
  | none =>
    have h0 := hnil rfl
    subst h0
    go_wp2_with (at_builtin; refine Lib.wpList_append_run _ rfl _ _ _ _ rfl _ _ rfl rfl _ _ hrun ?_)
    all_goals (go_ret; exact ⟨rfl, rfl⟩)
  | some a =>
    obtain ⟨ab, ao, asp⟩ := a
    go_wp2_with (at_builtin; refine Lib.wpList_append_run _ rfl _ _ _ _ rfl _ _ rfl rfl _ _ hrun ?_)
    all_goals (go_ret; exact ⟨rfl, rfl⟩)

set_option maxHeartbeats 4000000 in
set_option maxRecDepth 100000 in
/-- slices.Insert of nothing -/
theorem ins37_none (base : Option Addr) (n c i vc : Nat) (vb : Option Addr) (w : World) (hnc : n ≤ c) (hi : i ≤ n) (hnil : base = none → n = 0) :
    Calls Try.prog 37 #[.slice base n c, .int .i64 i, .slice vb 0 vc] w fun e w1 => e = .returned (.slice base n c) ∧ w1 = w := by
  have t0 := Try.underlying0; have t3 := Try.underlying3; have t4 := Try.underlying4; have t9 := Try.underlying35; have t24 := Try.underlying25
  have a0 := Try.isAgg0; have a3 := Try.isAgg3; have a4 := Try.isAgg4; have a9 := Try.isAgg35; have a24 := Try.isAgg25
  have z0 := Try.sizeOf0; have z3 := Try.sizeOf3; have z4 := Try.sizeOf4; have z9 := Try.sizeOf35; have z24 := Try.sizeOf25
  have v0 := Try.zeroValue0; have v3 := Try.zeroValue3; have v4 := Try.zeroValue4; have v24 := Try.zeroValue25
  have u0 := run_underlying t0; have u3 := run_underlying t3; have u4 := run_underlying t4; have u24 := run_underlying t24
  have mixed : Try.prog.follows .mixedOrders = true := by kernel_rfl
  go_enter Try.func37, Try.ntmps37
  cases base with
  | none =>
    have h0 := hnil rfl
    subst h0
    have hi0 : i = 0 := by omega
    subst hi0
    go_wp2
    all_goals (go_ret; exact ⟨rfl, rfl⟩)
  | some a =>
    obtain ⟨ab, ao, asp⟩ := a
    go_wp2
    all_goals (go_ret; exact ⟨rfl, rfl⟩)
set_option maxHeartbeats 4000000 in
set_option maxRecDepth 100000 in
/-- slices.Insert: i < len(s), no room: a new row. -/
theorem ins37_grow (b off n c i vb voff m vc : Nat) (cs vs : List Value) (w : World) (hi : i < n) (hm : 0 < m) (hnc : n ≤ c) (hroom : c < n + m) (hlim : n + m ≤ 1073741824)
    (hcl : cs.length = n * 5) (hvl : vs.length = m * 5) (hbw : b < w.heap.size) (hvw : vb < w.heap.size)
    (hcs : ∀ j v, cs[j]? = some v → w.cell? ⟨b, off + j, none⟩ = some v)
    (hvs : ∀ j v, vs[j]? = some v → w.cell? ⟨vb, voff + j, none⟩ = some v) (h1c : ∀ v ∈ cs, v.oneCell' = true) (h1v : ∀ v ∈ vs, v.oneCell' = true) :
    Calls Try.prog 37 #[.slice (some ⟨b, off, none⟩) n c, .int .i64 i, .slice (some ⟨vb, voff, none⟩) m vc] w fun e w' =>
      ∃ (G : Nat) (ROW : Array Value) (d1 : Nat), n + m ≤ G ∧ (n + m) * 5 ≤ ROW.size ∧ ROW.size = G * 5 ∧ (∀ (j : Nat) (v : Value), (cs.take (i * 5))[j]? = some v → ROW[j]? = some v) ∧ e = .returned (.slice (some ⟨w.heap.size, 0, none⟩) (n + m) G) ∧
      w' = ((({ w with drawn := d1 } : World).alloc (.cells ROW 35)).setCells w.heap.size (i * 5) vs).setCells w.heap.size ((i + m) * 5) (cs.drop (i * 5)) := by
  have t0 := Try.underlying0; have t3 := Try.underlying3; have t4 := Try.underlying4; have t9 := Try.underlying35; have t24 := Try.underlying25
  have a0 := Try.isAgg0; have a3 := Try.isAgg3; have a4 := Try.isAgg4; have a9 := Try.isAgg35; have a24 := Try.isAgg25
  have z0 := Try.sizeOf0; have z3 := Try.sizeOf3; have z4 := Try.sizeOf4; have z9 := Try.sizeOf35; have z24 := Try.sizeOf25
  have v0 := Try.zeroValue0; have v3 := Try.zeroValue3; have v4 := Try.zeroValue4; have v24 := Try.zeroValue25
  have u0 := run_underlying t0; have u3 := run_underlying t3; have u4 := run_underlying t4; have u24 := run_underlying t24
  have mixed : Try.prog.follows .mixedOrders = true := by kernel_rfl
  obtain ⟨i0, hi0, hz0, hzs, hzb⟩ : ∃ i0, Try.prog.info? 35 = some i0 ∧ i0.zero = some (Value.agg #[.int .i64 0, .int .i64 0, .int .i64 0, .int .i64 0, .int .i64 0]) ∧ i0.size = 5 ∧ i0.bytes = 40 := ⟨_, rfl, rfl, rfl, rfl⟩
  have hz1 : ¬ ((m : Int) = 0) := by omega
  have hz2 : ¬ ((i : Int) = (n : Int)) := by omega
  have hz3 : (c : Int) < (n : Int) + (m : Int) := by omega
  have hsz : (Try.prog.info? 35).map (·.size) = some 5 := by rw [hi0]; simp [hzs]
  have hkk : (n : Int) + (m : Int) - (i : Int) = ((n + m - i : Nat) : Int) := by omega
  have hik : i + (n + m - i) = n + m := by omega
  have hold : (Builtin.firstCells i0.size i (.slice (some ⟨b, off, none⟩) i c)).run Try.prog w.drew = .ok (cs.take (i * 5)).toArray w.drew := by
    rw [hzs]
    exact run_firstCells_some w.drew 5 i ⟨b, off, none⟩ i c (cs.take (i * 5)) (by rw [List.length_take]; omega) (fun j v hj => by
      rw [Addr.add_lit]
      rw [List.getElem?_take] at hj
      split at hj
      · exact hcs j v hj
      · cases hj)
  have hrz : ∀ ty, (Builtin.append_ #[25, 3] ty #[.slice (some ⟨b, off, none⟩) i c, .int .i64 ((n : Int) + (m : Int) - (i : Int))]).run Try.prog w =
      .ok (.slice (some ⟨w.heap.size, 0, none⟩) (n + m) (grownCap w (n + m) c 35)) (w.drew.alloc (.cells ((cs.take (i * 5)).toArray ++ Builtin.zeroCells (Value.agg #[.int .i64 0, .int .i64 0, .int .i64 0, .int .i64 0, .int .i64 0]).cells (n + m - i) ++ Builtin.zeroCells (Value.agg #[.int .i64 0, .int .i64 0, .int .i64 0, .int .i64 0, .int .i64 0]).cells (grownCap w (n + m) c 35 - (n + m))) 35)) := fun ty => by
    have h := Lib.run_append_grow_zeros w 25 3 ty 35 i0 _ .i64 .i64 t24 t3 hi0 hz0 (some ⟨b, off, none⟩) i c (cs.take (i * 5)) hold (n + m - i) (by omega) (by omega) (by omega) (by omega) (by rw [hzb]; omega) (by rw [hzb, hik]; exact growslice_fits hroom (by omega))
    rw [hik] at h
    rw [hkk]
    exact h
  obtain ⟨G, hG⟩ : ∃ G, G = grownCap w (n + m) c 35 := ⟨_, rfl⟩
  obtain ⟨ROW, hROW⟩ : ∃ ROW : Array Value, ROW = (cs.take (i * 5)).toArray ++ Builtin.zeroCells (Value.agg #[.int .i64 0, .int .i64 0, .int .i64 0, .int .i64 0, .int .i64 0]).cells (n + m - i) ++ Builtin.zeroCells (Value.agg #[.int .i64 0, .int .i64 0, .int .i64 0, .int .i64 0, .int .i64 0]).cells (G - (n + m)) := ⟨_, rfl⟩
  rw [← hG] at hrz
  rw [← hROW] at hrz
  have hGn : n + m ≤ G := by rw [hG]; exact grownCap_ge w _ _ _
  have hzc : ∀ k, (Builtin.zeroCells (Value.agg #[.int .i64 0, .int .i64 0, .int .i64 0, .int .i64 0, .int .i64 0]).cells k).size = k * 5 := fun k => by
    simp [Builtin.zeroCells, Value.cells]
  have hRs : ROW.size = G * 5 := by
    rw [hROW, Array.size_append, Array.size_append, hzc, hzc, List.size_toArray, List.length_take]
    omega
  have hRl : (n + m) * 5 ≤ ROW.size := by rw [hRs]; omega
  have hRt : ∀ j v, (cs.take (i * 5))[j]? = some v → ROW[j]? = some v := fun j v hj => by
    have hjl : j < (cs.take (i * 5)).length := by
      rcases Nat.lt_or_ge j (cs.take (i * 5)).length with h | h
      · exact h
      · rw [List.getElem?_eq_none h] at hj; simp at hj
    rw [hROW, Array.append_assoc, Array.getElem?_append_left (by simpa using hjl)]
    simpa using hj
  obtain ⟨W1, hW1⟩ : ∃ W1, W1 = w.drew.alloc (.cells ROW 35) := ⟨_, rfl⟩
  rw [← hW1] at hrz
  have hN : ∀ j, j < (n + m) * 5 → (W1.cell? ⟨w.heap.size, j, none⟩).isSome = true := fun j hj => by
    rw [hW1, World.cell?_alloc_at (w := w.drew) ROW _ w.heap.size j rfl, Array.getElem?_eq_getElem (by omega)]; rfl
  have hNf : ∀ j, W1.frozen? ⟨w.heap.size, j, none⟩ = false := fun j => by rw [hW1]; exact World.frozen?_alloc_at (w := w.drew) ROW _ w.heap.size j rfl
  have hOb : ∀ j v, w.cell? ⟨b, j, none⟩ = some v → W1.cell? ⟨b, j, none⟩ = some v := fun j v h => by rw [hW1, World.cell?_alloc_past (w := w.drew) _ b j hbw]; exact h
  have hOv : ∀ j v, w.cell? ⟨vb, j, none⟩ = some v → W1.cell? ⟨vb, j, none⟩ = some v := fun j v h => by rw [hW1, World.cell?_alloc_past (w := w.drew) _ vb j hvw]; exact h
  have hcpA : ∀ (W : World), (∀ x, W.cell? x = W1.cell? x) → (∀ x, W.frozen? x = W1.frozen? x) → ∀ ty dc, (Builtin.copy_ #[25, 25] ty #[.slice (some ⟨w.heap.size, i * 5, none⟩) (n + m - i) dc, .slice (some ⟨vb, voff, none⟩) m vc]).run Try.prog W = .ok (goInt (m : Nat)) (W.setCells w.heap.size (i * 5) vs) := fun W hWc hWf ty dc =>
    run_copy_k 5 W _ _ ty 35 w.heap.size (i * 5) (n + m - i) dc ⟨vb, voff, none⟩ m vc vs m t24 hsz (by simp only [Nat.min_def]; split <;> omega) hvl
      (fun j v hj => by rw [Addr.add_lit, hWc]; exact hOv _ v (hvs j v hj))
      (fun j hj => by rw [hWc]; exact hN _ (by omega)) (fun j hj => by rw [hWf]; exact hNf _) h1v
  have hG63 : G ≤ 9223372036854775807 := by
    have := grownCap_le_maxLen w (n + m) c 35 (by unfold maxLen; omega)
    rw [← hG] at this
    unfold maxLen at this
    omega
  have hGi : ¬ (G = i) := by omega
  have hGim : ¬ (G = i + m) := by omega
  have hci : ¬ (c = i) := by omega
  have hbN : b ≠ w.heap.size := by omega
  have hdl : (cs.drop (i * 5)).length = (n - i) * 5 := by rw [List.length_drop, hcl]; omega
  have hcpB : ∀ (W : World), (∀ x, W.cell? x = (W1.setCells w.heap.size (i * 5) vs).cell? x) → (∀ x, W.frozen? x = (W1.setCells w.heap.size (i * 5) vs).frozen? x) → ∀ ty dc sc, (Builtin.copy_ #[25, 25] ty #[.slice (some ⟨w.heap.size, (i + m) * 5, none⟩) (n + m - (i + m)) dc, .slice (some ⟨b, off + i * 5, none⟩) (n - i) sc]).run Try.prog W = .ok (goInt (n - i : Nat)) (W.setCells w.heap.size ((i + m) * 5) (cs.drop (i * 5))) := fun W hWc hWf ty dc sc =>
    run_copy_k 5 W _ _ ty 35 w.heap.size ((i + m) * 5) (n + m - (i + m)) dc ⟨b, off + i * 5, none⟩ (n - i) sc (cs.drop (i * 5)) (n - i) t24 hsz (by simp only [Nat.min_def]; split <;> omega) hdl
      (fun j v hj => by
        rw [Addr.add_lit, hWc, World.cell?_setCells_out _ _ _ _ _ (fun h _ => absurd h hbN), Nat.add_assoc]
        exact hOb _ v (hcs (i * 5 + j) v (by rwa [List.getElem?_drop] at hj)))
      (fun j hj => by rw [hWc]; exact isSome_setK _ _ _ _ (fun t ht => hN _ (by omega)) _ (hN _ (by omega)))
      (fun j hj => by rw [hWf, World.frozen?_setCells]; exact hNf _) (fun v hv => h1c v (List.mem_of_mem_drop hv))
  subst hW1
  have hE1 : ∀ x, ((w.alloc (.cells ROW 35)).drew).cell? x = (w.drew.alloc (.cells ROW 35)).cell? x := fun x => rfl
  have hE2 : ∀ x, ((w.alloc (.cells ROW 35)).drew).frozen? x = (w.drew.alloc (.cells ROW 35)).frozen? x := fun x => rfl
  have hF1 : ∀ x, (((w.alloc (.cells ROW 35)).drew.setCells w.heap.size (i * 5) vs).drew).cell? x = ((w.drew.alloc (.cells ROW 35)).setCells w.heap.size (i * 5) vs).cell? x := fun x => rfl
  have hF2 : ∀ x, (((w.alloc (.cells ROW 35)).drew.setCells w.heap.size (i * 5) vs).drew).frozen? x = ((w.drew.alloc (.cells ROW 35)).setCells w.heap.size (i * 5) vs).frozen? x := fun x => rfl
  have hw1 : IntKind.i64.wrap ((i : Int) + (m : Int)) = (i : Int) + (m : Int) := by rw [IntKind.wrap_i64]; omega
  have hb1 : (0 : Int) ≤ (i : Int) + (m : Int) := by omega
  have hin : i ≤ n := by omega
  have htn : ((i : Int) + (m : Int)).toNat = i + m := by omega
  have hb3 : (i : Int) ≤ (n : Int) := by omega
  clear hkk hik hold hROW hG
  go_enter Try.func37, Try.ntmps37
  go_wp2_with (first
    | (at_builtin; refine Lib.wpList_append_run _ rfl _ _ _ _ rfl _ _ rfl rfl _ _ (hrz _) ?_)
    | (at_builtin; refine wpList_copy_k _ rfl _ _ 25 25 rfl _ _ rfl rfl (hcpA _ hE1 hE2 _ _) ?_)
    | (at_builtin; refine wpList_copy_k _ rfl _ _ 25 25 rfl _ _ rfl rfl (hcpB _ (fun _ => rfl) (fun _ => rfl) _ _ _) ?_))
  go_region_law_o (refine step_copy_k rfl _ _ 25 25 rfl (.slice (some ⟨w.heap.size, (i + m) * 5, none⟩) (n + m - (i + m)) (G - (i + m))) (.slice (some ⟨b, off + i * 5, none⟩) (n - i) (c - i)) (by simp [Act.eval, Act.put]) (by simp [Act.eval, Act.put]) (hcpB _ hF1 hF2 3 (G - (i + m)) (c - i)) ?_)
  go_wp2
  go_ret
  exact ⟨G, ROW, w.drew.drew.drawn, hGn, hRl, hRs, hRt, rfl, by first | rfl | (rw [drew_setK]; rfl) | (simp only [drew_setK]; rfl)⟩

theorem insC37 : InsC Try.prog 37 5 25 35 where
  ent := ⟨Try.f37, Try.func37, by kernel_rfl, by kernel_rfl⟩
  hS := Try.underlying25
  hz := by kernel_rfl
  pos := by decide
  info := ⟨_, (Value.agg #[.int .i64 0, .int .i64 0, .int .i64 0, .int .i64 0, .int .i64 0]), rfl, by decide, rfl, rfl⟩
  nothing := fun base n c i vc vb w h1 h2 h3 => ins37_none base n c i vc vb w h1 h2 h3
  end_ := fun base n c m vc vb w w' q h1 h2 h3 h4 h5 => ins37_end base n c m vc vb w w' q h1 h2 h3 h4 h5
  shift := fun b off n c i vb voff m vc cs vs w h1 h2 h3 h4 h5 h6 h7 h8 h9 h10 h11 h12 h13 tA tB kA kB h14 h15 h16 => ins37_shift b off n c i vb voff m vc cs vs w h1 h2 h3 h4 h5 h6 h7 h8 h9 h10 h11 h12 h13 tA tB kA kB h14 h15 h16
  grow := fun b off n c i vb voff m vc cs vs w h1 h2 h3 h4 h5 h6 h7 h8 h9 h10 h11 h12 h13 => ins37_grow b off n c i vb voff m vc cs vs w h1 h2 h3 h4 h5 h6 h7 h8 h9 h10 h11 h12 h13

set_option maxHeartbeats 4000000 in
set_option maxRecDepth 100000 in
theorem del39_none (base : Option Addr) (n c i : Nat) (w : World) (hnc : n ≤ c) (hi : i ≤ n) (hnil : base = none → n = 0) :
    Calls Try.prog 39 #[.slice base n c, .int .i64 i, .int .i64 i] w fun e w1 => e = .returned (.slice base n c) ∧ w1 = w := by
  have t0 := Try.underlying0; have t3 := Try.underlying3; have t4 := Try.underlying4; have t9 := Try.underlying35; have t24 := Try.underlying25
  have a0 := Try.isAgg0; have a3 := Try.isAgg3; have a4 := Try.isAgg4; have a9 := Try.isAgg35; have a24 := Try.isAgg25
  have z0 := Try.sizeOf0; have z3 := Try.sizeOf3; have z4 := Try.sizeOf4; have z9 := Try.sizeOf35; have z24 := Try.sizeOf25
  have v0 := Try.zeroValue0; have v3 := Try.zeroValue3; have v4 := Try.zeroValue4; have v24 := Try.zeroValue25
  have u0 := run_underlying t0; have u3 := run_underlying t3; have u4 := run_underlying t4; have u24 := run_underlying t24
  have mixed : Try.prog.follows .mixedOrders = true := by kernel_rfl
  go_enter Try.func39, Try.ntmps39
  cases base with
  | none =>
    have h0 := hnil rfl
    subst h0
    have hi0 : i = 0 := by omega
    subst hi0
    go_wp2
    all_goals (go_ret; exact ⟨rfl, rfl⟩)
  | some a =>
    obtain ⟨ab, ao, asp⟩ := a
    go_wp2
    all_goals (go_ret; exact ⟨rfl, rfl⟩)

set_option maxHeartbeats 4000000 in
set_option maxRecDepth 100000 in
theorem del39_cut (b off n c i j : Nat) (cs : List Value) (w : World) (hij : i < j) (hj : j ≤ n) (hnc : n ≤ c) (hlim : n ≤ 1073741824) (hcl : cs.length = n * 5)
    (hcs : ∀ (j : Nat) (v : Value), cs[j]? = some v → w.cell? ⟨b, off + j, none⟩ = some v) (hfz : ∀ j, w.frozen? ⟨b, j, none⟩ = false) (h1c : ∀ v ∈ cs, v.oneCell' = true) :
    Calls Try.prog 39 #[.slice (some ⟨b, off, none⟩) n c, .int .i64 i, .int .i64 j] w fun e w' =>
      e = .returned (.slice (some ⟨b, off, none⟩) (n - (j - i)) c) ∧ ∃ (d1 : Nat) (zs : List Value), zs.length = (j - i) * 5 ∧ (∀ v ∈ zs, v.oneCell' = true) ∧
      w' = ((({ w with drawn := d1 } : World)).setCells b (off + i * 5) (cs.drop (j * 5))).setCells b (off + (n - (j - i)) * 5) zs := by
  have t0 := Try.underlying0; have t3 := Try.underlying3; have t4 := Try.underlying4; have t9 := Try.underlying35; have t24 := Try.underlying25
  have a0 := Try.isAgg0; have a3 := Try.isAgg3; have a4 := Try.isAgg4; have a9 := Try.isAgg35; have a24 := Try.isAgg25
  have z0 := Try.sizeOf0; have z3 := Try.sizeOf3; have z4 := Try.sizeOf4; have z9 := Try.sizeOf35; have z24 := Try.sizeOf25
  have v0 := Try.zeroValue0; have v3 := Try.zeroValue3; have v4 := Try.zeroValue4; have v24 := Try.zeroValue25
  have u0 := run_underlying t0; have u3 := run_underlying t3; have u4 := run_underlying t4; have u24 := run_underlying t24
  have mixed : Try.prog.follows .mixedOrders = true := by kernel_rfl
  obtain ⟨i0, hi0, hzs, hzb⟩ : ∃ i0, Try.prog.info? 35 = some i0 ∧ i0.size = 5 ∧ i0.bytes = 40 := ⟨_, rfl, rfl, rfl⟩
  have hv9 : ∀ w, (zeroValue 35).run Try.prog w = .ok (Value.agg #[.int .i64 0, .int .i64 0, .int .i64 0, .int .i64 0, .int .i64 0]) w := Try.zeroValue35
  obtain ⟨news, hnews⟩ : ∃ news, news = cs.drop (j * 5) := ⟨_, rfl⟩
  have hlen : news.length = (n - j) * 5 := by rw [hnews, List.length_drop, hcl]; omega
  obtain ⟨A, hA, hsrc⟩ : ∃ A : Addr, (if c = j then some (⟨b, off, none⟩ : Addr) else some ⟨b, off + j * 5, none⟩) = some A ∧ Hid (∀ t u, news[t]? = some u → w.drew.cell? (A.add t) = some u) := by
    by_cases h : c = j
    · refine ⟨⟨b, off, none⟩, by simp [h], fun t u hu => ?_⟩
      have h0 : news.length = 0 := by rw [hlen]; omega
      rw [List.length_eq_zero_iff.1 h0] at hu
      simp at hu
    · refine ⟨⟨b, off + j * 5, none⟩, by simp [h], fun t u hu => ?_⟩
      rw [Addr.add_lit, Nat.add_assoc]
      refine hcs (j * 5 + t) u ?_
      rw [hnews, List.getElem?_drop] at hu
      exact hu
  have s1 : Hid (news.length = (n - j) * 5) := hlen
  have s2 : Hid (∀ u ∈ news, u.oneCell' = true) := fun u hu => h1c u (List.mem_of_mem_drop (hnews ▸ hu))
  have hcell : ∀ k, k < n * 5 → (w.cell? ⟨b, off + k, none⟩).isSome = true := fun k hk => by
    have hk' : k < cs.length := by omega
    rw [hcs k cs[k] (by simp)]; rfl
  have s3 : Hid (∀ t, t < news.length → (w.drew.cell? ⟨b, off + i * 5 + t, none⟩).isSome = true ∧ w.drew.frozen? ⟨b, off + i * 5 + t, none⟩ = false) := by
    intro t ht
    rw [hlen] at ht
    rw [Nat.add_assoc]
    exact ⟨hcell _ (by omega), hfz _⟩
  obtain ⟨W1, hW1⟩ : ∃ W1, W1 = w.drew.setCells b (off + i * 5) news := ⟨_, rfl⟩
  have hZl : ∀ k, (Builtin.zeroCells (Value.agg #[.int .i64 0, .int .i64 0, .int .i64 0, .int .i64 0, .int .i64 0]).cells k).toList.length = k * 5 := fun k => by simp [Builtin.zeroCells, Value.cells]
  have hZ1 : ∀ k, ∀ v ∈ (Builtin.zeroCells (Value.agg #[.int .i64 0, .int .i64 0, .int .i64 0, .int .i64 0, .int .i64 0]).cells k).toList, v.oneCell' = true := fun k v hv => zero_one (by decide) hv
  have hcl2 : ∀ ty, (Builtin.clear_ #[25] ty #[.slice (some ⟨b, off + (i + (n - j)) * 5, none⟩) (n - (i + (n - j))) (c - (i + (n - j)))]).run Try.prog W1 = .ok (.tuple #[]) (W1.setCells b (off + (i + (n - j)) * 5) (Builtin.zeroCells (Value.agg #[.int .i64 0, .int .i64 0, .int .i64 0, .int .i64 0, .int .i64 0]).cells (n - (i + (n - j)))).toList) := fun ty =>
    run_clear_k W1 25 35 ty _ t24 hv9 b _ _ _ (by omega) (hZ1 _) (fun k hk => by
      rw [hZl] at hk
      rw [hW1]
      refine isSome_setK b _ _ _ (fun t ht => ?_) _ ?_
      · rw [hlen] at ht; rw [Nat.add_assoc]; exact hcell _ (by omega)
      · rw [Nat.add_assoc]; exact hcell _ (by omega)) (fun k => by rw [hW1, World.frozen?_setCells]; exact hfz k)
  have hW : Hid (W1 = w.drew.setCells b (off + i * 5) news) := hW1
  have X : Hid (news = cs.drop (j * 5)) := hnews
  have Y1 := hZl (n - (i + (n - j)))
  have Y2 := hZ1 (n - (i + (n - j)))
  obtain ⟨ZS, hZS⟩ : ∃ ZS, ZS = (Builtin.zeroCells (Value.agg #[.int .i64 0, .int .i64 0, .int .i64 0, .int .i64 0, .int .i64 0]).cells (n - (i + (n - j)))).toList := ⟨_, rfl⟩
  rw [← hZS] at hcl2 Y1 Y2
  have Y1h : Hid (ZS.length = (n - (i + (n - j))) * 5) := Y1
  have Y2h : Hid (∀ v ∈ ZS, v.oneCell' = true) := Y2
  have hic : i ≤ c := by omega
  have hjc : j ≤ c := by omega
  have heq : ¬ ((i : Int) = (j : Int)) := by omega
  clear hW1 hnews hlen Y1 Y2 hZS hZl hZ1 hcell hcs hcl h1c
  go_enter Try.func39, Try.ntmps39
  go_wp2_with fail
  go_region_law_o (refine step_append_room rfl (.tmp 22) (.tmp 25) 25 rfl 35 i0 5 t24 hi0 hzs b off i c (by simp [Act.eval, Act.put]) A (n - j) (c - j) news (by simp [Act.eval, Act.put]) s1.out hsrc.out s2.out (by omega) s3.out ?_; rw [← hW.out])
  go_wp2
  go_ret
  refine ⟨by rw [show n - (j - i) = i + (n - j) by omega]; rfl, w.drew.drawn, ZS, ?_, Y2h.out, ?_⟩
  · rw [Y1h.out]; congr 1; omega
  · rw [← X.out, show n - (j - i) = i + (n - j) by omega]
    have : ({ w with drawn := w.drew.drawn } : World) = w.drew := rfl
    rw [this, ← hW.out]

theorem delC39 : DelC Try.prog 39 5 where
  ent := ⟨Try.f39, Try.func39, by kernel_rfl, by kernel_rfl⟩
  pos := by decide
  nothing := fun base n c i w h1 h2 h3 => del39_none base n c i w h1 h2 h3
  cut := fun b off n c i j cs w h1 h2 h3 h4 h5 h6 h7 h8 => del39_cut b off n c i j cs w h1 h2 h3 h4 h5 h6 h7 h8

end Sg
