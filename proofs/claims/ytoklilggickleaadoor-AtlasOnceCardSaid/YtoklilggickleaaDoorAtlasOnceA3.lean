/- AtlasOnce, at every input: proved over a checked abstract run of the translated code; no condition. Part 3 of 3. -/
import Derived.Test.YtoklilggickleaaDoorChecked
import Derived.DataReads
import Derived.WideShapes
import Derived.ChangeSlices
import Derived.ChangeSame
import Derived.JoinedOf
import Derived.JoinedAt
import Derived.Carry
import Derived.Test.YtoklilggickleaaDoorCards
import Derived.Test.YtoklilggickleaaDoorTie
import Derived.ProofKit
import Derived.OpenShut
import Derived.Lib.LaidIn
import Derived.Lib.LaidTab
import Derived.Deep.DeepHandedRow
import Derived.Deep.DeepWitnessRowRef
import Derived.Test.YtoklilggickleaaDoorRows
import Derived.Test.YtoklilggickleaaDoorAtlasOnceA2
namespace Sg
open Go.Proofs
open _root_.Go
def noQ : List V → Option V := fun _ => none
def atlasFm : List (Nat × Nat) := [(161, 7), (154, 20), (159, 23), (156, 21), (157, 22), (148, 14), (142, 9), (144, 11), (141, 8), (143, 10), (177, 40), (163, 26), (162, 25), (175, 38), (178, 41), (167, 30), (168, 31), (169, 32), (171, 34), (164, 28), (165, 27), (166, 29), (194, 57), (185, 48), (186, 49), (187, 50), (188, 51), (189, 52), (191, 54), (192, 55), (195, 60), (179, 43), (180, 42), (181, 44), (170, 33), (190, 53)]
def atlasTab : List (Nat × Fn) := [(161, .code F161), (154, .code F154), (159, .code F159), (156, .code F156), (157, .code F157), (148, .code F148), (142, .code F142), (144, .code F144), (141, .code F141), (143, .code F143), (177, .code F177), (163, .code F163), (162, .code F162), (175, .code F175), (178, .code F178), (167, .code F167), (168, .code F168), (169, .code F169), (171, .code F171), (164, .code F164), (165, .code F165), (166, .code F166), (194, .code F194), (185, .code F185), (186, .code F186), (187, .code F187), (188, .code F188), (189, .code F189), (191, .code F191), (192, .code F192), (195, .code F195), (179, .prim (some 0) (cloneQ 5)), (180, .prim (some 1005) noQ), (181, .prim (some 2005) noQ), (170, .prim none keyQ), (190, .prim none decQ)]
set_option maxRecDepth 100000
theorem okc {P : Go.Program} {cx : Cx} {tab : List (Nat × Fn)} {k : Nat} {F : F} {l : List (Nat × Fn)} (h : okF P cx (look tab) (cx.fm k) F = true) (t : okTab P cx tab l = true) : okTab P cx tab ((k, .code F) :: l) = true := by simp [okTab, h, t]
theorem okp {P : Go.Program} {cx : Cx} {tab : List (Nat × Fn)} {k : Nat} {o : Option Nat} {p} {l : List (Nat × Fn)} (t : okTab P cx tab l = true) : okTab P cx tab ((k, .prim o p) :: l) = true := t
theorem ok161 : okF Tryd.prog (cxU atlasFm) (look atlasTab) ((cxU atlasFm).fm 161) F161 = true := by kernel_rfl
theorem ok154 : okF Tryd.prog (cxU atlasFm) (look atlasTab) ((cxU atlasFm).fm 154) F154 = true := by kernel_rfl
theorem ok159 : okF Tryd.prog (cxU atlasFm) (look atlasTab) ((cxU atlasFm).fm 159) F159 = true := by kernel_rfl
theorem ok156 : okF Tryd.prog (cxU atlasFm) (look atlasTab) ((cxU atlasFm).fm 156) F156 = true := by kernel_rfl
theorem ok157 : okF Tryd.prog (cxU atlasFm) (look atlasTab) ((cxU atlasFm).fm 157) F157 = true := by kernel_rfl
theorem ok148 : okF Tryd.prog (cxU atlasFm) (look atlasTab) ((cxU atlasFm).fm 148) F148 = true := by kernel_rfl
theorem ok142 : okF Tryd.prog (cxU atlasFm) (look atlasTab) ((cxU atlasFm).fm 142) F142 = true := by kernel_rfl
theorem ok144 : okF Tryd.prog (cxU atlasFm) (look atlasTab) ((cxU atlasFm).fm 144) F144 = true := by kernel_rfl
theorem ok141 : okF Tryd.prog (cxU atlasFm) (look atlasTab) ((cxU atlasFm).fm 141) F141 = true := by kernel_rfl
theorem ok143 : okF Tryd.prog (cxU atlasFm) (look atlasTab) ((cxU atlasFm).fm 143) F143 = true := by kernel_rfl
theorem ok177 : okF Tryd.prog (cxU atlasFm) (look atlasTab) ((cxU atlasFm).fm 177) F177 = true := by kernel_rfl
theorem ok163 : okF Tryd.prog (cxU atlasFm) (look atlasTab) ((cxU atlasFm).fm 163) F163 = true := by kernel_rfl
theorem ok162 : okF Tryd.prog (cxU atlasFm) (look atlasTab) ((cxU atlasFm).fm 162) F162 = true := by kernel_rfl
theorem ok175 : okF Tryd.prog (cxU atlasFm) (look atlasTab) ((cxU atlasFm).fm 175) F175 = true := by kernel_rfl
theorem ok178 : okF Tryd.prog (cxU atlasFm) (look atlasTab) ((cxU atlasFm).fm 178) F178 = true := by kernel_rfl
theorem ok167 : okF Tryd.prog (cxU atlasFm) (look atlasTab) ((cxU atlasFm).fm 167) F167 = true := by kernel_rfl
theorem ok168 : okF Tryd.prog (cxU atlasFm) (look atlasTab) ((cxU atlasFm).fm 168) F168 = true := by kernel_rfl
theorem ok169 : okF Tryd.prog (cxU atlasFm) (look atlasTab) ((cxU atlasFm).fm 169) F169 = true := by kernel_rfl
theorem ok171 : okF Tryd.prog (cxU atlasFm) (look atlasTab) ((cxU atlasFm).fm 171) F171 = true := by kernel_rfl
theorem ok164 : okF Tryd.prog (cxU atlasFm) (look atlasTab) ((cxU atlasFm).fm 164) F164 = true := by kernel_rfl
theorem ok165 : okF Tryd.prog (cxU atlasFm) (look atlasTab) ((cxU atlasFm).fm 165) F165 = true := by kernel_rfl
theorem ok166 : okF Tryd.prog (cxU atlasFm) (look atlasTab) ((cxU atlasFm).fm 166) F166 = true := by kernel_rfl
theorem ok194 : okF Tryd.prog (cxU atlasFm) (look atlasTab) ((cxU atlasFm).fm 194) F194 = true := by kernel_rfl
theorem ok185 : okF Tryd.prog (cxU atlasFm) (look atlasTab) ((cxU atlasFm).fm 185) F185 = true := by kernel_rfl
theorem ok186 : okF Tryd.prog (cxU atlasFm) (look atlasTab) ((cxU atlasFm).fm 186) F186 = true := by kernel_rfl
theorem ok187 : okF Tryd.prog (cxU atlasFm) (look atlasTab) ((cxU atlasFm).fm 187) F187 = true := by kernel_rfl
theorem ok188 : okF Tryd.prog (cxU atlasFm) (look atlasTab) ((cxU atlasFm).fm 188) F188 = true := by kernel_rfl
theorem ok189 : okF Tryd.prog (cxU atlasFm) (look atlasTab) ((cxU atlasFm).fm 189) F189 = true := by kernel_rfl
theorem ok191 : okF Tryd.prog (cxU atlasFm) (look atlasTab) ((cxU atlasFm).fm 191) F191 = true := by kernel_rfl
theorem ok192 : okF Tryd.prog (cxU atlasFm) (look atlasTab) ((cxU atlasFm).fm 192) F192 = true := by kernel_rfl
theorem ok195 : okF Tryd.prog (cxU atlasFm) (look atlasTab) ((cxU atlasFm).fm 195) F195 = true := by kernel_rfl
theorem okAll : okTab Tryd.prog (cxU atlasFm) atlasTab atlasTab = true := okc ok161 (okc ok154 (okc ok159 (okc ok156 (okc ok157 (okc ok148 (okc ok142 (okc ok144 (okc ok141 (okc ok143 (okc ok177 (okc ok163 (okc ok162 (okc ok175 (okc ok178 (okc ok167 (okc ok168 (okc ok169 (okc ok171 (okc ok164 (okc ok165 (okc ok166 (okc ok194 (okc ok185 (okc ok186 (okc ok187 (okc ok188 (okc ok189 (okc ok191 (okc ok192 (okc ok195 (okp (okp (okp (okp (okp (rfl))))))))))))))))))))))))))))))))))))
theorem okClone179 : okF Tryd.prog (cxU atlasFm) (onePg 179 (cloneF 5 [.str [], .str [], .int .i64 0, .int .i64 0, .int .i64 0])) 43 (cloneF 5 [.str [], .str [], .int .i64 0, .int .i64 0, .int .i64 0]) = true := by kernel_rfl
#print axioms okAll
end Sg
namespace Sg
open Go Go.RowKit Go.Lib Go.Proofs
set_option linter.unusedVariables false
set_option linter.unusedSimpArgs false
set_option maxHeartbeats 4000000 in
set_option maxRecDepth 100000 in
theorem ins42_shift (b off n c i vb voff m vc : Nat) (cs vs : List Value) (w : World) (hi : i < n) (hm : 0 < m) (hroom : n + m ≤ c) (hlim : n + m ≤ 1073741824) (hvb : vb ≠ b)
    (hcl : cs.length = n * 5) (hvl : vs.length = m * 5)
    (hcs : ∀ j v, cs[j]? = some v → w.cell? ⟨b, off + j, none⟩ = some v) (hsp : ∀ j, j < (n + m) * 5 → (w.cell? ⟨b, off + j, none⟩).isSome = true) (hfz : ∀ j, w.frozen? ⟨b, j, none⟩ = false)
    (hvs : ∀ j v, vs[j]? = some v → w.cell? ⟨vb, voff + j, none⟩ = some v) (h1c : ∀ v ∈ cs, v.oneCell' = true) (h1v : ∀ v ∈ vs, v.oneCell' = true)
    (tA tB : TypeId) (kA kB : Nat) (hsa : w.shape? vb = some (tA, kA)) (hsb : w.shape? b = some (tB, kB)) (hkA : kA ≠ 0) :
    Calls Tryd.prog 42 #[.slice (some ⟨b, off, none⟩) n c, .int .i64 i, .slice (some ⟨vb, voff, none⟩) m vc] w fun e w' =>
      e = .returned (.slice (some ⟨b, off, none⟩) (n + m) c) ∧ w' = (w.drew.setCells b (off + (i + m) * 5) (cs.drop (i * 5))).setCells b (off + i * 5) vs := by
  have t0 := Tryd.underlying0; have t3 := Tryd.underlying3; have t4 := Tryd.underlying4; have t9 := Tryd.underlying29; have t24 := Tryd.underlying22
  have a0 := Tryd.isAgg0; have a3 := Tryd.isAgg3; have a4 := Tryd.isAgg4; have a9 := Tryd.isAgg29; have a24 := Tryd.isAgg22
  have z0 := Tryd.sizeOf0; have z3 := Tryd.sizeOf3; have z4 := Tryd.sizeOf4; have z9 := Tryd.sizeOf29; have z24 := Tryd.sizeOf22
  have v0 := Tryd.zeroValue0; have v3 := Tryd.zeroValue3; have v4 := Tryd.zeroValue4; have v24 := Tryd.zeroValue22
  have u0 := run_underlying t0; have u3 := run_underlying t3; have u4 := run_underlying t4; have u24 := run_underlying t24
  have hz1 : ¬ ((m : Int) = 0) := by omega
  have hz2 : ¬ ((i : Int) = (n : Int)) := by omega
  have hsz : (Tryd.prog.info? 29).map (·.size) = some 5 := by kernel_rfl
  have hov : ∀ lb cb, (callFunc 58 #[.slice (some ⟨vb, voff, none⟩) m vc, .slice (some ⟨b, off + (i + m) * 5, none⟩) lb cb]).run Tryd.prog w = .ok (.value (.bool false)) w := fun lb cb => by
    rw [run_callFunc_extern Tryd.func58 (by kernel_rfl) (by kernel_rfl) (by kernel_rfl) (e := Extern.SlicesOverlaps.overlaps #[22, 22] #[4]) (by kernel_rfl),
      run_overlaps_k w 22 4 29 t24 5 z9 ⟨vb, voff, none⟩ ⟨b, off + (i + m) * 5, none⟩ m vc lb cb hvb tA tB kA kB hsa hsb hkA (hfz _) (hfz _)]
    rfl
  have hdl : (cs.drop (i * 5)).length = (n - i) * 5 := by rw [List.length_drop, hcl]; omega
  have mixed : Tryd.prog.follows .mixedOrders = true := by kernel_rfl
  have hw1 : IntKind.i64.wrap ((i : Int) + (m : Int)) = (i : Int) + (m : Int) := by rw [IntKind.wrap_i64]; omega
  have hb1 : (0 : Int) ≤ (i : Int) + (m : Int) := by omega
  have hin : i ≤ n := by omega
  have htn : ((i : Int) + (m : Int)).toNat = i + m := by omega
  have hb2 : ¬ (c = i + m) := by omega
  have hb3 : (i : Int) ≤ (n : Int) + (m : Int) := by omega
  have hb4 : ¬ (c = i) := by omega
  have hcp1 : ∀ ty dc sc, (Builtin.copy_ #[22, 22] ty #[.slice (some ⟨b, off + (i + m) * 5, none⟩) (n + m - (i + m)) dc, .slice (some ⟨b, off + i * 5, none⟩) (n + m - i) sc]).run Tryd.prog w.drew = .ok (goInt (n - i : Nat)) (w.drew.setCells b (off + (i + m) * 5) (cs.drop (i * 5))) := fun ty dc sc =>
    run_copy_k 5 w.drew _ _ ty 29 b (off + (i + m) * 5) (n + m - (i + m)) dc ⟨b, off + i * 5, none⟩ (n + m - i) sc (cs.drop (i * 5)) (n - i) t24 hsz (by simp only [Nat.min_def]; split <;> omega) (by rw [hdl])
      (fun j v hj => by rw [Addr.add_lit, Nat.add_assoc]; exact hcs (i * 5 + j) v (by rwa [List.getElem?_drop] at hj))
      (fun j hj => by rw [Nat.add_assoc]; exact hsp _ (by omega)) (fun j hj => hfz _) (fun v hv => h1c v (List.mem_of_mem_drop hv))
  obtain ⟨W1, hW1⟩ : ∃ W1, W1 = w.drew.setCells b (off + (i + m) * 5) (cs.drop (i * 5)) := ⟨_, rfl⟩
  have hsp1 : ∀ k, k < (n + m) * 5 → (W1.cell? ⟨b, off + k, none⟩).isSome = true := fun k hk => by
    rw [hW1]
    exact isSome_setK b _ _ _ (fun j hj => by rw [Nat.add_assoc]; exact hsp _ (by omega)) _ (hsp k hk)
  have hcp2 : ∀ (W : World), (∀ x, W.cell? x = W1.cell? x) → (∀ x, W.frozen? x = W1.frozen? x) → ∀ ty dc, (Builtin.copy_ #[22, 22] ty #[.slice (some ⟨b, off + i * 5, none⟩) (n + m - i) dc, .slice (some ⟨vb, voff, none⟩) m vc]).run Tryd.prog W = .ok (goInt (m : Nat)) (W.setCells b (off + i * 5) vs) := fun W hWc hWf ty dc =>
    run_copy_k 5 W _ _ ty 29 b (off + i * 5) (n + m - i) dc ⟨vb, voff, none⟩ m vc vs m t24 hsz (by simp only [Nat.min_def]; split <;> omega) hvl
      (fun j v hj => by
        rw [Addr.add_lit, hWc, hW1, World.cell?_setCells_out b _ _ _ _ (fun h _ => absurd h hvb)]
        exact hvs j v hj)
      (fun j hj => by rw [hWc, Nat.add_assoc]; exact hsp1 _ (by omega)) (fun j hj => by rw [hWf, hW1, World.frozen?_setCells]; exact hfz _) h1v
  rw [← hW1] at hcp1
  go_enter Tryd.func42, Tryd.ntmps42
  go_wp2_with (simp only [hov])
  go_region_law_o (refine step_copy_k rfl _ _ 22 22 rfl _ _ (by simp [Act.eval, Act.put]) (by simp [Act.eval, Act.put]) (hcp1 _ _ _) ?_)
  go_wp2_with (at_builtin; refine wpList_copy_k _ rfl _ _ 22 22 rfl _ _ rfl rfl (hcp2 _ (fun _ => rfl) (fun _ => rfl) _ _) ?_)
  go_ret
  first | exact ⟨rfl, rfl⟩ | exact ⟨rfl, by rw [hW1]⟩
set_option maxHeartbeats 4000000 in
set_option maxRecDepth 100000 in
theorem ins42_end (base : Option Addr) (n c m vc : Nat) (vb : Option Addr) (w w' : World) (q : Value) (hm : 0 < m) (hnc : n ≤ c) (hlim : n + m ≤ 1073741824) (hnil : base = none → n = 0)
    (hrun : (Builtin.append_ #[22, 22] 22 #[.slice base n c, .slice vb m vc]).run Tryd.prog w = .ok q w') :
    Calls Tryd.prog 42 #[.slice base n c, .int .i64 n, .slice vb m vc] w fun e w1 => e = .returned q ∧ w1 = w' := by
  have t0 := Tryd.underlying0; have t3 := Tryd.underlying3; have t4 := Tryd.underlying4; have t9 := Tryd.underlying29; have t24 := Tryd.underlying22
  have a0 := Tryd.isAgg0; have a3 := Tryd.isAgg3; have a4 := Tryd.isAgg4; have a9 := Tryd.isAgg29; have a24 := Tryd.isAgg22
  have z0 := Tryd.sizeOf0; have z3 := Tryd.sizeOf3; have z4 := Tryd.sizeOf4; have z9 := Tryd.sizeOf29; have z24 := Tryd.sizeOf22
  have v0 := Tryd.zeroValue0; have v3 := Tryd.zeroValue3; have v4 := Tryd.zeroValue4; have v24 := Tryd.zeroValue22
  have u0 := run_underlying t0; have u3 := run_underlying t3; have u4 := run_underlying t4; have u24 := run_underlying t24
  have mixed : Tryd.prog.follows .mixedOrders = true := by kernel_rfl
  have hz1 : ¬ ((m : Int) = 0) := by omega
  go_enter Tryd.func42, Tryd.ntmps42
  cases base with
  | none =>
    have h0 := hnil rfl
    subst h0
    go_wp2_with (at_builtin; refine Lib.wpList_append_run _ rfl _ _ _ _ rfl _ _ rfl rfl _ _ hrun ?_)
    all_goals (go_ret; exact ⟨rfl, rfl⟩)
  | some a =>
    obtain ⟨ab, ao, asp⟩ := a
    go_wp2_with (at_builtin; refine Lib.wpList_append_run _ rfl _ _ _ _ rfl _ _ rfl rfl _ _ hrun ?_)
    all_goals (go_ret; exact ⟨rfl, rfl⟩)
set_option maxHeartbeats 4000000 in
set_option maxRecDepth 100000 in
theorem ins42_none (base : Option Addr) (n c i vc : Nat) (vb : Option Addr) (w : World) (hnc : n ≤ c) (hi : i ≤ n) (hnil : base = none → n = 0) :
    Calls Tryd.prog 42 #[.slice base n c, .int .i64 i, .slice vb 0 vc] w fun e w1 => e = .returned (.slice base n c) ∧ w1 = w := by
  have t0 := Tryd.underlying0; have t3 := Tryd.underlying3; have t4 := Tryd.underlying4; have t9 := Tryd.underlying29; have t24 := Tryd.underlying22
  have a0 := Tryd.isAgg0; have a3 := Tryd.isAgg3; have a4 := Tryd.isAgg4; have a9 := Tryd.isAgg29; have a24 := Tryd.isAgg22
  have z0 := Tryd.sizeOf0; have z3 := Tryd.sizeOf3; have z4 := Tryd.sizeOf4; have z9 := Tryd.sizeOf29; have z24 := Tryd.sizeOf22
  have v0 := Tryd.zeroValue0; have v3 := Tryd.zeroValue3; have v4 := Tryd.zeroValue4; have v24 := Tryd.zeroValue22
  have u0 := run_underlying t0; have u3 := run_underlying t3; have u4 := run_underlying t4; have u24 := run_underlying t24
  have mixed : Tryd.prog.follows .mixedOrders = true := by kernel_rfl
  go_enter Tryd.func42, Tryd.ntmps42
  cases base with
  | none =>
    have h0 := hnil rfl
    subst h0
    have hi0 : i = 0 := by omega
    subst hi0
    go_wp2
    all_goals (go_ret; exact ⟨rfl, rfl⟩)
  | some a =>
    obtain ⟨ab, ao, asp⟩ := a
    go_wp2
    all_goals (go_ret; exact ⟨rfl, rfl⟩)
set_option maxHeartbeats 4000000 in
set_option maxRecDepth 100000 in
theorem ins42_grow (b off n c i vb voff m vc : Nat) (cs vs : List Value) (w : World) (hi : i < n) (hm : 0 < m) (hnc : n ≤ c) (hroom : c < n + m) (hlim : n + m ≤ 1073741824)
    (hcl : cs.length = n * 5) (hvl : vs.length = m * 5) (hbw : b < w.heap.size) (hvw : vb < w.heap.size)
    (hcs : ∀ j v, cs[j]? = some v → w.cell? ⟨b, off + j, none⟩ = some v)
    (hvs : ∀ j v, vs[j]? = some v → w.cell? ⟨vb, voff + j, none⟩ = some v) (h1c : ∀ v ∈ cs, v.oneCell' = true) (h1v : ∀ v ∈ vs, v.oneCell' = true) :
    Calls Tryd.prog 42 #[.slice (some ⟨b, off, none⟩) n c, .int .i64 i, .slice (some ⟨vb, voff, none⟩) m vc] w fun e w' =>
      ∃ (G : Nat) (ROW : Array Value) (d1 : Nat), n + m ≤ G ∧ (n + m) * 5 ≤ ROW.size ∧ ROW.size = G * 5 ∧ (∀ (j : Nat) (v : Value), (cs.take (i * 5))[j]? = some v → ROW[j]? = some v) ∧ e = .returned (.slice (some ⟨w.heap.size, 0, none⟩) (n + m) G) ∧
      w' = ((({ w with drawn := d1 } : World).alloc (.cells ROW 29)).setCells w.heap.size (i * 5) vs).setCells w.heap.size ((i + m) * 5) (cs.drop (i * 5)) := by
  have t0 := Tryd.underlying0; have t3 := Tryd.underlying3; have t4 := Tryd.underlying4; have t9 := Tryd.underlying29; have t24 := Tryd.underlying22
  have a0 := Tryd.isAgg0; have a3 := Tryd.isAgg3; have a4 := Tryd.isAgg4; have a9 := Tryd.isAgg29; have a24 := Tryd.isAgg22
  have z0 := Tryd.sizeOf0; have z3 := Tryd.sizeOf3; have z4 := Tryd.sizeOf4; have z9 := Tryd.sizeOf29; have z24 := Tryd.sizeOf22
  have v0 := Tryd.zeroValue0; have v3 := Tryd.zeroValue3; have v4 := Tryd.zeroValue4; have v24 := Tryd.zeroValue22
  have u0 := run_underlying t0; have u3 := run_underlying t3; have u4 := run_underlying t4; have u24 := run_underlying t24
  have mixed : Tryd.prog.follows .mixedOrders = true := by kernel_rfl
  obtain ⟨i0, hi0, hz0, hzs, hzb⟩ : ∃ i0, Tryd.prog.info? 29 = some i0 ∧ i0.zero = some (Value.agg #[.string ⟨#[]⟩, .string ⟨#[]⟩, .int .i64 0, .int .i64 0, .int .i64 0]) ∧ i0.size = 5 ∧ i0.bytes = 56 := ⟨_, rfl, rfl, rfl, rfl⟩
  have hz1 : ¬ ((m : Int) = 0) := by omega
  have hz2 : ¬ ((i : Int) = (n : Int)) := by omega
  have hz3 : (c : Int) < (n : Int) + (m : Int) := by omega
  have hsz : (Tryd.prog.info? 29).map (·.size) = some 5 := by rw [hi0]; simp [hzs]
  have hkk : (n : Int) + (m : Int) - (i : Int) = ((n + m - i : Nat) : Int) := by omega
  have hik : i + (n + m - i) = n + m := by omega
  have hold : (Builtin.firstCells i0.size i (.slice (some ⟨b, off, none⟩) i c)).run Tryd.prog w.drew = .ok (cs.take (i * 5)).toArray w.drew := by
    rw [hzs]
    exact run_firstCells_some w.drew 5 i ⟨b, off, none⟩ i c (cs.take (i * 5)) (by rw [List.length_take]; omega) (fun j v hj => by
      rw [Addr.add_lit]
      rw [List.getElem?_take] at hj
      split at hj
      · exact hcs j v hj
      · cases hj)
  have hrz : ∀ ty, (Builtin.append_ #[22, 3] ty #[.slice (some ⟨b, off, none⟩) i c, .int .i64 ((n : Int) + (m : Int) - (i : Int))]).run Tryd.prog w =
      .ok (.slice (some ⟨w.heap.size, 0, none⟩) (n + m) (grownCap w (n + m) c 29)) (w.drew.alloc (.cells ((cs.take (i * 5)).toArray ++ Builtin.zeroCells (Value.agg #[.string ⟨#[]⟩, .string ⟨#[]⟩, .int .i64 0, .int .i64 0, .int .i64 0]).cells (n + m - i) ++ Builtin.zeroCells (Value.agg #[.string ⟨#[]⟩, .string ⟨#[]⟩, .int .i64 0, .int .i64 0, .int .i64 0]).cells (grownCap w (n + m) c 29 - (n + m))) 29)) := fun ty => by
    have h := Lib.run_append_grow_zeros w 22 3 ty 29 i0 _ .i64 .i64 t24 t3 hi0 hz0 (some ⟨b, off, none⟩) i c (cs.take (i * 5)) hold (n + m - i) (by omega) (by omega) (by omega) (by omega) (by rw [hzb]; omega) (by rw [hzb, hik]; exact growslice_fits hroom (by omega))
    rw [hik] at h
    rw [hkk]
    exact h
  obtain ⟨G, hG⟩ : ∃ G, G = grownCap w (n + m) c 29 := ⟨_, rfl⟩
  obtain ⟨ROW, hROW⟩ : ∃ ROW : Array Value, ROW = (cs.take (i * 5)).toArray ++ Builtin.zeroCells (Value.agg #[.string ⟨#[]⟩, .string ⟨#[]⟩, .int .i64 0, .int .i64 0, .int .i64 0]).cells (n + m - i) ++ Builtin.zeroCells (Value.agg #[.string ⟨#[]⟩, .string ⟨#[]⟩, .int .i64 0, .int .i64 0, .int .i64 0]).cells (G - (n + m)) := ⟨_, rfl⟩
  rw [← hG] at hrz
  rw [← hROW] at hrz
  have hGn : n + m ≤ G := by rw [hG]; exact grownCap_ge w _ _ _
  have hzc : ∀ k, (Builtin.zeroCells (Value.agg #[.string ⟨#[]⟩, .string ⟨#[]⟩, .int .i64 0, .int .i64 0, .int .i64 0]).cells k).size = k * 5 := fun k => by
    simp [Builtin.zeroCells, Value.cells]
  have hRs : ROW.size = G * 5 := by
    rw [hROW, Array.size_append, Array.size_append, hzc, hzc, List.size_toArray, List.length_take]
    omega
  have hRl : (n + m) * 5 ≤ ROW.size := by rw [hRs]; omega
  have hRt : ∀ j v, (cs.take (i * 5))[j]? = some v → ROW[j]? = some v := fun j v hj => by
    have hjl : j < (cs.take (i * 5)).length := by
      rcases Nat.lt_or_ge j (cs.take (i * 5)).length with h | h
      · exact h
      · rw [List.getElem?_eq_none h] at hj; simp at hj
    rw [hROW, Array.append_assoc, Array.getElem?_append_left (by simpa using hjl)]
    simpa using hj
  obtain ⟨W1, hW1⟩ : ∃ W1, W1 = w.drew.alloc (.cells ROW 29) := ⟨_, rfl⟩
  rw [← hW1] at hrz
  have hN : ∀ j, j < (n + m) * 5 → (W1.cell? ⟨w.heap.size, j, none⟩).isSome = true := fun j hj => by
    rw [hW1, World.cell?_alloc_at (w := w.drew) ROW _ w.heap.size j rfl, Array.getElem?_eq_getElem (by omega)]; rfl
  have hNf : ∀ j, W1.frozen? ⟨w.heap.size, j, none⟩ = false := fun j => by rw [hW1]; exact World.frozen?_alloc_at (w := w.drew) ROW _ w.heap.size j rfl
  have hOb : ∀ j v, w.cell? ⟨b, j, none⟩ = some v → W1.cell? ⟨b, j, none⟩ = some v := fun j v h => by rw [hW1, World.cell?_alloc_past (w := w.drew) _ b j hbw]; exact h
  have hOv : ∀ j v, w.cell? ⟨vb, j, none⟩ = some v → W1.cell? ⟨vb, j, none⟩ = some v := fun j v h => by rw [hW1, World.cell?_alloc_past (w := w.drew) _ vb j hvw]; exact h
  have hcpA : ∀ (W : World), (∀ x, W.cell? x = W1.cell? x) → (∀ x, W.frozen? x = W1.frozen? x) → ∀ ty dc, (Builtin.copy_ #[22, 22] ty #[.slice (some ⟨w.heap.size, i * 5, none⟩) (n + m - i) dc, .slice (some ⟨vb, voff, none⟩) m vc]).run Tryd.prog W = .ok (goInt (m : Nat)) (W.setCells w.heap.size (i * 5) vs) := fun W hWc hWf ty dc =>
    run_copy_k 5 W _ _ ty 29 w.heap.size (i * 5) (n + m - i) dc ⟨vb, voff, none⟩ m vc vs m t24 hsz (by simp only [Nat.min_def]; split <;> omega) hvl
      (fun j v hj => by rw [Addr.add_lit, hWc]; exact hOv _ v (hvs j v hj))
      (fun j hj => by rw [hWc]; exact hN _ (by omega)) (fun j hj => by rw [hWf]; exact hNf _) h1v
  have hG63 : G ≤ 9223372036854775807 := by
    have := grownCap_le_maxLen w (n + m) c 29 (by unfold maxLen; omega)
    rw [← hG] at this
    unfold maxLen at this
    omega
  have hGi : ¬ (G = i) := by omega
  have hGim : ¬ (G = i + m) := by omega
  have hci : ¬ (c = i) := by omega
  have hbN : b ≠ w.heap.size := by omega
  have hdl : (cs.drop (i * 5)).length = (n - i) * 5 := by rw [List.length_drop, hcl]; omega
  have hcpB : ∀ (W : World), (∀ x, W.cell? x = (W1.setCells w.heap.size (i * 5) vs).cell? x) → (∀ x, W.frozen? x = (W1.setCells w.heap.size (i * 5) vs).frozen? x) → ∀ ty dc sc, (Builtin.copy_ #[22, 22] ty #[.slice (some ⟨w.heap.size, (i + m) * 5, none⟩) (n + m - (i + m)) dc, .slice (some ⟨b, off + i * 5, none⟩) (n - i) sc]).run Tryd.prog W = .ok (goInt (n - i : Nat)) (W.setCells w.heap.size ((i + m) * 5) (cs.drop (i * 5))) := fun W hWc hWf ty dc sc =>
    run_copy_k 5 W _ _ ty 29 w.heap.size ((i + m) * 5) (n + m - (i + m)) dc ⟨b, off + i * 5, none⟩ (n - i) sc (cs.drop (i * 5)) (n - i) t24 hsz (by simp only [Nat.min_def]; split <;> omega) hdl
      (fun j v hj => by
        rw [Addr.add_lit, hWc, World.cell?_setCells_out _ _ _ _ _ (fun h _ => absurd h hbN), Nat.add_assoc]
        exact hOb _ v (hcs (i * 5 + j) v (by rwa [List.getElem?_drop] at hj)))
      (fun j hj => by rw [hWc]; exact isSome_setK _ _ _ _ (fun t ht => hN _ (by omega)) _ (hN _ (by omega)))
      (fun j hj => by rw [hWf, World.frozen?_setCells]; exact hNf _) (fun v hv => h1c v (List.mem_of_mem_drop hv))
  subst hW1
  have hE1 : ∀ x, ((w.alloc (.cells ROW 29)).drew).cell? x = (w.drew.alloc (.cells ROW 29)).cell? x := fun x => rfl
  have hE2 : ∀ x, ((w.alloc (.cells ROW 29)).drew).frozen? x = (w.drew.alloc (.cells ROW 29)).frozen? x := fun x => rfl
  have hF1 : ∀ x, (((w.alloc (.cells ROW 29)).drew.setCells w.heap.size (i * 5) vs).drew).cell? x = ((w.drew.alloc (.cells ROW 29)).setCells w.heap.size (i * 5) vs).cell? x := fun x => rfl
  have hF2 : ∀ x, (((w.alloc (.cells ROW 29)).drew.setCells w.heap.size (i * 5) vs).drew).frozen? x = ((w.drew.alloc (.cells ROW 29)).setCells w.heap.size (i * 5) vs).frozen? x := fun x => rfl
  have hw1 : IntKind.i64.wrap ((i : Int) + (m : Int)) = (i : Int) + (m : Int) := by rw [IntKind.wrap_i64]; omega
  have hb1 : (0 : Int) ≤ (i : Int) + (m : Int) := by omega
  have hin : i ≤ n := by omega
  have htn : ((i : Int) + (m : Int)).toNat = i + m := by omega
  have hb3 : (i : Int) ≤ (n : Int) := by omega
  clear hkk hik hold hROW hG
  go_enter Tryd.func42, Tryd.ntmps42
  go_wp2_with (first
    | (at_builtin; refine Lib.wpList_append_run _ rfl _ _ _ _ rfl _ _ rfl rfl _ _ (hrz _) ?_)
    | (at_builtin; refine wpList_copy_k _ rfl _ _ 22 22 rfl _ _ rfl rfl (hcpA _ hE1 hE2 _ _) ?_)
    | (at_builtin; refine wpList_copy_k _ rfl _ _ 22 22 rfl _ _ rfl rfl (hcpB _ (fun _ => rfl) (fun _ => rfl) _ _ _) ?_))
  go_region_law_o (refine step_copy_k rfl _ _ 22 22 rfl (.slice (some ⟨w.heap.size, (i + m) * 5, none⟩) (n + m - (i + m)) (G - (i + m))) (.slice (some ⟨b, off + i * 5, none⟩) (n - i) (c - i)) (by simp [Act.eval, Act.put]) (by simp [Act.eval, Act.put]) (hcpB _ hF1 hF2 3 (G - (i + m)) (c - i)) ?_)
  go_wp2
  go_ret
  exact ⟨G, ROW, w.drew.drew.drawn, hGn, hRl, hRs, hRt, rfl, by first | rfl | (rw [drew_setK]; rfl) | (simp only [drew_setK]; rfl)⟩
theorem insC42 : InsC Tryd.prog 42 5 22 29 where
  ent := ⟨Tryd.f42, Tryd.func42, by kernel_rfl, by kernel_rfl⟩
  hS := Tryd.underlying22
  hz := by kernel_rfl
  pos := by decide
  info := ⟨_, (Value.agg #[.string ⟨#[]⟩, .string ⟨#[]⟩, .int .i64 0, .int .i64 0, .int .i64 0]), rfl, by decide, rfl, rfl⟩
  nothing := fun base n c i vc vb w h1 h2 h3 => ins42_none base n c i vc vb w h1 h2 h3
  end_ := fun base n c m vc vb w w' q h1 h2 h3 h4 h5 => ins42_end base n c m vc vb w w' q h1 h2 h3 h4 h5
  shift := fun b off n c i vb voff m vc cs vs w h1 h2 h3 h4 h5 h6 h7 h8 h9 h10 h11 h12 h13 tA tB kA kB h14 h15 h16 => ins42_shift b off n c i vb voff m vc cs vs w h1 h2 h3 h4 h5 h6 h7 h8 h9 h10 h11 h12 h13 tA tB kA kB h14 h15 h16
  grow := fun b off n c i vb voff m vc cs vs w h1 h2 h3 h4 h5 h6 h7 h8 h9 h10 h11 h12 h13 => ins42_grow b off n c i vb voff m vc cs vs w h1 h2 h3 h4 h5 h6 h7 h8 h9 h10 h11 h12 h13
set_option maxHeartbeats 4000000 in
set_option maxRecDepth 100000 in
theorem del44_none (base : Option Addr) (n c i : Nat) (w : World) (hnc : n ≤ c) (hi : i ≤ n) (hnil : base = none → n = 0) :
    Calls Tryd.prog 44 #[.slice base n c, .int .i64 i, .int .i64 i] w fun e w1 => e = .returned (.slice base n c) ∧ w1 = w := by
  have t0 := Tryd.underlying0; have t3 := Tryd.underlying3; have t4 := Tryd.underlying4; have t9 := Tryd.underlying29; have t24 := Tryd.underlying22
  have a0 := Tryd.isAgg0; have a3 := Tryd.isAgg3; have a4 := Tryd.isAgg4; have a9 := Tryd.isAgg29; have a24 := Tryd.isAgg22
  have z0 := Tryd.sizeOf0; have z3 := Tryd.sizeOf3; have z4 := Tryd.sizeOf4; have z9 := Tryd.sizeOf29; have z24 := Tryd.sizeOf22
  have v0 := Tryd.zeroValue0; have v3 := Tryd.zeroValue3; have v4 := Tryd.zeroValue4; have v24 := Tryd.zeroValue22
  have u0 := run_underlying t0; have u3 := run_underlying t3; have u4 := run_underlying t4; have u24 := run_underlying t24
  have mixed : Tryd.prog.follows .mixedOrders = true := by kernel_rfl
  go_enter Tryd.func44, Tryd.ntmps44
  cases base with
  | none =>
    have h0 := hnil rfl
    subst h0
    have hi0 : i = 0 := by omega
    subst hi0
    go_wp2
    all_goals (go_ret; exact ⟨rfl, rfl⟩)
  | some a =>
    obtain ⟨ab, ao, asp⟩ := a
    go_wp2
    all_goals (go_ret; exact ⟨rfl, rfl⟩)
set_option maxHeartbeats 4000000 in
set_option maxRecDepth 100000 in
theorem del44_cut (b off n c i j : Nat) (cs : List Value) (w : World) (hij : i < j) (hj : j ≤ n) (hnc : n ≤ c) (hlim : n ≤ 1073741824) (hcl : cs.length = n * 5)
    (hcs : ∀ (j : Nat) (v : Value), cs[j]? = some v → w.cell? ⟨b, off + j, none⟩ = some v) (hfz : ∀ j, w.frozen? ⟨b, j, none⟩ = false) (h1c : ∀ v ∈ cs, v.oneCell' = true) :
    Calls Tryd.prog 44 #[.slice (some ⟨b, off, none⟩) n c, .int .i64 i, .int .i64 j] w fun e w' =>
      e = .returned (.slice (some ⟨b, off, none⟩) (n - (j - i)) c) ∧ ∃ (d1 : Nat) (zs : List Value), zs.length = (j - i) * 5 ∧ (∀ v ∈ zs, v.oneCell' = true) ∧
      w' = ((({ w with drawn := d1 } : World)).setCells b (off + i * 5) (cs.drop (j * 5))).setCells b (off + (n - (j - i)) * 5) zs := by
  have t0 := Tryd.underlying0; have t3 := Tryd.underlying3; have t4 := Tryd.underlying4; have t9 := Tryd.underlying29; have t24 := Tryd.underlying22
  have a0 := Tryd.isAgg0; have a3 := Tryd.isAgg3; have a4 := Tryd.isAgg4; have a9 := Tryd.isAgg29; have a24 := Tryd.isAgg22
  have z0 := Tryd.sizeOf0; have z3 := Tryd.sizeOf3; have z4 := Tryd.sizeOf4; have z9 := Tryd.sizeOf29; have z24 := Tryd.sizeOf22
  have v0 := Tryd.zeroValue0; have v3 := Tryd.zeroValue3; have v4 := Tryd.zeroValue4; have v24 := Tryd.zeroValue22
  have u0 := run_underlying t0; have u3 := run_underlying t3; have u4 := run_underlying t4; have u24 := run_underlying t24
  have mixed : Tryd.prog.follows .mixedOrders = true := by kernel_rfl
  obtain ⟨i0, hi0, hzs, hzb⟩ : ∃ i0, Tryd.prog.info? 29 = some i0 ∧ i0.size = 5 ∧ i0.bytes = 56 := ⟨_, rfl, rfl, rfl⟩
  have hv9 : ∀ w, (zeroValue 29).run Tryd.prog w = .ok (Value.agg #[.string ⟨#[]⟩, .string ⟨#[]⟩, .int .i64 0, .int .i64 0, .int .i64 0]) w := Tryd.zeroValue29
  obtain ⟨news, hnews⟩ : ∃ news, news = cs.drop (j * 5) := ⟨_, rfl⟩
  have hlen : news.length = (n - j) * 5 := by rw [hnews, List.length_drop, hcl]; omega
  obtain ⟨A, hA, hsrc⟩ : ∃ A : Addr, (if c = j then some (⟨b, off, none⟩ : Addr) else some ⟨b, off + j * 5, none⟩) = some A ∧ Hid (∀ t u, news[t]? = some u → w.drew.cell? (A.add t) = some u) := by
    by_cases h : c = j
    · refine ⟨⟨b, off, none⟩, by simp [h], fun t u hu => ?_⟩
      have h0 : news.length = 0 := by rw [hlen]; omega
      rw [List.length_eq_zero_iff.1 h0] at hu
      simp at hu
    · refine ⟨⟨b, off + j * 5, none⟩, by simp [h], fun t u hu => ?_⟩
      rw [Addr.add_lit, Nat.add_assoc]
      refine hcs (j * 5 + t) u ?_
      rw [hnews, List.getElem?_drop] at hu
      exact hu
  have s1 : Hid (news.length = (n - j) * 5) := hlen
  have s2 : Hid (∀ u ∈ news, u.oneCell' = true) := fun u hu => h1c u (List.mem_of_mem_drop (hnews ▸ hu))
  have hcell : ∀ k, k < n * 5 → (w.cell? ⟨b, off + k, none⟩).isSome = true := fun k hk => by
    have hk' : k < cs.length := by omega
    rw [hcs k cs[k] (by simp)]; rfl
  have s3 : Hid (∀ t, t < news.length → (w.drew.cell? ⟨b, off + i * 5 + t, none⟩).isSome = true ∧ w.drew.frozen? ⟨b, off + i * 5 + t, none⟩ = false) := by
    intro t ht
    rw [hlen] at ht
    rw [Nat.add_assoc]
    exact ⟨hcell _ (by omega), hfz _⟩
  obtain ⟨W1, hW1⟩ : ∃ W1, W1 = w.drew.setCells b (off + i * 5) news := ⟨_, rfl⟩
  have hZl : ∀ k, (Builtin.zeroCells (Value.agg #[.string ⟨#[]⟩, .string ⟨#[]⟩, .int .i64 0, .int .i64 0, .int .i64 0]).cells k).toList.length = k * 5 := fun k => by simp [Builtin.zeroCells, Value.cells]
  have hZ1 : ∀ k, ∀ v ∈ (Builtin.zeroCells (Value.agg #[.string ⟨#[]⟩, .string ⟨#[]⟩, .int .i64 0, .int .i64 0, .int .i64 0]).cells k).toList, v.oneCell' = true := fun k v hv => zero_one (by decide) hv
  have hcl2 : ∀ ty, (Builtin.clear_ #[22] ty #[.slice (some ⟨b, off + (i + (n - j)) * 5, none⟩) (n - (i + (n - j))) (c - (i + (n - j)))]).run Tryd.prog W1 = .ok (.tuple #[]) (W1.setCells b (off + (i + (n - j)) * 5) (Builtin.zeroCells (Value.agg #[.string ⟨#[]⟩, .string ⟨#[]⟩, .int .i64 0, .int .i64 0, .int .i64 0]).cells (n - (i + (n - j)))).toList) := fun ty =>
    run_clear_k W1 22 29 ty _ t24 hv9 b _ _ _ (by omega) (hZ1 _) (fun k hk => by
      rw [hZl] at hk
      rw [hW1]
      refine isSome_setK b _ _ _ (fun t ht => ?_) _ ?_
      · rw [hlen] at ht; rw [Nat.add_assoc]; exact hcell _ (by omega)
      · rw [Nat.add_assoc]; exact hcell _ (by omega)) (fun k => by rw [hW1, World.frozen?_setCells]; exact hfz k)
  have hW : Hid (W1 = w.drew.setCells b (off + i * 5) news) := hW1
  have X : Hid (news = cs.drop (j * 5)) := hnews
  have Y1 := hZl (n - (i + (n - j)))
  have Y2 := hZ1 (n - (i + (n - j)))
  obtain ⟨ZS, hZS⟩ : ∃ ZS, ZS = (Builtin.zeroCells (Value.agg #[.string ⟨#[]⟩, .string ⟨#[]⟩, .int .i64 0, .int .i64 0, .int .i64 0]).cells (n - (i + (n - j)))).toList := ⟨_, rfl⟩
  rw [← hZS] at hcl2 Y1 Y2
  have Y1h : Hid (ZS.length = (n - (i + (n - j))) * 5) := Y1
  have Y2h : Hid (∀ v ∈ ZS, v.oneCell' = true) := Y2
  have hic : i ≤ c := by omega
  have hjc : j ≤ c := by omega
  have heq : ¬ ((i : Int) = (j : Int)) := by omega
  clear hW1 hnews hlen Y1 Y2 hZS hZl hZ1 hcell hcs hcl h1c
  go_enter Tryd.func44, Tryd.ntmps44
  go_wp2_with fail
  go_region_law_o (refine step_append_room rfl (.tmp 22) (.tmp 25) 22 rfl 29 i0 5 t24 hi0 hzs b off i c (by simp [Act.eval, Act.put]) A (n - j) (c - j) news (by simp [Act.eval, Act.put]) s1.out hsrc.out s2.out (by omega) s3.out ?_; rw [← hW.out])
  go_wp2
  go_ret
  refine ⟨by rw [show n - (j - i) = i + (n - j) by omega]; rfl, w.drew.drawn, ZS, ?_, Y2h.out, ?_⟩
  · rw [Y1h.out]; congr 1; omega
  · rw [← X.out, show n - (j - i) = i + (n - j) by omega]
    have : ({ w with drawn := w.drew.drawn } : World) = w.drew := rfl
    rw [this, ← hW.out]
theorem delC44 : DelC Tryd.prog 44 5 where
  ent := ⟨Tryd.f44, Tryd.func44, by kernel_rfl, by kernel_rfl⟩
  pos := by decide
  nothing := fun base n c i w h1 h2 h3 => del44_none base n c i w h1 h2 h3
  cut := fun b off n c i j cs w h1 h2 h3 h4 h5 h6 h7 h8 => del44_cut b off n c i j cs w h1 h2 h3 h4 h5 h6 h7 h8
end Sg
namespace Sg
open _root_.Go (IntKind BinOp UnOp)
set_option linter.unusedSimpArgs false
set_option linter.unusedVariables false
theorem lt_of {i n : Nat} (h : decide ((i : Int) < (n : Int)) = true) : i < n := by simpa using h
theorem eq_of {i n : Nat} (hi : i ≤ n) (h : decide ((i : Int) < (n : Int)) = false) : i = n := by
  have : ¬ i < n := by simpa using h
  omega
theorem inc64 {i n : Nat} (h : i < n) (hn : n < 2 ^ 60) : IntKind.i64.wrap ((i : Int) + 1) = ((i + 1 : Nat) : Int) := wrap64 (by omega) (by omega)
theorem take_s {α : Type} {l : List α} {i : Nat} {x : α} (h : l[i]? = some x) : l.take (i + 1) = l.take i ++ [x] := by rw [List.take_add_one, h]; rfl
theorem posd {n : Nat} : decide ((0 : Int) < (n : Int)) = !decide (n = 0) := by cases n <;> simp
end Sg
namespace Sg
def datO : Option (List V × Bool) → Bool
  | some m => m.1.all V.datC
  | none => true
theorem datsite_o {μ s} : datSite μ s = datO (μ s) := rfl
theorem dato_s {cs b} : datO (some (cs, b)) = cs.all V.datC := rfl
def capO (s : Nat) (sites : List Nat) : Option (List V × Bool) → Option V
  | some (cs, _) => if sites.contains s ∧ cs.all V.datC then some (.cptr cs 0) else none
  | none => none
theorem capv_l {μ sites s} : capV μ sites (.lref s 0) = capO s sites (μ s) := by
  unfold capV capO; rfl
theorem capo_s {s sites cs b} : capO s sites (some (cs, b)) = if sites.contains s ∧ cs.all V.datC then some (.cptr cs 0) else none := rfl
theorem capv_i {μ sites k n} : capV μ sites (.int k n) = some (.int k n) := rfl
theorem capv_b {μ sites n} : capV μ sites (.bool n) = some (.bool n) := rfl
theorem capv_s {μ sites n} : capV μ sites (.str n) = some (.str n) := rfl
theorem capv_r {μ sites z n} : capV μ sites (.slice z n) = some (.slice z n) := rfl
theorem frzm_nil {μ} : frzM μ [] = μ := rfl
theorem frzm_cons {μ s l} : frzM μ (s :: l) = frzM (upd μ s ((μ s).map fun m => (m.1, true))) l := rfl
def stE (S : St) (s i off m : Nat) (xs : List V) : Option (Nat × List (List V) × Fz) → Option St
  | some (z, rows, .live) => if rows.length = m then (rows[i]?).bind fun r => (setAt r off xs).bind fun r' => some { S with A := upd S.A s (some (z, rows.set i r', .live)) } else none
  | _ => none
theorem ste_s {S : St} {s i off m : Nat} {xs : List V} {z rows} : stE S s i off m xs (some (z, rows, .live)) = if rows.length = m then (rows[i]?).bind fun r => (setAt r off xs).bind fun r' => some ⟨S.ρ, S.μ, upd S.A s (some (z, rows.set i r', .live))⟩ else none := rfl
theorem st_e {S : St} {s n i off m x} : storeV S (.e s) n (.eref s i off m) x = x.cells.bind fun xs => if xs.length = n then (if xs.all V.datC then stE S s i off m xs (S.A s) else none) else none := by
  unfold storeV
  congr 1; funext xs
  split
  · simp only [true_and]
    split
    · unfold stE; rfl
    · rfl
  · rfl
def insA (S : St) (s z n k : Nat) (ys : List (List V)) : Option (Nat × List (List V) × Fz) → Option (V × St)
  | some (z3, rows, .live) => if z3 = z ∧ rows.length = n ∧ k ≤ n ∧ rows.length + ys.length ≤ lim then
      some (.own s z (rows.length + ys.length), { S with A := upd S.A s (some (z, rows.take k ++ (ys ++ rows.drop k), .live)) }) else none
  | _ => none
theorem insa_s {S : St} {s z n k : Nat} {ys rows} : insA S s z n k ys (some (z, rows, .live)) = if rows.length = n ∧ k ≤ n ∧ rows.length + ys.length ≤ lim then
      some (.own s z (rows.length + ys.length), ⟨S.ρ, S.μ, upd S.A s (some (z, rows.take k ++ (ys ++ rows.drop k), .live))⟩) else none := by simp [insA]
def insV (S : St) (s z : Nat) : V → V → V → Option (V × St)
  | .own s' z' n, .int .i64 k, .slice z'' ys => if s' = s ∧ z' = z ∧ z'' = z then (if 0 ≤ k then insA S s z n k.toNat ys (S.A s) else none) else none
  | _, _, _ => none
theorem insv_o {S : St} {s z n k : Nat} {ys} : insV S s z (.own s z n) (.int .i64 (k : Int)) (.slice z ys) = insA S s z n k ys (S.A s) := by simp [insV]
def delA (S : St) (d s z n k m : Nat) : Option (Nat × List (List V) × Fz) → Option (Nat × List (List V) × Fz) → Option (V × St)
  | some (z3, rows, .live), none => if z3 = z ∧ rows.length = n ∧ k ≤ m ∧ m ≤ n ∧ n ≤ lim then
      some (.own d z (rows.take k ++ rows.drop m).length, { S with A := upd (upd S.A s (some (z, [], .dead))) d (some (z, rows.take k ++ rows.drop m, .live)) }) else none
  | _, _ => none
theorem dela_s {S : St} {d s z n k m : Nat} {rows} : delA S d s z n k m (some (z, rows, .live)) none = if rows.length = n ∧ k ≤ m ∧ m ≤ n ∧ n ≤ lim then
      some (.own d z (rows.take k ++ rows.drop m).length, ⟨S.ρ, S.μ, upd (upd S.A s (some (z, [], .dead))) d (some (z, rows.take k ++ rows.drop m, .live))⟩) else none := by simp [delA]
def delV (S : St) (d s z : Nat) : V → V → V → Option (V × St)
  | .own s' z' n, .int .i64 k, .int .i64 m => if s' = s ∧ z' = z then (if 0 ≤ k ∧ 0 ≤ m then delA S d s z n k.toNat m.toNat (S.A s) (S.A d) else none) else none
  | _, _, _ => none
theorem delv_o {S : St} {d s z n k m : Nat} : delV S d s z (.own s z n) (.int .i64 (k : Int)) (.int .i64 (m : Int)) = delA S d s z n k m (S.A s) (S.A d) := by simp [delV]
section
variable {κ : Nat → List V → Option V} {S : St} {Q : St → Prop} {e : Nat → V} {i : Nat} {ops : List Op}
theorem wr_ins {dst : Option Nat} {gl : Bool} {f s z : Nat} {x y j : Arg} : Wr κ (⟨dst, gl, .ins f s z x j y, none⟩ :: ops) i e S Q = WrO κ dst gl ops i e Q (insV S s z (argv e S.ρ x) (argv e S.ρ j) (argv e S.ρ y)) := by
  rw [wr_op]
  congr 1
  simp only [ev, insV]
  split
  · rename_i s' z' n k z'' ys h1 h2 h3
    rw [h1, h2, h3]
    simp only
    split
    · unfold insA
      by_cases hk : 0 ≤ k
      · have e1 : ∀ n : Nat, (k ≤ (n : Int)) = (k.toNat ≤ n) := fun n => propext (by omega)
        simp only [hk, true_and, if_true, e1]
        rcases S.A s with _ | ⟨z3, rows, fz⟩
        · rfl
        · cases fz <;> rfl
      · simp only [hk, false_and, and_false, if_false]
        rcases S.A s with _ | ⟨z3, rows, fz⟩
        · rfl
        · cases fz <;> simp
    · rfl
  · rename_i h
    split
    · rename_i s' z' n k z'' ys h1 h2 h3; exact absurd h3 (h s' z' n k z'' ys h1 h2)
    · rfl
theorem wr_del {dst : Option Nat} {gl : Bool} {f s z : Nat} {x y j : Arg} : Wr κ (⟨dst, gl, .del f s z x j y, none⟩ :: ops) i e S Q = WrO κ dst gl ops i e Q (delV S (dst.getD 0) s z (argv e S.ρ x) (argv e S.ρ j) (argv e S.ρ y)) := by
  rw [wr_op]
  congr 1
  simp only [ev, delV]
  split
  · rename_i s' z' n k m h1 h2 h3
    rw [h1, h2, h3]
    simp only
    split
    · unfold delA
      by_cases hk : 0 ≤ k
      · by_cases hm : 0 ≤ m
        · have e1 : (k ≤ m) = (k.toNat ≤ m.toNat) := propext (by omega)
          have e2 : ∀ n : Nat, (m ≤ (n : Int)) = (m.toNat ≤ n) := fun n => propext (by omega)
          simp only [hk, hm, and_self, true_and, if_true, e1, e2]
          rcases S.A s with _ | ⟨z3, rows, fz⟩
          · rfl
          · cases fz <;> cases S.A (dst.getD 0) <;> rfl
        · have e3 : ∀ (p q : Prop), (p ∧ q ∧ k ≤ m) ↔ False := fun p q => ⟨fun h => by omega, fun h => h.elim⟩
          have e4 : ¬ (k ≤ m) := by omega
          simp only [hk, hm, e4, and_false, false_and, if_false]
          rcases S.A s with _ | ⟨z3, rows, fz⟩
          · rfl
          · cases fz <;> cases S.A (dst.getD 0) <;> simp
      · simp only [hk, false_and, and_false, if_false]
        rcases S.A s with _ | ⟨z3, rows, fz⟩
        · rfl
        · cases fz <;> cases S.A (dst.getD 0) <;> simp
    · rfl
  · rename_i h
    split
    · rename_i s' z' n k m h1 h2 h3; exact absurd h3 (h s' z' n k m h1 h2)
    · rfl
end
theorem iad_r0 {z rows k} : iadV z (.slice z rows) (.int k 0) = (rows[0]?).map fun r => .cptr r 0 := by simp [iadV]
theorem iad_r1 {z rows k} : iadV z (.slice z rows) (.int k 1) = (rows[1]?).map fun r => .cptr r 0 := by simp [iadV]
theorem iad_r2 {z rows k} : iadV z (.slice z rows) (.int k 2) = (rows[2]?).map fun r => .cptr r 0 := by simp [iadV]
theorem bound_0 {k d} : bound (some (.int k 0)) d = some 0 := rfl
theorem bound_1 {k d} : bound (some (.int k 1)) d = some 1 := rfl
theorem bound_2 {k d} : bound (some (.int k 2)) d = some 2 := rfl
attribute [go_sem] iad_r0 iad_r1 iad_r2 bound_0 bound_1 bound_2
attribute [go_sem] ste_s st_e insa_s insv_o dela_s delv_o
attribute [go_sem high] wr_ins wr_del
attribute [go_sem] datsite_o dato_s capv_l capo_s capv_i capv_b capv_s capv_r frzm_nil frzm_cons
end Sg
namespace Sg
open _root_.Go
set_option linter.unusedSimpArgs false
set_option linter.unusedVariables false
theorem decodeN_w (n a b c d : Nat) : 1 ≤ (Lib.decodeN n a b c d).2 ∧ (Lib.decodeN n a b c d).2 ≤ 4 := by
  unfold Lib.decodeN
  repeat' split
  all_goals simp
theorem dN_pos (l : List UInt8) : 1 ≤ (dN l).2 := (decodeN_w ..).1
def bad (l : List UInt8) : Bool := decide (dN l = (65533, 1))
def letsF : Nat → List UInt8 → List Int
  | 0, _ => []
  | f + 1, l => if l = [] then [] else ((dN l).1 : Int) :: letsF f (l.drop (dN l).2)
def lets (l : List UInt8) : List Int := letsF l.length l
theorem drop_lt {l : List UInt8} (h : l ≠ []) : (l.drop (dN l).2).length < l.length := by
  have := dN_pos l
  have : 0 < l.length := List.length_pos_iff.2 h
  rw [List.length_drop]; omega
theorem letsF_eq : ∀ (f : Nat) (l : List UInt8), l.length ≤ f → letsF f l = lets l
  | 0, l, h => by
    obtain rfl : l = [] := List.eq_nil_of_length_eq_zero (by omega)
    rfl
  | f + 1, l, h => by
    by_cases hl : l = []
    · subst hl; simp [letsF, lets]
    · have hd := drop_lt hl
      have h1 := letsF_eq f (l.drop (dN l).2) (by omega)
      obtain ⟨n, hn⟩ : ∃ n, l.length = n + 1 := ⟨l.length - 1, by omega⟩
      have h2 : letsF n (l.drop (dN l).2) = lets (l.drop (dN l).2) := letsF_eq n _ (by omega)
      have e : lets l = ((dN l).1 : Int) :: letsF n (l.drop (dN l).2) := by
        rw [lets, hn]; simp only [letsF, hl, if_false]
      rw [e, h2]
      simp only [letsF, hl, if_false, h1]
  termination_by f => f
theorem lets_nil : lets [] = [] := rfl
theorem lets_cons {l : List UInt8} (h : l ≠ []) : lets l = ((dN l).1 : Int) :: lets (l.drop (dN l).2) := by
  have hd := drop_lt h
  obtain ⟨n, hn⟩ : ∃ n, l.length = n + 1 := ⟨l.length - 1, by omega⟩
  rw [lets, hn]
  simp only [letsF, h, if_false]
  rw [letsF_eq n _ (by omega)]
theorem lets_len : ∀ (n : Nat) (l : List UInt8), l.length ≤ n → (lets l).length ≤ l.length
  | 0, l, h => by
    obtain rfl : l = [] := List.eq_nil_of_length_eq_zero (by omega)
    simp [lets_nil]
  | n + 1, l, h => by
    by_cases hl : l = []
    · subst hl; simp [lets_nil]
    · have hd := drop_lt hl
      have := lets_len n (l.drop (dN l).2) (by omega)
      rw [lets_cons hl]
      simp only [List.length_cons]; omega
theorem keyAll_eq : ∀ (f : Nat) (l : List UInt8), l.length ≤ f → keyAll f l = keyAll l.length l
  | 0, l, h => by
    obtain rfl : l = [] := List.eq_nil_of_length_eq_zero (by omega)
    rfl
  | f + 1, l, h => by
    by_cases hl : l = []
    · subst hl; simp [keyAll]
    · have hd := drop_lt hl
      have h1 := keyAll_eq f (l.drop (dN l).2) (by omega)
      obtain ⟨n, hn⟩ : ∃ n, l.length = n + 1 := ⟨l.length - 1, by omega⟩
      have h2 := keyAll_eq n (l.drop (dN l).2) (by omega)
      have e : keyAll l.length l = (plainR (dN l).1 (dN l).2 && keyAll n (l.drop (dN l).2)) := by
        rw [hn]; simp only [keyAll, hl, if_false]
      rw [e, h2]
      simp only [keyAll, hl, if_false, h1]
  termination_by f => f
theorem keyAll_nil {f : Nat} : keyAll f [] = true := by cases f <;> simp [keyAll]
theorem keyAll_cons {l : List UInt8} (h : l ≠ []) : keyAll l.length l = (plainR (dN l).1 (dN l).2 && keyAll (l.drop (dN l).2).length (l.drop (dN l).2)) := by
  have hd := drop_lt h
  obtain ⟨n, hn⟩ : ∃ n, l.length = n + 1 := ⟨l.length - 1, by omega⟩
  rw [hn]
  simp only [keyAll, h, if_false]
  rw [keyAll_eq n _ (by omega)]
def contV : Int → List UInt8 → Option Int
  | a, [] => some a
  | a, b :: l => if b.toNat < 128 ∨ 191 < b.toNat then none else contV (64 * a + b.toNat - 128) l
def cls (a : Int) : Nat × Int × Int :=
  if 194 ≤ a ∧ a < 224 then (2, 128, a - 192) else if 224 ≤ a ∧ a < 240 then (3, 2048, a - 224) else if 240 ≤ a ∧ a < 245 then (4, 65536, a - 240) else (0, 0, a)
def letS (l : List UInt8) : Int × Int :=
  match l with
  | [] => (-1, 1)
  | b :: t => if b.toNat < 128 then ((b.toNat : Int), 1) else
    if (cls b.toNat).1 = 0 ∨ l.length < (cls b.toNat).1 then (-1, 1) else
      match contV (cls b.toNat).2.2 (t.take ((cls b.toNat).1 - 1)) with
      | none => (-1, 1)
      | some v => if v < (cls b.toNat).2.1 ∨ 1114111 < v ∨ (55296 ≤ v ∧ v < 57344) then (-1, 1) else (v, (cls b.toNat).1)
theorem dec0 {n a b c d : Nat} (h : (128 ≤ a ∧ a < 194) ∨ (245 ≤ a ∧ a < 256)) : Lib.decodeN n a b c d = (65533, 1) := by
  unfold Lib.decodeN
  repeat' split
  all_goals first | (exfalso; omega) | rfl
theorem dec2 {n a b c d : Nat} (h : 194 ≤ a ∧ a < 224) : Lib.decodeN n a b c d = if 1 < n ∧ b / 64 = 2 then (a % 32 * 64 + b % 64, 2) else (65533, 1) := by
  unfold Lib.decodeN
  repeat' split
  all_goals first | (exfalso; omega) | rfl
theorem dec3 {n a b c d : Nat} (h : 224 ≤ a ∧ a < 240) : Lib.decodeN n a b c d = if (1 < n ∧ b / 64 = 2) ∧ (2 < n ∧ c / 64 = 2) ∧ 2048 ≤ a % 16 * 4096 + b % 64 * 64 + c % 64 ∧ (a % 16 * 4096 + b % 64 * 64 + c % 64 < 55296 ∨ 57344 ≤ a % 16 * 4096 + b % 64 * 64 + c % 64) then (a % 16 * 4096 + b % 64 * 64 + c % 64, 3) else (65533, 1) := by
  unfold Lib.decodeN
  repeat' split
  all_goals first | (exfalso; omega) | rfl
theorem dec4 {n a b c d : Nat} (h : 240 ≤ a ∧ a < 245) : Lib.decodeN n a b c d = if (1 < n ∧ b / 64 = 2) ∧ (2 < n ∧ c / 64 = 2) ∧ (3 < n ∧ d / 64 = 2) ∧ 65536 ≤ a % 8 * 262144 + b % 64 * 4096 + c % 64 * 64 + d % 64 ∧ a % 8 * 262144 + b % 64 * 4096 + c % 64 * 64 + d % 64 ≤ 1114111 then (a % 8 * 262144 + b % 64 * 4096 + c % 64 * 64 + d % 64, 4) else (65533, 1) := by
  unfold Lib.decodeN
  repeat' split
  all_goals first | (exfalso; omega) | rfl
theorem dec1 {n a b c d : Nat} (h : a < 128) : Lib.decodeN n a b c d = (a, 1) := by
  unfold Lib.decodeN; rw [if_pos h]
theorem cont_iff {b : UInt8} : (b.toNat < 128 ∨ 191 < b.toNat) ↔ ¬ b.toNat / 64 = 2 := by omega
theorem letS_dN {l : List UInt8} (h : l ≠ []) : letS l = if dN l = (65533, 1) then (-1, 1) else (((dN l).1 : Int), ((dN l).2 : Int)) := by
  obtain ⟨b0, t, rfl⟩ := List.exists_cons_of_ne_nil h
  have l0 := b0.toNat_lt
  have e0 : (b0 :: t).getD 0 0 = b0 := rfl
  have e1 : (b0 :: t).getD 1 0 = t.getD 0 0 := rfl
  have e2 : (b0 :: t).getD 2 0 = t.getD 1 0 := rfl
  have e3 : (b0 :: t).getD 3 0 = t.getD 2 0 := rfl
  simp only [letS, dN, e0, e1, e2, e3, List.length_cons]
  by_cases c1 : b0.toNat < 128
  · rw [if_pos c1, dec1 c1, if_neg (by intro e; simp at e; omega)]; rfl
  rw [if_neg c1]
  by_cases c2 : 194 ≤ b0.toNat ∧ b0.toNat < 224
  · rw [dec2 c2, show cls b0.toNat = (2, 128, (b0.toNat : Int) - 192) from if_pos (by omega)]
    match t with
    | [] => simp
    | b1 :: t =>
      have l1 := b1.toNat_lt
      simp only [List.getD_cons_zero, List.length_cons, List.take_succ_cons, List.take_zero, contV, cont_iff]
      by_cases d1 : b1.toNat / 64 = 2
      · have e : (1 < t.length + 1 + 1 ∧ b1.toNat / 64 = 2) := ⟨by omega, d1⟩
        simp only [d1, e]
        simp
        repeat' split
        all_goals first | (exfalso; omega) | (simp; omega) | omega
      · simp [d1]
  by_cases c3 : 224 ≤ b0.toNat ∧ b0.toNat < 240
  · rw [dec3 c3, show cls b0.toNat = (3, 2048, (b0.toNat : Int) - 224) from by rw [cls, if_neg (by omega), if_pos (by omega)]]
    match t with
    | [] => simp
    | [b1] => simp
    | b1 :: b2 :: t =>
      have l1 := b1.toNat_lt; have l2 := b2.toNat_lt
      simp only [List.getD_cons_zero, List.getD_cons_succ, List.length_cons, List.take_succ_cons, List.take_zero, contV, cont_iff]
      by_cases d1 : b1.toNat / 64 = 2
      · by_cases d2 : b2.toNat / 64 = 2
        · have hv : 64 * (64 * ((b0.toNat : Int) - 224) + b1.toNat - 128) + b2.toNat - 128 = ((b0.toNat % 16 * 4096 + b1.toNat % 64 * 64 + b2.toNat % 64 : Nat) : Int) := by omega
          have hn : ¬ (3 = 0 ∨ t.length + 1 + 1 + 1 < 3) := by omega
          simp only [d1, d2, not_true_eq_false, if_false, hv, hn]
          obtain ⟨v, hve, hvb⟩ : ∃ v, b0.toNat % 16 * 4096 + b1.toNat % 64 * 64 + b2.toNat % 64 = v ∧ v < 65536 := ⟨_, rfl, by omega⟩
          rw [hve]
          by_cases c : 2048 ≤ v ∧ (v < 55296 ∨ 57344 ≤ v)
          · have hD : (if (1 < t.length + 1 + 1 + 1 ∧ True) ∧ (2 < t.length + 1 + 1 + 1 ∧ True) ∧ 2048 ≤ v ∧ (v < 55296 ∨ 57344 ≤ v) then (v, 3) else ((65533, 1) : Nat × Nat)) = (v, 3) := if_pos ⟨⟨by omega, trivial⟩, ⟨by omega, trivial⟩, c.1, c.2⟩
            rw [hD, if_neg (by omega), if_neg (by intro e; simp at e)]
          · have hD : (if (1 < t.length + 1 + 1 + 1 ∧ True) ∧ (2 < t.length + 1 + 1 + 1 ∧ True) ∧ 2048 ≤ v ∧ (v < 55296 ∨ 57344 ≤ v) then (v, 3) else ((65533, 1) : Nat × Nat)) = (65533, 1) := if_neg (fun e => c ⟨e.2.2.1, e.2.2.2⟩)
            rw [hD, if_pos (by omega), if_pos rfl]
        · simp [d1, d2]
      · simp [d1]
  by_cases c4 : 240 ≤ b0.toNat ∧ b0.toNat < 245
  · rw [dec4 c4, show cls b0.toNat = (4, 65536, (b0.toNat : Int) - 240) from by rw [cls, if_neg (by omega), if_neg (by omega), if_pos (by omega)]]
    match t with
    | [] => simp
    | [b1] => simp
    | [b1, b2] => simp
    | b1 :: b2 :: b3 :: t =>
      have l1 := b1.toNat_lt; have l2 := b2.toNat_lt; have l3 := b3.toNat_lt
      simp only [List.getD_cons_zero, List.getD_cons_succ, List.length_cons, List.take_succ_cons, List.take_zero, contV, cont_iff]
      by_cases d1 : b1.toNat / 64 = 2
      · by_cases d2 : b2.toNat / 64 = 2
        · by_cases d3 : b3.toNat / 64 = 2
          · have hv : 64 * (64 * (64 * ((b0.toNat : Int) - 240) + b1.toNat - 128) + b2.toNat - 128) + b3.toNat - 128 = ((b0.toNat % 8 * 262144 + b1.toNat % 64 * 4096 + b2.toNat % 64 * 64 + b3.toNat % 64 : Nat) : Int) := by omega
            have hn : ¬ (4 = 0 ∨ t.length + 1 + 1 + 1 + 1 < 4) := by omega
            simp only [d1, d2, d3, not_true_eq_false, if_false, hv, hn]
            obtain ⟨v, hve⟩ : ∃ v, b0.toNat % 8 * 262144 + b1.toNat % 64 * 4096 + b2.toNat % 64 * 64 + b3.toNat % 64 = v := ⟨_, rfl⟩
            rw [hve]
            by_cases c : 65536 ≤ v ∧ v ≤ 1114111
            · have hD : (if (1 < t.length + 1 + 1 + 1 + 1 ∧ True) ∧ (2 < t.length + 1 + 1 + 1 + 1 ∧ True) ∧ (3 < t.length + 1 + 1 + 1 + 1 ∧ True) ∧ 65536 ≤ v ∧ v ≤ 1114111 then (v, 4) else ((65533, 1) : Nat × Nat)) = (v, 4) := if_pos ⟨⟨by omega, trivial⟩, ⟨by omega, trivial⟩, ⟨by omega, trivial⟩, c.1, c.2⟩
              rw [hD, if_neg (by omega), if_neg (by intro e; simp at e)]
            · have hD : (if (1 < t.length + 1 + 1 + 1 + 1 ∧ True) ∧ (2 < t.length + 1 + 1 + 1 + 1 ∧ True) ∧ (3 < t.length + 1 + 1 + 1 + 1 ∧ True) ∧ 65536 ≤ v ∧ v ≤ 1114111 then (v, 4) else ((65533, 1) : Nat × Nat)) = (65533, 1) := if_neg (fun e => c ⟨e.2.2.2.1, e.2.2.2.2⟩)
              rw [hD, if_pos (by omega), if_pos rfl]
          · simp [d1, d2, d3]
        · simp [d1, d2]
      · simp [d1]
  rw [dec0 (by omega), show cls b0.toNat = (0, 0, (b0.toNat : Int)) from by rw [cls, if_neg (by omega), if_neg (by omega), if_neg (by omega)]]
  simp
theorem dN_cases {l : List UInt8} (h : l ≠ []) : dN l = (65533, 1) ∨ (∃ b0 t, l = b0 :: t ∧ b0.toNat < 128 ∧ dN l = (b0.toNat, 1)) ∨
    (∃ b0 b1 t, l = b0 :: b1 :: t ∧ (194 ≤ b0.toNat ∧ b0.toNat < 224) ∧ b1.toNat / 64 = 2 ∧ dN l = (b0.toNat % 32 * 64 + b1.toNat % 64, 2)) ∨
    (∃ b0 b1 b2 t, l = b0 :: b1 :: b2 :: t ∧ (224 ≤ b0.toNat ∧ b0.toNat < 240) ∧ b1.toNat / 64 = 2 ∧ b2.toNat / 64 = 2 ∧ 2048 ≤ b0.toNat % 16 * 4096 + b1.toNat % 64 * 64 + b2.toNat % 64 ∧ dN l = (b0.toNat % 16 * 4096 + b1.toNat % 64 * 64 + b2.toNat % 64, 3)) ∨
    (∃ b0 b1 b2 b3 t, l = b0 :: b1 :: b2 :: b3 :: t ∧ (240 ≤ b0.toNat ∧ b0.toNat < 245) ∧ b1.toNat / 64 = 2 ∧ b2.toNat / 64 = 2 ∧ b3.toNat / 64 = 2 ∧ 65536 ≤ b0.toNat % 8 * 262144 + b1.toNat % 64 * 4096 + b2.toNat % 64 * 64 + b3.toNat % 64 ∧ dN l = (b0.toNat % 8 * 262144 + b1.toNat % 64 * 4096 + b2.toNat % 64 * 64 + b3.toNat % 64, 4)) := by
  obtain ⟨b0, t, rfl⟩ := List.exists_cons_of_ne_nil h
  have l0 := b0.toNat_lt
  have e0 : (b0 :: t).getD 0 0 = b0 := rfl
  have e1 : (b0 :: t).getD 1 0 = t.getD 0 0 := rfl
  have e2 : (b0 :: t).getD 2 0 = t.getD 1 0 := rfl
  have e3 : (b0 :: t).getD 3 0 = t.getD 2 0 := rfl
  by_cases c1 : b0.toNat < 128
  · exact .inr (.inl ⟨b0, t, rfl, c1, by rw [dN, e0, dec1 c1]⟩)
  by_cases c2 : 194 ≤ b0.toNat ∧ b0.toNat < 224
  · match t with
    | [] => left; rw [dN, e0, dec2 c2]; simp
    | b1 :: t =>
      by_cases d : b1.toNat / 64 = 2
      · exact .inr (.inr (.inl ⟨b0, b1, t, rfl, c2, d, by rw [dN, e0, dec2 c2, if_pos ⟨by simp, by simpa [e1] using d⟩]; rfl⟩))
      · left; rw [dN, e0, dec2 c2, if_neg (fun e => d (by simpa [e1] using e.2))]
  by_cases c3 : 224 ≤ b0.toNat ∧ b0.toNat < 240
  · match t with
    | [] => left; rw [dN, e0, dec3 c3]; simp
    | [b1] => left; rw [dN, e0, dec3 c3]; simp
    | b1 :: b2 :: t =>
      have g1 : (b0 :: b1 :: b2 :: t).getD 1 0 = b1 := rfl
      have g2 : (b0 :: b1 :: b2 :: t).getD 2 0 = b2 := rfl
      rw [dN, e0, g1, g2, dec3 c3]
      split
      · rename_i hc
        exact .inr (.inr (.inr (.inl ⟨b0, b1, b2, t, rfl, c3, hc.1.2, hc.2.1.2, hc.2.2.1, rfl⟩)))
      · exact .inl rfl
  by_cases c4 : 240 ≤ b0.toNat ∧ b0.toNat < 245
  · match t with
    | [] => left; rw [dN, e0, dec4 c4]; simp
    | [b1] => left; rw [dN, e0, dec4 c4]; simp
    | [b1, b2] => left; rw [dN, e0, dec4 c4]; simp
    | b1 :: b2 :: b3 :: t =>
      have g1 : (b0 :: b1 :: b2 :: b3 :: t).getD 1 0 = b1 := rfl
      have g2 : (b0 :: b1 :: b2 :: b3 :: t).getD 2 0 = b2 := rfl
      have g3 : (b0 :: b1 :: b2 :: b3 :: t).getD 3 0 = b3 := rfl
      rw [dN, e0, g1, g2, g3, dec4 c4]
      split
      · rename_i hc
        exact .inr (.inr (.inr (.inr ⟨b0, b1, b2, b3, t, rfl, c4, hc.1.2, hc.2.1.2, hc.2.2.1.2, hc.2.2.2.1, rfl⟩)))
      · exact .inl rfl
  · left; rw [dN, e0, dec0 (by omega)]
theorem u8_eq {a b : UInt8} (h : a.toNat = b.toNat) : a = b := UInt8.toNat_inj.1 h
theorem dN_inj {l l' : List UInt8} (h : l ≠ []) (h' : l' ≠ []) (n : dN l ≠ (65533, 1)) (n' : dN l' ≠ (65533, 1)) (e : (dN l).1 = (dN l').1) : (dN l).2 = (dN l').2 ∧ l.take (dN l).2 = l'.take (dN l').2 := by
  rcases dN_cases h with c | ⟨a0, t, rfl, q, c⟩ | ⟨a0, a1, t, rfl, q, q1, c⟩ | ⟨a0, a1, a2, t, rfl, q, q1, q2, q3, c⟩ | ⟨a0, a1, a2, a3, t, rfl, q, q1, q2, q3, q4, c⟩
  · exact absurd c n
  all_goals
    rcases dN_cases h' with c' | ⟨b0, t', rfl, p, c'⟩ | ⟨b0, b1, t', rfl, p, p1, c'⟩ | ⟨b0, b1, b2, t', rfl, p, p1, p2, p3, c'⟩ | ⟨b0, b1, b2, b3, t', rfl, p, p1, p2, p3, p4, c'⟩
    · exact absurd c' n'
    all_goals
      rw [c, c'] at e
      simp only at e
      first
        | (exfalso; omega)
        | (rw [c, c']; refine ⟨rfl, ?_⟩; simp only [List.take_succ_cons, List.take_zero, List.cons.injEq, and_true])
  · exact u8_eq e
  · exact ⟨u8_eq (by omega), u8_eq (by omega)⟩
  · exact ⟨u8_eq (by omega), u8_eq (by omega), u8_eq (by omega)⟩
  · exact ⟨u8_eq (by omega), u8_eq (by omega), u8_eq (by omega), u8_eq (by omega)⟩
theorem plain_ok {l : List UInt8} (h : plainR (dN l).1 (dN l).2 = true) : dN l ≠ (65533, 1) := fun e => by
  rw [e] at h; simp [plainR] at h
theorem lets_inj : ∀ (n : Nat) (l l' : List UInt8), l.length ≤ n → keyAll l.length l = true → keyAll l'.length l' = true → lets l = lets l' → l = l'
  | n, l, l', hn, k, k', e => by
    by_cases h : l = []
    · by_cases h' : l' = []
      · rw [h, h']
      · rw [h, lets_nil, lets_cons h'] at e; simp at e
    · by_cases h' : l' = []
      · rw [h', lets_nil, lets_cons h] at e; simp at e
      · rw [lets_cons h, lets_cons h', List.cons.injEq] at e
        rw [keyAll_cons h, Bool.and_eq_true] at k
        rw [keyAll_cons h', Bool.and_eq_true] at k'
        obtain ⟨e1, e2⟩ := dN_inj h h' (plain_ok k.1) (plain_ok k'.1) (by omega)
        have hd := drop_lt h
        have hl : 0 < l.length := List.length_pos_iff.2 h
        have e3 := lets_inj (n - 1) _ _ (by omega) k.2 k'.2 e.2
        rw [← List.take_append_drop (dN l).2 l, ← List.take_append_drop (dN l').2 l', e2, e3]
  termination_by n => n
def cmpL : List Int → List Int → Int
  | [], [] => 0
  | [], _ :: _ => -1
  | _ :: _, [] => 1
  | a :: l, b :: k => if a < b then -1 else if b < a then 1 else cmpL l k
theorem cmpL_val : ∀ (a b : List Int), cmpL a b = -1 ∨ cmpL a b = 0 ∨ cmpL a b = 1
  | [], [] => by simp [cmpL]
  | [], _ :: _ => by simp [cmpL]
  | _ :: _, [] => by simp [cmpL]
  | a :: l, b :: k => by
    simp only [cmpL]
    split
    · simp
    · split
      · simp
      · exact cmpL_val l k
theorem cmpL_neg : ∀ (a b : List Int), cmpL b a = - cmpL a b
  | [], [] => by simp [cmpL]
  | [], _ :: _ => by simp [cmpL]
  | _ :: _, [] => by simp [cmpL]
  | a :: l, b :: k => by
    simp only [cmpL]
    have := cmpL_neg l k
    repeat' split
    all_goals omega
theorem cmpL_eq : ∀ (a b : List Int), cmpL a b = 0 → a = b
  | [], [], _ => rfl
  | [], _ :: _, h => by simp [cmpL] at h
  | _ :: _, [], h => by simp [cmpL] at h
  | a :: l, b :: k, h => by
    simp only [cmpL] at h
    split at h
    · simp at h
    · split at h
      · simp at h
      · have := cmpL_eq l k h
        have : a = b := by omega
        simp_all
theorem cmpL_rfl : ∀ (a : List Int), cmpL a a = 0
  | [] => rfl
  | a :: l => by simp [cmpL, cmpL_rfl l]
theorem cmpL_lt' {a b : Int} {l k : List Int} (h : a < b) : cmpL (a :: l) (b :: k) = -1 := by simp [cmpL, h]
theorem cmpL_gt' {a b : Int} {l k : List Int} (h : b < a) : cmpL (a :: l) (b :: k) = 1 := by
  have : ¬ a < b := by omega
  simp [cmpL, h, this]
theorem cmpL_eq' {a : Int} {l k : List Int} : cmpL (a :: l) (a :: k) = cmpL l k := by simp [cmpL]
theorem cmpL_tr : ∀ (a b c : List Int), cmpL a b ≤ 0 → cmpL b c ≤ 0 → cmpL a c ≤ 0 ∧ (cmpL a b < 0 ∨ cmpL b c < 0 → cmpL a c < 0)
  | [], [], c, h1, h2 => by
    have : cmpL [] [] = 0 := rfl
    omega
  | [], _ :: _, [], h1, h2 => by simp [cmpL] at h2
  | [], _ :: _, _ :: _, h1, h2 => by simp [cmpL]
  | _ :: _, [], _, h1, h2 => by simp [cmpL] at h1
  | a :: l, b :: k, [], h1, h2 => by simp [cmpL] at h2
  | a :: l, b :: k, c :: m, h1, h2 => by
    have ih := cmpL_tr l k m
    rcases Int.lt_trichotomy a b with p | p | p
    · rw [cmpL_lt' p] at h1 ⊢
      rcases Int.lt_trichotomy b c with q | q | q
      · rw [cmpL_lt' (show a < c by omega)]; omega
      · rw [cmpL_lt' (show a < c by omega)]; omega
      · rw [cmpL_gt' q] at h2; omega
    · subst p
      rw [cmpL_eq'] at h1 ⊢
      rcases Int.lt_trichotomy a c with q | q | q
      · rw [cmpL_lt' q]; omega
      · subst q
        rw [cmpL_eq'] at h2 ⊢
        rw [cmpL_eq']
        exact ih h1 h2
      · rw [cmpL_gt' q] at h2; omega
    · rw [cmpL_gt' p] at h1; omega
end Sg
namespace Sg
open _root_.Go (IntKind BinOp UnOp)
set_option linter.unusedSimpArgs false
set_option linter.unusedVariables false
set_option maxRecDepth 10000
variable {Pg : Nat → Option Fn}
@[go_sem] theorem idx_0 {b : UInt8} {t : List UInt8} {k : IntKind} : idxV (.str (b :: t)) (.int k 0) = some (.int .u8 b.toNat) := rfl
@[go_sem high] theorem sl_str {s : List UInt8} {z : Nat} {k : IntKind} {n : Nat} (h : n ≤ s.length) : slV true z (.str s) (some (.int k (n : Int))) none = some (.str (s.drop n)) := by
  simp [slV, bound, h]
def H191 (Pg : Nat → Option Fn) : Prop := Pg 191 = some (.code F191)
theorem K191 (h : H191 Pg) (r n : Int) : K' Pg 191 [.int .i32 r, .int .i64 n] = some (.bool (plainR r n)) := by
  refine K'_code h rfl ?_
  simp only [go_sem]
  cases c1 : decide (33 ≤ r) <;> cases c2 : decide (r < 127) <;> cases c3 : decide (159 < r) <;> cases c4 : decide (r = 65533) <;> cases c5 : decide (n = 3) <;>
    simp only [go_sem, plainR, c1, c2, c3, c4, c5]
def H190 (Pg : Nat → Option Fn) : Prop := Pg 190 = some (.prim none decQ)
theorem K190 (h : H190 Pg) (s : List UInt8) : K' Pg 190 [.str s] = some (.tuple [.int .i32 (decL s).1, .int .i64 (decL s).2]) := by
  rw [K'_prim h]; rfl
def H170 (Pg : Nat → Option Fn) : Prop := Pg 170 = some (.prim none keyQ)
theorem K170 (h : H170 Pg) (s : List UInt8) : K' Pg 170 [.str s] = some (.bool (keyR s)) := by
  rw [K'_prim h]; rfl
def plainC (c : Int) : Bool := decide (32 < c) && (!decide (c = 127) && (decide (c < 128) || decide (159 < c)))
def H189 (Pg : Nat → Option Fn) : Prop := Pg 189 = some (.code F189)
theorem K189 (h : H189 Pg) (c : Int) : K' Pg 189 [iz c] = some (.bool (plainC c)) := by
  refine K'_code h rfl ?_
  simp only [go_sem]
  cases c1 : decide (32 < c) <;> cases c2 : decide (c = 127) <;> cases c3 : decide (c < 128) <;> cases c4 : decide (159 < c) <;>
    simp only [go_sem, plainC, c1, c2, c3, c4]
theorem plain_eq {l : List UInt8} (h : l ≠ []) : plainC (letS l).1 = plainR (dN l).1 (dN l).2 := by
  rw [letS_dN h]
  by_cases c : dN l = (65533, 1)
  · rw [if_pos c, c]; decide
  · rw [if_neg c]
    simp only [plainC, plainR]
    have c65 : (dN l).1 = 65533 → (dN l).2 = 3 := fun e => by
      rcases dN_cases h with x | ⟨a0, t, rfl, q, x⟩ | ⟨a0, a1, t, rfl, q, q1, x⟩ | ⟨a0, a1, a2, t, rfl, q, q1, q2, q3, x⟩ | ⟨a0, a1, a2, a3, t, rfl, q, q1, q2, q3, q4, x⟩
      · exact absurd x c
      all_goals (rw [x] at e ⊢; try (simp only at e ⊢; try omega))
    generalize (dN l).1 = r at c65 ⊢
    generalize (dN l).2 = n at c65 ⊢
    rw [Bool.eq_iff_iff]
    simp only [Bool.and_eq_true, Bool.or_eq_true, decide_eq_true_eq, Bool.not_eq_true', decide_eq_false_iff_not]
    omega
@[go_sem] def eLN (x : Int × Int) : V := .tuple [iz x.1, iz x.2]
def H188 (Pg : Nat → Option Fn) : Prop := Pg 188 = some (.code F188)
theorem contV_snoc : ∀ {l : List UInt8} {a : Int} {b : UInt8}, contV a (l ++ [b]) = (contV a l).bind fun v => if b.toNat < 128 ∨ 191 < b.toNat then none else some (64 * v + b.toNat - 128)
  | [], a, b => by simp [contV]
  | c :: l, a, b => by
    simp only [contV, List.cons_append]
    split
    · rfl
    · exact contV_snoc
theorem contV_none : ∀ {l k : List UInt8} {a : Int}, contV a l = none → contV a (l ++ k) = none
  | [], k, a, h => by simp [contV] at h
  | c :: l, k, a, h => by
    simp only [contV, List.cons_append] at h ⊢
    split
    · rfl
    · rename_i hc
      rw [if_neg hc] at h
      exact contV_none h
theorem K188 (h : H188 Pg) (s : List UInt8) (hs : s ≠ []) : K' Pg 188 [.str s] = some (eLN (letS s)) := by
  refine K'_code h rfl ?_
  obtain ⟨b0, t, rfl⟩ := List.exists_cons_of_ne_nil hs
  have l0 := b0.toNat_lt
  have w8 : IntKind.i64.wrap (b0.toNat : Int) = b0.toNat := wrap64 (by omega) (by omega)
  have w192 : IntKind.i64.wrap ((b0.toNat : Int) - 192) = b0.toNat - 192 := wrap64 (by omega) (by omega)
  have w224 : IntKind.i64.wrap ((b0.toNat : Int) - 224) = b0.toNat - 224 := wrap64 (by omega) (by omega)
  have w240 : IntKind.i64.wrap ((b0.toNat : Int) - 240) = b0.toNat - 240 := wrap64 (by omega) (by omega)
  simp only [go_sem, w8]
  refine wpc_i (fun c1 => ?_) (fun c1 => ?_)
  · have c1 := of_decide_eq_true c1
    have e : letS (b0 :: t) = ((b0.toNat : Int), (1 : Int)) := by simp only [letS]; rw [if_pos (by omega)]
    rw [e]
    simp only [go_sem]
  have c1 := of_decide_eq_false c1
  have eS : letS (b0 :: t) = if (cls b0.toNat).1 = 0 ∨ (b0 :: t).length < (cls b0.toNat).1 then (-1, 1) else
      match contV (cls b0.toNat).2.2 (t.take ((cls b0.toNat).1 - 1)) with
      | none => (-1, 1)
      | some v => if v < (cls b0.toNat).2.1 ∨ 1114111 < v ∨ (55296 ≤ v ∧ v < 57344) then (-1, 1) else (v, ((cls b0.toNat).1 : Int)) := by
    simp only [letS]; rw [if_neg (by omega)] <;> rfl
  simp only [go_sem]
  cases c2 : decide (194 ≤ (b0.toNat : Int)) with
  | false =>
    have hcl : cls b0.toNat = (0, 0, (b0.toNat : Int)) := by
      have := of_decide_eq_false c2
      rw [cls, if_neg (by omega), if_neg (by omega), if_neg (by omega)]
    have d2 : decide (224 ≤ (b0.toNat : Int)) = false := decide_eq_false (by have := of_decide_eq_false c2; omega)
    have d3 : decide (240 ≤ (b0.toNat : Int)) = false := decide_eq_false (by have := of_decide_eq_false c2; omega)
    rw [hcl, if_pos (.inl rfl)] at eS
    rw [eS]
    simp only [go_sem, c2, d2, d3, w8]
  | true =>
  have c2' := of_decide_eq_true c2
  simp only [go_sem, c2, w8]
  refine wpc_i (fun c3 => ?_) (fun c3 => ?_)
  · have c3 := of_decide_eq_true c3
    have hcl : cls b0.toNat = (2, 128, (b0.toNat : Int) - 192) := if_pos (by omega)
    simp only [go_sem, w192]
    rw [hcl] at eS
    simp only at eS
    refine wpc_i (fun c5 => ?_) (fun c5 => ?_)
    · have c5 := of_decide_eq_true c5
      rw [if_pos (.inr (by simp only [List.length_cons]; omega))] at eS
      rw [eS]
      simp only [go_sem]
    have c5 := of_decide_eq_false c5
    have c5 : 2 ≤ t.length + 1 := by omega
    rw [if_neg (by simp only [List.length_cons]; omega)] at eS
    simp only [go_sem]
    unfold l188_0
    refine wp_lp (fun (i : Nat) S => (1 ≤ i ∧ i ≤ 2) ∧ S.ρ 0 = .str (b0 :: t) ∧ S.ρ 5 = iz 2 ∧ S.ρ 6 = iz 128 ∧ S.ρ 7 = iz i ∧ ∃ v, S.ρ 4 = iz v ∧ contV ((b0.toNat : Int) - 192) (t.take (i - 1)) = some v ∧ 0 ≤ v ∧ v < 64 ^ i) (fun i => 2 - i) 1 ?_ ?_
    · simp [go_sem, contV]; omega
    · intro i S ⟨hi, h0, h5, h6, h7, v, h4, hv, v0, v1⟩
      have v2 : v < 16777216 := by
        have : i = 1 ∨ i = 2 ∨ i = 3 ∨ i = 4 := by omega
        rcases this with rfl | rfl | rfl | rfl <;> simp at v1 <;> omega
      simp only [go_sem, h0, h4, h5, h6, h7]
      refine wpc_i (fun h => ?_) (fun h => ?_)
      · have h : i < 2 := by have := of_decide_eq_true h; omega
        obtain ⟨b, hb⟩ : ∃ b, (b0 :: t)[i]? = some b := ⟨_, List.getElem?_eq_getElem (by simp only [List.length_cons]; omega)⟩
        have hb' : t[i - 1]? = some b := by
          obtain ⟨k, rfl⟩ : ∃ k, i = k + 1 := ⟨i - 1, by omega⟩
          simpa using hb
        have lb := b.toNat_lt
        have hts : t.take (i + 1 - 1) = t.take (i - 1) ++ [b] := by
          have := take_s hb'
          rwa [show i - 1 + 1 = i + 1 - 1 by omega] at this
        have hsn := contV_snoc (l := t.take (i - 1)) (a := ((b0.toNat : Int) - 192)) (b := b)
        rw [hv, Option.bind_some, ← hts] at hsn
        have wb : IntKind.i64.wrap (b.toNat : Int) = b.toNat := wrap64 (by omega) (by omega)
        have w1 : IntKind.i64.wrap (64 * v) = 64 * v := wrap64 (by omega) (by omega)
        have w2 : IntKind.i64.wrap (64 * v + b.toNat) = 64 * v + b.toNat := wrap64 (by omega) (by omega)
        have w3 : IntKind.i64.wrap (64 * v + b.toNat - 128) = 64 * v + b.toNat - 128 := wrap64 (by omega) (by omega)
        have bad : (b.toNat < 128 ∨ 191 < b.toNat) → letS (b0 :: t) = (-1, 1) := fun hbad => by
          rw [if_pos hbad] at hsn
          have : contV ((b0.toNat : Int) - 192) (t.take (2 - 1)) = none := by
            have e : t.take (2 - 1) = t.take (i + 1 - 1) ++ (t.take (2 - 1)).drop (i + 1 - 1) := by
              have := List.take_append_drop (i + 1 - 1) (t.take (2 - 1))
              rw [List.take_take, Nat.min_eq_left (by omega)] at this
              exact this.symm
            rw [e]
            exact contV_none hsn
          rw [eS, this]
        simp only [go_sem, h0, h4, h5, h6, h7, hb]
        cases d1 : decide ((b.toNat : Int) < 128) with
        | true =>
          have := bad (.inl (by have := of_decide_eq_true d1; omega))
          rw [this]
          simp only [go_sem, d1, h0, h4, h5, h6, h7, hb]
        | false =>
          have d1' := of_decide_eq_false d1
          simp only [go_sem, d1, h0, h4, h5, h6, h7, hb]
          refine wpc_i (fun d2 => ?_) (fun d2 => ?_)
          · have := bad (.inr (by have := of_decide_eq_true d2; omega))
            rw [this]
            simp only [go_sem]
          · have d2' := of_decide_eq_false d2
            rw [if_neg (by omega)] at hsn
            simp only [go_sem, h0, h4, h5, h6, h7, hb, wb, w1, w2, w3]
            refine ⟨i + 1, by omega, by omega, by rw [inc64 h (by omega)], _, rfl, hsn, by omega, ?_⟩
            rw [Int.pow_succ]; omega
      · have h : i = 2 := by have := of_decide_eq_false h; omega
        subst h
        have hv : contV ((b0.toNat : Int) - 192) (t.take (2 - 1)) = some v := hv
        rw [hv] at eS
        simp only at eS
        simp only [go_sem, h0, h4, h5, h6, h7]
        cases f1 : decide (v < 128) with
        | true =>
          rw [if_pos (.inl (of_decide_eq_true f1))] at eS
          rw [eS]
          simp only [go_sem, f1, h0, h4, h5, h6, h7]
        | false =>
        cases f2 : decide (1114111 < v) with
        | true =>
          rw [if_pos (.inr (.inl (of_decide_eq_true f2)))] at eS
          rw [eS]
          simp only [go_sem, f1, f2, h0, h4, h5, h6, h7]
        | false =>
        have f1' := of_decide_eq_false f1
        have f2' := of_decide_eq_false f2
        cases f3 : decide (55296 ≤ v) with
        | false =>
          rw [if_neg (by have := of_decide_eq_false f3; omega)] at eS
          rw [eS]
          simp only [go_sem, f1, f2, f3, h0, h4, h5, h6, h7]
        | true =>
        cases f4 : decide (v < 57344) with
        | true =>
          rw [if_pos (.inr (.inr ⟨of_decide_eq_true f3, of_decide_eq_true f4⟩))] at eS
          rw [eS]
          simp only [go_sem, f1, f2, f3, f4, h0, h4, h5, h6, h7]
        | false =>
          rw [if_neg (by have := of_decide_eq_false f4; omega)] at eS
          rw [eS]
          simp only [go_sem, f1, f2, f3, f4, h0, h4, h5, h6, h7]
  have c3 := of_decide_eq_false c3
  have d2 : decide (224 ≤ (b0.toNat : Int)) = true := decide_eq_true (by omega)
  simp only [go_sem, d2]
  refine wpc_i (fun c4 => ?_) (fun c4 => ?_)
  · have c4 := of_decide_eq_true c4
    have hcl : cls b0.toNat = (3, 2048, (b0.toNat : Int) - 224) := by rw [cls, if_neg (by omega), if_pos (by omega)]
    simp only [go_sem, w224]
    rw [hcl] at eS
    simp only at eS
    refine wpc_i (fun c5 => ?_) (fun c5 => ?_)
    · have c5 := of_decide_eq_true c5
      rw [if_pos (.inr (by simp only [List.length_cons]; omega))] at eS
      rw [eS]
      simp only [go_sem]
    have c5 := of_decide_eq_false c5
    have c5 : 3 ≤ t.length + 1 := by omega
    rw [if_neg (by simp only [List.length_cons]; omega)] at eS
    simp only [go_sem]
    unfold l188_0
    refine wp_lp (fun (i : Nat) S => (1 ≤ i ∧ i ≤ 3) ∧ S.ρ 0 = .str (b0 :: t) ∧ S.ρ 5 = iz 3 ∧ S.ρ 6 = iz 2048 ∧ S.ρ 7 = iz i ∧ ∃ v, S.ρ 4 = iz v ∧ contV ((b0.toNat : Int) - 224) (t.take (i - 1)) = some v ∧ 0 ≤ v ∧ v < 64 ^ i) (fun i => 3 - i) 1 ?_ ?_
    · simp [go_sem, contV]; omega
    · intro i S ⟨hi, h0, h5, h6, h7, v, h4, hv, v0, v1⟩
      have v2 : v < 16777216 := by
        have : i = 1 ∨ i = 2 ∨ i = 3 ∨ i = 4 := by omega
        rcases this with rfl | rfl | rfl | rfl <;> simp at v1 <;> omega
      simp only [go_sem, h0, h4, h5, h6, h7]
      refine wpc_i (fun h => ?_) (fun h => ?_)
      · have h : i < 3 := by have := of_decide_eq_true h; omega
        obtain ⟨b, hb⟩ : ∃ b, (b0 :: t)[i]? = some b := ⟨_, List.getElem?_eq_getElem (by simp only [List.length_cons]; omega)⟩
        have hb' : t[i - 1]? = some b := by
          obtain ⟨k, rfl⟩ : ∃ k, i = k + 1 := ⟨i - 1, by omega⟩
          simpa using hb
        have lb := b.toNat_lt
        have hts : t.take (i + 1 - 1) = t.take (i - 1) ++ [b] := by
          have := take_s hb'
          rwa [show i - 1 + 1 = i + 1 - 1 by omega] at this
        have hsn := contV_snoc (l := t.take (i - 1)) (a := ((b0.toNat : Int) - 224)) (b := b)
        rw [hv, Option.bind_some, ← hts] at hsn
        have wb : IntKind.i64.wrap (b.toNat : Int) = b.toNat := wrap64 (by omega) (by omega)
        have w1 : IntKind.i64.wrap (64 * v) = 64 * v := wrap64 (by omega) (by omega)
        have w2 : IntKind.i64.wrap (64 * v + b.toNat) = 64 * v + b.toNat := wrap64 (by omega) (by omega)
        have w3 : IntKind.i64.wrap (64 * v + b.toNat - 128) = 64 * v + b.toNat - 128 := wrap64 (by omega) (by omega)
        have bad : (b.toNat < 128 ∨ 191 < b.toNat) → letS (b0 :: t) = (-1, 1) := fun hbad => by
          rw [if_pos hbad] at hsn
          have : contV ((b0.toNat : Int) - 224) (t.take (3 - 1)) = none := by
            have e : t.take (3 - 1) = t.take (i + 1 - 1) ++ (t.take (3 - 1)).drop (i + 1 - 1) := by
              have := List.take_append_drop (i + 1 - 1) (t.take (3 - 1))
              rw [List.take_take, Nat.min_eq_left (by omega)] at this
              exact this.symm
            rw [e]
            exact contV_none hsn
          rw [eS, this]
        simp only [go_sem, h0, h4, h5, h6, h7, hb]
        cases d1 : decide ((b.toNat : Int) < 128) with
        | true =>
          have := bad (.inl (by have := of_decide_eq_true d1; omega))
          rw [this]
          simp only [go_sem, d1, h0, h4, h5, h6, h7, hb]
        | false =>
          have d1' := of_decide_eq_false d1
          simp only [go_sem, d1, h0, h4, h5, h6, h7, hb]
          refine wpc_i (fun d2 => ?_) (fun d2 => ?_)
          · have := bad (.inr (by have := of_decide_eq_true d2; omega))
            rw [this]
            simp only [go_sem]
          · have d2' := of_decide_eq_false d2
            rw [if_neg (by omega)] at hsn
            simp only [go_sem, h0, h4, h5, h6, h7, hb, wb, w1, w2, w3]
            refine ⟨i + 1, by omega, by omega, by rw [inc64 h (by omega)], _, rfl, hsn, by omega, ?_⟩
            rw [Int.pow_succ]; omega
      · have h : i = 3 := by have := of_decide_eq_false h; omega
        subst h
        have hv : contV ((b0.toNat : Int) - 224) (t.take (3 - 1)) = some v := hv
        rw [hv] at eS
        simp only at eS
        simp only [go_sem, h0, h4, h5, h6, h7]
        cases f1 : decide (v < 2048) with
        | true =>
          rw [if_pos (.inl (of_decide_eq_true f1))] at eS
          rw [eS]
          simp only [go_sem, f1, h0, h4, h5, h6, h7]
        | false =>
        cases f2 : decide (1114111 < v) with
        | true =>
          rw [if_pos (.inr (.inl (of_decide_eq_true f2)))] at eS
          rw [eS]
          simp only [go_sem, f1, f2, h0, h4, h5, h6, h7]
        | false =>
        have f1' := of_decide_eq_false f1
        have f2' := of_decide_eq_false f2
        cases f3 : decide (55296 ≤ v) with
        | false =>
          rw [if_neg (by have := of_decide_eq_false f3; omega)] at eS
          rw [eS]
          simp only [go_sem, f1, f2, f3, h0, h4, h5, h6, h7]
        | true =>
        cases f4 : decide (v < 57344) with
        | true =>
          rw [if_pos (.inr (.inr ⟨of_decide_eq_true f3, of_decide_eq_true f4⟩))] at eS
          rw [eS]
          simp only [go_sem, f1, f2, f3, f4, h0, h4, h5, h6, h7]
        | false =>
          rw [if_neg (by have := of_decide_eq_false f4; omega)] at eS
          rw [eS]
          simp only [go_sem, f1, f2, f3, f4, h0, h4, h5, h6, h7]
  have c4 := of_decide_eq_false c4
  have d3 : decide (240 ≤ (b0.toNat : Int)) = true := decide_eq_true (by omega)
  simp only [go_sem, d3]
  refine wpc_i (fun c6 => ?_) (fun c6 => ?_)
  · have c6 := of_decide_eq_true c6
    have hcl : cls b0.toNat = (4, 65536, (b0.toNat : Int) - 240) := by rw [cls, if_neg (by omega), if_neg (by omega), if_pos (by omega)]
    simp only [go_sem, w240]
    rw [hcl] at eS
    simp only at eS
    refine wpc_i (fun c5 => ?_) (fun c5 => ?_)
    · have c5 := of_decide_eq_true c5
      rw [if_pos (.inr (by simp only [List.length_cons]; omega))] at eS
      rw [eS]
      simp only [go_sem]
    have c5 := of_decide_eq_false c5
    have c5 : 4 ≤ t.length + 1 := by omega
    rw [if_neg (by simp only [List.length_cons]; omega)] at eS
    simp only [go_sem]
    unfold l188_0
    refine wp_lp (fun (i : Nat) S => (1 ≤ i ∧ i ≤ 4) ∧ S.ρ 0 = .str (b0 :: t) ∧ S.ρ 5 = iz 4 ∧ S.ρ 6 = iz 65536 ∧ S.ρ 7 = iz i ∧ ∃ v, S.ρ 4 = iz v ∧ contV ((b0.toNat : Int) - 240) (t.take (i - 1)) = some v ∧ 0 ≤ v ∧ v < 64 ^ i) (fun i => 4 - i) 1 ?_ ?_
    · simp [go_sem, contV]; omega
    · intro i S ⟨hi, h0, h5, h6, h7, v, h4, hv, v0, v1⟩
      have v2 : v < 16777216 := by
        have : i = 1 ∨ i = 2 ∨ i = 3 ∨ i = 4 := by omega
        rcases this with rfl | rfl | rfl | rfl <;> simp at v1 <;> omega
      simp only [go_sem, h0, h4, h5, h6, h7]
      refine wpc_i (fun h => ?_) (fun h => ?_)
      · have h : i < 4 := by have := of_decide_eq_true h; omega
        obtain ⟨b, hb⟩ : ∃ b, (b0 :: t)[i]? = some b := ⟨_, List.getElem?_eq_getElem (by simp only [List.length_cons]; omega)⟩
        have hb' : t[i - 1]? = some b := by
          obtain ⟨k, rfl⟩ : ∃ k, i = k + 1 := ⟨i - 1, by omega⟩
          simpa using hb
        have lb := b.toNat_lt
        have hts : t.take (i + 1 - 1) = t.take (i - 1) ++ [b] := by
          have := take_s hb'
          rwa [show i - 1 + 1 = i + 1 - 1 by omega] at this
        have hsn := contV_snoc (l := t.take (i - 1)) (a := ((b0.toNat : Int) - 240)) (b := b)
        rw [hv, Option.bind_some, ← hts] at hsn
        have wb : IntKind.i64.wrap (b.toNat : Int) = b.toNat := wrap64 (by omega) (by omega)
        have w1 : IntKind.i64.wrap (64 * v) = 64 * v := wrap64 (by omega) (by omega)
        have w2 : IntKind.i64.wrap (64 * v + b.toNat) = 64 * v + b.toNat := wrap64 (by omega) (by omega)
        have w3 : IntKind.i64.wrap (64 * v + b.toNat - 128) = 64 * v + b.toNat - 128 := wrap64 (by omega) (by omega)
        have bad : (b.toNat < 128 ∨ 191 < b.toNat) → letS (b0 :: t) = (-1, 1) := fun hbad => by
          rw [if_pos hbad] at hsn
          have : contV ((b0.toNat : Int) - 240) (t.take (4 - 1)) = none := by
            have e : t.take (4 - 1) = t.take (i + 1 - 1) ++ (t.take (4 - 1)).drop (i + 1 - 1) := by
              have := List.take_append_drop (i + 1 - 1) (t.take (4 - 1))
              rw [List.take_take, Nat.min_eq_left (by omega)] at this
              exact this.symm
            rw [e]
            exact contV_none hsn
          rw [eS, this]
        simp only [go_sem, h0, h4, h5, h6, h7, hb]
        cases d1 : decide ((b.toNat : Int) < 128) with
        | true =>
          have := bad (.inl (by have := of_decide_eq_true d1; omega))
          rw [this]
          simp only [go_sem, d1, h0, h4, h5, h6, h7, hb]
        | false =>
          have d1' := of_decide_eq_false d1
          simp only [go_sem, d1, h0, h4, h5, h6, h7, hb]
          refine wpc_i (fun d2 => ?_) (fun d2 => ?_)
          · have := bad (.inr (by have := of_decide_eq_true d2; omega))
            rw [this]
            simp only [go_sem]
          · have d2' := of_decide_eq_false d2
            rw [if_neg (by omega)] at hsn
            simp only [go_sem, h0, h4, h5, h6, h7, hb, wb, w1, w2, w3]
            refine ⟨i + 1, by omega, by omega, by rw [inc64 h (by omega)], _, rfl, hsn, by omega, ?_⟩
            rw [Int.pow_succ]; omega
      · have h : i = 4 := by have := of_decide_eq_false h; omega
        subst h
        have hv : contV ((b0.toNat : Int) - 240) (t.take (4 - 1)) = some v := hv
        rw [hv] at eS
        simp only at eS
        simp only [go_sem, h0, h4, h5, h6, h7]
        cases f1 : decide (v < 65536) with
        | true =>
          rw [if_pos (.inl (of_decide_eq_true f1))] at eS
          rw [eS]
          simp only [go_sem, f1, h0, h4, h5, h6, h7]
        | false =>
        cases f2 : decide (1114111 < v) with
        | true =>
          rw [if_pos (.inr (.inl (of_decide_eq_true f2)))] at eS
          rw [eS]
          simp only [go_sem, f1, f2, h0, h4, h5, h6, h7]
        | false =>
        have f1' := of_decide_eq_false f1
        have f2' := of_decide_eq_false f2
        cases f3 : decide (55296 ≤ v) with
        | false =>
          rw [if_neg (by have := of_decide_eq_false f3; omega)] at eS
          rw [eS]
          simp only [go_sem, f1, f2, f3, h0, h4, h5, h6, h7]
        | true =>
        cases f4 : decide (v < 57344) with
        | true =>
          rw [if_pos (.inr (.inr ⟨of_decide_eq_true f3, of_decide_eq_true f4⟩))] at eS
          rw [eS]
          simp only [go_sem, f1, f2, f3, f4, h0, h4, h5, h6, h7]
        | false =>
          rw [if_neg (by have := of_decide_eq_false f4; omega)] at eS
          rw [eS]
          simp only [go_sem, f1, f2, f3, f4, h0, h4, h5, h6, h7]
  have c6 := of_decide_eq_false c6
  have hcl : cls b0.toNat = (0, 0, (b0.toNat : Int)) := by rw [cls, if_neg (by omega), if_neg (by omega), if_neg (by omega)]
  rw [hcl, if_pos (.inl rfl)] at eS
  rw [eS]
  simp only [go_sem]
end Sg
namespace Sg
open _root_.Go _root_.Go.RowKit _root_.Go.Proofs
set_option linter.unusedSimpArgs false
set_option linter.unusedVariables false
def plainFm : List (Nat × Nat) := [(191, 54)]
theorem okPlain : okF Tryd.prog (cxU plainFm) (onePg 191 F191) 54 F191 = true := by kernel_rfl
theorem plain_walk (r n : Int) (w : World) (hgn : 2 ≤ w.heap.size) (hT : Lib.Utf8Tabs 0 1 w) :
    Calls Tryd.prog 54 #[.int .i32 r, .int .i64 n] w fun e w' => e = .returned (.bool (plainR r n)) ∧ Below w.heap.size w w' := by
  have hk : K' (onePg 191 F191) 191 [.int .i32 r, .int .i64 n] = some (.bool (plainR r n)) := K191 (by simp [H191, onePg]) r n
  obtain ⟨m, hm⟩ := K'_iff.1 hk
  have hc := callN_sound (P := Tryd.prog) (cx := cxU plainFm) (Pg := onePg 191 F191) (by kernel_rfl) (fun f F hF => by
      unfold onePg at hF
      split at hF <;> simp only [Option.some.injEq, Fn.code.injEq, reduceCtorEq] at hF
      rename_i e; subst e; subst hF; exact okPlain) (fun f own p hp => by
      unfold onePg at hp
      split at hp <;> simp at hp) (fun f z p _ hp => by
      unfold onePg at hp
      split at hp <;> simp at hp) (fun f z p hp => by
      unfold onePg at hp
      split at hp <;> simp at hp) m 191 _ _ hm
  refine (hc.2 w (fun _ => False) #[.int .i32 r, .int .i64 n] (fun b hb => hb.elim) hgn hT rfl (fun i hi => by
    match i, hi with
    | 0, _ => exact ⟨_, rfl, .int _ _⟩
    | 1, _ => exact ⟨_, rfl, .int _ _⟩
    | k + 2, hi => exact absurd hi (by simp))).mono fun e w' ⟨v, he, hb, hr⟩ => ?_
  have hr := hr.data (fun b hb => hb.elim)
  cases hr
  exact ⟨he, hb⟩
theorem decCt (l : List (Nat × Nat)) (id : Nat) (h : (cxU l).fm id = 53) : ∀ args r, decQ args = some r → Ctr Tryd.prog (cxU l) none id args r :=
  dec_ctr (by rw [h]; exact ⟨_, Tryd.func53, by kernel_rfl, by kernel_rfl⟩) fun s w hG => by rw [h]; exact dec_walk s w hG
theorem keyCt (l : List (Nat × Nat)) (id : Nat) (h : (cxU l).fm id = 33) : ∀ args r, keyQ args = some r → Ctr Tryd.prog (cxU l) none id args r :=
  key_ctr (by rw [h]; exact ⟨_, Tryd.func33, by kernel_rfl, by kernel_rfl⟩) fun s w hgn hG => by rw [h]; exact key_walk s w hgn hG plain_walk
end Sg
namespace Sg
open Go Go.RowKit
set_option linter.unusedSimpArgs false
set_option linter.unusedVariables false
inductive CT where
  | bool
  | int (k : IntKind)
  | str
  | slice (r : List CT)
  deriving Inhabited
abbrev gt (r : List CT) (j : Nat) : CT := r.getD j .bool
inductive Has : CT → V → Prop
  | bool (b) : Has .bool (.bool b)
  | int (k n) (h : (Lit.int k n).wf = true) : Has (.int k) (.int k n)
  | str (s) (h : s.length ≤ maxLen) : Has .str (.str s)
  | slice (r : List CT) (rows : List (List V)) (hl : rows.length ≤ maxLen) (hz : ∀ i, i < rows.length → (gr rows i).length = r.length)
      (h : ∀ i j, i < rows.length → j < r.length → Has (gt r j) (gv (gr rows i) j)) : Has (.slice r) (.slice r.length rows)
section
variable (P : Program)
def rowFs (g : TypeId → Option (List CT)) : List Field → Nat → Option (List CT)
  | [], _ => some []
  | f :: fs, o => if f.offset = o then (g f.type).bind fun r => if szT P f.type = some r.length then (rowFs g fs (o + r.length)).bind fun rs => some (r ++ rs) else none else none
def rowT : Nat → TypeId → Option (List CT)
  | 0, _ => none
  | n + 1, t => match P.underlying t with
    | some .bool => some [.bool]
    | some (.int k) => some [.int k]
    | some .string => some [.str]
    | some (.slice e) => (rowT n e).bind fun r => if szT P e = some r.length ∧ r.length ≠ 0 then some [.slice r] else none
    | some (.struct fs) => (rowFs P (rowT n) fs.toList 0).bind fun r => if szT P t = some r.length then some r else none
    | _ => none
end
section
variable {P : Program} {cx : Cx} {w : World} {X : Nat → Prop}
def Row (cx : Cx) (w : World) (X : Nat → Prop) (r : List CT) (f : Nat → Option Value) (xs : List V) : Prop :=
  xs.length = r.length ∧ ∀ j, j < r.length → ∃ u, f j = some u ∧ u.oneCell' = true ∧ RelD cx w X u (gv xs j) ∧ Has (gt r j) (gv xs j)
theorem Row.append {r1 r2 : List CT} {f : Nat → Option Value} {xs ys : List V} (h1 : Row cx w X r1 f xs) (h2 : Row cx w X r2 (fun j => f (r1.length + j)) ys) : Row cx w X (r1 ++ r2) f (xs ++ ys) := by
  refine ⟨by simp [h1.1, h2.1], fun j hj => ?_⟩
  simp only [List.length_append] at hj
  by_cases hlt : j < r1.length
  · obtain ⟨u, a, b, c, d⟩ := h1.2 j hlt
    refine ⟨u, a, b, ?_, ?_⟩
    · rw [show gv (xs ++ ys) j = gv xs j from by simp [gv, List.getD_eq_getElem?_getD, List.getElem?_append_left (by rw [h1.1]; exact hlt)]]; exact c
    · rw [show gv (xs ++ ys) j = gv xs j from by simp [gv, List.getD_eq_getElem?_getD, List.getElem?_append_left (by rw [h1.1]; exact hlt)],
        show gt (r1 ++ r2) j = gt r1 j from by simp [gt, List.getD_eq_getElem?_getD, List.getElem?_append_left hlt]]; exact d
  · obtain ⟨u, a, b, c, d⟩ := h2.2 (j - r1.length) (by omega)
    have e : r1.length + (j - r1.length) = j := by omega
    simp only [e] at a
    have g1 : gv (xs ++ ys) j = gv ys (j - r1.length) := by
      simp only [gv, List.getD_eq_getElem?_getD]; rw [List.getElem?_append_right (by rw [h1.1]; omega), h1.1]
    have g2 : gt (r1 ++ r2) j = gt r2 (j - r1.length) := by
      simp only [gt, List.getD_eq_getElem?_getD]; rw [List.getElem?_append_right (by omega)]
    exact ⟨u, a, b, by rw [g1]; exact c, by rw [g1, g2]; exact d⟩
theorem Row.one {c : CT} {f : Nat → Option Value} {u : Value} {x : V} (h0 : f 0 = some u) (h1 : u.oneCell' = true) (h2 : RelD cx w X u x) (h3 : Has c x) : Row cx w X [c] f [x] :=
  ⟨rfl, fun j hj => by
    have : j = 0 := by simp at hj; exact hj
    subst this
    exact ⟨u, h0, h1, h2, h3⟩⟩
theorem cell_at {a : Addr} {u : Value} (h : w.cell? a = some u) : ∃ c e fr, a = ⟨a.block, a.off, none⟩ ∧ w.heap[a.block]? = some (.cells c e fr) ∧ c[a.off]? = some u := by
  obtain ⟨b, o, sp⟩ := a
  unfold World.cell? at h
  split at h
  · rename_i c e fr hc
    split at h
    · simp at h
    · rename_i hs
      cases sp with
      | none => exact ⟨c, e, fr, rfl, hc, h⟩
      | some x => simp at hs
  · simp at h
theorem szT_cells {t : TypeId} {n : Nat} (h : szT P t = some n) : P.cellsOf t = n := by
  unfold szT at h
  unfold Program.cellsOf
  rw [h]; rfl
theorem fields_row {H : Type} {enc : TypeId × Value → H} {fuel : Nat} {g : TypeId → Option (List CT)} {cs : List Value}
    (ih : ∀ (t : TypeId) (cs : List Value) (d : DataW H) (ps : List MemPlace) (r : List CT), DataW.trod enc P w 0 (fun _ => true) true fuel t cs = some (d, ps) → g t = some r → ∃ xs, Row cx w X r (fun j => cs[j]?) xs) :
    ∀ (fs : List Field) (o : Nat) (ys : List (DataW H × List MemPlace)) (r : List CT), (fs.mapM fun f => DataW.trod enc P w 0 (fun _ => true) true fuel f.type ((cs.drop f.offset).take (P.cellsOf f.type))) = some ys →
      rowFs P g fs o = some r → ∃ xs, Row cx w X r (fun j => cs[o + j]?) xs
  | [], o, ys, r, _, hr => by
    simp only [rowFs, Option.some.injEq] at hr
    subst hr
    exact ⟨[], rfl, fun j hj => by simp at hj⟩
  | f :: fs, o, ys, r, h, hr => by
    rw [List.mapM_cons] at h
    simp only [rowFs] at hr
    split at hr <;> try (simp at hr; done)
    rename_i ho
    simp only [Option.bind_eq_some_iff] at hr
    obtain ⟨r1, hr1, hr⟩ := hr
    split at hr <;> try (simp at hr; done)
    rename_i hz
    simp only [Option.bind_eq_some_iff, Option.some.injEq] at hr
    obtain ⟨r2, hr2, rfl⟩ := hr
    cases h1 : DataW.trod enc P w 0 (fun _ => true) true fuel f.type ((cs.drop f.offset).take (P.cellsOf f.type)) with
    | none => simp [h1] at h
    | some y =>
      cases h2 : fs.mapM fun f => DataW.trod enc P w 0 (fun _ => true) true fuel f.type ((cs.drop f.offset).take (P.cellsOf f.type)) with
      | none => simp [h1, h2] at h
      | some zs =>
        obtain ⟨d, ps⟩ := y
        obtain ⟨xs, hx⟩ := ih _ _ _ _ _ h1 hr1
        obtain ⟨ys, hy⟩ := fields_row ih fs (o + r1.length) zs r2 h2 hr2
        have hx' : Row cx w X r1 (fun j => cs[o + j]?) xs := ⟨hx.1, fun j hj => by
          obtain ⟨u, a, b⟩ := hx.2 j hj
          refine ⟨u, ?_, b⟩
          simp only at a ⊢
          rw [szT_cells hz, List.getElem?_take_of_lt hj, List.getElem?_drop, ho] at a
          exact a⟩
        refine ⟨xs ++ ys, hx'.append ?_⟩
        simpa only [Nat.add_assoc] using hy
theorem reading {H : Type} {enc : TypeId × Value → H} : ∀ (fuel : Nat) (n : Nat) (t : TypeId) (cs : List Value) (d : DataW H) (ps : List MemPlace) (r : List CT),
    DataW.trod enc P w 0 (fun _ => true) true fuel t cs = some (d, ps) → rowT P n t = some r → ∃ xs, Row cx w (fun _ => False) r (fun j => cs[j]?) xs
  | 0, n, t, cs, d, ps, r, h, _ => by simp [DataW.trod] at h
  | fuel + 1, 0, t, cs, d, ps, r, _, hr => by simp [rowT] at hr
  | fuel + 1, n + 1, t, cs, d, ps, r, h, hr => by
    have ih := fun t cs d ps r => reading (enc := enc) fuel n t cs d ps r
    unfold rowT at hr
    unfold DataW.trod at h
    split at hr
    · rename_i ht
      rw [ht] at h
      simp only [Option.some.injEq] at hr
      subst hr
      split at h <;> simp_all
      subst_vars
      exact ⟨_, Row.one rfl rfl (.bool _) (.bool _)⟩
    · rename_i k ht
      rw [ht] at h
      simp only [Option.some.injEq] at hr
      subst hr
      split at h <;> simp_all
      obtain ⟨⟨rfl, hw⟩, -⟩ := h
      subst_vars
      exact ⟨_, Row.one rfl rfl (.int _ _) (.int _ _ hw)⟩
    · rename_i ht
      rw [ht] at h
      simp only [Option.some.injEq] at hr
      subst hr
      split at h
      all_goals try (simp_all; done)
      rename_i s heq
      split at h <;> simp only [Option.some.injEq, reduceCtorEq] at h
      rename_i hle
      have hl : s.data.toList.length = s.size := Array.length_toList
      exact ⟨_, Row.one rfl rfl (.str s) (.str _ (by omega))⟩
    · rename_i e ht
      simp only [Option.bind_eq_some_iff] at hr
      obtain ⟨r1, hr1, hr⟩ := hr
      split at hr <;> simp only [Option.some.injEq, reduceCtorEq] at hr
      rename_i hz
      subst hr
      rw [ht] at h
      split at h
      all_goals try (simp_all; done)
      · exact ⟨_, Row.one rfl rfl (.nilslice none r1.length) (.slice r1 [] (by simp) (fun i hi => by simp at hi) (fun i j hi => by simp at hi))⟩
      · rename_i e' a len cap heq
        simp only [Option.some.injEq, TypeDesc.slice.injEq] at heq
        subst heq
        simp only at h
        split at h <;> try (simp at h; done)
        rename_i hc
        obtain ⟨-, hc1, hc2⟩ := hc
        have hsz : P.cellsOf e = r1.length := szT_cells hz.1
        simp only [Option.bind_eq_some_iff, Option.map_eq_some_iff] at h
        obtain ⟨elems, hel, rest, hrest, -⟩ := h
        simp only [if_true] at hrest
        rw [hsz] at hel hrest
        have el : ∀ i, i < cap → ∃ l, w.cells? 0 (a.add (i * r1.length)) r1.length = some l ∧ ∃ y, DataW.trod enc P w 0 (fun _ => true) true fuel e l = some y := by
          intro i hi
          have : ∃ y, ((w.cells? 0 (a.add (i * r1.length)) r1.length).bind (DataW.trod enc P w 0 (fun _ => true) true fuel e)) = some y := by
            by_cases hlt : i < len
            · have h1 := mapM_some_get hel i i (by simp [hlt])
              have h2 := mapM_some_length hel
              simp only [List.length_range] at h2
              exact ⟨elems[i], by rw [h1]; simp⟩
            · have hr0 : (List.range (cap - len))[i - len]? = some (i - len) := by
                rw [List.getElem?_range (by omega)]
              have h1 := mapM_some_get hrest (i - len) (i - len) hr0
              have h2 := mapM_some_length hrest
              simp only [List.length_range] at h2
              rw [show len + (i - len) = i from by omega] at h1
              exact ⟨rest[i - len], by rw [h1]; simp⟩
          obtain ⟨y, hy⟩ := this
          simp only [Option.bind_eq_some_iff] at hy
          obtain ⟨l, h1, h2⟩ := hy
          exact ⟨l, h1, y, h2⟩
        by_cases hcap : cap = 0
        · subst hcap
          obtain rfl : len = 0 := by omega
          exact ⟨_, Row.one rfl rfl (.nilslice (some a) r1.length) (.slice r1 [] (by simp) (fun i hi => by simp at hi) (fun i j hi => by simp at hi))⟩
        · obtain ⟨l0, hl0, -⟩ := el 0 (by omega)
          have hl0' := World.cells?_some hl0
          obtain ⟨c, ec, fr, hspot, hheap, -⟩ := cell_at (w := w) (a := (a.add (0 * r1.length)).add 0) (u := l0[0]'(by omega)) (by rw [hl0'.2.2 0 (by omega)]; simp)
          have hspot' : a = ⟨a.block, a.off, none⟩ := by
            obtain ⟨b, o, sp⟩ := a
            simp only [Addr.add] at hspot
            cases sp <;> simp_all
          obtain ⟨b, o, sp⟩ := a
          simp only [Addr.mk.injEq, true_and] at hspot'
          subst hspot'
          have hheap : w.heap[b]? = some (.cells c ec fr) := by simpa [Addr.add] using hheap
          have row : ∀ i, i < len → ∃ xs, Row cx w (fun _ => False) r1 (fun j => c[o + i * r1.length + j]?) xs := by
            intro i hi
            obtain ⟨l, hl, ⟨d', ps'⟩, hd⟩ := el i (by omega)
            obtain ⟨xs, hx1, hx2⟩ := ih _ _ _ _ _ hd hr1
            obtain ⟨-, hl1, hl2⟩ := World.cells?_some hl
            refine ⟨xs, hx1, fun j hj => ?_⟩
            obtain ⟨u, p1, p2⟩ := hx2 j hj
            refine ⟨u, ?_, p2⟩
            simp only at p1 ⊢
            have h3 := hl2 j hj
            rw [p1, addr_add, addr_add] at h3
            obtain ⟨c', _, _, _, h4, h5⟩ := cell_at h3
            rw [hheap] at h4
            simp only [Option.some.injEq, Obj.cells.injEq] at h4
            obtain ⟨rfl, -⟩ := h4
            exact h5
          obtain ⟨f, hf⟩ := pickf row
          have hlen : ((List.range len).map f).length = len := by simp
          have hgr : ∀ i, i < len → gr ((List.range len).map f) i = f i := fun i hi => by simp [gr, hi]
          refine ⟨[.slice r1.length ((List.range len).map f)], Row.one rfl rfl ?_ ?_⟩
          · refine slice_mk (c := c) (e := ec) (fr := fr) (lt_of_some hheap) id hheap (by simpa using hc1) (fun i hi => ?_) (fun i j hi hj => ?_) hlen
            · rw [hlen] at hi; rw [hgr i hi]; exact (hf i hi).1
            · rw [hlen] at hi; rw [hgr i hi]
              obtain ⟨u, p1, p2, p3, p4⟩ := (hf i hi).2 j hj
              exact ⟨u, p1, p2, p3⟩
          · refine .slice r1 _ (by omega) (fun i hi => ?_) (fun i j hi hj => ?_)
            · rw [hlen] at hi; rw [hgr i hi]; exact (hf i hi).1
            · rw [hlen] at hi; rw [hgr i hi]
              obtain ⟨u, p1, p2, p3, p4⟩ := (hf i hi).2 j hj
              exact p4
    · rename_i fs ht
      simp only [Option.bind_eq_some_iff] at hr
      obtain ⟨r1, hr1, hr⟩ := hr
      split at hr <;> simp only [Option.some.injEq, reduceCtorEq] at hr
      subst hr
      rw [ht] at h
      split at h
      all_goals try (simp_all; done)
      rename_i fs' _ heq
      simp only [Option.some.injEq, TypeDesc.struct.injEq] at heq
      subst heq
      split at h <;> try (simp at h; done)
      simp only [Option.map_eq_some_iff] at h
      obtain ⟨ys, hys, -⟩ := h
      obtain ⟨xs, hx⟩ := fields_row (fun t cs d ps r => ih t cs d ps r) fs.toList 0 ys _ hys hr1
      exact ⟨xs, by simpa using hx⟩
    · simp at hr
end
end Sg
namespace Sg
open Go Go.RowKit Go.ChangeShapes Go.WideShapes
set_option linter.unusedSimpArgs false
set_option linter.unusedVariables false
def isAgg (P : Program) (t : TypeId) : Bool :=
  match P.underlying t with
  | some (.struct _) => true
  | _ => false
def sigT (P : Program) (t : TypeId) : Option (Bool × List CT) := (rowT P 20 t).bind fun r => some (isAgg P t, r)
def HasRow (r : List CT) (xs : List V) : Prop := xs.length = r.length ∧ ∀ j, j < r.length → Has (gt r j) (gv xs j)
def ArgV : Bool × List CT → V → Prop
  | (true, r), x => ∃ xs, x = .agg xs ∧ HasRow r xs
  | (false, r), x => ∃ c, r = [c] ∧ Has c x
def ArgsV : List (Bool × List CT) → List V → Prop
  | [], [] => True
  | s :: ss, x :: xs => ArgV s x ∧ ArgsV ss xs
  | _, _ => False
section
variable {P : Program} {cx : Cx} {w : World}
theorem arg_ok {H : Type} {enc : TypeId × Value → H} {t : TypeId} {v : Value} {d : DataW H} {ps : List MemPlace} {s : Bool × List CT} {base : Nat} (h : DataW.Trod enc P w 0 (fun _ => true) true t v d ps)
    (hw : Value.okWide P w .any base t v) (hs : sigT P t = some s) : ∃ x, RelD cx w (fun _ => False) v x ∧ ArgV s x := by
  unfold sigT at hs
  simp only [Option.bind_eq_some_iff, Option.some.injEq] at hs
  obtain ⟨r, hr, rfl⟩ := hs
  obtain ⟨fuel, hf⟩ := h
  obtain ⟨xs, hl, hx⟩ := reading (cx := cx) fuel 20 t _ d ps r hf hr
  have one : ∀ c, r = [c] → v.cells = #[v] → isAgg P t = false → ∃ x, RelD cx w (fun _ => False) v x ∧ ArgV (isAgg P t, r) x := by
    intro c hc hv ha
    subst hc
    obtain ⟨u, h1, h2, h3, h4⟩ := hx 0 (by simp)
    rw [hv] at h1
    simp at h1
    subst h1
    exact ⟨gv xs 0, h3, by rw [ha]; exact ⟨c, rfl, h4⟩⟩
  unfold rowT at hr
  split at hr
  · rename_i ht
    obtain ⟨b, rfl⟩ := okWide_bool ht hw
    simp only [Option.some.injEq] at hr
    exact one _ hr.symm rfl (by simp [isAgg, ht])
  · rename_i k ht
    obtain ⟨b, rfl⟩ := okWide_int ht hw
    simp only [Option.some.injEq] at hr
    exact one _ hr.symm rfl (by simp [isAgg, ht])
  · rename_i ht
    obtain ⟨b, rfl⟩ := okWide_string ht hw
    simp only [Option.some.injEq] at hr
    exact one _ hr.symm rfl (by simp [isAgg, ht])
  · rename_i e ht
    obtain ⟨a, len, cap, rfl⟩ := okWide_slice ht hw
    simp only [Option.bind_eq_some_iff] at hr
    obtain ⟨r1, -, hr⟩ := hr
    split at hr <;> simp only [Option.some.injEq, reduceCtorEq] at hr
    exact one _ hr.symm rfl (by simp [isAgg, ht])
  · rename_i fs ht
    obtain ⟨cs, rfl, hsz⟩ := okWide_struct ht hw
    simp only [Option.bind_eq_some_iff] at hr
    obtain ⟨r1, -, hr⟩ := hr
    split at hr <;> simp only [Option.some.injEq, reduceCtorEq] at hr
    rename_i hz
    subst hr
    have hcs : cs.size = r1.length := by rw [hsz]; exact szT_cells hz
    have ha : isAgg P t = true := by simp [isAgg, ht]
    obtain ⟨u, hu⟩ := pickf hx
    refine ⟨.agg xs, .agg cs xs u (by rw [hcs, hl]) (fun i hi => ?_) (fun i hi => ?_), ?_⟩
    · rw [hl] at hi
      have := (hu i hi).1
      exact ⟨by simpa [Value.cells] using this, (hu i hi).2.1⟩
    · rw [hl] at hi; exact (hu i hi).2.2.1
    · rw [ha]; exact ⟨xs, rfl, hl, fun j hj => (hu j hj).2.2.2⟩
  · simp at hr
theorem args_ok {H : Type} {enc : TypeId × Value → H} {base : Nat} : ∀ (ts : List TypeId) (vs : List Value) (ds : List (DataW H)) (ps : List MemPlace) (ss : List (Bool × List CT)), DataW.TrodAll enc P w 0 (fun _ => true) true ts vs ds ps →
    (∀ (j : Nat) t v, ts[j]? = some t → vs[j]? = some v → Value.okWide P w .any base t v) → mapO (sigT P) ts = some ss →
    ∃ xs : List V, xs.length = vs.length ∧ (∀ i, i < xs.length → ∃ u, vs[i]? = some u ∧ RelD cx w (fun _ => False) u (gv xs i)) ∧ ArgsV ss xs ∧ ds.length = ts.length
  | [], vs, ds, ps, ss, h, _, hs => by
    obtain ⟨rfl, rfl, rfl⟩ := trodAll_nil h
    simp only [mapO, Option.some.injEq] at hs
    subst hs
    exact ⟨[], rfl, fun i hi => by simp at hi, trivial, rfl⟩
  | t :: ts, vs, ds, ps, ss, h, hok, hs => by
    match vs, ds, h with
    | v :: vs, d :: ds, h =>
      obtain ⟨p, q, h1, h2, rfl⟩ := h
      simp only [mapO, Option.bind_eq_some_iff, Option.some.injEq] at hs
      obtain ⟨s, hs1, ss', hs2, rfl⟩ := hs
      obtain ⟨x, hx1, hx2⟩ := arg_ok (cx := cx) h1 (hok 0 t v rfl rfl) hs1
      obtain ⟨xs, a, b, c, e⟩ := args_ok ts vs ds q ss' h2 (fun j t v hj hv => hok (j + 1) t v (by simpa using hj) (by simpa using hv)) hs2
      refine ⟨x :: xs, by simp [a], fun i hi => ?_, ⟨hx2, c⟩, by simp [e]⟩
      cases i with
      | zero => exact ⟨v, rfl, by simpa [gv] using hx1⟩
      | succ i => obtain ⟨u, p1, p2⟩ := b i (by simpa using hi); exact ⟨u, by simpa using p1, by simpa [gv] using p2⟩
theorem args_back {H : Type} {enc : TypeId × Value → H} {W W' : World} {sp : Nat → Bool} (hl : laidOutB P = true) (hb : Below W.heap.size W W') :
    ∀ (ts : List TypeId) (vs : List Value) (ds : List (DataW H)) (ps : List MemPlace), (ts.all fun t => P.readableRec t && decide (t < P.types.size)) = true →
    DataW.TrodAll enc P W 0 (fun _ => true) true ts vs ds ps → (∀ p ∈ ps, p.block < W.heap.size) → (∀ p ∈ ps, sp p.block = true) → DataW.TrodAll enc P W' 0 sp true ts vs ds ps
  | [], vs, ds, ps, _, h, _, _ => by
    obtain ⟨rfl, rfl, rfl⟩ := trodAll_nil h
    exact trodAll_mk0
  | t :: ts, vs, ds, ps, hc, h, hlt, hsp => by
    match vs, ds, h with
    | v :: vs, d :: ds, h =>
      obtain ⟨p, q, h1, h2, rfl⟩ := h
      simp only [List.all_cons, Bool.and_eq_true, decide_eq_true_eq] at hc
      exact ⟨p, q, WideElems.Trod_stays hl hc.1.1 hc.1.2 h1 (fun x hx => hb.same (hlt x (by simp [hx]))) (fun x hx => hsp x (by simp [hx])),
        args_back hl hb ts vs ds q (by simpa using hc.2) h2 (fun x hx => hlt x (by simp [hx])) (fun x hx => hsp x (by simp [hx])), rfl⟩
theorem lift {H : Type} {enc : TypeId × Value → H} {fn : Func} {s : ChangeSpec} {conds : List PathCond} {apart fresh handsOn again : Bool} {own : Option Nat} {fid : Nat} {f : FuncId} {ss : List (Bool × List CT)} {tb : TypeId}
    (hcx : cx.fm fid = f) (hprm : mapO (sigT P) fn.params.toList = some ss) (hclosed : (fn.params.toList.all fun t => P.readableRec t && decide (t < P.types.size)) = true) (hl : laidOutB P = true)
    (hvars : s.vars = []) (hres : fn.resultTypes = #[tb]) (htb : P.underlying tb = some .bool)
    (hspec : ∀ ds : List (DataW H), ds.length = fn.params.toList.length → s.fn H ds = { results := [.lit (.bool true)], args := ds })
    (hctr : ∀ xs, ArgsV ss xs → Ctr P cx own fid xs (.bool true))
    (W : World) (hgn : cx.gn ≤ W.heap.size) (hG : cx.G W) (base : Nat) (args : Array Value) (ds gs : List (DataW H)) (before : List MemPlace)
    (hval : ∀ (j : Nat) t v, fn.params[j]? = some t → args[j]? = some v → Value.okWide P W .any base t v)
    (hW : DataW.Whole enc P fn.params.toList s.vars apart W args.toList ds gs before) :
    Calls P f args W fun e W' => ∃ v, e = .returned v ∧ s.post enc P fn apart fresh handsOn again W args v W' := by
  have hlt := hW.lt
  have hW' := hW
  obtain ⟨p, q, hA, hV, rfl, -, -⟩ := hW
  rw [hvars] at hV
  obtain ⟨rfl, rfl⟩ := trodVars_none hV
  obtain ⟨xs, h1, h2, h3, h4⟩ := args_ok (cx := cx) (base := base) fn.params.toList args.toList ds p ss hA (fun j t v hj hv => hval j t v (by simpa using hj) (by simpa using hv)) hprm
  obtain ⟨-, hc⟩ := hctr xs h3
  subst hcx
  refine (hc W (fun _ => False) args (fun b hb => hb.elim) hgn hG (by simpa using h1.symm) (fun i hi => by simpa using h2 i hi)).mono fun e W' ⟨v, he, hb, hr⟩ => ?_
  subst he
  have hr' := hr.data (fun b hb => hb.elim)
  have hv : v = .bool true := by cases hr'; rfl
  subst hv
  have hs := hspec ds h4
  have hlt' : ∀ x ∈ p, x.block < W.heap.size := fun x hx => hlt x (by simpa using hx)
  have res : ∀ (b : Nat) (sp : Nat → Bool) (hd : Bool), DataW.TrodAll enc P W' b sp hd fn.resultTypes.toList ((Value.bool true).resultList fn.resultTypes.size) (s.fn H (ds ++ [])).results [] := fun b sp hd => by
    rw [List.append_nil, hs, hres]; exact trodAll_mk1 (shut_bool htb true)
  have back : ∀ sp : Nat → Bool, (∀ x ∈ p, sp x.block = true) → DataW.TrodAll enc P W' 0 sp true fn.params.toList args.toList (s.fn H (ds ++ [])).args p := fun sp hsp => by
    rw [List.append_nil, hs]; exact args_back hl hb _ _ _ _ hclosed hA hlt' hsp
  have vars : ∀ sp : Nat → Bool, DataW.TrodVars enc P W' sp s.vars (s.fn H (ds ++ [])).vars [] := fun sp => by
    rw [List.append_nil, hs, hvars]; rfl
  refine ⟨_, rfl, ds, [], p ++ [], [], p, [], hW', res _ _ _, back _ (fun x hx => by simpa using hlt' x hx), vars _, hb.frame _, fun _ => ⟨ok_one hres rfl (okWide_bool_mk htb true), (s.fn H (ds ++ [])).results ++ (s.fn H (ds ++ [])).args, (s.fn H (ds ++ [])).vars, p, ?_, fun x hx _ => by simpa using hx⟩⟩
  obtain ⟨_, _, _, _, _, hz, hn⟩ := hW'
  refine ⟨p, [], ?_, vars _, by simp, fun b off hx => ?_, fun ha => by simpa using hn ha⟩
  · have := trodAll_append (back (fun _ => true) (fun _ _ => rfl)) (res 0 (fun _ => true) true)
    simpa using this
  · rw [hb.frozen (hlt' _ hx)]
    exact hz b off (by simpa using hx)
end
end Sg
namespace Sg
open _root_.Go
set_option linter.unusedSimpArgs false
set_option linter.unusedVariables false
theorem has_int {k : IntKind} {x : V} (h : Has (.int k) x) : ∃ n, x = .int k n ∧ (Lit.int k n).wf = true := by cases h; exact ⟨_, rfl, by assumption⟩
theorem has_str {x : V} (h : Has .str x) : ∃ s, x = .str s ∧ s.length ≤ maxLen := by cases h; exact ⟨_, rfl, by assumption⟩
theorem has_slice {r : List CT} {x : V} (h : Has (.slice r) x) : ∃ rows : List (List V), x = .slice r.length rows ∧ rows.length ≤ maxLen ∧ ∀ row ∈ rows, HasRow r row := by
  cases h with
  | slice r rows hl hz h =>
    refine ⟨rows, rfl, hl, fun row hrow => ?_⟩
    obtain ⟨i, hi, rfl⟩ := List.getElem_of_mem hrow
    have hg : gr rows i = rows[i] := by simp [gr, hi]
    exact ⟨by rw [← hg]; exact hz i hi, fun j hj => by rw [← hg]; exact h i j hi hj⟩
theorem rows_enc {α : Type} {enc : α → List V} {Q : α → Prop} : ∀ {rows : List (List V)}, (∀ row ∈ rows, ∃ a, row = enc a ∧ Q a) → ∃ l : List α, rows = l.map enc ∧ ∀ a ∈ l, Q a
  | [], _ => ⟨[], rfl, fun a ha => by simp at ha⟩
  | row :: rows, h => by
    obtain ⟨a, rfl, ha⟩ := h row (by simp)
    obtain ⟨l, rfl, hl⟩ := rows_enc (rows := rows) (fun r hr => h r (by simp [hr]))
    exact ⟨a :: l, rfl, fun b hb => by
      rcases List.mem_cons.1 hb with rfl | hb
      · exact ha
      · exact hl b hb⟩
theorem arg_str {x : V} (h : ArgV (false, [.str]) x) : ∃ s, x = .str s ∧ s.length ≤ maxLen := by
  obtain ⟨c, hc, h⟩ := h
  simp only [List.cons.injEq, and_true] at hc; subst hc
  exact has_str h
end Sg
namespace Sg
open _root_.Go (IntKind BinOp UnOp)
set_option linter.unusedSimpArgs false
set_option linter.unusedVariables false
set_option maxRecDepth 10000
variable {Pg : Nat → Option Fn}
theorem letS_snd {l : List UInt8} (h : l ≠ []) : (letS l).2 = ((dN l).2 : Int) := by
  rw [letS_dN h]
  by_cases c : dN l = (65533, 1)
  · rw [if_pos c, c]; rfl
  · rw [if_neg c]
theorem letS_neg {l : List UInt8} (h : l ≠ []) (hn : (letS l).1 < 0) : ((dN l).1 : Int) = 65533 := by
  rw [letS_dN h] at hn
  by_cases c : dN l = (65533, 1)
  · rw [c]; rfl
  · rw [if_neg c] at hn; simp at hn; omega
theorem letS_nn {l : List UInt8} (h : l ≠ []) (hn : ¬ (letS l).1 < 0) : ((dN l).1 : Int) = (letS l).1 := by
  rw [letS_dN h] at hn ⊢
  by_cases c : dN l = (65533, 1)
  · rw [if_pos c] at hn; simp at hn
  · rw [if_neg c]
theorem dN_le {l : List UInt8} (h : l ≠ []) : (dN l).2 ≤ l.length := by
  rcases dN_cases h with x | ⟨a0, t, rfl, q, x⟩ | ⟨a0, a1, t, rfl, q, q1, x⟩ | ⟨a0, a1, a2, t, rfl, q, q1, q2, q3, x⟩ | ⟨a0, a1, a2, a3, t, rfl, q, q1, q2, q3, q4, x⟩
  · rw [x]; have := List.length_pos_iff.2 h; simp only; omega
  all_goals rw [x]; simp
@[go_sem] def eIL (l : List Int) : V := .slice 1 (l.map fun x => [iz x])
def H195 (Pg : Nat → Option Fn) : Prop := Pg 195 = some (.code F195) ∧ H188 Pg
theorem len_pos {l : List UInt8} : decide ((0 : Int) < (l.length : Int)) = !decide (l = []) := by
  cases l <;> simp
theorem K195 (h : H195 Pg) (s : List UInt8) (hl : s.length ≤ 1000000) : K' Pg 195 [.str s] = some (eIL (lets s)) := by
  obtain ⟨h, h188⟩ := h
  refine K'_code h rfl ?_
  simp only [go_sem, mkA]
  unfold l195_0
  refine wp_lp (fun (l : List UInt8) S => ∃ acc : List Int, S.ρ 0 = .str l ∧ S.A 3 = some (1, acc.map (fun x => [iz x]), .live) ∧ S.ρ 3 = .own 3 1 acc.length ∧ acc ++ lets l = lets s ∧ acc.length + l.length ≤ s.length) (fun l => l.length) s ?_ ?_
  · exact ⟨[], by simp [go_sem]⟩
  · intro l S ⟨acc, h0, a3, h3, hacc, hlen⟩
    simp only [go_sem, h0, a3, h3, len_pos]
    by_cases hn : l = []
    · subst hn
      rw [lets_nil, List.append_nil] at hacc
      subst hacc
      simp only [go_sem, h0, a3, h3]
    · have hd := drop_lt hn
      have hp := List.length_pos_iff.2 hn
      have k := K188 h188 l hn
      rw [show letS l = ((letS l).1, ((dN l).2 : Int)) from Prod.ext rfl (letS_snd hn)] at k
      simp only [eLN] at k
      have hle := dN_le hn
      have hlim : acc.length + 1 ≤ lim := by simp only [lim]; omega
      have hc := lets_cons hn
      simp only [go_sem, hn, h0, a3, h3, k]
      refine wpc_i (fun c => ?_) (fun c => ?_)
      · have e := letS_neg hn (of_decide_eq_true c)
        simp only [go_sem, h0, a3, h3, hlim, hle]
        refine ⟨l.drop (dN l).2, hd, acc ++ [65533], rfl, by simp, by simp, ?_, by simp only [List.length_append, List.length_cons, List.length_nil]; omega⟩
        rw [← hacc, hc, e]; simp
      · have e := letS_nn hn (of_decide_eq_false c)
        simp only [go_sem, h0, a3, h3, hlim, hle]
        refine ⟨l.drop (dN l).2, hd, acc ++ [(letS l).1], rfl, by simp, by simp, ?_, by simp only [List.length_append, List.length_cons, List.length_nil]; omega⟩
        rw [← hacc, hc, e]; simp
def H168 (Pg : Nat → Option Fn) : Prop := Pg 168 = some (.code F168) ∧ H188 Pg ∧ H189 Pg
theorem K168 (h : H168 Pg) (s : List UInt8) : K' Pg 168 [.str s] = some (.bool (keyR s)) := by
  obtain ⟨h, h188, h189⟩ := h
  refine K'_code h rfl ?_
  have ez : decide ((s.length : Int) = 0) = decide (s = []) := by cases s <;> simp; omega
  simp only [go_sem, ez]
  by_cases hs : s = []
  · have e : keyR s = false := by rw [hs]; rfl
    rw [e]
    simp only [go_sem, hs]
  simp only [go_sem, hs]
  refine wpc_i (fun c => ?_) (fun c => ?_)
  · have e : keyR s = false := by
      have := of_decide_eq_true c
      have : decide (s.length ≤ 16) = false := decide_eq_false (by omega)
      simp [keyR, this]
    rw [e]
    simp only [go_sem]
  have c := of_decide_eq_false c
  have hp := List.length_pos_iff.2 hs
  have e : keyR s = keyAll s.length s := by
    have h1 : decide (1 ≤ s.length) = true := decide_eq_true (by omega)
    have h2 : decide (s.length ≤ 16) = true := decide_eq_true (by omega)
    simp only [keyR, h1, h2, Bool.and_true]
  rw [e]
  simp only [go_sem]
  unfold l168_0
  refine wp_lp (fun (l : List UInt8) S => S.ρ 0 = .str l ∧ keyAll l.length l = keyAll s.length s) (fun l => l.length) s ?_ ?_
  · simp [go_sem]
  · intro l S ⟨h0, hacc⟩
    simp only [go_sem, h0, len_pos]
    by_cases hn : l = []
    · subst hn
      rw [← hacc]
      simp only [go_sem, h0, keyAll_nil]
    · have hd := drop_lt hn
      have k := K188 h188 l hn
      rw [show letS l = ((letS l).1, ((dN l).2 : Int)) from Prod.ext rfl (letS_snd hn)] at k
      simp only [eLN] at k
      have k9 := K189 h189 (letS l).1
      rw [plain_eq hn] at k9
      have hle := dN_le hn
      rw [keyAll_cons hn] at hacc
      simp only [go_sem, hn, h0, k, k9]
      cases hP : plainR (dN l).1 (dN l).2 with
      | false =>
        rw [hP, Bool.false_and] at hacc
        rw [← hacc]
        simp only [go_sem, hP]
      | true =>
        rw [hP, Bool.true_and] at hacc
        simp only [go_sem, hP, h0, hle]
        exact ⟨l.drop (dN l).2, hd, rfl, hacc⟩
def H187 (Pg : Nat → Option Fn) : Prop := Pg 187 = some (.code F187) ∧ H195 Pg
theorem K187 (h : H187 Pg) (a b : List UInt8) (ha : a.length ≤ 1000000) (hb : b.length ≤ 1000000) : K' Pg 187 [.str a, .str b] = some (iz (cmpL (lets a) (lets b))) := by
  obtain ⟨h, h195⟩ := h
  have ka := K195 h195 a ha
  have kb := K195 h195 b hb
  simp only [eIL] at ka kb
  refine K'_code h rfl ?_
  simp only [go_sem, ka, kb]
  have la := lets_len a.length a (Nat.le_refl _)
  have lb := lets_len b.length b (Nat.le_refl _)
  generalize lets a = x at *
  generalize lets b = y at *
  unfold l187_0
  refine wp_lp (fun (i : Nat) S => i ≤ x.length ∧ i ≤ y.length ∧ S.ρ 5 = eIL x ∧ S.ρ 6 = eIL y ∧ S.ρ 7 = iz i ∧ cmpL (x.drop i) (y.drop i) = cmpL x y) (fun i => x.length - i) 0 ?_ ?_
  · simp [go_sem]
  · intro i S ⟨hi, hj, h5, h6, h7, ho⟩
    simp only [go_sem, h5, h6, h7]
    by_cases hx : i < x.length
    · have ex : decide ((i : Int) < (x.length : Int)) = true := decide_eq_true (by omega)
      obtain ⟨u, hu, hdx⟩ := drop_at hx
      by_cases hy : i < y.length
      · have ey : decide ((i : Int) < (y.length : Int)) = true := decide_eq_true (by omega)
        obtain ⟨v, hv, hdy⟩ := drop_at hy
        rw [hdx, hdy] at ho
        simp only [go_sem, h5, h6, h7, ex, ey, hu, hv]
        refine wpc_i (fun c => ?_) (fun c => ?_)
        · rw [cmpL_lt' (of_decide_eq_true c)] at ho
          simp only [go_sem, ← ho]
        · have c := of_decide_eq_false c
          simp only [go_sem, h5, h6, h7, hu, hv]
          refine wpc_i (fun d => ?_) (fun d => ?_)
          · rw [cmpL_gt' (of_decide_eq_true d)] at ho
            simp only [go_sem, ← ho]
          · have d := of_decide_eq_false d
            obtain rfl : u = v := by omega
            rw [cmpL_eq'] at ho
            simp only [go_sem, h5, h6, h7]
            exact ⟨i + 1, by omega, by omega, by omega, by rw [inc64 hx (by omega)], ho⟩
      · have ey : decide ((i : Int) < (y.length : Int)) = false := decide_eq_false (by omega)
        have e1 : decide ((x.length : Int) < (y.length : Int)) = false := decide_eq_false (by omega)
        have e2 : decide ((y.length : Int) < (x.length : Int)) = true := decide_eq_true (by omega)
        have hdy : y.drop i = [] := List.drop_eq_nil_of_le (by omega)
        rw [hdx, hdy] at ho
        have ho : (1 : Int) = cmpL x y := ho
        simp only [go_sem, h5, h6, h7, ex, ey, e1, e2, ← ho]
    · have ex : decide ((i : Int) < (x.length : Int)) = false := decide_eq_false (by omega)
      simp only [go_sem, h5, h6, h7, ex]
      rw [List.drop_eq_nil_of_le (by omega)] at ho
      by_cases hy : i < y.length
      · have e1 : decide ((x.length : Int) < (y.length : Int)) = true := decide_eq_true (by omega)
        obtain ⟨v, hv, hdy⟩ := drop_at hy
        rw [hdy] at ho
        have ho : (-1 : Int) = cmpL x y := ho
        simp only [go_sem, h5, h6, h7, ex, e1, ← ho]
      · have e1 : decide ((x.length : Int) < (y.length : Int)) = false := decide_eq_false (by omega)
        have e2 : decide ((y.length : Int) < (x.length : Int)) = false := decide_eq_false (by omega)
        rw [List.drop_eq_nil_of_le (by omega)] at ho
        have ho : (0 : Int) = cmpL x y := ho
        simp only [go_sem, h5, h6, h7, ex, e1, e2, ← ho]
def H192 (Pg : Nat → Option Fn) : Prop := Pg 192 = some (.code F192) ∧ H190 Pg
theorem K192 (h : H192 Pg) (a b : List UInt8) : K' Pg 192 [.str a, .str b] = some (iz (cmpL (lets a) (lets b))) := by
  obtain ⟨h, h190⟩ := h
  refine K'_code h rfl ?_
  simp only [go_sem]
  unfold l192_0
  refine wp_lp (fun (p : List UInt8 × List UInt8) S => S.ρ 0 = .str p.1 ∧ S.ρ 1 = .str p.2 ∧ cmpL (lets p.1) (lets p.2) = cmpL (lets a) (lets b)) (fun p => p.1.length) (a, b) ?_ ?_
  · simp [go_sem]
  · intro ⟨x, y⟩ S ⟨h0, h1, ho⟩
    simp only at h0 h1 ho
    have k := K190 h190 x
    have k' := K190 h190 y
    simp only [go_sem, h0, h1]
    by_cases hx : x = []
    · subst hx
      rw [lets_nil] at ho
      by_cases hy : y = []
      · subst hy
        have ho : (0 : Int) = cmpL (lets a) (lets b) := ho
        simp only [go_sem, h0, h1, ← ho]
      · rw [lets_cons hy] at ho
        have ho : (-1 : Int) = cmpL (lets a) (lets b) := ho
        simp only [go_sem, h0, h1, hy, ← ho]
    · by_cases hy : y = []
      · subst hy
        rw [lets_cons hx, lets_nil] at ho
        have ho : (1 : Int) = cmpL (lets a) (lets b) := ho
        simp only [go_sem, h0, h1, hx, ← ho]
      · rw [lets_cons hx, lets_cons hy] at ho
        have ex : decL x = dN x := by rw [decL, if_neg hx]
        have ey : decL y = dN y := by rw [decL, if_neg hy]
        rw [ex] at k
        rw [ey] at k'
        have lx := dN_le hx
        have ly := dN_le hy
        have hd := drop_lt hx
        simp only [go_sem, h0, h1, hx, hy, k, k']
        refine wpc_i (fun c => ?_) (fun c => ?_)
        · rw [cmpL_lt' (of_decide_eq_true c)] at ho
          simp only [go_sem, ← ho]
        · have c := of_decide_eq_false c
          simp only [go_sem, h0, h1, hx, hy]
          refine wpc_i (fun d => ?_) (fun d => ?_)
          · rw [cmpL_gt' (of_decide_eq_true d)] at ho
            simp only [go_sem, ← ho]
          · have d := of_decide_eq_false d
            have e : ((dN x).1 : Int) = ((dN y).1 : Int) := by omega
            rw [e, cmpL_eq'] at ho
            simp only [go_sem, h0, h1, lx, ly]
            exact ⟨(x.drop (dN x).2, y.drop (dN y).2), hd, rfl, rfl, ho⟩
end Sg
namespace Sg
open _root_.Go (IntKind BinOp UnOp)
set_option linter.unusedSimpArgs false
set_option linter.unusedVariables false
set_option maxRecDepth 10000
variable {Pg : Nat → Option Fn}
structure Span where
  lo : List UInt8
  hi : List UInt8
  deriving DecidableEq
@[go_sem] def eSpan (s : Span) : List V := [.str s.lo, .str s.hi]
def ltS (a b : List UInt8) : Bool := decide (cmpL (lets a) (lets b) < 0)
def leS (a b : List UInt8) : Bool := decide (cmpL (lets a) (lets b) ≤ 0)
def spanR (s : Span) : Bool := (decide (s.lo = []) || keyR s.lo) && (decide (s.hi = []) || (keyR s.hi && ltS s.lo s.hi))
theorem cmp_m1 {a b : List Int} : decide (cmpL a b = -1) = decide (cmpL a b < 0) := by
  apply decide_eq_decide.2
  have := cmpL_val a b
  omega
theorem len_nil {l : List UInt8} : decide ((l.length : Int) = 0) = decide (l = []) := by cases l <;> simp; omega
theorem keyR_len {l : List UInt8} (h : keyR l = true) : l.length ≤ 16 ∧ l ≠ [] := by
  simp only [keyR, Bool.and_eq_true, decide_eq_true_eq] at h
  exact ⟨h.2.2, fun e => by rw [e] at h; simp at h⟩
def H186 (Pg : Nat → Option Fn) : Prop := Pg 186 = some (.code F186) ∧ H170 Pg ∧ H192 Pg
theorem K186 (h : H186 Pg) (s : Span) : K' Pg 186 [.agg (eSpan s)] = some (.bool (spanR s)) := by
  obtain ⟨h, h170, h192⟩ := h
  have k1 := K170 h170 s.lo
  have k2 := K170 h170 s.hi
  have k3 := K192 h192 s.lo s.hi
  refine K'_code h rfl ?_
  cases c1 : decide (s.lo = []) <;> cases c2 : keyR s.lo <;> cases c3 : decide (s.hi = []) <;> cases c4 : keyR s.hi <;>
    simp only [go_sem, c1, c2, c3, c4, k1, k2, k3, spanR, ltS]
def H167 (Pg : Nat → Option Fn) : Prop := Pg 167 = some (.code F167) ∧ H168 Pg ∧ H187 Pg
theorem K167 (h : H167 Pg) (s : Span) : K' Pg 167 [.agg (eSpan s)] = some (.bool (spanR s)) := by
  obtain ⟨h, h168, h187⟩ := h
  have k1 := K168 h168 s.lo
  have k2 := K168 h168 s.hi
  have k3 : s.lo.length ≤ 1000000 → s.hi.length ≤ 1000000 → _ := K187 h187 s.lo s.hi
  refine K'_code h rfl ?_
  cases c1 : decide (s.lo = []) with
  | true =>
    have hl : s.lo.length ≤ 1000000 := by rw [of_decide_eq_true c1]; simp
    cases c3 : decide (s.hi = []) with
    | true => simp only [go_sem, c1, c3, k1, k2, len_nil, len_pos, spanR]
    | false =>
      cases c4 : keyR s.hi with
      | false => simp only [go_sem, c1, c3, c4, k1, k2, len_nil, len_pos, spanR]
      | true => simp only [go_sem, c1, c3, c4, k1, k2, k3 hl (by have := keyR_len c4; omega), len_nil, len_pos, spanR, ltS, cmp_m1]
  | false =>
  cases c2 : keyR s.lo with
  | false => simp only [go_sem, c1, c2, k1, k2, len_nil, len_pos, spanR]
  | true =>
    have hl : s.lo.length ≤ 1000000 := by have := keyR_len c2; omega
    cases c3 : decide (s.hi = []) with
    | true => simp only [go_sem, c1, c2, c3, k1, k2, len_nil, len_pos, spanR]
    | false =>
      cases c4 : keyR s.hi with
      | false => simp only [go_sem, c1, c2, c3, c4, k1, k2, len_nil, len_pos, spanR]
      | true => simp only [go_sem, c1, c2, c3, c4, k1, k2, k3 hl (by have := keyR_len c4; omega), len_nil, len_pos, spanR, ltS, cmp_m1]
theorem spanR_len {s : Span} (h : spanR s = true) : s.lo.length ≤ 16 ∧ s.hi.length ≤ 16 := by
  simp only [spanR, Bool.and_eq_true, Bool.or_eq_true, decide_eq_true_eq] at h
  constructor
  · rcases h.1 with e | e
    · rw [e]; simp
    · exact (keyR_len e).1
  · rcases h.2 with e | e
    · rw [e]; simp
    · exact (keyR_len e.1).1
def hasS (s : Span) (k : List UInt8) : Bool := spanR s && (keyR k && (leS s.lo k && (decide (s.hi = []) || ltS k s.hi)))
def H171 (Pg : Nat → Option Fn) : Prop := Pg 171 = some (.code F171) ∧ H186 Pg ∧ H170 Pg ∧ H192 Pg
theorem K171 (h : H171 Pg) (s : Span) (k : List UInt8) : K' Pg 171 [.agg (eSpan s), .str k] = some (.bool (hasS s k)) := by
  obtain ⟨h, h186, h170, h192⟩ := h
  have k1 := K186 h186 s
  have k2 := K170 h170 k
  have k3 := K192 h192 s.lo k
  have k4 := K192 h192 k s.hi
  simp only [eSpan] at k1
  refine K'_code h rfl ?_
  cases c1 : spanR s <;> cases c2 : keyR k <;> cases c3 : decide (cmpL (lets s.lo) (lets k) ≤ 0) <;> cases c4 : decide (s.hi = []) <;>
    simp only [go_sem, c1, c2, c3, c4, k1, k2, k3, k4, hasS, leS, ltS]
def H169 (Pg : Nat → Option Fn) : Prop := Pg 169 = some (.code F169) ∧ H187 Pg
theorem cmp_sw {a b : List Int} : decide (0 ≤ cmpL a b) = decide (cmpL b a ≤ 0) := by
  apply decide_eq_decide.2
  have := cmpL_neg a b
  omega
theorem K169 (h : H169 Pg) (k lo hi : List UInt8) (h1 : k.length ≤ 1000000) (h2 : lo.length ≤ 1000000) (h3 : hi.length ≤ 1000000) : K' Pg 169 [.str k, .str lo, .str hi] = some (.bool (leS lo k && (decide (hi = []) || ltS k hi))) := by
  obtain ⟨h, h187⟩ := h
  have k1 := K187 h187 k lo h1 h2
  have k2 := K187 h187 k hi h1 h3
  refine K'_code h rfl ?_
  cases c3 : decide (cmpL (lets lo) (lets k) ≤ 0) <;> cases c4 : decide (hi = []) <;>
    simp only [go_sem, c3, c4, k1, k2, leS, ltS, cmp_sw, len_nil]
def H142 (Pg : Nat → Option Fn) : Prop := Pg 142 = some (.code F142) ∧ H167 Pg ∧ H168 Pg ∧ H169 Pg
theorem K142 (h : H142 Pg) (s : Span) (k : List UInt8) : K' Pg 142 [.agg (eSpan s), .str k] = some (.bool (hasS s k)) := by
  obtain ⟨h, h167, h168, h169⟩ := h
  have k1 := K167 h167 s
  have k2 := K168 h168 k
  simp only [eSpan] at k1
  refine K'_code h rfl ?_
  cases c1 : spanR s with
  | false => simp only [go_sem, c1, k1, hasS]
  | true =>
  cases c2 : keyR k with
  | false => simp only [go_sem, c1, c2, k1, k2, hasS]
  | true =>
    have l1 := spanR_len c1
    have l2 := keyR_len c2
    have k3 := K169 h169 k s.lo s.hi (by omega) (by omega) (by omega)
    simp only [go_sem, c1, c2, k1, k2, k3, hasS]
def aheadS (lo hi : List UInt8) : Bool := decide (hi = []) || ltS lo hi
theorem ltS_iff {a b : List UInt8} : ltS a b = true ↔ cmpL (lets a) (lets b) < 0 := by simp [ltS]
theorem lt_tr {a b c : List UInt8} (h1 : cmpL (lets a) (lets b) ≤ 0) (h2 : cmpL (lets b) (lets c) < 0) : cmpL (lets a) (lets c) < 0 := (cmpL_tr _ _ _ h1 (by omega)).2 (.inr h2)
theorem le_sw {a b : List UInt8} (h : ¬ cmpL (lets a) (lets b) < 0) : cmpL (lets b) (lets a) ≤ 0 := by have := cmpL_neg (lets a) (lets b); omega
end Sg
namespace Sg
open _root_.Go (IntKind BinOp UnOp)
set_option linter.unusedSimpArgs false
set_option linter.unusedVariables false
set_option maxRecDepth 10000
variable {Pg : Nat → Option Fn}
theorem spanR_lo {s : Span} (h : spanR s = true) : (decide (s.lo = []) || keyR s.lo) = true := by
  simp only [spanR, Bool.and_eq_true] at h; exact h.1
theorem spanR_hi {s : Span} (h : spanR s = true) : s.hi = [] ∨ (keyR s.hi = true ∧ cmpL (lets s.lo) (lets s.hi) < 0) := by
  simp only [spanR, Bool.and_eq_true, Bool.or_eq_true, decide_eq_true_eq, ltS] at h; exact h.2
theorem spanR_mk {lo hi : List UInt8} (h1 : (decide (lo = []) || keyR lo) = true) (h2 : hi = [] ∨ keyR hi = true) : spanR ⟨lo, hi⟩ = aheadS lo hi := by
  simp only [spanR, aheadS, h1, Bool.true_and]
  rcases h2 with e | e
  · rw [decide_eq_true e]; rfl
  · rw [e, Bool.true_and]
theorem ahead_iff {lo hi : List UInt8} : aheadS lo hi = true ↔ hi = [] ∨ cmpL (lets lo) (lets hi) < 0 := by
  simp [aheadS, ltS]
def emptyS : Span := ⟨[], []⟩
@[go_sem] def eSSE (x : Span × Span × Int) : V := .tuple [.agg (eSpan x.1), .agg (eSpan x.2.1), iz x.2.2]
@[go_sem] def eSE (x : Span × Int) : V := .tuple [.agg (eSpan x.1), iz x.2]
def cutS (s : Span) (k : List UInt8) : Span × Span × Int :=
  if spanR s && keyR k then (if decide (k = s.lo) || !hasS s k then (emptyS, emptyS, 9) else (⟨s.lo, k⟩, ⟨k, s.hi⟩, 0)) else (emptyS, emptyS, 1)
def H178 (Pg : Nat → Option Fn) : Prop := Pg 178 = some (.code F178) ∧ H186 Pg ∧ H170 Pg ∧ H171 Pg
theorem K178 (h : H178 Pg) (s : Span) (k : List UInt8) : K' Pg 178 [.agg (eSpan s), .str k] = some (eSSE (cutS s k)) := by
  obtain ⟨h, h186, h170, h171⟩ := h
  have k1 := K186 h186 s
  have k2 := K170 h170 k
  have k3 := K171 h171 s k
  simp only [eSpan] at k1 k3
  refine K'_code h rfl ?_
  cases c1 : spanR s <;> cases c2 : keyR k <;> cases c3 : decide (k = s.lo) <;> cases c4 : hasS s k <;>
    simp only [go_sem, c1, c2, c3, c4, k1, k2, k3, cutS, emptyS]
theorem lt_key {s : Span} {k : List UInt8} (hs : spanR s = true) (hk : keyR k = true) : ltS s.lo k = (leS s.lo k && !decide (k = s.lo)) := by
  rw [Bool.eq_iff_iff]
  simp only [ltS, leS, Bool.and_eq_true, Bool.not_eq_true', decide_eq_true_eq, decide_eq_false_iff_not]
  have hkk := keyR_len hk
  constructor
  · intro h
    exact ⟨by omega, fun e => by rw [e, cmpL_rfl] at h; omega⟩
  · intro ⟨h1, h2⟩
    have : cmpL (lets s.lo) (lets k) ≠ 0 := fun e => by
      have e := cmpL_eq _ _ e
      have q := spanR_lo hs
      simp only [Bool.or_eq_true, decide_eq_true_eq] at q
      rcases q with q | q
      · rw [q, lets_nil, lets_cons hkk.2] at e; simp at e
      · simp only [keyR, Bool.and_eq_true] at q hk
        exact h2 (lets_inj _ _ _ (Nat.le_refl _) q.1 hk.1 e).symm
    omega
theorem cut_eq {s : Span} {k : List UInt8} (hs : spanR s = true) (hk : keyR k = true) : (spanR ⟨s.lo, k⟩ && spanR ⟨k, s.hi⟩) = !(decide (k = s.lo) || !hasS s k) := by
  have hkk := keyR_len hk
  have e1 := spanR_mk (lo := s.lo) (hi := k) (spanR_lo hs) (.inr hk)
  have e2 := spanR_mk (lo := k) (hi := s.hi) (by rw [hk]; simp) ((spanR_hi hs).imp id fun e => e.1)
  rw [e1, e2]
  have e3 : decide (k = []) = false := decide_eq_false hkk.2
  simp only [aheadS, e3, Bool.false_or, hasS, hs, hk, Bool.true_and, lt_key hs hk]
  cases leS s.lo k <;> cases decide (k = s.lo) <;> simp
end Sg
namespace Sg
open _root_.Go (IntKind BinOp UnOp)
set_option linter.unusedSimpArgs false
set_option linter.unusedVariables false
set_option maxRecDepth 10000
variable {Pg : Nat → Option Fn}
@[go_sem] def eSpans (l : List Span) : V := .slice 2 (l.map eSpan)
def wg : Bool → List UInt8 → List Span → Bool
  | _, last, [] => decide (last = [])
  | f, last, x :: l => spanR x && (decide (x.lo = last) && ((f || !decide (last = [])) && wg false x.hi l))
def wholeS (l : List Span) : Bool := !decide (l = []) && wg true [] l
theorem lst_pos {α : Type} [DecidableEq α] {l : List α} : decide ((0 : Int) < (l.length : Int)) = !decide (l = []) := by cases l <;> simp
def H166 (Pg : Nat → Option Fn) : Prop := Pg 166 = some (.code F166) ∧ H186 Pg
theorem K166 (h : H166 Pg) (l : List Span) (hl : l.length < 2 ^ 60) : K' Pg 166 [eSpans l] = some (.bool (wholeS l)) := by
  obtain ⟨h, h186⟩ := h
  have k := fun x => K186 h186 x
  simp only [eSpan] at k
  refine K'_code h rfl ?_
  simp only [go_sem]
  unfold l166_0
  refine wp_lp (fun (i : Nat) S => i ≤ l.length ∧ S.ρ 0 = eSpans l ∧ S.μ 5 = none ∧ S.ρ 6 = eSpans l ∧ S.ρ 7 = iz l.length ∧ S.ρ 8 = iz i ∧ ∃ last, S.ρ 3 = .str last ∧ wg (decide (i = 0)) last (l.drop i) = wg true [] l) (fun i => l.length - i) 0 ?_ ?_
  · simp [go_sem]
  · intro i S ⟨hi, h0, m5, h6, h7, h8, last, h3, ho⟩
    simp only [go_sem, h0, h3, m5, h6, h7, h8]
    refine wpc_i (fun h => ?_) (fun h => ?_)
    · have h := lt_of h
      obtain ⟨x, hx, hd⟩ := drop_at h
      rw [hd] at ho
      simp only [wg] at ho
      simp only [go_sem, h0, h3, m5, h6, h7, h8, hx, k]
      cases c1 : spanR x with
      | false => rw [c1, Bool.false_and] at ho; simp only [go_sem, c1, wholeS, ← ho]
      | true =>
      cases c2 : decide (x.lo = last) with
      | false => rw [c1, c2] at ho; simp only [Bool.false_and, Bool.and_false] at ho; simp only [go_sem, c1, c2, wholeS, ← ho, h0, h3, m5, h6, h7, h8, hx, k]
      | true =>
      rw [c1, c2] at ho
      simp only [Bool.true_and] at ho
      cases c3 : decide (i = 0) with
      | true =>
        rw [c3] at ho
        simp only [Bool.true_or, Bool.true_and] at ho
        simp only [go_sem, c1, c2, c3, h0, h3, m5, h6, h7, h8, hx, k, posd]
        exact ⟨i + 1, by omega, by omega, by rw [inc64 h hl], _, rfl, ho⟩
      | false =>
        rw [c3] at ho
        simp only [Bool.false_or] at ho
        cases c4 : decide (last = []) with
        | true => rw [c4] at ho; simp only [Bool.not_true, Bool.false_and] at ho; simp only [go_sem, c1, c2, c3, c4, wholeS, ← ho, h0, h3, m5, h6, h7, h8, hx, k, posd]
        | false =>
          rw [c4] at ho
          simp only [Bool.not_false, Bool.true_and] at ho
          simp only [go_sem, c1, c2, c3, c4, h0, h3, m5, h6, h7, h8, hx, k, posd]
          exact ⟨i + 1, by omega, by omega, by rw [inc64 h hl], _, rfl, ho⟩
    · have h := eq_of hi h
      subst h
      rw [List.drop_length] at ho
      simp only [wg] at ho
      simp only [go_sem, h0, h3, lst_pos, wholeS, ← ho]
      cases c : decide (l = []) <;> simp only [go_sem, c, h0, h3]
end Sg
namespace Sg
open _root_.Go (IntKind BinOp UnOp)
set_option linter.unusedSimpArgs false
set_option linter.unusedVariables false
set_option maxRecDepth 10000
variable {Pg : Nat → Option Fn}
structure Place where
  span : Span
  shard : Int
  cell : Int
  epoch : Int
  deriving DecidableEq
@[go_sem] def ePl (p : Place) : List V := [.str p.span.lo, .str p.span.hi, iz p.shard, iz p.cell, iz p.epoch]
@[go_sem] def ePls (l : List Place) : V := .slice 5 (l.map ePl)
def numA (n : Int) : Bool := decide (1 ≤ n) && decide (n ≤ 1099511627776)
def celA (n : Int) : Bool := decide (1 ≤ n) && decide (n ≤ 3)
def okPl (p : Place) : Bool := numA p.shard && (numA p.epoch && celA p.cell)
def gR : List Place → Bool
  | [] => true
  | p :: l => okPl p && (!(l.any fun q => decide (q.shard = p.shard)) && gR l)
def gA : List Place → List Place → Bool
  | _, [] => true
  | seen, p :: l => okPl p && (!(seen.any fun q => decide (q.shard = p.shard)) && gA (seen ++ [p]) l)
theorem gA_gR : ∀ (l seen : List Place), gA seen l = (gR l && l.all fun p => !(seen.any fun q => decide (q.shard = p.shard)))
  | [], seen => by simp [gA, gR]
  | p :: l, seen => by
    have h1 : (l.all fun q => !((seen ++ [p]).any fun r => decide (r.shard = q.shard))) = ((l.all fun q => !(seen.any fun r => decide (r.shard = q.shard))) && !(l.any fun q => decide (q.shard = p.shard))) := by
      rw [List.not_any_eq_all_not]
      rw [Bool.eq_iff_iff]
      simp only [Bool.and_eq_true, List.all_eq_true, Bool.not_eq_true', List.any_append, List.any_cons, List.any_nil, Bool.or_false, Bool.or_eq_false_iff, decide_eq_false_iff_not]
      exact ⟨fun h => ⟨fun q hq => (h q hq).1, fun q hq => fun e => (h q hq).2 e.symm⟩, fun h q hq => ⟨h.1 q hq, fun e => h.2 q hq e.symm⟩⟩
    simp only [gA, gR, List.all_cons, gA_gR l (seen ++ [p]), h1]
    cases okPl p <;> cases (seen.any fun q => decide (q.shard = p.shard)) <;> cases (l.any fun q => decide (q.shard = p.shard)) <;> cases gR l <;> simp
def rightA (l : List Place) : Bool := decide (l.length ≤ 8) && (gR l && wholeS (l.map Place.span))
theorem gR_A {l : List Place} : gA [] l = gR l := by
  rw [gA_gR]; simp
def H162 (Pg : Nat → Option Fn) : Prop := Pg 162 = some (.code F162)
theorem K162 (h : H162 Pg) (n : Int) : K' Pg 162 [iz n] = some (.bool (numA n)) := by
  refine K'_code h rfl ?_
  simp only [go_sem]
  cases c1 : decide (1 ≤ n) <;> simp only [go_sem, c1, numA]
def H163 (Pg : Nat → Option Fn) : Prop := Pg 163 = some (.code F163)
theorem K163 (h : H163 Pg) (n : Int) : K' Pg 163 [iz n] = some (.bool (celA n)) := by
  refine K'_code h rfl ?_
  simp only [go_sem]
  cases c1 : decide (1 ≤ n) <;> simp only [go_sem, c1, celA]
def H164 (Pg : Nat → Option Fn) : Prop := Pg 164 = some (.code F164)
theorem K164 (h : H164 Pg) (q p : Place) : K' Pg 164 [.agg (ePl q), .cptr (ePl p) 0] = some (.bool (decide (q.shard = p.shard))) := by
  refine K'_code h rfl ?_
  simp only [go_sem]
def H194 (Pg : Nat → Option Fn) : Prop := Pg 194 = some (.code F194)
theorem K194 (h : H194 Pg) (q : Place) (n : Int) : K' Pg 194 [.agg (ePl q), .cptr [iz n] 0] = some (.bool (decide (q.shard = n))) := by
  refine K'_code h rfl ?_
  simp only [go_sem]
def idxP : List Place → (Place → Bool) → Nat → Int
  | [], _, _ => -1
  | a :: l, p, i => if p a then i else idxP l p (i + 1)
theorem idxP_any : ∀ {l : List Place} {p : Place → Bool} {i : Nat}, decide (0 ≤ idxP l p i) = l.any p
  | [], p, i => by simp [idxP]
  | a :: l, p, i => by
    simp only [idxP]
    split
    · rename_i h; simp [h]
    · rename_i h; rw [idxP_any]; simp [h]
def H185 (Pg : Nat → Option Fn) : Prop := Pg 185 = some (.code F185)
theorem K185 (h : H185 Pg) (l : List Place) (g : Nat) (cap : List V) (p : Place → Bool) (hl : l.length < 2 ^ 60) (hg : ∀ x ∈ l, K' Pg g (.agg (ePl x) :: cap) = some (.bool (p x))) :
    K' Pg 185 [ePls l, .func g cap] = some (iz (idxP l p 0)) := by
  refine K'_code h rfl ?_
  simp only [ePl] at hg
  simp only [go_sem]
  unfold l185_0
  refine wp_lp (fun (i : Nat) S => i ≤ l.length ∧ S.ρ 0 = ePls l ∧ S.ρ 1 = .func g cap ∧ S.ρ 7 = iz l.length ∧ S.ρ 8 = iz i ∧ idxP (l.drop i) p i = idxP l p 0) (fun i => l.length - i) 0 ?_ ?_
  · simp [go_sem]
  · intro i S ⟨hi, h0, h1, h7, h8, ho⟩
    simp only [go_sem, h0, h1, h7, h8]
    refine wpc_i (fun h => ?_) (fun h => ?_)
    · have h := lt_of h
      obtain ⟨x, hx, hd⟩ := drop_at h
      rw [hd] at ho
      have hgx := hg x (List.mem_of_getElem? hx)
      simp only [go_sem, h0, h1, h7, h8, hx, hgx]
      refine wpc_i (fun hc => ?_) (fun hc => ?_)
      · simp only [idxP, hc, if_true] at ho
        simp only [go_sem, ← ho]
      · simp only [idxP, hc, Bool.false_eq_true, if_false] at ho
        simp only [go_sem, h0, h1, h7, h8]
        exact ⟨i + 1, by omega, by omega, by rw [inc64 h hl], ho⟩
    · have h := eq_of hi h
      subst h
      simp only [List.drop_length, idxP] at ho
      simp only [go_sem, ← ho]
def H165 (Pg : Nat → Option Fn) : Prop := Pg 165 = some (.code F165) ∧ H185 Pg
theorem K165 (h : H165 Pg) (l : List Place) (g : Nat) (cap : List V) (p : Place → Bool) (hl : l.length < 2 ^ 60) (hg : ∀ x ∈ l, K' Pg g (.agg (ePl x) :: cap) = some (.bool (p x))) :
    K' Pg 165 [ePls l, .func g cap] = some (.bool (l.any p)) := by
  obtain ⟨h, h185⟩ := h
  have k := K185 h185 l g cap p hl hg
  simp only [ePls] at k
  refine K'_code h rfl ?_
  simp only [go_sem, k, idxP_any]
def H141 (Pg : Nat → Option Fn) : Prop := Pg 141 = some (.code F141) ∧ H162 Pg ∧ H163 Pg ∧ H164 Pg ∧ H165 Pg ∧ H166 Pg
theorem K141 (h : H141 Pg) (l : List Place) : K' Pg 141 [ePls l] = some (.bool (rightA l)) := by
  obtain ⟨h, h162, h163, h164, h165, h166⟩ := h
  have k162 := fun x => K162 h162 x
  have k163 := fun x => K163 h163 x
  refine K'_code h rfl ?_
  simp only [go_sem]
  refine wpc_i (fun hc => ?_) (fun hc => ?_)
  · have hc : ¬ l.length ≤ 8 := by have := of_decide_eq_true hc; omega
    simp only [go_sem, rightA, hc]
  have hc : l.length ≤ 8 := by have := of_decide_eq_false hc; omega
  have hr : rightA l = (gR l && wholeS (l.map Place.span)) := by simp [rightA, hc]
  rw [hr]
  have k166 := K166 h166 (l.map Place.span) (by simp; omega)
  simp only [eSpans] at k166
  simp only [go_sem, mkA]
  unfold l141_0
  refine wp_lp (fun (i : Nat) S => i ≤ l.length ∧ S.ρ 0 = ePls l ∧ S.μ 5 = none ∧ S.A 3 = some (2, ((l.take i).map Place.span).map eSpan, .live) ∧ S.ρ 3 = .own 3 2 i ∧ S.ρ 9 = ePls l ∧ S.ρ 10 = iz l.length ∧ S.ρ 11 = iz i ∧ gA (l.take i) (l.drop i) = gR l) (fun i => l.length - i) 0 ?_ ?_
  · simp [go_sem, gR_A]
  · intro i S ⟨hi, h0, m5, a3, h3, h9, h10, h11, ho⟩
    have hlim : ((List.map Place.span (List.take i l)).map eSpan).length + 1 ≤ lim := by simp [lim]; omega
    have hil : ((List.map Place.span (List.take i l)).map eSpan).length = i := by simp; omega
    have hlim : i + 1 ≤ lim := by simp [lim]; omega
    simp only [go_sem, h0, m5, a3, h3, h9, h10, h11]
    refine wpc_i (fun h => ?_) (fun h => ?_)
    · have h := lt_of h
      obtain ⟨x, hx, hd⟩ := drop_at h
      rw [hd] at ho
      simp only [gA] at ho
      have kc := K165 h165 (l.take i) 164 [.cptr (ePl x) 0] (fun q => decide (q.shard = x.shard)) (by simp; omega) (fun q _ => K164 h164 q x)
      simp only [ePls, ePl, List.map_take] at kc
      simp only [go_sem, h0, m5, a3, h3, h9, h10, h11, hx, k162, k163]
      cases c1 : numA x.shard with
      | false =>
        simp only [okPl, c1, Bool.false_and] at ho
        simp only [go_sem, c1, ← ho, h0, m5, a3, h3, h9, h10, h11, hx, k162, k163]
      | true =>
      cases c2 : numA x.epoch with
      | false =>
        simp only [okPl, c1, c2, Bool.false_and, Bool.and_false] at ho
        simp only [go_sem, c1, c2, ← ho, h0, m5, a3, h3, h9, h10, h11, hx, k162, k163]
      | true =>
      cases c3 : celA x.cell with
      | false =>
        simp only [okPl, c1, c2, c3, Bool.false_and, Bool.and_false] at ho
        simp only [go_sem, c1, c2, c3, ← ho, h0, m5, a3, h3, h9, h10, h11, hx, k162, k163]
      | true =>
      simp only [okPl, c1, c2, c3, Bool.true_and] at ho
      simp only [go_sem, c1, c2, c3, h0, m5, a3, h3, h9, h10, h11, hx, k162, k163, hi, kc]
      cases c4 : (l.take i).any (fun q => decide (q.shard = x.shard)) with
      | true =>
        rw [c4] at ho
        simp only [Bool.not_true, Bool.false_and] at ho
        simp only [go_sem, c4, ← ho]
      | false =>
        rw [c4] at ho
        simp only [Bool.not_false, Bool.true_and] at ho
        simp only [go_sem, c4, h0, m5, a3, h3, h9, h10, h11, hx, hil, hlim]
        refine ⟨i + 1, by omega, by omega, ?_, ?_, by rw [inc64 h (by omega)], by rw [take_s hx]; exact ho⟩
        · rw [take_s hx]; simp [eSpan]
        · rfl
    · have h := eq_of hi h
      subst h
      rw [List.take_length] at a3 ho
      rw [List.drop_length] at ho
      have ho : true = gR l := ho
      simp only [go_sem, h0, a3, h3, k166, ← ho]
def zeroPl : Place := ⟨⟨[], []⟩, 0, 0, 0⟩
@[go_sem] def eOP (o : Option Place) : V := .tuple [.agg (ePl (o.getD zeroPl)), .bool o.isSome]
def findA (l : List Place) (k : List UInt8) : Option Place := l.find? fun p => decide (k = []) || hasS p.span k
def keyE (k : List UInt8) : Bool := decide (k = []) || keyR k
def H144 (Pg : Nat → Option Fn) : Prop := Pg 144 = some (.code F144) ∧ H141 Pg ∧ H170 Pg ∧ H171 Pg
theorem K144 (h : H144 Pg) (l : List Place) (k : List UInt8) (hl : l.length < 2 ^ 60) : K' Pg 144 [ePls l, .str k] = some (eOP (if rightA l && keyE k then findA l k else none)) := by
  obtain ⟨h, h141, h170, h171⟩ := h
  have k141 := K141 h141 l
  have k170 := K170 h170 k
  have k171 := fun s => K171 h171 s k
  simp only [ePls] at k141
  simp only [eSpan] at k171
  refine K'_code h rfl ?_
  have main : (rightA l && keyE k) = true → ∀ S : St, S.ρ 0 = ePls l → S.ρ 1 = .str k → True := fun _ _ _ _ => trivial
  cases c1 : rightA l with
  | false => simp only [go_sem, c1, k141, zeroPl, Option.isSome_none]
  | true =>
  cases c2 : decide (k = []) with
  | true =>
    have e : (true && keyE k) = true := by simp [keyE, c2]
    rw [if_pos e]
    simp only [go_sem, c1, c2, k141, k170]
    unfold l144_0
    refine wp_lp (fun (i : Nat) S => i ≤ l.length ∧ S.ρ 1 = .str k ∧ S.ρ 4 = .lref 4 0 ∧ S.μ 4 = some (ePl zeroPl, false) ∧ S.μ 7 = none ∧ S.ρ 21 = ePls l ∧ S.ρ 22 = iz l.length ∧ S.ρ 23 = iz i ∧ findA (l.drop i) k = findA l k) (fun i => l.length - i) 0 ?_ ?_
    · simp [go_sem, zeroPl]
    · intro i S ⟨hi, h1, h4, m4, m7, h21, h22, h23, ho⟩
      simp only [go_sem, h1, h4, m4, m7, h21, h22, h23]
      refine wpc_i (fun h => ?_) (fun h => ?_)
      · have h := lt_of h
        obtain ⟨x, hx, hd⟩ := drop_at h
        rw [hd] at ho
        simp only [findA, List.find?_cons, c2, Bool.true_or] at ho
        simp only [go_sem, h1, h4, m4, m7, h21, h22, h23, hx, c2, findA, ← ho, Option.isSome_some, zeroPl]
      · have h := eq_of hi h
        subst h
        rw [List.drop_length] at ho
        have ho : none = findA l k := ho
        simp only [go_sem, h1, h4, m4, m7, h21, h22, h23, ← ho, zeroPl, Option.isSome_none]
  | false =>
  cases c3 : keyR k with
  | false =>
    have e : ¬ (true && keyE k) = true := by simp [keyE, c2, c3]
    rw [if_neg e]
    simp only [go_sem, c1, c2, c3, k141, k170, zeroPl, Option.isSome_none]
  | true =>
    have e : (true && keyE k) = true := by simp [keyE, c2, c3]
    rw [if_pos e]
    simp only [go_sem, c1, c2, c3, k141, k170]
    unfold l144_0
    refine wp_lp (fun (i : Nat) S => i ≤ l.length ∧ S.ρ 1 = .str k ∧ S.ρ 4 = .lref 4 0 ∧ S.μ 4 = some (ePl zeroPl, false) ∧ S.μ 7 = none ∧ S.ρ 21 = ePls l ∧ S.ρ 22 = iz l.length ∧ S.ρ 23 = iz i ∧ findA (l.drop i) k = findA l k) (fun i => l.length - i) 0 ?_ ?_
    · simp [go_sem, zeroPl]
    · intro i S ⟨hi, h1, h4, m4, m7, h21, h22, h23, ho⟩
      simp only [go_sem, h1, h4, m4, m7, h21, h22, h23]
      refine wpc_i (fun h => ?_) (fun h => ?_)
      · have h := lt_of h
        obtain ⟨x, hx, hd⟩ := drop_at h
        rw [hd] at ho
        simp only [findA, List.find?_cons, c2, Bool.false_or] at ho
        simp only [go_sem, h1, h4, m4, m7, h21, h22, h23, hx, c2, k171]
        cases c4 : hasS x.span k with
        | true =>
          rw [c4] at ho
          simp only at ho
          simp only [go_sem, c4, h1, h4, m4, m7, h21, h22, h23, hx, findA, c2, Bool.false_or, ← ho, Option.isSome_some, zeroPl]
        | false =>
          rw [c4] at ho
          simp only at ho
          simp only [go_sem, c4, h1, h4, m4, m7, h21, h22, h23, hx]
          refine ⟨i + 1, by omega, by omega, by rw [inc64 h hl], ?_⟩
          simp only [findA, c2, Bool.false_or]
          exact ho
      · have h := eq_of hi h
        subst h
        rw [List.drop_length] at ho
        have ho : none = findA l k := ho
        simp only [go_sem, h1, h4, m4, m7, h21, h22, h23, ← ho, zeroPl, Option.isSome_none]
end Sg
namespace Sg
open _root_.Go (IntKind BinOp UnOp)
set_option linter.unusedSimpArgs false
set_option linter.unusedVariables false
set_option maxRecDepth 10000
variable {Pg : Nat → Option Fn}
def idxA (l : List Place) (n : Int) : Int := idxP l (fun p => decide (p.shard = n)) 0
def H175 (Pg : Nat → Option Fn) : Prop := Pg 175 = some (.code F175) ∧ H185 Pg ∧ H194 Pg
theorem K175 (h : H175 Pg) (l : List Place) (n : Int) (hl : l.length < 2 ^ 60) : K' Pg 175 [ePls l, iz n] = some (iz (idxA l n)) := by
  obtain ⟨h, h185, h194⟩ := h
  have k := K185 h185 l 194 [.cptr [iz n] 0] (fun p => decide (p.shard = n)) hl (fun p _ => K194 h194 p n)
  simp only [ePls] at k
  refine K'_code h rfl ?_
  simp only [go_sem, k, idxA]
theorem idxP_spec : ∀ (l : List Place) (p : Place → Bool) (i : Nat), (idxP l p i = -1 ∧ l.find? p = none ∧ ∀ x ∈ l, p x = false) ∨ (∃ j x, idxP l p i = ((i + j : Nat) : Int) ∧ l[j]? = some x ∧ l.find? p = some x ∧ p x = true ∧ ∀ y ∈ l.take j, p y = false)
  | [], p, i => .inl ⟨rfl, rfl, by simp⟩
  | a :: l, p, i => by
    by_cases h : p a = true
    · right
      exact ⟨0, a, by simp [idxP, h], rfl, by simp [h], h, by simp⟩
    · have h : p a = false := by simpa using h
      rcases idxP_spec l p (i + 1) with ⟨h1, h2, h3⟩ | ⟨j, x, h1, h2, h3, h4, h5⟩
      · left
        refine ⟨by simp [idxP, h, h1], by simp [h, h2], fun y hy => ?_⟩
        rcases List.mem_cons.1 hy with rfl | hy
        · exact h
        · exact h3 y hy
      · right
        have e1 : i + 1 + j = i + (j + 1) := by omega
        refine ⟨j + 1, x, by simp only [idxP, h, Bool.false_eq_true, if_false, h1, e1], by simpa using h2, by simp [h, h3], h4, ?_⟩
        intro y hy
        simp only [List.take_succ_cons] at hy
        rcases List.mem_cons.1 hy with rfl | hy
        · exact h
        · exact h5 y hy
def ofA (l : List Place) (n : Int) : Option Place := l.find? fun p => decide (p.shard = n)
theorem idxA_spec (l : List Place) (n : Int) : (idxA l n = -1 ∧ ofA l n = none) ∨ (∃ (j : Nat) (x : Place), idxA l n = (j : Int) ∧ l[j]? = some x ∧ ofA l n = some x ∧ x.shard = n ∧ ∀ y ∈ l.take j, y.shard ≠ n) := by
  rcases idxP_spec l (fun p => decide (p.shard = n)) 0 with ⟨h1, h2, -⟩ | ⟨j, x, h1, h2, h3, h4, h5⟩
  · exact .inl ⟨h1, h2⟩
  · exact .inr ⟨j, x, by simpa [idxA] using h1, h2, h3, by simpa using h4, fun y hy => by simpa using h5 y hy⟩
def H148 (Pg : Nat → Option Fn) : Prop := Pg 148 = some (.code F148) ∧ H141 Pg ∧ H175 Pg
theorem K148 (h : H148 Pg) (l : List Place) (n : Int) (hl : l.length < 2 ^ 60) : K' Pg 148 [ePls l, iz n] = some (eOP (if rightA l then ofA l n else none)) := by
  obtain ⟨h, h141, h175⟩ := h
  have k141 := K141 h141 l
  have k175 := K175 h175 l n hl
  simp only [ePls] at k141 k175
  refine K'_code h rfl ?_
  cases c1 : rightA l with
  | false => simp only [go_sem, c1, k141, k175, zeroPl, Option.isSome_none]
  | true =>
    rcases idxA_spec l n with ⟨e1, e2⟩ | ⟨j, x, e1, e2, e3, -⟩
    · rw [e1] at k175
      simp only [go_sem, c1, k141, k175, zeroPl, e2, Option.isSome_none]
    · rw [e1] at k175
      have hj : decide ((j : Int) < 0) = false := decide_eq_false (by omega)
      simp only [go_sem, c1, k141, k175, zeroPl, hj, e2, e3, Option.isSome_some]
theorem filt_p {α : Type} {l : List α} {p : α → Bool} {i : Nat} {x : α} (hx : l[i]? = some x) : (l.take (i + 1)).filter p = if p x = true then (l.take i).filter p ++ [x] else (l.take i).filter p := by
  rw [take_s hx, List.filter_append]
  by_cases h : p x = true <;> simp [h]
def firstA : List Place := [⟨⟨[], []⟩, 1, 1, 1⟩]
def H154 (Pg : Nat → Option Fn) : Prop := Pg 154 = some (.code F154)
theorem K154 (h : H154 Pg) : K' Pg 154 [] = some (ePls firstA) := by
  refine K'_code h rfl ?_
  simp only [go_sem, firstA]
end Sg
namespace Sg
open _root_.Go (IntKind BinOp UnOp)
set_option linter.unusedSimpArgs false
set_option linter.unusedVariables false
set_option maxRecDepth 10000
variable {Pg : Nat → Option Fn}
@[go_sem] def ePE (x : List Place × Int) : V := .tuple [ePls x.1, iz x.2]
@[go_sem] def eII (x : Int × Int) : V := .tuple [iz x.1, iz x.2]
def readyA (l : List Place) (shard epoch : Int) : Int × Int :=
  if rightA l && numA epoch then (match ofA l shard with | none => (0, 7) | some p => if epoch ≤ p.epoch then (0, 9) else (idxA l shard, 0)) else (0, 1)
def H177 (Pg : Nat → Option Fn) : Prop := Pg 177 = some (.code F177) ∧ H141 Pg ∧ H162 Pg ∧ H175 Pg
theorem K177 (h : H177 Pg) (l : List Place) (n e : Int) (hl : l.length < 2 ^ 60) : K' Pg 177 [ePls l, iz n, iz e] = some (eII (readyA l n e)) := by
  obtain ⟨h, h141, h162, h175⟩ := h
  have k141 := K141 h141 l
  have k162 := K162 h162 e
  have k175 := K175 h175 l n hl
  simp only [ePls] at k141 k175
  refine K'_code h rfl ?_
  cases c1 : rightA l with
  | false => simp only [go_sem, k141, k175, c1, readyA]
  | true =>
  cases c2 : numA e with
  | false => simp only [go_sem, k141, k162, k175, c1, c2, readyA]
  | true =>
  rcases idxA_spec l n with ⟨e1, e2⟩ | ⟨j, x, e1, e2, e3, -⟩
  · rw [e1] at k175
    simp only [go_sem, k141, k162, k175, c1, c2, readyA, e2]
  · rw [e1] at k175
    have hj : decide ((j : Int) < 0) = false := decide_eq_false (by omega)
    cases c3 : decide (e ≤ x.epoch) with
    | true =>
      have c3' := of_decide_eq_true c3
      simp only [go_sem, k141, k162, k175, c1, c2, c3, c3', hj, e1, e2, e3, readyA]
    | false =>
      have c3' := of_decide_eq_false c3
      simp only [go_sem, k141, k162, k175, c1, c2, c3, c3', hj, e1, e2, e3, readyA]
def movedA (l : List Place) (n to e : Int) : List Place × Int :=
  if celA to then (if (readyA l n e).2 = 0 then (match ofA l n with
    | none => ([], 0)
    | some p => if p.cell = to then ([], 8) else (l.set (idxA l n).toNat ⟨p.span, p.shard, to, e⟩, 0)) else ([], (readyA l n e).2)) else ([], 1)
theorem ready_0 {l : List Place} {n e : Int} (h : (readyA l n e).2 = 0) : rightA l = true ∧ numA e = true ∧ ∃ (j : Nat) (x : Place), idxA l n = (j : Int) ∧ l[j]? = some x ∧ ofA l n = some x ∧ x.shard = n ∧ (∀ y ∈ l.take j, y.shard ≠ n) ∧ ¬ e ≤ x.epoch ∧ readyA l n e = ((j : Int), 0) := by
  simp only [readyA] at h ⊢
  split at h
  · rename_i hc
    rw [Bool.and_eq_true] at hc
    rcases idxA_spec l n with ⟨e1, e2⟩ | ⟨j, x, e1, e2, e3, e4, e5⟩
    · rw [e2] at h; simp at h
    · rw [e3] at h
      simp only at h
      split at h
      · simp at h
      · rename_i he
        refine ⟨hc.1, hc.2, j, x, e1, e2, e3, e4, e5, he, ?_⟩
        rw [e3]
        simp only [hc.1, hc.2, e1, he, if_false]
        rfl
  · simp at h
def H179 (Pg : Nat → Option Fn) : Prop := Pg 179 = some (.prim (some 0) (cloneQ 5))
theorem K179 (h : H179 Pg) (rows : List (List V)) (hl : rows.length ≤ lim) : K' Pg 179 [.slice 5 rows] = some (.slice 5 rows) := by
  rw [K'_prim h]; simp [cloneQ, hl]
def H159 (Pg : Nat → Option Fn) : Prop := Pg 159 = some (.code F159) ∧ H163 Pg ∧ H177 Pg ∧ H179 Pg
theorem K159 (h : H159 Pg) (l : List Place) (n to e : Int) (hl : l.length ≤ 1000) : K' Pg 159 [ePls l, iz n, iz to, iz e] = some (ePE (movedA l n to e)) := by
  obtain ⟨h, h163, h177, h179⟩ := h
  have k163 := K163 h163 to
  have k177 := K177 h177 l n e (by omega)
  have k179 := K179 h179 (l.map ePl) (by simp [lim]; omega)
  simp only [ePls, eII] at k177
  refine K'_code h rfl ?_
  cases c1 : celA to with
  | false => simp only [go_sem, k163, k177, c1, movedA]
  | true =>
  cases c2 : decide ((readyA l n e).2 = 0) with
  | false =>
    have h2 := of_decide_eq_false c2
    simp only [go_sem, k163, k177, c1, c2, movedA, h2]
  | true =>
    have h2 := of_decide_eq_true c2
    obtain ⟨-, -, j, x, e1, e2, e3, e4, -, e5, e6⟩ := ready_0 h2
    have hj : j < l.length := (List.getElem?_eq_some_iff.1 e2).1
    rw [e6] at k177
    simp only at k177
    cases c3 : decide (x.cell = to) with
    | true =>
      have c3' := of_decide_eq_true c3
      simp only [go_sem, k163, k177, c1, movedA, h2, e1, e2, e3, c3, c3']
    | false =>
      have c3' := of_decide_eq_false c3
      have hm : movedA l n to e = (l.set j ⟨x.span, x.shard, to, e⟩, 0) := by
        simp only [movedA, c1, h2, e1, e3, c3', if_true, if_false]; rfl
      have hs : ∀ r, ((l.map ePl).set j r)[j]? = some r := fun r => by simp [hj]
      have hz : ∀ r, ((l.map ePl).set j r).length = l.length := fun r => by simp
      have hf : (l.set j ⟨x.span, x.shard, to, e⟩).map ePl = (l.map ePl).set j (ePl ⟨x.span, x.shard, to, e⟩) := by rw [List.map_set]
      simp only [ePl] at hf
      rw [hm]
      simp only [go_sem, k163, k177, k179, c1, e2, c3, hj, hs, hz, hf, List.set_set]
theorem ins_get {α : Type} {L : List α} {j : Nat} {x new : α} (h : L[j]? = some x) : (L.take (j + 1) ++ new :: L.drop (j + 1))[j]? = some x := by
  have hj := (List.getElem?_eq_some_iff.1 h).1
  rw [List.getElem?_append_left (by rw [List.length_take]; omega), List.getElem?_take_of_lt (by omega), h]
theorem ins_set {α : Type} {L : List α} {j : Nat} {x new r : α} (h : L[j]? = some x) : (L.take (j + 1) ++ new :: L.drop (j + 1)).set j r = L.take j ++ r :: new :: L.drop (j + 1) := by
  have hj := (List.getElem?_eq_some_iff.1 h).1
  rw [take_s h, List.append_assoc, List.set_append_right _ _ (by rw [List.length_take]; omega)]
  have : j - (L.take j).length = 0 := by rw [List.length_take]; omega
  rw [this]; rfl
theorem mid_get {α : Type} {L D : List α} {j : Nat} {r : α} (h : j ≤ L.length) : (L.take j ++ r :: D)[j]? = some r := by
  have e : (L.take j).length = j := by rw [List.length_take]; omega
  rw [List.getElem?_append_right (by omega), e]; simp
theorem mid_set {α : Type} {L D : List α} {j : Nat} {r r' : α} (h : j ≤ L.length) : (L.take j ++ r :: D).set j r' = L.take j ++ r' :: D := by
  have e : (L.take j).length = j := by rw [List.length_take]; omega
  rw [List.set_append_right _ _ (by omega), e]; simp
def partedL (l : List Place) (j : Nat) (p : Place) (low high : Span) (o e : Int) : List Place := l.take j ++ ⟨low, p.shard, p.cell, e⟩ :: ⟨high, o, p.cell, e⟩ :: l.drop (j + 1)
def partedA (l : List Place) (n : Int) (k : List UInt8) (o e : Int) : List Place × Int :=
  if numA o then (if (readyA l n e).2 = 0 then (match ofA l n with
    | none => ([], 0)
    | some p => if 0 ≤ idxA l o then ([], 8) else if l.length = 8 then ([], 6) else
      if (cutS p.span k).2.2 = 0 then (partedL l (idxA l n).toNat p (cutS p.span k).1 (cutS p.span k).2.1 o e, 0) else ([], (cutS p.span k).2.2)) else ([], (readyA l n e).2)) else ([], 1)
def H156 (Pg : Nat → Option Fn) : Prop := Pg 156 = some (.code F156) ∧ H162 Pg ∧ H175 Pg ∧ H177 Pg ∧ H178 Pg ∧ H179 Pg
theorem K156 (h : H156 Pg) (l : List Place) (n : Int) (k : List UInt8) (o e : Int) (hl : l.length ≤ 1000) : K' Pg 156 [ePls l, iz n, .str k, iz o, iz e] = some (ePE (partedA l n k o e)) := by
  obtain ⟨h, h162, h175, h177, h178, h179⟩ := h
  have k162 := K162 h162 o
  have k175 := K175 h175 l o (by omega)
  have k177 := K177 h177 l n e (by omega)
  have k178 := fun s => K178 h178 s k
  have k179 := K179 h179 (l.map ePl) (by simp [lim]; omega)
  simp only [ePls, eII] at k177 k175
  simp only [eSpan, eSSE] at k178
  refine K'_code h rfl ?_
  cases c1 : numA o with
  | false => simp only [go_sem, k162, k177, c1, partedA]
  | true =>
  cases c2 : decide ((readyA l n e).2 = 0) with
  | false =>
    have h2 := of_decide_eq_false c2
    simp only [go_sem, k162, k177, c1, c2, partedA, h2]
  | true =>
    have h2 := of_decide_eq_true c2
    obtain ⟨-, -, j, x, e1, e2, e3, e4, -, e5, e6⟩ := ready_0 h2
    have hj : j < l.length := (List.getElem?_eq_some_iff.1 e2).1
    rw [e6] at k177
    simp only at k177
    cases c3 : decide (0 ≤ idxA l o) with
    | true =>
      have hm : partedA l n k o e = ([], 8) := by
        simp only [partedA, c1, h2, e3, of_decide_eq_true c3, if_true]
      rw [hm]
      simp only [go_sem, k162, k175, k177, c1, e2, c3]
    | false =>
    have c3' := of_decide_eq_false c3
    cases c4 : decide ((l.length : Int) = 8) with
    | true =>
      have c4' : l.length = 8 := by have := of_decide_eq_true c4; omega
      have hm : partedA l n k o e = ([], 6) := by
        simp only [partedA, c1, h2, e3, c3', c4', if_true, if_false]
      rw [hm]
      simp only [go_sem, k162, k175, k177, c1, e2, c3, c4]
    | false =>
    have c4' : ¬ l.length = 8 := by have := of_decide_eq_false c4; omega
    cases c5 : decide ((cutS x.span k).2.2 = 0) with
    | false =>
      have hm : partedA l n k o e = ([], (cutS x.span k).2.2) := by
        simp only [partedA, c1, h2, e3, c3', c4', of_decide_eq_false c5, if_true, if_false]
      rw [hm]
      simp only [go_sem, k162, k175, k177, k178, c1, e2, c3, c4, c5]
    | true =>
      have hm : partedA l n k o e = (partedL l j x (cutS x.span k).1 (cutS x.span k).2.1 o e, 0) := by
        simp only [partedA, c1, h2, e1, e3, c3', c4', of_decide_eq_true c5, if_true, if_false]; rfl
      rw [hm]
      have hlim : l.length + 1 ≤ lim := by simp only [lim]; omega
      have hinc : IntKind.i64.wrap ((j : Int) + 1) = ((j + 1 : Nat) : Int) := inc64 hj (by omega)
      have hj1 : j + 1 ≤ l.length := hj
      simp only [go_sem, k162, k175, k177, k178, k179, c1, e2, c3, c4, c5, hinc, hlim, hj, hj1]
      have hx : (l.map ePl)[j]? = some (ePl x) := by simp [e2]
      have hjl : j ≤ (l.map ePl).length := by simp; omega
      have q1 : ∀ new, ((l.map ePl).take (j + 1) ++ new :: (l.map ePl).drop (j + 1))[j]? = some (ePl x) := fun new => ins_get hx
      have q2 : ∀ new r, ((l.map ePl).take (j + 1) ++ new :: (l.map ePl).drop (j + 1)).set j r = (l.map ePl).take j ++ r :: new :: (l.map ePl).drop (j + 1) := fun new r => ins_set hx
      have q3 : ∀ r D, ((l.map ePl).take j ++ r :: D)[j]? = some r := fun r D => mid_get hjl
      have q4 : ∀ r r' D, ((l.map ePl).take j ++ r :: D).set j r' = (l.map ePl).take j ++ r' :: D := fun r r' D => mid_set hjl
      have q5 : (List.take (j + 1) (List.map ePl l)).length + ((List.drop (j + 1) (List.map ePl l)).length + 1) = l.length + 1 := by
        rw [List.length_take, List.length_drop, List.length_map]; omega
      have q6 : (List.take j (List.map ePl l)).length + ((List.drop (j + 1) (List.map ePl l)).length + 1 + 1) = l.length + 1 := by
        rw [List.length_take, List.length_drop, List.length_map]; omega
      have q7 : (partedL l j x (cutS x.span k).1 (cutS x.span k).2.1 o e).map ePl = (l.map ePl).take j ++ ePl ⟨(cutS x.span k).1, x.shard, x.cell, e⟩ :: ePl ⟨(cutS x.span k).2.1, o, x.cell, e⟩ :: (l.map ePl).drop (j + 1) := by
        simp [partedL]
      simp only [ePl] at q1 q7
      rw [q7]
      have hj2 : j < l.length + 1 := by omega
      simp only [go_sem, q1, q2, q3, q4, q5, q6, hj2]
theorem del_get {α : Type} {L D : List α} {j : Nat} {x : α} (h : L[j]? = some x) : (L.take (j + 1) ++ D)[j]? = some x := by
  have hj := (List.getElem?_eq_some_iff.1 h).1
  rw [List.getElem?_append_left (by rw [List.length_take]; omega), List.getElem?_take_of_lt (by omega), h]
theorem del_set {α : Type} {L D : List α} {j : Nat} {x r : α} (h : L[j]? = some x) : (L.take (j + 1) ++ D).set j r = L.take j ++ r :: D := by
  have hj := (List.getElem?_eq_some_iff.1 h).1
  rw [take_s h, List.append_assoc, List.set_append_right _ _ (by rw [List.length_take]; omega)]
  have : j - (L.take j).length = 0 := by rw [List.length_take]; omega
  rw [this]; rfl
def joinedL (l : List Place) (j : Nat) (p q : Place) (e : Int) : List Place := l.take j ++ ⟨⟨p.span.lo, q.span.hi⟩, p.shard, p.cell, e⟩ :: l.drop (j + 2)
def joinedA (l : List Place) (n o e : Int) : List Place × Int :=
  if numA o then (if (readyA l n e).2 = 0 then (match ofA l n with
    | none => ([], 0)
    | some p => match ofA l o with
      | none => ([], 7)
      | some q => if idxA l o = idxA l n + 1 ∧ p.cell = q.cell ∧ ¬ e ≤ q.epoch then (joinedL l (idxA l n).toNat p q e, 0) else ([], 9)) else ([], (readyA l n e).2)) else ([], 1)
def H157 (Pg : Nat → Option Fn) : Prop := Pg 157 = some (.code F157) ∧ H162 Pg ∧ H175 Pg ∧ H177 Pg ∧ H179 Pg
theorem K157 (h : H157 Pg) (l : List Place) (n o e : Int) (hl : l.length ≤ 1000) : K' Pg 157 [ePls l, iz n, iz o, iz e] = some (ePE (joinedA l n o e)) := by
  obtain ⟨h, h162, h175, h177, h179⟩ := h
  have k162 := K162 h162 o
  have k175 := K175 h175 l o (by omega)
  have k177 := K177 h177 l n e (by omega)
  have k179 := K179 h179 (l.map ePl) (by simp [lim]; omega)
  simp only [ePls, eII] at k177 k175
  refine K'_code h rfl ?_
  cases c1 : numA o with
  | false => simp only [go_sem, k162, k175, k177, c1, joinedA]
  | true =>
  cases c2 : decide ((readyA l n e).2 = 0) with
  | false =>
    have h2 := of_decide_eq_false c2
    simp only [go_sem, k162, k175, k177, c1, c2, joinedA, h2]
  | true =>
    have h2 := of_decide_eq_true c2
    obtain ⟨-, -, j, x, e1, e2, e3, e4, -, e5, e6⟩ := ready_0 h2
    have hj : j < l.length := (List.getElem?_eq_some_iff.1 e2).1
    rw [e6] at k177
    simp only at k177
    rcases idxA_spec l o with ⟨d1, d2⟩ | ⟨i, y, d1, d2, d3, d4, -⟩
    · rw [d1] at k175
      have hm : joinedA l n o e = ([], 7) := by simp only [joinedA, c1, h2, e3, d2, if_true]
      rw [hm]
      simp only [go_sem, k162, k175, k177, c1, e2]
    · rw [d1] at k175
      have hinc : IntKind.i64.wrap ((j : Int) + 1) = (j : Int) + 1 := by rw [inc64 hj (by omega)]; omega
      have hi0 : decide ((i : Int) < 0) = false := decide_eq_false (by omega)
      have hil : i < l.length := (List.getElem?_eq_some_iff.1 d2).1
      have hc : ∀ b, (decide ((i : Int) = (j : Int) + 1) && (decide (x.cell = y.cell) && !decide (e ≤ y.epoch))) = b → joinedA l n o e = if b then (joinedL l j x y e, 0) else ([], 9) := fun b hb => by
        simp only [joinedA, c1, h2, e3, d3, d1, e1, if_true]
        have : ((i : Int) = (j : Int) + 1 ∧ x.cell = y.cell ∧ ¬ e ≤ y.epoch) ↔ b = true := by
          rw [← hb]; simp
        by_cases hbt : b = true
        · rw [if_pos (this.2 hbt), if_pos hbt]; rfl
        · rw [if_neg (fun h => hbt (this.1 h)), if_neg hbt]
      cases f1 : decide ((i : Int) = (j : Int) + 1) with
      | false =>
        rw [hc false (by rw [f1]; rfl)]
        simp only [go_sem, k162, k175, k177, c1, e2, d2, hi0, hinc, f1]
      | true =>
      cases f2 : decide (x.cell = y.cell) with
      | false =>
        rw [hc false (by rw [f1, f2]; rfl)]
        simp only [go_sem, k162, k175, k177, c1, e2, d2, hi0, hinc, f1, f2]
      | true =>
      cases f3 : decide (e ≤ y.epoch) with
      | true =>
        rw [hc false (by rw [f1, f2, f3]; rfl)]
        simp only [go_sem, k162, k175, k177, c1, e2, d2, hi0, hinc, f1, f2, f3]
      | false =>
        rw [hc true (by rw [f1, f2, f3]; rfl)]
        obtain rfl : i = j + 1 := by have := of_decide_eq_true f1; omega
        have hinc2 : IntKind.i64.wrap (((j + 1 : Nat) : Int) + 1) = ((j + 1 + 1 : Nat) : Int) := inc64 hil (by omega)
        have hlim : l.length ≤ lim := by simp only [lim]; omega
        have hx : (l.map ePl)[j]? = some (ePl x) := by simp [e2]
        have hjl : j ≤ (l.map ePl).length := by simp; omega
        have q1 : ∀ D, ((l.map ePl).take (j + 1) ++ D)[j]? = some (ePl x) := fun D => del_get hx
        have q2 : ∀ r D, ((l.map ePl).take (j + 1) ++ D).set j r = (l.map ePl).take j ++ r :: D := fun r D => del_set hx
        have q3 : ∀ r D, ((l.map ePl).take j ++ r :: D)[j]? = some r := fun r D => mid_get hjl
        have q4 : ∀ r r' D, ((l.map ePl).take j ++ r :: D).set j r' = (l.map ePl).take j ++ r' :: D := fun r r' D => mid_set hjl
        have q5 : (List.take (j + 1) (List.map ePl l)).length + (List.drop (j + 1 + 1) (List.map ePl l)).length = l.length - 1 := by
          rw [List.length_take, List.length_drop, List.length_map]; omega
        have q6 : (List.take j (List.map ePl l)).length + ((List.drop (j + 1 + 1) (List.map ePl l)).length + 1) = l.length - 1 := by
          rw [List.length_take, List.length_drop, List.length_map]; omega
        have q7 : (joinedL l j x y e).map ePl = (l.map ePl).take j ++ ePl ⟨⟨x.span.lo, y.span.hi⟩, x.shard, x.cell, e⟩ :: (l.map ePl).drop (j + 1 + 1) := by
          simp [joinedL]
        have hj2 : j < l.length - 1 := by omega
        have hle1 : j + 1 ≤ j + 1 + 1 := by omega
        have hle2 : j + 1 + 1 ≤ l.length := hil
        simp only [ePl] at q1 q7
        simp only [go_sem, k162, k175, k177, k179, c1, e2, d2, hi0, hinc, hinc2, f1, f2, f3, hlim, hle1, hle2, q1, q2, q3, q4, q5, q6, q7, hj2]
end Sg
namespace Sg
open _root_.Go (IntKind BinOp UnOp)
set_option linter.unusedSimpArgs false
set_option linter.unusedVariables false
set_option maxRecDepth 10000
variable {Pg : Nat → Option Fn}
end Sg
namespace Sg
open _root_.Go (IntKind BinOp UnOp)
set_option linter.unusedSimpArgs false
set_option linter.unusedVariables false
set_option maxRecDepth 10000
variable {Pg : Nat → Option Fn}
theorem right_iff {l : List Place} : rightA l = true ↔ l.length ≤ 8 ∧ gR l = true ∧ wholeS (l.map Place.span) = true := by simp [rightA]
theorem gR_iff : ∀ {l : List Place}, gR l = true ↔ (∀ p ∈ l, okPl p = true) ∧ l.Pairwise (fun p q => p.shard ≠ q.shard)
  | [] => by simp [gR]
  | p :: l => by
    simp only [gR, Bool.and_eq_true, gR_iff (l := l), List.pairwise_cons, List.mem_cons, forall_eq_or_imp, Bool.not_eq_true', List.any_eq_false, decide_eq_true_eq]
    constructor
    · intro ⟨h1, h2, h3, h4⟩
      exact ⟨⟨h1, h3⟩, fun q hq e => h2 q hq e.symm, h4⟩
    · intro ⟨⟨h1, h3⟩, h2, h4⟩
      exact ⟨h1, fun q hq e => h2 q hq e.symm, h3, h4⟩
theorem at_split {l : List Place} {j : Nat} {x : Place} (h : l[j]? = some x) : l = l.take j ++ x :: l.drop (j + 1) := by
  have hj := (List.getElem?_eq_some_iff.1 h).1
  have := List.take_append_drop (j + 1) l
  rw [take_s h, List.append_assoc] at this
  exact this.symm
end Sg
namespace Sg
open _root_.Go (IntKind BinOp UnOp)
set_option linter.unusedSimpArgs false
set_option linter.unusedVariables false
set_option maxRecDepth 10000
variable {Pg : Nat → Option Fn}
theorem wg_cons {f : Bool} {last : List UInt8} {x : Span} {l : List Span} : wg f last (x :: l) = true ↔ spanR x = true ∧ x.lo = last ∧ (f = true ∨ last ≠ []) ∧ wg false x.hi l = true := by
  simp [wg]
theorem wg_nilhi {l : List Span} (h : wg false [] l = true) : l = [] := by
  cases l with
  | nil => rfl
  | cons x l => simp [wg] at h
theorem wg_none {k : List UInt8} : ∀ {l : List Span} {last : List UInt8}, wg false last l = true → ltS k last = true → ∀ x ∈ l, hasS x k = false
  | [], _, _, _ => by simp
  | x :: l, last, h, hk => by
    obtain ⟨h1, h2, h3, h4⟩ := wg_cons.1 h
    have hx : hasS x k = false := by
      have : leS x.lo k = false := by
        rw [h2]; simp only [leS, ltS, decide_eq_true_eq, decide_eq_false_iff_not] at hk ⊢
        have := cmpL_neg (lets k) (lets last); omega
      simp [hasS, this]
    intro y hy
    rcases List.mem_cons.1 hy with rfl | hy
    · exact hx
    · by_cases he : x.hi = []
      · rw [he] at h4; rw [wg_nilhi h4] at hy; simp at hy
      · refine wg_none h4 ?_ y hy
        rcases spanR_hi h1 with h | ⟨-, h⟩
        · exact absurd h he
        · rw [ltS_iff] at hk ⊢; rw [h2] at h; exact lt_tr (by omega) h
theorem wg_one {k : List UInt8} (hk : keyR k = true) : ∀ {l : List Span} {f : Bool} {last : List UInt8}, wg f last l = true → l ≠ [] → leS last k = true → (l.filter fun x => hasS x k).length = 1
  | [], _, _, _, h, _ => absurd rfl h
  | x :: l, f, last, h, _, hle => by
    obtain ⟨h1, h2, h3, h4⟩ := wg_cons.1 h
    by_cases he : x.hi = []
    · rw [he] at h4
      have hx : hasS x k = true := by simp [hasS, h1, hk, h2, hle, he]
      rw [wg_nilhi h4]; simp [hx]
    · by_cases hlt : ltS k x.hi = true
      · have hx : hasS x k = true := by simp [hasS, h1, hk, h2, hle, hlt]
        have hn : (l.filter fun x => hasS x k) = [] := List.filter_eq_nil_iff.2 fun y hy => by rw [wg_none h4 hlt y hy]; simp
        simp [hx, hn]
      · have hx : hasS x k = false := by
          have : ltS k x.hi = false := by simpa using hlt
          simp [hasS, he, this]
        have hl : l ≠ [] := fun e => by rw [e] at h4; simp [wg, he] at h4
        have := wg_one hk h4 hl (by
          rw [ltS_iff] at hlt
          have := le_sw hlt
          simpa [leS] using this)
        simpa [hx] using this
theorem whole_one {l : List Span} {k : List UInt8} (h : wholeS l = true) (hk : keyR k = true) : (l.filter fun x => hasS x k).length = 1 := by
  simp only [wholeS, Bool.and_eq_true, Bool.not_eq_true', decide_eq_false_iff_not] at h
  have h0 : lets [] = [] := rfl
  exact wg_one hk h.2 h.1 (by
    simp only [leS, h0, decide_eq_true_eq]
    cases lets k <;> simp [cmpL])
theorem wg_part {s : Span} {k : List UInt8} (h1 : spanR ⟨s.lo, k⟩ = true) (h2 : spanR ⟨k, s.hi⟩ = true) (hk : k ≠ []) {D : List Span} : ∀ {A : List Span} {f : Bool} {last : List UInt8}, wg f last (A ++ s :: D) = true → wg f last (A ++ ⟨s.lo, k⟩ :: ⟨k, s.hi⟩ :: D) = true
  | [], f, last, h => by
    obtain ⟨g1, g2, g3, g4⟩ := wg_cons.1 h
    exact wg_cons.2 ⟨h1, g2, g3, wg_cons.2 ⟨h2, rfl, .inr hk, g4⟩⟩
  | x :: A, f, last, h => by
    obtain ⟨g1, g2, g3, g4⟩ := wg_cons.1 h
    exact wg_cons.2 ⟨g1, g2, g3, wg_part h1 h2 hk g4⟩
theorem wg_join {p q : Span} {D : List Span} : ∀ {A : List Span} {f : Bool} {last : List UInt8}, wg f last (A ++ p :: q :: D) = true → wg f last (A ++ ⟨p.lo, q.hi⟩ :: D) = true
  | [], f, last, h => by
    obtain ⟨g1, g2, g3, g4⟩ := wg_cons.1 h
    obtain ⟨k1, k2, k3, k4⟩ := wg_cons.1 g4
    refine wg_cons.2 ⟨?_, g2, g3, k4⟩
    have hh : q.hi = [] ∨ keyR q.hi = true := (spanR_hi k1).imp id And.left
    rw [spanR_mk (spanR_lo g1) hh]
    refine ahead_iff.2 ?_
    rcases spanR_hi k1 with e | ⟨-, e⟩
    · exact .inl e
    · right
      rcases spanR_hi g1 with d | ⟨-, d⟩
      · rcases k3 with k3 | k3
        · simp at k3
        · exact absurd d k3
      · rw [k2] at e; exact lt_tr (by omega) e
  | x :: A, f, last, h => by
    obtain ⟨g1, g2, g3, g4⟩ := wg_cons.1 h
    exact wg_cons.2 ⟨g1, g2, g3, wg_join g4⟩
theorem right_iff' {l : List Place} : rightA l = true ↔ l.length ≤ 8 ∧ (∀ p ∈ l, okPl p = true) ∧ (l.map Place.shard).Nodup ∧ l ≠ [] ∧ wg true [] (l.map Place.span) = true := by
  rw [right_iff, gR_iff, List.Nodup, List.pairwise_map]
  simp only [wholeS, Bool.and_eq_true, Bool.not_eq_true', decide_eq_false_iff_not, List.map_eq_nil_iff]
  exact ⟨fun ⟨a, ⟨b, c⟩, d, e⟩ => ⟨a, b, c, d, e⟩, fun ⟨a, b, c, d, e⟩ => ⟨a, ⟨b, c⟩, d, e⟩⟩
theorem nodup_at {l : List Place} (h : (l.map Place.shard).Nodup) {i j : Nat} {p q : Place} (hp : l[i]? = some p) (hq : l[j]? = some q) (e : p.shard = q.shard) : i = j := by
  have hw := List.pairwise_iff_getElem.1 (List.pairwise_map.1 h)
  obtain ⟨hi, rfl⟩ := List.getElem?_eq_some_iff.1 hp
  obtain ⟨hj, rfl⟩ := List.getElem?_eq_some_iff.1 hq
  rcases Nat.lt_trichotomy i j with c | c | c
  · exact absurd e (hw i j hi hj c)
  · exact c
  · exact absurd e.symm (hw j i hj hi c)
theorem of_none {l : List Place} {n : Int} (h : ofA l n = none) : ∀ p ∈ l, p.shard ≠ n := fun p hp e => by
  have := List.find?_eq_none.1 h p hp
  simp [e] at this
theorem of_some {l : List Place} {n : Int} {p : Place} (h : ofA l n = some p) : p ∈ l ∧ p.shard = n := ⟨List.mem_of_find?_eq_some h, by simpa using List.find?_some h⟩
def GoodC (l : List Place) (r : List Place × Int) : Prop :=
  (r.2 ≠ 0 → r.1 = []) ∧ (r.2 = 0 → rightA r.1 = true ∧ ∀ p ∈ l, ∀ q, ofA r.1 p.shard = some q → p.epoch ≤ q.epoch)
theorem good_ep {l b : List Place} {n e : Int} {x : Place} (hn : (l.map Place.shard).Nodup) (hx : ofA l n = some x) (he : ¬ e ≤ x.epoch)
    (h : ∀ q ∈ b, q ∈ l ∨ (q.shard = n ∧ q.epoch = e) ∨ (∀ p ∈ l, p.shard ≠ q.shard)) : ∀ p ∈ l, ∀ q, ofA b p.shard = some q → p.epoch ≤ q.epoch := by
  intro p hp q hq
  obtain ⟨q1, q2⟩ := of_some hq
  obtain ⟨x1, x2⟩ := of_some hx
  obtain ⟨i, hi⟩ := List.mem_iff_getElem?.1 hp
  rcases h q q1 with h | ⟨h1, h2⟩ | h
  · obtain ⟨j, hj⟩ := List.mem_iff_getElem?.1 h
    obtain rfl := nodup_at hn hi hj q2.symm
    rw [hi] at hj
    obtain rfl : p = q := by simpa using hj
    omega
  · obtain ⟨j, hj⟩ := List.mem_iff_getElem?.1 x1
    obtain rfl := nodup_at hn hi hj (by rw [← q2, h1, x2])
    rw [hi] at hj
    obtain rfl : p = x := by simpa using hj
    omega
  · exact absurd q2.symm (h p hp)
theorem ok_ep {p : Place} {e c : Int} {s : Span} (h : okPl p = true) (he : numA e = true) (hc : celA c = true) : okPl ⟨s, p.shard, c, e⟩ = true := by
  simp only [okPl, Bool.and_eq_true] at h ⊢
  exact ⟨h.1, he, hc⟩
theorem moved_good (l : List Place) (n to e : Int) : GoodC l (movedA l n to e) := by
  unfold movedA
  cases c1 : celA to with
  | false => exact ⟨fun _ => rfl, fun h => by simp at h⟩
  | true =>
  by_cases h2 : (readyA l n e).2 = 0
  · obtain ⟨r1, r2, j, x, e1, e2, e3, e4, -, e5, e6⟩ := ready_0 h2
    simp only [h2, e3, e1, if_true]
    split
    · exact ⟨fun _ => rfl, fun h => by simp at h⟩
    · refine ⟨fun h => by simp at h, fun _ => ?_⟩
      obtain ⟨g1, g2, g3, g4, g5⟩ := right_iff'.1 r1
      have hj := (List.getElem?_eq_some_iff.1 e2).1
      have hs : l.set ((j : Int)).toNat ⟨x.span, x.shard, to, e⟩ = l.take j ++ ⟨x.span, x.shard, to, e⟩ :: l.drop (j + 1) := by
        rw [List.set_eq_take_append_cons_drop, Int.toNat_natCast, if_pos hj]
      have hl := at_split e2
      rw [hs]
      have m1 : (l.take j ++ ⟨x.span, x.shard, to, e⟩ :: l.drop (j + 1)).map Place.shard = l.map Place.shard := by conv => rhs; rw [hl]
                                                                                                                   simp
      have m2 : (l.take j ++ ⟨x.span, x.shard, to, e⟩ :: l.drop (j + 1)).map Place.span = l.map Place.span := by conv => rhs; rw [hl]
                                                                                                                 simp
      have hmem : ∀ q ∈ l.take j ++ ⟨x.span, x.shard, to, e⟩ :: l.drop (j + 1), q ∈ l ∨ q = ⟨x.span, x.shard, to, e⟩ := fun q hq => by
        rcases List.mem_append.1 hq with h | h
        · exact .inl (List.mem_of_mem_take h)
        · rcases List.mem_cons.1 h with h | h
          · exact .inr h
          · exact .inl (List.mem_of_mem_drop h)
      refine ⟨right_iff'.2 ⟨?_, fun q hq => ?_, by rw [m1]; exact g3, by simp, by rw [m2]; exact g5⟩, good_ep g3 e3 e5 fun q hq => ?_⟩
      · have := congrArg List.length m1; simp only [List.length_map] at this; dsimp only; omega
      · rcases hmem q hq with h | rfl
        · exact g2 q h
        · exact ok_ep (g2 x (List.mem_of_getElem? e2)) r2 c1
      · rcases hmem q hq with h | rfl
        · exact .inl h
        · exact .inr (.inl ⟨e4, rfl⟩)
  · simp only [h2, if_true, if_false]
    exact ⟨fun _ => rfl, fun h => absurd h h2⟩
theorem cut_0 {s : Span} {k : List UInt8} (h : (cutS s k).2.2 = 0) : (cutS s k).1 = ⟨s.lo, k⟩ ∧ (cutS s k).2.1 = ⟨k, s.hi⟩ ∧ spanR ⟨s.lo, k⟩ = true ∧ spanR ⟨k, s.hi⟩ = true ∧ keyR k = true := by
  unfold cutS at h ⊢
  split at h
  · rename_i h1
    rw [if_pos h1]
    simp only [Bool.and_eq_true] at h1
    have hc := cut_eq h1.1 h1.2
    split at h
    · simp at h
    · rename_i h2
      rw [if_neg h2]
      have h2 : (decide (k = s.lo) || !hasS s k) = false := by simpa using h2
      rw [h2] at hc
      simp only [Bool.not_false, Bool.and_eq_true] at hc
      exact ⟨rfl, rfl, hc.1, hc.2, h1.2⟩
  · simp at h
theorem parted_good (l : List Place) (n : Int) (k : List UInt8) (o e : Int) : GoodC l (partedA l n k o e) := by
  unfold partedA
  cases c1 : numA o with
  | false => exact ⟨fun _ => rfl, fun h => by simp at h⟩
  | true =>
  by_cases h2 : (readyA l n e).2 = 0
  · obtain ⟨r1, r2, j, x, e1, e2, e3, e4, -, e5, e6⟩ := ready_0 h2
    simp only [h2, e3, e1, if_true]
    split
    · exact ⟨fun _ => rfl, fun h => by simp at h⟩
    rename_i ho
    split
    · exact ⟨fun _ => rfl, fun h => by simp at h⟩
    rename_i h8
    split
    · rename_i hc
      refine ⟨fun h => by simp at h, fun _ => ?_⟩
      obtain ⟨c1', c2, c3, c4, c5⟩ := cut_0 hc
      obtain ⟨g1, g2, g3, g4, g5⟩ := right_iff'.1 r1
      have hl := at_split e2
      have ho : ∀ p ∈ l, p.shard ≠ o := by
        rcases idxA_spec l o with ⟨d1, d2⟩ | ⟨i, y, d1, -⟩
        · exact of_none d2
        · exact absurd (by rw [d1]; omega) ho
      simp only [partedL, c1', c2, Int.toNat_natCast]
      have hmem : ∀ q ∈ l.take j ++ ⟨⟨x.span.lo, k⟩, x.shard, x.cell, e⟩ :: ⟨⟨k, x.span.hi⟩, o, x.cell, e⟩ :: l.drop (j + 1), q ∈ l ∨ q = ⟨⟨x.span.lo, k⟩, x.shard, x.cell, e⟩ ∨ q = ⟨⟨k, x.span.hi⟩, o, x.cell, e⟩ := fun q hq => by
        rcases List.mem_append.1 hq with h | h
        · exact .inl (List.mem_of_mem_take h)
        · rcases List.mem_cons.1 h with h | h
          · exact .inr (.inl h)
          · rcases List.mem_cons.1 h with h | h
            · exact .inr (.inr h)
            · exact .inl (List.mem_of_mem_drop h)
      have hxo := g2 x (List.mem_of_getElem? e2)
      have hxc : celA x.cell = true := by simp only [okPl, Bool.and_eq_true] at hxo; exact hxo.2.2
      refine ⟨right_iff'.2 ⟨?_, fun q hq => ?_, ?_, by simp, ?_⟩, good_ep g3 e3 e5 fun q hq => ?_⟩
      · have := congrArg List.length hl
        simp only [List.length_append, List.length_cons] at this ⊢; omega
      · rcases hmem q hq with h | rfl | rfl
        · exact g2 q h
        · exact ok_ep hxo r2 hxc
        · simp only [okPl, c1, r2, hxc, Bool.and_self]
      · have hp : ((l.take j ++ ⟨⟨x.span.lo, k⟩, x.shard, x.cell, e⟩ :: ⟨⟨k, x.span.hi⟩, o, x.cell, e⟩ :: l.drop (j + 1)).map Place.shard).Perm (o :: l.map Place.shard) := by
          conv => rhs; rw [hl]
          simp only [List.map_append, List.map_cons]
          exact (List.Perm.append_left _ (List.Perm.swap _ _ _)).trans List.perm_middle
        refine hp.nodup_iff.2 (List.nodup_cons.2 ⟨fun h => ?_, g3⟩)
        obtain ⟨p, hp, e⟩ := List.mem_map.1 h
        exact ho p hp e
      · rw [hl] at g5
        simp only [List.map_append, List.map_cons] at g5 ⊢
        exact wg_part c3 c4 (keyR_len c5).2 g5
      · rcases hmem q hq with h | rfl | rfl
        · exact .inl h
        · exact .inr (.inl ⟨e4, rfl⟩)
        · exact .inr (.inr ho)
    · rename_i hc
      exact ⟨fun _ => rfl, fun h => absurd h hc⟩
  · simp only [h2, if_true, if_false]
    exact ⟨fun _ => rfl, fun h => absurd h h2⟩
theorem joined_good (l : List Place) (n o e : Int) : GoodC l (joinedA l n o e) := by
  unfold joinedA
  cases c1 : numA o with
  | false => exact ⟨fun _ => rfl, fun h => by simp at h⟩
  | true =>
  by_cases h2 : (readyA l n e).2 = 0
  · obtain ⟨r1, r2, j, x, e1, e2, e3, e4, -, e5, e6⟩ := ready_0 h2
    simp only [h2, e3, e1, if_true]
    rcases idxA_spec l o with ⟨d1, d2⟩ | ⟨i, y, d1, d2, d3, d4, -⟩
    · simp only [d2]; exact ⟨fun _ => rfl, fun h => by simp at h⟩
    simp only [d3, d1]
    split
    · rename_i hc
      refine ⟨fun h => by simp at h, fun _ => ?_⟩
      obtain rfl : i = j + 1 := by omega
      obtain ⟨g1, g2, g3, g4, g5⟩ := right_iff'.1 r1
      have hd : l.drop (j + 1) = y :: l.drop (j + 2) := by
        obtain ⟨z, hz, hd⟩ := drop_at (List.getElem?_eq_some_iff.1 d2).1
        rw [d2] at hz
        obtain rfl : y = z := by simpa using hz
        exact hd
      have hl := at_split e2
      rw [hd] at hl
      simp only [joinedL, Int.toNat_natCast]
      have hxo := g2 x (List.mem_of_getElem? e2)
      have hxc : celA x.cell = true := by simp only [okPl, Bool.and_eq_true] at hxo; exact hxo.2.2
      have hmem : ∀ q ∈ l.take j ++ ⟨⟨x.span.lo, y.span.hi⟩, x.shard, x.cell, e⟩ :: l.drop (j + 2), q ∈ l ∨ q = ⟨⟨x.span.lo, y.span.hi⟩, x.shard, x.cell, e⟩ := fun q hq => by
        rcases List.mem_append.1 hq with h | h
        · exact .inl (List.mem_of_mem_take h)
        · rcases List.mem_cons.1 h with h | h
          · exact .inr h
          · exact .inl (List.mem_of_mem_drop h)
      refine ⟨right_iff'.2 ⟨?_, fun q hq => ?_, ?_, by simp, ?_⟩, good_ep g3 e3 e5 fun q hq => ?_⟩
      · have := congrArg List.length hl
        simp only [List.length_append, List.length_cons] at this ⊢; omega
      · rcases hmem q hq with h | rfl
        · exact g2 q h
        · exact ok_ep hxo r2 hxc
      · rw [hl] at g3
        simp only [List.map_append, List.map_cons] at g3 ⊢
        exact g3.sublist (List.Sublist.append_left (List.Sublist.cons_cons _ (List.sublist_cons_self _ _)) _)
      · rw [hl] at g5
        simp only [List.map_append, List.map_cons] at g5 ⊢
        exact wg_join g5
      · rcases hmem q hq with h | rfl
        · exact .inl h
        · exact .inr (.inl ⟨e4, rfl⟩)
    · exact ⟨fun _ => rfl, fun h => by simp at h⟩
  · simp only [h2, if_true, if_false]
    exact ⟨fun _ => rfl, fun h => absurd h h2⟩
theorem find_one {l : List Place} {k : List UInt8} (hr : rightA l = true) (hk : keyR k = true) : (l.filter fun p => hasS p.span k).length = 1 := by
  obtain ⟨-, -, h⟩ := right_iff.1 hr
  have := whole_one h hk
  rw [List.filter_map, List.length_map] at this
  exact this
end Sg
namespace Sg
open _root_.Go (IntKind BinOp UnOp)
set_option linter.unusedSimpArgs false
set_option linter.unusedVariables false
set_option maxRecDepth 10000
variable {Pg : Nat → Option Fn}
theorem inc6 {n : Nat} (h : n ≤ 1000000000) : IntKind.i64.wrap ((n : Int) + 1) = ((n + 1 : Nat) : Int) := wrap64 (by omega) (by omega)
def pairA : List Place := [⟨⟨[], [109]⟩, 1, 1, 2⟩, ⟨⟨[109], []⟩, 2, 1, 2⟩]
def H143 (Pg : Nat → Option Fn) : Prop := Pg 143 = some (.code F143) ∧ H144 Pg ∧ H154 Pg ∧ H156 Pg
theorem K143 (h : H143 Pg) : K' Pg 143 [] = some (.bool true) := by
  obtain ⟨h, h144, h154, h156⟩ := h
  have k154 := K154 h154
  have k156 := K156 h156 firstA 1 [109] 2 2 (by decide)
  have k144 := K144 h144 pairA [122] (by decide)
  rw [show partedA firstA 1 [109] 2 2 = (pairA, 0) by decide +kernel] at k156
  rw [show (if rightA pairA && keyE [122] then findA pairA [122] else none) = some ⟨⟨[109], []⟩, 2, 1, 2⟩ by decide +kernel] at k144
  simp only [ePls, firstA, pairA, ePE, eOP, List.map_cons, List.map_nil, ePl, Option.getD_some, Option.isSome_some] at k154 k156 k144
  refine K'_code h rfl ?_
  simp only [go_sem, k154, k156, k144]
theorem find_has {l : List Place} {k : List UInt8} (hr : rightA l = true) (hk : keyR k = true) : ∃ p, findA l k = some p ∧ p ∈ l ∧ hasS p.span k = true := by
  have h1 := find_one hr hk
  have hn := (keyR_len hk).2
  have hf : findA l k = l.find? fun p => hasS p.span k := by simp [findA, hn]
  rw [hf]
  cases hx : l.find? (fun (p : Place) => hasS p.span k) with
  | none =>
    have := List.filter_eq_nil_iff.2 (List.find?_eq_none.1 hx)
    rw [this] at h1; simp at h1
  | some p => exact ⟨p, rfl, List.mem_of_find?_eq_some hx, List.find?_some (p := fun (p : Place) => hasS p.span k) hx⟩
structure AAct where
  kind : Int
  shard : Int
  n : Int
  epoch : Int
  key : List UInt8
@[go_sem] def eAAct (a : AAct) : List V := [iz a.kind, iz a.shard, iz a.n, iz a.epoch, .str a.key]
@[go_sem] def eAActs (l : List AAct) : V := .slice 5 (l.map eAAct)
def OnN (P : St → Prop) : Ex → St → Prop := fun ex S => ex = .norm ∧ P S
@[go_sem] theorem onN_n {P : St → Prop} {S : St} : OnN P .norm S = P S := by simp [OnN]
theorem wpc_cut {κ : Nat → List V → Option V} {a b : C} {S : St} {R : Ex → St → Prop} {v : V} (P : St → Prop) (h1 : WpC κ a b S (OnN P) v) (h2 : ∀ S', P S' → R .norm S') : WpC κ a b S R v := by
  unfold WpC at h1 ⊢
  split at h1
  · refine ⟨fun e => (h1.1 e).mono ?_, fun e => (h1.2 e).mono ?_⟩ <;> (rintro ex S' ⟨rfl, h⟩; exact h2 S' h)
  · exact h1.elim
theorem count_0 {l : List Place} {k : List UInt8} (h : keyR k = false) : (l.filter fun p => hasS p.span k) = [] :=
  List.filter_eq_nil_iff.2 fun p _ => by simp [hasS, h]
def OnE (id : Nat) (P : St → Prop) : Ex → St → Prop := fun ex S => (ex = .norm ∨ ex = .exit id) ∧ P S
@[go_sem] theorem onE_n {id : Nat} {P : St → Prop} {S : St} : OnE id P .norm S = P S := by simp [OnE]
@[go_sem] theorem onE_e {id : Nat} {P : St → Prop} {S : St} : OnE id P (.exit id) S = P S := by simp [OnE]
def tail161 : C := .seq (.seq (.region false r161_10) (.cond (.g 106) (.seq (.seq (.region false r161_11) (.cond (.g 109) (.seq (.region false r161_12) (.ret)) (.skip))) (.exit 1)) (.skip))) (.seq (.seq (.region false r161_13) (.block 3 (l161_1))) (.seq (.region false r161_20) (.seq (.region false r161_21) (.seq (.seq (.region false r161_22) (.block 5 (l161_2))) (.seq (.region false r161_28) (.seq (.region false r161_29) (.cond (.g 168) (.seq (.region false r161_30) (.ret)) (.skip))))))))
theorem b161_eq : b161_0 = .seq (.seq (.region false r161_3) (.cond (.g 26) (.skip) (.exit 0))) (.seq (.block 1 (.seq (.region true r161_4) (.seq (.seq (.region false r161_5) (.block 2 (.seq (.region false r161_6) (.cond (.g 56) (.region true r161_7) (.seq (.region false r161_8) (.cond (.g 83) (.region true r161_9) (.skip))))))) tail161))) (.region false r161_31)) := rfl
@[go_sem] def N161 (l : List AAct) (k : List UInt8) (i : Nat) (S : St) : Prop := S.ρ 0 = eAActs l ∧ S.ρ 1 = .str k ∧ (∃ a, rightA a = true ∧ S.ρ 5 = ePls a) ∧ S.ρ 6 = iz i
theorem T161 (h141 : H141 Pg) (h142 : H142 Pg) (h144 : H144 Pg) (h148 : H148 Pg) (l : List AAct) (k : List UInt8) (i : Nat) (a : List Place) (ha : rightA a = true) (S : St)
    (hS : ∃ r : List Place × Int, GoodC a r ∧ S.ρ 0 = eAActs l ∧ S.ρ 1 = .str k ∧ S.ρ 5 = ePls a ∧ S.ρ 6 = iz i ∧ S.ρ 7 = ePls r.1 ∧ S.ρ 8 = iz r.2 ∧ S.μ 10 = none ∧ S.μ 11 = none ∧ S.μ 15 = none ∧ S.μ 16 = none) :
    Wp (K' Pg) tail161 S (OnE 1 (N161 l k i)) := by
  have k142 := fun s => K142 h142 s k
  simp only [eSpan] at k142
  have ha8 := (right_iff'.1 ha).1
  obtain ⟨⟨b, er⟩, ⟨g1, g2⟩, h0, h1, h5, h6, h7, h8, m10, m11, m15, m16⟩ := hS
  simp only at g1 g2 h7 h8
  unfold tail161
  simp only [go_sem, h0, h1, h5, h6, h7, h8, m10, m11, m15, m16]
  cases ce : decide (er = 0) with
  | false =>
    have hb := g1 (of_decide_eq_false ce)
    subst hb
    simp only [go_sem, h0, h1, h5, h6, h7, h8, m10, m11, m15, m16]
    exact ⟨a, ha, rfl⟩
  | true =>
  obtain ⟨hb, hep⟩ := g2 (of_decide_eq_true ce)
  have hb8 := (right_iff'.1 hb).1
  have k148 := fun n => K148 h148 b n (by omega)
  have k141 := K141 h141 b
  have k144 := K144 h144 b k (by omega)
  rw [hb] at k141 k144
  simp only [hb, ePls, if_true] at k148
  simp only [ePls, Bool.true_and] at k141 k144
  simp only [go_sem, h0, h1, h5, h6, h7, h8, m10, m11, m15, m16]
  unfold l161_1
  refine wp_lp (fun (j : Nat) S => j ≤ a.length ∧ S.ρ 0 = eAActs l ∧ S.ρ 1 = .str k ∧ S.ρ 6 = iz i ∧ S.ρ 7 = ePls b ∧ S.ρ 110 = ePls a ∧ S.ρ 111 = iz a.length ∧ S.ρ 112 = iz j ∧ S.μ 10 = none ∧ S.μ 11 = none ∧ S.μ 15 = none ∧ S.μ 16 = none) (fun j => a.length - j) 0 ?_ ?_
  · simp [go_sem, h0, h1, h6, h7, m15, m16]
  · intro j S ⟨hj, h0, h1, h6, h7, h110, h111, h112, m10, m11, m15, m16⟩
    simp only [go_sem, h0, h1, h6, h7, h110, h111, h112, m10, m11, m15, m16]
    refine wpc_i (fun h => ?_) (fun h => ?_)
    · have h := lt_of h
      obtain ⟨p, hp, hd⟩ := drop_at h
      have hwj : IntKind.i64.wrap ((j : Int) + 1) = ((j + 1 : Nat) : Int) := inc64 h (by omega)
      have kp := k148 p.shard
      cases ho : ofA b p.shard with
      | none =>
        rw [ho] at kp
        simp only [eOP, Option.getD_none, Option.isSome_none, zeroPl, ePl] at kp
        simp only [go_sem, h0, h1, h6, h7, h110, h111, h112, m10, m11, m15, m16, hp, kp]
        exact ⟨j + 1, by omega, by omega, by rw [hwj]⟩
      | some q =>
        rw [ho] at kp
        have := hep p (List.mem_of_getElem? hp) q ho
        have hlt : decide (q.epoch < p.epoch) = false := decide_eq_false (by omega)
        simp only [eOP, Option.getD_some, Option.isSome_some, ePl] at kp
        simp only [go_sem, h0, h1, h6, h7, h110, h111, h112, m10, m11, m15, m16, hp, kp, hlt]
        exact ⟨j + 1, by omega, by omega, by rw [hwj]⟩
    · simp only [go_sem, h0, h1, h6, h7, h110, h111, h112, m10, m11, m15, m16]
      unfold l161_2
      refine wp_lp (fun (j : Nat) S => j ≤ b.length ∧ S.ρ 0 = eAActs l ∧ S.ρ 1 = .str k ∧ S.ρ 5 = ePls b ∧ S.ρ 6 = iz i ∧ S.ρ 13 = iz ((b.take j).filter fun p => hasS p.span k).length ∧ S.ρ 133 = ePls b ∧ S.ρ 134 = iz b.length ∧ S.ρ 135 = iz j ∧ S.μ 10 = none ∧ S.μ 11 = none ∧ S.μ 15 = none ∧ S.μ 16 = none) (fun j => b.length - j) 0 ?_ ?_
      · simp [go_sem, h0, h1, h6, h7, m10, m11, m16]
      · intro j S ⟨hj, h0, h1, h5, h6, h13, h133, h134, h135, m10, m11, m15, m16⟩
        simp only [go_sem, h0, h1, h5, h6, h13, h133, h134, h135, m10, m11, m15, m16]
        refine wpc_i (fun h => ?_) (fun h => ?_)
        · have h := lt_of h
          obtain ⟨p, hp, hd⟩ := drop_at h
          have hwj : IntKind.i64.wrap ((j : Int) + 1) = ((j + 1 : Nat) : Int) := inc64 h (by omega)
          have hs := filt_p (p := fun p => hasS p.span k) hp
          have hle : ((b.take j).filter fun p => hasS p.span k).length ≤ j := Nat.le_trans (List.length_filter_le _ _) (by simp; omega)
          simp only [go_sem, h0, h1, h5, h6, h13, h133, h134, h135, m10, m11, m15, m16, hp, k142]
          cases ch : hasS p.span k with
          | true =>
            rw [if_pos ch] at hs
            have hwc : IntKind.i64.wrap ((((b.take j).filter fun p => hasS p.span k).length : Int) + 1) = ((((b.take j).filter fun p => hasS p.span k).length + 1 : Nat) : Int) := inc6 (by omega)
            simp only [go_sem, h0, h1, h5, h6, h13, h133, h134, h135, m10, m11, m15, m16, hp, hwc, hwj]
            exact ⟨j + 1, by omega, by omega, by rw [hs]; simp, rfl⟩
          | false =>
            rw [if_neg (by rw [ch]; simp)] at hs
            simp only [go_sem, h0, h1, h5, h6, h13, h133, h134, h135, m10, m11, m15, m16, hp]
            exact ⟨j + 1, by omega, by omega, by rw [hs], by rw [hwj]⟩
        · have h := eq_of hj h
          subst h
          rw [List.take_length] at h13
          cases ck : keyR k with
          | true =>
            obtain ⟨p, f1, f2, f3⟩ := find_has hb ck
            have hke : keyE k = true := by simp [keyE, ck]
            have hnk : decide (k = []) = false := decide_eq_false (keyR_len ck).2
            rw [hke, if_pos rfl, f1] at k144
            rw [find_one hb ck] at h13
            simp only [eOP, Option.getD_some, Option.isSome_some, ePl] at k144
            simp only [go_sem, h0, h1, h5, h6, h13, h133, h134, h135, m10, m11, m15, m16, k141, k144, hnk]
            exact ⟨b, hb, rfl⟩
          | false =>
            rw [count_0 ck] at h13
            cases hnk : decide (k = []) with
            | true =>
              simp only [eOP, ePl] at k144
              simp only [go_sem, h0, h1, h5, h6, h13, h133, h134, h135, m10, m11, m15, m16, k141, k144, hnk]
              exact ⟨b, hb, rfl⟩
            | false =>
              have hke : keyE k = false := by simp [keyE, ck, of_decide_eq_false hnk]
              rw [hke, if_neg (by simp)] at k144
              simp only [eOP, Option.getD_none, Option.isSome_none, zeroPl, ePl] at k144
              simp only [go_sem, h0, h1, h5, h6, h13, h133, h134, h135, m10, m11, m15, m16, k141, k144, hnk]
              exact ⟨b, hb, rfl⟩
def H161 (Pg : Nat → Option Fn) : Prop := Pg 161 = some (.code F161) ∧ H141 Pg ∧ H142 Pg ∧ H143 Pg ∧ H144 Pg ∧ H148 Pg ∧ H154 Pg ∧ H156 Pg ∧ H157 Pg ∧ H159 Pg
theorem K161 (h : H161 Pg) (l : List AAct) (k : List UInt8) : K' Pg 161 [eAActs l, .str k] = some (.bool true) := by
  obtain ⟨h, h141, h142, h143, h144, h148, h154, h156, h157, h159⟩ := h
  have k142 := fun s => K142 h142 s k
  have k143 := K143 h143
  have k154 := K154 h154
  simp only [ePls] at k154
  simp only [eSpan] at k142
  refine K'_code h rfl ?_
  simp only [go_sem, k154]
  unfold l161_0
  refine wp_lp (fun (i : Nat) S => (i ≤ l.length ∧ i ≤ 40) ∧ S.ρ 0 = eAActs l ∧ S.ρ 1 = .str k ∧ (∃ a, rightA a = true ∧ S.ρ 5 = ePls a) ∧ S.ρ 6 = iz i ∧ S.μ 10 = none ∧ S.μ 11 = none ∧ S.μ 15 = none ∧ S.μ 16 = none) (fun i => l.length - i) 0 ?_ ?_
  · simp [go_sem]
    exact ⟨firstA, by decide +kernel, rfl⟩
  · intro i S ⟨hi, h0, h1, ⟨a, ha, h5⟩, h6, m10, m11, m15, m16⟩
    have ha8 := (right_iff'.1 ha).1
    rw [b161_eq]
    simp only [go_sem, h0, h1, h5, h6, m10, m11, m15, m16]
    cases e1 : decide ((i : Int) < (l.length : Int)) with
    | false => simp only [go_sem, e1, h0, h1, h5, h6, k143]
    | true =>
    cases e2 : decide ((i : Int) < 40) with
    | false => simp only [go_sem, e1, e2, h0, h1, h5, h6, k143]
    | true =>
    have h := lt_of e1
    have h40 : i < 40 := by have := of_decide_eq_true e2; omega
    obtain ⟨c, hx, hd⟩ := drop_at h
    have k159 := K159 h159 a c.shard c.n c.epoch (by omega)
    have k156 := K156 h156 a c.shard c.key c.n c.epoch (by omega)
    have k157 := K157 h157 a c.shard c.n c.epoch (by omega)
    simp only [ePls, ePE] at k159 k156 k157
    have hwi : IntKind.i64.wrap ((i : Int) + 1) = ((i + 1 : Nat) : Int) := inc64 h40 (by omega)
    simp only [go_sem, e1, e2, h0, h1, h5, h6, m10, m11, m15, m16, hx, k159]
    generalize (IntKind.u64.wrap c.kind).tmod 3 = m
    refine wpc_cut (fun S => ∃ r : List Place × Int, GoodC a r ∧ S.ρ 0 = eAActs l ∧ S.ρ 1 = .str k ∧ S.ρ 5 = ePls a ∧ S.ρ 6 = iz i ∧ S.ρ 7 = ePls r.1 ∧ S.ρ 8 = iz r.2 ∧ S.μ 10 = none ∧ S.μ 11 = none ∧ S.μ 15 = none ∧ S.μ 16 = none) ?_ ?_
    · refine wpc_i (fun hm => ?_) (fun hm => ?_)
      · simp only [go_sem, h0, h1, h5, h6, m10, m11, m15, m16, hx, k156]
        exact ⟨_, parted_good _ _ _ _ _, rfl, rfl⟩
      · simp only [go_sem, h0, h1, h5, h6, m10, m11, m15, m16, hx]
        refine wpc_i (fun hm => ?_) (fun hm => ?_)
        · simp only [go_sem, h0, h1, h5, h6, m10, m11, m15, m16, hx, k157]
          exact ⟨_, joined_good _ _ _ _, rfl, rfl⟩
        · simp only [go_sem, h0, h1, h5, h6, m10, m11, m15, m16, hx]
          exact ⟨_, moved_good _ _ _ _, rfl, rfl⟩
    · intro S hS
      simp only [go_sem]
      refine (T161 h141 h142 h144 h148 l k i a ha S hS).mono ?_
      rintro ex S' ⟨he, h0, h1, ⟨b, hb, h5⟩, h6⟩
      rcases he with rfl | rfl <;> simp only [go_sem, h0, h1, h5, h6]
      · exact ⟨i + 1, by omega, by omega, ⟨b, hb, rfl⟩, by rw [hwi]⟩
      · exact ⟨i + 1, by omega, by omega, ⟨b, hb, rfl⟩, by rw [hwi]⟩
end Sg
namespace Sg
open _root_.Go
set_option linter.unusedSimpArgs false
set_option linter.unusedVariables false
abbrev tAAct : List CT := [.int .i64, .int .i64, .int .i64, .int .i64, .str]
theorem row_AAct {xs : List V} (h : HasRow tAAct xs) : ∃ s, xs = eAAct s := by
  obtain ⟨hl, hj⟩ := h
  match xs, hl with
  | [x0, x1, x2, x3, x4], _ =>
    obtain ⟨y0, h0, -⟩ := has_int (hj 0 (by simp))
    obtain ⟨y1, h1, -⟩ := has_int (hj 1 (by simp))
    obtain ⟨y2, h2, -⟩ := has_int (hj 2 (by simp))
    obtain ⟨y3, h3, -⟩ := has_int (hj 3 (by simp))
    obtain ⟨y4, h4, -⟩ := has_str (hj 4 (by simp))
    simp [gv] at h0 h1 h2 h3 h4
    subst h0; subst h1; subst h2; subst h3; subst h4
    exact ⟨⟨y0, y1, y2, y3, y4⟩, rfl⟩
theorem has_AActs {x : V} (h : Has (.slice tAAct) x) : ∃ l, x = eAActs l ∧ l.length ≤ maxLen := by
  obtain ⟨rows, rfl, hl, hr⟩ := has_slice h
  obtain ⟨l, rfl, -⟩ := rows_enc (enc := eAAct) (Q := fun _ => True) (fun row hrow => by obtain ⟨v, hv⟩ := row_AAct (hr row hrow); exact ⟨v, hv, trivial⟩)
  exact ⟨l, rfl, by simpa using hl⟩
theorem arg_AActs {x : V} (h : ArgV (false, [.slice tAAct]) x) : ∃ l, x = eAActs l ∧ l.length ≤ maxLen := by
  obtain ⟨c, hc, h⟩ := h
  simp only [List.cons.injEq, and_true] at hc
  subst hc
  exact has_AActs h
end Sg
namespace Sg
open _root_.Go _root_.Go.Proofs
set_option linter.unusedSimpArgs false
set_option maxRecDepth 100000
theorem t162 : H162 (look atlasTab) := rfl
theorem t163 : H163 (look atlasTab) := rfl
theorem t164 : H164 (look atlasTab) := rfl
theorem t185 : H185 (look atlasTab) := rfl
theorem t165 : H165 (look atlasTab) := ⟨rfl, t185⟩
theorem t170 : H170 (look atlasTab) := rfl
theorem t190 : H190 (look atlasTab) := rfl
theorem t192 : H192 (look atlasTab) := ⟨rfl, t190⟩
theorem t186 : H186 (look atlasTab) := ⟨rfl, t170, t192⟩
theorem t166 : H166 (look atlasTab) := ⟨rfl, t186⟩
theorem t141 : H141 (look atlasTab) := ⟨rfl, t162, t163, t164, t165, t166⟩
theorem t188 : H188 (look atlasTab) := rfl
theorem t189 : H189 (look atlasTab) := rfl
theorem t168 : H168 (look atlasTab) := ⟨rfl, t188, t189⟩
theorem t195 : H195 (look atlasTab) := ⟨rfl, t188⟩
theorem t187 : H187 (look atlasTab) := ⟨rfl, t195⟩
theorem t167 : H167 (look atlasTab) := ⟨rfl, t168, t187⟩
theorem t169 : H169 (look atlasTab) := ⟨rfl, t187⟩
theorem t142 : H142 (look atlasTab) := ⟨rfl, t167, t168, t169⟩
theorem t171 : H171 (look atlasTab) := ⟨rfl, t186, t170, t192⟩
theorem t144 : H144 (look atlasTab) := ⟨rfl, t141, t170, t171⟩
theorem t154 : H154 (look atlasTab) := rfl
theorem t194 : H194 (look atlasTab) := rfl
theorem t175 : H175 (look atlasTab) := ⟨rfl, t185, t194⟩
theorem t177 : H177 (look atlasTab) := ⟨rfl, t141, t162, t175⟩
theorem t178 : H178 (look atlasTab) := ⟨rfl, t186, t170, t171⟩
theorem t179 : H179 (look atlasTab) := rfl
theorem t156 : H156 (look atlasTab) := ⟨rfl, t162, t175, t177, t178, t179⟩
theorem t143 : H143 (look atlasTab) := ⟨rfl, t144, t154, t156⟩
theorem t148 : H148 (look atlasTab) := ⟨rfl, t141, t175⟩
theorem t157 : H157 (look atlasTab) := ⟨rfl, t162, t175, t177, t179⟩
theorem t159 : H159 (look atlasTab) := ⟨rfl, t163, t177, t179⟩
theorem t161 : H161 (look atlasTab) := ⟨rfl, t141, t142, t143, t144, t148, t154, t156, t157, t159⟩
theorem all_ctr (f : Nat) (args : List V) (r : V) (h : K' (look atlasTab) f args = some r) : Ctr Tryd.prog (cxU atlasFm) (ownOf (look atlasTab) f) f args r := by
  obtain ⟨n, hn⟩ := K'_iff.1 h
  refine callN_sound (by kernel_rfl) (tab_code okAll) (fun f own p hp => ?_) (fun f z p hlt hp => ?_) (fun f z p hp => ?_) n f args r hn
  · have hm := look_mem hp
    simp only [atlasTab, List.mem_cons, Prod.mk.injEq, reduceCtorEq, and_false, false_and, false_or, Fn.prim.injEq, Option.some.injEq, List.not_mem_nil, or_false] at hm
    rcases hm with ⟨rfl, hz, rfl⟩ | ⟨rfl, hz, rfl⟩ | ⟨rfl, hz, rfl⟩ | ⟨rfl, hz, rfl⟩ | ⟨rfl, hz, rfl⟩
    · subst hz
      exact clone_ctr (zero := [.str [], .str [], .int .i64 0, .int .i64 0, .int .i64 0]) (by kernel_rfl) okClone179
    · intro args r h
      simp [noQ] at h
    · intro args r h
      simp [noQ] at h
    · subst hz
      exact keyCt _ 170 rfl
    · subst hz
      exact decCt _ 190 rfl
  · have hm := look_mem hp
    simp only [atlasTab, List.mem_cons, Prod.mk.injEq, reduceCtorEq, and_false, false_and, false_or, Fn.prim.injEq, Option.some.injEq, List.not_mem_nil, or_false] at hm
    rcases hm with ⟨rfl, hz, rfl⟩ | ⟨rfl, hz, rfl⟩ | ⟨rfl, hz, rfl⟩
    · omega
    · obtain rfl : z = 5 := by omega
      exact ⟨_, _, insC42⟩
    · omega
  · have hm := look_mem hp
    simp only [atlasTab, List.mem_cons, Prod.mk.injEq, reduceCtorEq, and_false, false_and, false_or, Fn.prim.injEq, Option.some.injEq, List.not_mem_nil, or_false] at hm
    rcases hm with ⟨rfl, hz, rfl⟩ | ⟨rfl, hz, rfl⟩ | ⟨rfl, hz, rfl⟩
    · omega
    · omega
    · obtain rfl : z = 5 := by omega
      exact delC44
end Sg
namespace Go.Proofs.YtoklilggickleaaDoor
open Sg Go.RowKit
theorem own : ownKnob Tryd.prog.godebug = none := by kernel_rfl
theorem laid : laidOutB Tryd.prog = true := by kernel_rfl
theorem atlasOnce_ctr (xs : List V) (h : ArgsV [(false, [.slice tAAct]), (false, [.str])] xs) : Ctr Tryd.prog (cxU atlasFm) (ownOf (Sg.look atlasTab) 161) 161 xs (.bool true) := by
  match xs, h with
  | [x0, x1], h =>
    obtain ⟨h0, h1, -⟩ := h
    obtain ⟨a0, rfl, l0⟩ := arg_AActs h0
    obtain ⟨a1, rfl, l1⟩ := arg_str h1
    exact all_ctr _ _ _ (K161 t161 a0 a1)
noncomputable def laidWorld (os : Os) : World :=
  let w0 := World.holding Tryd.prog os ⟨#[], #[], []⟩
  let put (h : Array Obj) (g : Nat) (cs : Array Value) : Array Obj := h.modify g fun
    | .cells _ t frozen => .cells cs t frozen
    | o => o
  let h1 := put w0.heap 0 (Lib.firstTab.map fun z => Value.int .u8 z).toArray
  let h2 := put h1 1 ((List.range 16).flatMap fun i => [Value.int .u8 (Lib.accLo i), Value.int .u8 (Lib.accHi i)]).toArray
  { w0 with heap := h2 }
theorem tabs_of {W : World} (hL : laidMetH Tryd.prog Rows.atlasOnceRow.laid W) : Lib.Utf8Tabs 0 1 W :=
  utf8Tabs_of_reads (ρ := renU) { lays197 with } ⟨by kernel_rfl, by kernel_rfl, by kernel_rfl, by kernel_rfl, by kernel_rfl, by kernel_rfl, by kernel_rfl⟩
    ((show Go.Pinned.utf8First = Lib.firstData by kernel_rfl) ▸ Lib.laidMet.reads hL (.tail _ (.head _))) ((show Rows.laid_unicode_utf8_acceptRanges = Lib.acceptData by kernel_rfl) ▸ Lib.laidMet.reads hL (.head _))
theorem size_of {W : World} (h : Lib.Utf8Tabs 0 1 W) : 2 ≤ W.heap.size := by
  have lt : ∀ g o v, W.cell? ⟨g, o, none⟩ = some v → g < W.heap.size := fun g o v e => by
    rcases Nat.lt_or_ge g W.heap.size with h | h
    · exact h
    · simp [World.cell?, Array.getElem?_eq_none h] at e
  have h1 := lt _ _ _ (h.1 0 (by decide))
  have h2 := lt _ _ _ (h.2 0 (by decide)).1
  omega
theorem laid_met (os : Os) (args : Array Value) : laidMet Tryd.prog Rows.atlasOnceRow.laid ((laidWorld os).forCall (fun _ _ => 0) ⟨#[], args, []⟩).memory :=
  (LaidIn.of_run (l := Rows.atlasOnceRow.laid) [1, 0] 8 (by kernel_rfl) (by kernel_rfl) (by kernel_rfl) (by kernel_rfl)).met
set_option maxRecDepth 100000 in
theorem atlasOnce_reads (os : Os) {H : Type} (enc : TypeId × Value → H) :
    (OpenSpec.ofChange Rows.atlasOnceSpec).preRow enc Tryd.prog Tryd.f7 Rows.atlasOnceRow.domain false Rows.atlasOnceRow.laid ((laidWorld os).forCall (fun _ _ => 0) ⟨#[], #[Value.slice none 0 0, Value.string ⟨#[]⟩], []⟩).memory #[Value.slice none 0 0, Value.string ⟨#[]⟩] := by
  have hw : (DataW.whole enc Tryd.prog ((laidWorld os).forCall (fun _ _ => 0) ⟨#[], #[Value.slice none 0 0, Value.string ⟨#[]⟩], []⟩).memory Tryd.f7.params.toList Rows.atlasOnceSpec.vars false #[Value.slice none 0 0, Value.string ⟨#[]⟩].toList 8).isSome = true := by kernel_rfl
  obtain ⟨⟨x1, x2, x3⟩, hx⟩ := Option.isSome_iff_exists.1 hw
  have hl : x1.length = 2 := by
    have := congrArg (Option.map fun x => x.1.length) hx
    have e : (DataW.whole enc Tryd.prog ((laidWorld os).forCall (fun _ _ => 0) ⟨#[], #[Value.slice none 0 0, Value.string ⟨#[]⟩], []⟩).memory Tryd.f7.params.toList Rows.atlasOnceSpec.vars false #[Value.slice none 0 0, Value.string ⟨#[]⟩].toList 8).map (fun x => x.1.length) = some 2 := by kernel_rfl
    rw [hx] at e
    simpa using e
  exact OpenSpec.preRow_of_cond 8 hx (by kernel_rfl) (fun k hk => by cases hk) (by kernel_rfl) (laid_met os _)
theorem atlasOnce_lifted (os : Os) (started : os.Started) (H : Type) (enc : TypeId × Value → H) (F : Stop.Interp) :
    ReturnsInHanded {} Tryd.checked os 7 .any ((OpenSpec.ofChange Rows.atlasOnceSpec).preRow enc Tryd.prog Tryd.f7 Rows.atlasOnceRow.domain false Rows.atlasOnceRow.laid) (((OpenSpec.ofChange Rows.atlasOnceSpec).at F).post enc Tryd.prog Tryd.f7 false true false false) := by
  refine returnsInHanded_of_row (C := Tryd.checked) (s := OpenSpec.ofChange Rows.atlasOnceSpec) own started (by kernel_rfl) Tryd.func7
    (witness_row_at (enc := enc) (C := Tryd.checked) false (laidWorld os) #[Value.slice none 0 0, Value.string ⟨#[]⟩] rfl (by kernel_rfl) (by kernel_rfl) (by kernel_rfl) (atlasOnce_reads os enc)) ?_
  intro W base args ds gs before hval hW _ _ _ hL _ _
  have hT := tabs_of hL
  exact lift (s := Rows.atlasOnceSpec) (conds := []) (cx := cxU atlasFm) (own := ownOf (Sg.look atlasTab) 161) (fid := 161) (ss := [(false, [.slice tAAct]), (false, [.str])]) (tb := 4) (by kernel_rfl) (by kernel_rfl) (by kernel_rfl) laid rfl (by kernel_rfl) (by kernel_rfl)
    (fun ds h => by
      have h2 : Tryd.f7.params.toList.length = 2 := by kernel_rfl
      rw [h2] at h
      match ds, h with
      | [d0, d1], _ => rfl) atlasOnce_ctr W (size_of hT) hT base args ds gs before hval hW
theorem atlasOnce_said : Rows.AtlasOnceSaid :=
  OpenClaim.holds_of_cond 7 Tryd.f7 rfl rfl rfl rfl rfl rfl rfl ⟨rfl, rfl, rfl, rfl, rfl⟩ rfl rfl rfl rfl rfl (by kernel_rfl) Tryd.func7 (by kernel_rfl)
    (of_decide_eq_true (by kernel_rfl)) (by unfold Func.isWrapper; first | (rw [if_pos (by decide +kernel)]; kernel_rfl) | (rw [if_neg (by decide +kernel)]; exact ⟨rfl, rfl⟩))
    (fun os started H enc _ F => by rw [OpenClaim.pre_eq_preRow]; exact atlasOnce_lifted os started H enc F)
theorem atlasOnce_plain (f : FuncId) (fn : Func) (hf : Tryd.pinned.checked.prog.funcNamed "stratigraph/stratigraphlaw15.AtlasOnce" = some f) (hfn : Tryd.pinned.checked.prog.funcs[f]? = some fn) :
    false = Tryd.pinned.checked.prog.looks [] ∧ ∀ (j : Nat) t, fn.params[j]? = some t → Tryd.pinned.checked.prog.wantsStandIn t = false := by
  obtain rfl : f = 7 := Option.some.inj ((show Tryd.prog.funcNamed "stratigraph/stratigraphlaw15.AtlasOnce" = some 7 by kernel_rfl).symm.trans hf) |>.symm
  obtain rfl : fn = Tryd.f7 := (Option.some.inj (Tryd.func7.symm.trans hfn)).symm
  refine ⟨by kernel_rfl, fun j t ht => ?_⟩
  rw [Tryd.params7] at ht
  have hm := Array.mem_of_getElem? ht
  simp only [List.mem_toArray, List.mem_cons, List.not_mem_nil, or_false] at hm
  rcases hm with rfl | rfl
  · exact (show Tryd.prog.wantsStandIn 48 = false by kernel_rfl)
  · exact (show Tryd.prog.wantsStandIn 9 = false by kernel_rfl)
theorem atlasOnce_holds : Rows.AtlasOnceCardSaid :=
  Claim7.holds_tied_plain_at .later [] _ _ _ _ atlasOnce_said (fun _ h => by cases h) (by kernel_rfl) (fun _ h => by cases h) atlasOnce_row_tie rfl ⟨rfl, rfl⟩ (by kernel_rfl) rfl atlasOnce_plain (by kernel_rfl)
#print axioms atlasOnce_holds
end Go.Proofs.YtoklilggickleaaDoor
