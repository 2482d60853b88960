/- A checked abstract run of translated code is sound: for every program and input that pass its checks. A general part, used by the proofs of this seat. -/
import Derived.Test.YtofkbkonceifeaaGreatDoorG2
namespace Sg
open _root_.Go (IntKind BinOp UnOp)
section
variable {A : AA} {S : St} {κ : Nat → List V → Option V}
theorem hand_nil : handL [] A = some ([], A) := rfl
theorem hand_cons {x xs} : handL (x :: xs) A = (handC A x).bind fun r => (handL xs r.2).bind fun q => some (r.1 :: q.1, q.2) := rfl
theorem handC_i {k n} : handC A (.int k n) = some (.int k n, A) := rfl
theorem handC_b {n} : handC A (.bool n) = some (.bool n, A) := rfl
theorem handC_s {n} : handC A (.str n) = some (.str n, A) := rfl
theorem handC_r {z n} : handC A (.slice z n) = some (.slice z n, A) := rfl
theorem handC_ns {z} : handC A (.nslice z) = some (.tuple [.slice z []], A) := rfl
def hdO (A : AA) (s z n : Nat) : Option (Nat × List (List V) × Fz) → Option (V × AA)
  | some (z', rows, .live) => if z' = z ∧ rows.length = n then some (.tuple [.slice z rows], upd A s (some (z, [], .dead))) else none
  | _ => none
theorem handC_o {s z n} : handC A (.own s z n) = hdO A s z n (A s) := rfl
theorem hdo_s {s z n rows} : hdO A s z n (some (z, rows, .live)) = if rows.length = n then some (.tuple [.slice z rows], upd A s (some (z, [], .dead))) else none := by simp [hdO]
theorem take_nil {d} : takeL d [] A = some ([], A) := rfl
theorem take_cons {d x xs} : takeL d (x :: xs) A = (takeC d A x).bind fun r => (takeL (d + 1) xs r.2).bind fun q => some (r.1 :: q.1, q.2) := rfl
theorem takeC_i {d k n} : takeC d A (.int k n) = some (.int k n, A) := rfl
theorem takeC_b {d n} : takeC d A (.bool n) = some (.bool n, A) := rfl
theorem takeC_s {d n} : takeC d A (.str n) = some (.str n, A) := rfl
theorem takeC_r {d z n} : takeC d A (.slice z n) = some (.slice z n, A) := rfl
def tkO (d : Nat) (A : AA) (z : Nat) (rows : List (List V)) : Option (Nat × List (List V) × Fz) → Option (V × AA)
  | none => some (.own d z rows.length, upd A d (some (z, rows, .live)))
  | some _ => none
theorem takeC_t {d z rows} : takeC d A (.tuple [.slice z rows]) = tkO d A z rows (A d) := by
  simp only [takeC, tkO]
  cases A d <;> rfl
theorem tko_n {d z rows} : tkO d A z rows none = some (.own d z rows.length, upd A d (some (z, rows, .live))) := rfl
theorem nilT_n {z} : nilT (.nslice z) = .tuple [.slice z []] := rfl
theorem nilT_i {k n} : nilT (.int k n) = .int k n := rfl
theorem nilT_b {n} : nilT (.bool n) = .bool n := rfl
theorem nilT_s {n} : nilT (.str n) = .str n := rfl
theorem nilT_r {z n} : nilT (.slice z n) = .slice z n := rfl
theorem rcall_e {b f k s avs} : rcallV κ b S f k s avs = (rcallA S k s avs).bind fun q => (κ f q.1).bind fun r => rcallE b S s q.2 r := rfl
def rcA2 (S : St) (k : Nat) (avs bs : List V) : Option (List V × Bool) → Option (List V × AA)
  | some (cs, false) => (handL cs (frzA S.A ((avs.set k .undef).flatMap sitesV))).bind fun h => some (bs.set k (.tuple (.lref 0 0 :: h.1)), h.2)
  | _ => none
def rcA1 (S : St) (k s : Nat) (avs : List V) : Option V → Option (List V × AA)
  | some (.lref s' 0) => if s' = s then (mapO (toD S.A) (avs.set k .undef)).bind fun bs => rcA2 S k avs bs (S.μ s) else none
  | _ => none
theorem rcallA_e {k s avs} : rcallA S k s avs = rcA1 S k s avs (avs[k]?) := rfl
theorem rcA1_l {k s avs} : rcA1 S k s avs (some (.lref s 0)) = (mapO (toD S.A) (avs.set k .undef)).bind fun bs => rcA2 S k avs bs (S.μ s) := by simp [rcA1]
theorem rcA2_s {k avs bs cs} : rcA2 S k avs bs (some (cs, false)) = (handL cs (frzA S.A ((avs.set k .undef).flatMap sitesV))).bind fun h => some (bs.set k (.tuple (.lref 0 0 :: h.1)), h.2) := rfl
theorem rcallE_t {b s r0 us} : rcallE b S s A (.tuple [r0, .tuple us]) = (takeL b us A).bind fun t => some (r0, ⟨S.ρ, upd S.μ s (some (t.1, false)), t.2⟩) := rfl
theorem toD_u : toD A .undef = some .undef := rfl
theorem sites_u : sitesV .undef = [] := rfl
theorem appW_o {s z z' n y} : appW S z (.own s z' n) y = appV S s z (.own s z' n) y := rfl
theorem ld_x {n s i off m} : loadV S .x n (.eref s i off m) = ldE n i off m (S.A s) := rfl
def bsO : Option V → Option V
  | some (.slice 1 rows) => (bytesR rows).bind fun l => some (.str l)
  | _ => none
theorem b2s_e {x} : b2sV A x = bsO (toDC A x) := rfl
theorem bso_s {rows} : bsO (some (.slice 1 rows)) = (bytesR rows).bind fun l => some (.str l) := rfl
theorem bytes_map : ∀ (l : List UInt8), bytesR (l.map fun b => [.int .u8 b.toNat]) = some l
  | [] => rfl
  | b :: l => by simp [bytesR, bytes_map l]
theorem bytes_one {n : Int} : bytesR [[.int .u8 n]] = some [UInt8.ofNat n.toNat] := rfl
def fzO (z n : Nat) : Option (Nat × List (List V) × Fz) → Option V
  | some (z', rows, .frz) => if z' = z ∧ rows.length = n then some (.slice z rows) else none
  | _ => none
theorem frzD_o {s z n} : frzD A s (.own s z n) = fzO z n (A s) := by simp [frzD, fzO]; rfl
theorem fzo_s {z n rows} : fzO z n (some (z, rows, .frz)) = if rows.length = n then some (.slice z rows) else none := by simp [fzO]
theorem head_sw {s j h : Nat} {L Wv Wa : List Nat} : S.head [] (s :: j :: h :: L) Wv Wa = (S.swp1 s j h).head [] L Wv Wa := rfl
def sw2 (S : St) (h : Nat) : Option V → St
  | some (.own x _ _) => S.ren x h
  | _ => S
def sw1 (S : St) (j h : Nat) : Option (List V × Bool) → St
  | some (cs, _) => sw2 S h cs[j]?
  | none => S
theorem swp1_e {s j h : Nat} : S.swp1 s j h = sw1 S j h (S.μ s) := by
  unfold St.swp1 sw1 sw2
  rfl
theorem sw1_s {j h cs f} : sw1 S j h (some (cs, f)) = sw2 S h cs[j]? := rfl
theorem sw2_o {h x z n} : sw2 S h (some (.own x z n)) = S.ren x h := rfl
theorem ren_ρ {x h t} : (S.ren x h).ρ t = renV x h (S.ρ t) := rfl
theorem ren_μ {x h t} : (S.ren x h).μ t = (S.μ t).map fun m => (m.1.map (renC x h), m.2) := rfl
theorem ren_A {x h t} : (S.ren x h).A t = S.A (swp x h t) := rfl
theorem renV_i {x h k n} : renV x h (.int k n) = .int k n := rfl
theorem renV_b {x h n} : renV x h (.bool n) = .bool n := rfl
theorem renV_s {x h n} : renV x h (.str n) = .str n := rfl
theorem renV_r {x h z n} : renV x h (.slice z n) = .slice z n := rfl
theorem renV_f {x h z n} : renV x h (.func z n) = .func z n := rfl
theorem renV_u {x h} : renV x h .undef = .undef := rfl
theorem renV_l {x h s o} : renV x h (.lref s o) = .lref s o := rfl
theorem renV_o {x h s z n} : renV x h (.own s z n) = .own (swp x h s) z n := rfl
theorem renV_a {x h cs} : renV x h (.agg cs) = .agg (cs.map (renC x h)) := rfl
theorem renC_i {x h k n} : renC x h (.int k n) = .int k n := rfl
theorem renC_b {x h n} : renC x h (.bool n) = .bool n := rfl
theorem renC_s {x h n} : renC x h (.str n) = .str n := rfl
theorem renC_r {x h z n} : renC x h (.slice z n) = .slice z n := rfl
theorem renC_o {x h s z n} : renC x h (.own s z n) = .own (swp x h s) z n := rfl
theorem swp_l {x h : Nat} : swp x h x = h := by simp [swp]
theorem swp_r {x h : Nat} : swp x h h = x := by unfold swp; split <;> simp_all
theorem swp_n {x h t : Nat} (h1 : (t == x) = false) (h2 : (t == h) = false) : swp x h t = t := by
  have h1 : t ≠ x := by simpa using h1
  have h2 : t ≠ h := by simpa using h2
  simp [swp, h1, h2]
end
attribute [go_sem] frzD_o fzo_s hand_nil hand_cons handC_i handC_b handC_s handC_r handC_ns handC_o hdo_s take_nil take_cons takeC_i takeC_b takeC_s takeC_r takeC_t tko_n nilT_n nilT_i nilT_b nilT_s nilT_r rcallA_e rcA1_l rcA2_s rcallE_t toD_u sites_u appW_o ld_x b2s_e bso_s bytes_one
attribute [go_sem] swp1_e sw1_s sw2_o ren_ρ ren_μ ren_A renV_i renV_b renV_s renV_r renV_f renV_u renV_l renV_o renV_a renC_i renC_b renC_s renC_r renC_o swp_l swp_r swp_n
section
variable {S : St} {s off n : Nat}
theorem sto_o {a z m} : storeV S (.v s) 1 (.lref s off) (.own a z m) = stV S s off [.own a z m] (S.μ s) := by rw [st_v]; rfl
theorem sto_i {k m} : storeV S (.v s) 1 (.lref s off) (.int k m) = stV S s off [.int k m] (S.μ s) := by rw [st_v]; rfl
theorem sto_b {m} : storeV S (.v s) 1 (.lref s off) (.bool m) = stV S s off [.bool m] (S.μ s) := by rw [st_v]; rfl
theorem sto_s {m} : storeV S (.v s) 1 (.lref s off) (.str m) = stV S s off [.str m] (S.μ s) := by rw [st_v]; rfl
theorem sto_r {z m} : storeV S (.v s) 1 (.lref s off) (.slice z m) = stV S s off [.slice z m] (S.μ s) := by rw [st_v]; rfl
theorem sto_ns {z} : storeV S (.v s) 1 (.lref s off) (.nslice z) = stV S s off [.nslice z] (S.μ s) := by rw [st_v]; rfl
theorem sto_a {cs} : storeV S (.v s) n (.lref s off) (.agg cs) = if cs.length = n then stV S s off cs (S.μ s) else none := by rw [st_v]; rfl
end
attribute [go_sem high] sto_o sto_i sto_b sto_s sto_r sto_ns sto_a
attribute [go_sem] List.set_cons_zero List.set_cons_succ
end Sg
namespace Sg
def stay (Wv : List Nat) : V → Bool
  | .int .. | .bool _ | .str _ | .slice .. | .func .. | .undef => true
  | .lref s _ => !Wv.contains s
  | _ => false
section
variable {S : St}
theorem ren_stay {Wv : List Nat} {x h : Nat} {v : V} (hs : stay Wv v = true) : renV x h v = v := by cases v <;> simp_all [stay, renV]
theorem scrub_stay {Wv Wa : List Nat} {v : V} (hs : stay Wv v = true) : scrubV Wv Wa v = v := by
  cases v <;> simp_all [stay, scrubV]
theorem ren_data {x h : Nat} {cs : List V} (hd : cs.all V.datC = true) : cs.map (renC x h) = cs := by
  rw [List.all_eq_true] at hd
  conv => rhs; rw [← List.map_id cs]
  refine List.map_congr_left fun y hy => ?_
  have := hd y hy
  cases y <;> simp_all [renC, V.datC]
theorem scrub_data {Wa : List Nat} {cs : List V} (hd : cs.all V.datC = true) : cs.map (scrubC Wa) = cs := by
  rw [List.all_eq_true] at hd
  conv => rhs; rw [← List.map_id cs]
  refine List.map_congr_left fun y hy => ?_
  have := hd y hy
  cases y <;> simp_all [scrubC, V.datC]
theorem swp1_ρ {s j h i : Nat} {Wv : List Nat} (hs : stay Wv (S.ρ i) = true) : (S.swp1 s j h).ρ i = S.ρ i := by
  unfold St.swp1
  split
  · split
    · exact ren_stay hs
    · rfl
  · rfl
theorem swp1_μ {s j h i : Nat} {cs : List V} {f : Bool} (hm : S.μ i = some (cs, f)) (hd : cs.all V.datC = true) : (S.swp1 s j h).μ i = some (cs, f) := by
  unfold St.swp1
  split
  · split
    · simp only [St.ren, hm, Option.map_some, ren_data hd]
    · exact hm
  · exact hm
theorem swp1_μn {s j h i : Nat} (hm : S.μ i = none) : (S.swp1 s j h).μ i = none := by
  unfold St.swp1
  split
  · split
    · simp only [St.ren, hm, Option.map_none]
    · exact hm
  · exact hm
theorem swps_keep {Wv : List Nat} : ∀ (n : Nat) (L : List Nat) (S : St), L.length ≤ n → (∀ i, stay Wv (S.ρ i) = true → (S.swps L).ρ i = S.ρ i) ∧ (∀ i cs f, S.μ i = some (cs, f) → cs.all V.datC = true → (S.swps L).μ i = some (cs, f)) ∧
    ∀ i, S.μ i = none → (S.swps L).μ i = none := by
  intro n
  induction n with
  | zero =>
    intro L S hL
    have : L = [] := List.eq_nil_of_length_eq_zero (by omega)
    subst this
    exact ⟨fun _ _ => rfl, fun _ _ _ h _ => h, fun _ h => h⟩
  | succ n ih =>
    intro L S hL
    match L, hL with
    | [], _ => exact ⟨fun _ _ => rfl, fun _ _ _ h _ => h, fun _ h => h⟩
    | [_], _ => exact ⟨fun _ _ => rfl, fun _ _ _ h _ => h, fun _ h => h⟩
    | [_, _], _ => exact ⟨fun _ _ => rfl, fun _ _ _ h _ => h, fun _ h => h⟩
    | s :: j :: h :: l, hL =>
      obtain ⟨i1, i2, i3⟩ := ih l (S.swp1 s j h) (by simp at hL; omega)
      refine ⟨fun i hs => ?_, fun i cs f hm hd => i2 i cs f (swp1_μ hm hd) hd, fun i hm => i3 i (swp1_μn hm)⟩
      have e := swp1_ρ (s := s) (j := j) (h := h) hs
      exact (i1 i (by rw [e]; exact hs)).trans e
theorem head_ρs {L Wv Wa : List Nat} {i : Nat} {v : V} (hv : S.ρ i = v) (hs : stay Wv v = true) : (S.head [] L Wv Wa).ρ i = v := by
  subst hv
  have e := (swps_keep (Wv := Wv) L.length L S (Nat.le_refl _)).1 i hs
  show scrubV Wv Wa ((S.swps L).ρ i) = _
  rw [e]; exact scrub_stay hs
theorem head_μs {L Wv Wa : List Nat} {i : Nat} {cs : List V} {f : Bool} (hm : S.μ i = some (cs, f)) (hd : cs.all V.datC = true) (hw : Wv.contains i = false) : (S.head [] L Wv Wa).μ i = some (cs, f) := by
  have e := (swps_keep (Wv := Wv) L.length L S (Nat.le_refl _)).2.1 i cs f hm hd
  show (if Wv.contains i then none else _) = _
  rw [hw, e]
  simp only [Bool.false_eq_true, if_false, Option.map_some, scrub_data hd]
  cases Wa.isEmpty <;> rfl
theorem head_μn {L Wv Wa : List Nat} {i : Nat} (hm : S.μ i = none ∨ Wv.contains i = true) : (S.head [] L Wv Wa).μ i = none := by
  show (if Wv.contains i then none else _) = _
  rcases hm with hm | hm
  · have e := (swps_keep (Wv := Wv) L.length L S (Nat.le_refl _)).2.2 i hm
    rw [e]; split <;> rfl
  · rw [hm]; rfl
theorem head_nil : S.head [] [] [] [] = S := by
  obtain ⟨ρ, μ, A⟩ := S
  have e1 : ∀ v : V, scrubV [] [] v = v := fun v => by cases v <;> simp [scrubV]
  show St.mk _ _ _ = _
  congr 1
  · funext t; exact e1 _
  · funext s
    show (μ s).map _ = μ s
    cases μ s <;> rfl
def Fr (A : AA) (n : Nat) : Prop := ∀ x, n ≤ x → A x = none
end
end Sg
