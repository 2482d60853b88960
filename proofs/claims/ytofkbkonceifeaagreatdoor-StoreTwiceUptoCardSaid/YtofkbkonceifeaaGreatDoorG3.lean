/- A checked abstract run of translated code is sound: for every program and input that pass its checks. A general part, used by the proofs of this seat. -/
import Derived.DataReads
import Derived.WideShapes
import Derived.ChangeSlices
import Derived.ChangeSame
import Derived.JoinedOf
import Derived.JoinedAt
import Derived.Carry
import Derived.Test.YtofkbkonceifeaaGreatDoorG2
namespace Sg
open _root_.Go (IntKind BinOp UnOp)
section
variable {A : AA} {S : St} {κ : Nat → List V → Option V}
theorem hand_nil : handL [] A = some ([], A) := rfl
theorem hand_cons {x xs} : handL (x :: xs) A = (handC A x).bind fun r => (handL xs r.2).bind fun q => some (r.1 :: q.1, q.2) := rfl
theorem handC_i {k n} : handC A (.int k n) = some (.int k n, A) := rfl
theorem handC_b {n} : handC A (.bool n) = some (.bool n, A) := rfl
theorem handC_s {n} : handC A (.str n) = some (.str n, A) := rfl
theorem handC_r {z n} : handC A (.slice z n) = some (.slice z n, A) := rfl
theorem handC_ns {z} : handC A (.nslice z) = some (.tuple [.slice z []], A) := rfl
def hdO (A : AA) (s z n : Nat) : Option (Nat × List (List V) × Fz) → Option (V × AA)
  | some (z', rows, .live) => if z' = z ∧ rows.length = n then some (.tuple [.slice z rows], upd A s (some (z, [], .dead))) else none
  | _ => none
theorem handC_o {s z n} : handC A (.own s z n) = hdO A s z n (A s) := rfl
theorem hdo_s {s z n rows} : hdO A s z n (some (z, rows, .live)) = if rows.length = n then some (.tuple [.slice z rows], upd A s (some (z, [], .dead))) else none := by simp [hdO]
theorem take_nil {d} : takeL d [] A = some ([], A) := rfl
theorem take_cons {d x xs} : takeL d (x :: xs) A = (takeC d A x).bind fun r => (takeL (d + 1) xs r.2).bind fun q => some (r.1 :: q.1, q.2) := rfl
theorem takeC_i {d k n} : takeC d A (.int k n) = some (.int k n, A) := rfl
theorem takeC_b {d n} : takeC d A (.bool n) = some (.bool n, A) := rfl
theorem takeC_s {d n} : takeC d A (.str n) = some (.str n, A) := rfl
theorem takeC_r {d z n} : takeC d A (.slice z n) = some (.slice z n, A) := rfl
def tkO (d : Nat) (A : AA) (z : Nat) (rows : List (List V)) : Option (Nat × List (List V) × Fz) → Option (V × AA)
  | none => some (.own d z rows.length, upd A d (some (z, rows, .live)))
  | some _ => none
theorem takeC_t {d z rows} : takeC d A (.tuple [.slice z rows]) = tkO d A z rows (A d) := by
  simp only [takeC, tkO]
  cases A d <;> rfl
theorem tko_n {d z rows} : tkO d A z rows none = some (.own d z rows.length, upd A d (some (z, rows, .live))) := rfl
theorem nilT_n {z} : nilT (.nslice z) = .tuple [.slice z []] := rfl
theorem nilT_i {k n} : nilT (.int k n) = .int k n := rfl
theorem nilT_b {n} : nilT (.bool n) = .bool n := rfl
theorem nilT_s {n} : nilT (.str n) = .str n := rfl
theorem nilT_r {z n} : nilT (.slice z n) = .slice z n := rfl
theorem rcall_e {b f k s avs} : rcallV κ b S f k s avs = (rcallA S k s avs).bind fun q => (κ f q.1).bind fun r => rcallE b S s q.2 r := rfl
def rcA2 (S : St) (k : Nat) (avs bs : List V) : Option (List V × Bool) → Option (List V × AA)
  | some (cs, false) => (handL cs (frzA S.A ((avs.set k .undef).flatMap sitesV))).bind fun h => some (bs.set k (.tuple (.lref 0 0 :: h.1)), h.2)
  | _ => none
def rcA1 (S : St) (k s : Nat) (avs : List V) : Option V → Option (List V × AA)
  | some (.lref s' 0) => if s' = s then (mapO (toD S.A) (avs.set k .undef)).bind fun bs => rcA2 S k avs bs (S.μ s) else none
  | _ => none
theorem rcallA_e {k s avs} : rcallA S k s avs = rcA1 S k s avs (avs[k]?) := rfl
theorem rcA1_l {k s avs} : rcA1 S k s avs (some (.lref s 0)) = (mapO (toD S.A) (avs.set k .undef)).bind fun bs => rcA2 S k avs bs (S.μ s) := by simp [rcA1]
theorem rcA2_s {k avs bs cs} : rcA2 S k avs bs (some (cs, false)) = (handL cs (frzA S.A ((avs.set k .undef).flatMap sitesV))).bind fun h => some (bs.set k (.tuple (.lref 0 0 :: h.1)), h.2) := rfl
theorem rcallE_t {b s r0 us} : rcallE b S s A (.tuple [r0, .tuple us]) = (takeL b us A).bind fun t => some (r0, ⟨S.ρ, upd S.μ s (some (t.1, false)), t.2⟩) := rfl
theorem toD_u : toD A .undef = some .undef := rfl
theorem sites_u : sitesV .undef = [] := rfl
theorem appW_o {s z z' n y} : appW S z (.own s z' n) y = appV S s z (.own s z' n) y := rfl
theorem ld_x {n s i off m} : loadV S .x n (.eref s i off m) = ldE n i off m (S.A s) := rfl
def bsO : Option V → Option V
  | some (.slice 1 rows) => (bytesR rows).bind fun l => some (.str l)
  | _ => none
theorem b2s_e {x} : b2sV A x = bsO (toDC A x) := rfl
theorem bso_s {rows} : bsO (some (.slice 1 rows)) = (bytesR rows).bind fun l => some (.str l) := rfl
theorem bytes_map : ∀ (l : List UInt8), bytesR (l.map fun b => [.int .u8 b.toNat]) = some l
  | [] => rfl
  | b :: l => by simp [bytesR, bytes_map l]
theorem bytes_one {n : Int} : bytesR [[.int .u8 n]] = some [UInt8.ofNat n.toNat] := rfl
def fzO (z n : Nat) : Option (Nat × List (List V) × Fz) → Option V
  | some (z', rows, .frz) => if z' = z ∧ rows.length = n then some (.slice z rows) else none
  | _ => none
theorem frzD_o {s z n} : frzD A s (.own s z n) = fzO z n (A s) := by simp [frzD, fzO]; rfl
theorem fzo_s {z n rows} : fzO z n (some (z, rows, .frz)) = if rows.length = n then some (.slice z rows) else none := by simp [fzO]
theorem head_sw {s j h : Nat} {L Wv Wa : List Nat} : S.head [] (s :: j :: h :: L) Wv Wa = (S.swp1 s j h).head [] L Wv Wa := rfl
def sw2 (S : St) (h : Nat) : Option V → St
  | some (.own x _ _) => S.ren x h
  | _ => S
def sw1 (S : St) (j h : Nat) : Option (List V × Bool) → St
  | some (cs, _) => sw2 S h cs[j]?
  | none => S
theorem swp1_e {s j h : Nat} : S.swp1 s j h = sw1 S j h (S.μ s) := by
  unfold St.swp1 sw1 sw2
  rfl
theorem sw1_s {j h cs f} : sw1 S j h (some (cs, f)) = sw2 S h cs[j]? := rfl
theorem sw2_o {h x z n} : sw2 S h (some (.own x z n)) = S.ren x h := rfl
theorem ren_ρ {x h t} : (S.ren x h).ρ t = renV x h (S.ρ t) := rfl
theorem ren_μ {x h t} : (S.ren x h).μ t = (S.μ t).map fun m => (m.1.map (renC x h), m.2) := rfl
theorem ren_A {x h t} : (S.ren x h).A t = S.A (swp x h t) := rfl
theorem renV_i {x h k n} : renV x h (.int k n) = .int k n := rfl
theorem renV_b {x h n} : renV x h (.bool n) = .bool n := rfl
theorem renV_s {x h n} : renV x h (.str n) = .str n := rfl
theorem renV_r {x h z n} : renV x h (.slice z n) = .slice z n := rfl
theorem renV_f {x h z n} : renV x h (.func z n) = .func z n := rfl
theorem renV_u {x h} : renV x h .undef = .undef := rfl
theorem renV_l {x h s o} : renV x h (.lref s o) = .lref s o := rfl
theorem renV_o {x h s z n} : renV x h (.own s z n) = .own (swp x h s) z n := rfl
theorem renV_a {x h cs} : renV x h (.agg cs) = .agg (cs.map (renC x h)) := rfl
theorem renC_i {x h k n} : renC x h (.int k n) = .int k n := rfl
theorem renC_b {x h n} : renC x h (.bool n) = .bool n := rfl
theorem renC_s {x h n} : renC x h (.str n) = .str n := rfl
theorem renC_r {x h z n} : renC x h (.slice z n) = .slice z n := rfl
theorem renC_o {x h s z n} : renC x h (.own s z n) = .own (swp x h s) z n := rfl
theorem swp_l {x h : Nat} : swp x h x = h := by simp [swp]
theorem swp_r {x h : Nat} : swp x h h = x := by unfold swp; split <;> simp_all
theorem swp_n {x h t : Nat} (h1 : (t == x) = false) (h2 : (t == h) = false) : swp x h t = t := by
  have h1 : t ≠ x := by simpa using h1
  have h2 : t ≠ h := by simpa using h2
  simp [swp, h1, h2]
end
attribute [go_sem] frzD_o fzo_s hand_nil hand_cons handC_i handC_b handC_s handC_r handC_ns handC_o hdo_s take_nil take_cons takeC_i takeC_b takeC_s takeC_r takeC_t tko_n nilT_n nilT_i nilT_b nilT_s nilT_r rcallA_e rcA1_l rcA2_s rcallE_t toD_u sites_u appW_o ld_x b2s_e bso_s bytes_one
attribute [go_sem] swp1_e sw1_s sw2_o ren_ρ ren_μ ren_A renV_i renV_b renV_s renV_r renV_f renV_u renV_l renV_o renV_a renC_i renC_b renC_s renC_r renC_o swp_l swp_r swp_n
section
variable {S : St} {s off n : Nat}
theorem sto_o {a z m} : storeV S (.v s) 1 (.lref s off) (.own a z m) = stV S s off [.own a z m] (S.μ s) := by rw [st_v]; rfl
theorem sto_i {k m} : storeV S (.v s) 1 (.lref s off) (.int k m) = stV S s off [.int k m] (S.μ s) := by rw [st_v]; rfl
theorem sto_b {m} : storeV S (.v s) 1 (.lref s off) (.bool m) = stV S s off [.bool m] (S.μ s) := by rw [st_v]; rfl
theorem sto_s {m} : storeV S (.v s) 1 (.lref s off) (.str m) = stV S s off [.str m] (S.μ s) := by rw [st_v]; rfl
theorem sto_r {z m} : storeV S (.v s) 1 (.lref s off) (.slice z m) = stV S s off [.slice z m] (S.μ s) := by rw [st_v]; rfl
theorem sto_ns {z} : storeV S (.v s) 1 (.lref s off) (.nslice z) = stV S s off [.nslice z] (S.μ s) := by rw [st_v]; rfl
theorem sto_a {cs} : storeV S (.v s) n (.lref s off) (.agg cs) = if cs.length = n then stV S s off cs (S.μ s) else none := by rw [st_v]; rfl
end
attribute [go_sem high] sto_o sto_i sto_b sto_s sto_r sto_ns sto_a
attribute [go_sem] List.set_cons_zero List.set_cons_succ
end Sg
namespace Sg
def stay (Wv : List Nat) : V → Bool
  | .int .. | .bool _ | .str _ | .slice .. | .func .. | .undef => true
  | .lref s _ => !Wv.contains s
  | _ => false
section
variable {S : St}
theorem ren_stay {Wv : List Nat} {x h : Nat} {v : V} (hs : stay Wv v = true) : renV x h v = v := by cases v <;> simp_all [stay, renV]
theorem scrub_stay {Wv Wa : List Nat} {v : V} (hs : stay Wv v = true) : scrubV Wv Wa v = v := by
  cases v <;> simp_all [stay, scrubV]
theorem ren_data {x h : Nat} {cs : List V} (hd : cs.all V.datC = true) : cs.map (renC x h) = cs := by
  rw [List.all_eq_true] at hd
  conv => rhs; rw [← List.map_id cs]
  refine List.map_congr_left fun y hy => ?_
  have := hd y hy
  cases y <;> simp_all [renC, V.datC]
theorem scrub_data {Wa : List Nat} {cs : List V} (hd : cs.all V.datC = true) : cs.map (scrubC Wa) = cs := by
  rw [List.all_eq_true] at hd
  conv => rhs; rw [← List.map_id cs]
  refine List.map_congr_left fun y hy => ?_
  have := hd y hy
  cases y <;> simp_all [scrubC, V.datC]
theorem swp1_ρ {s j h i : Nat} {Wv : List Nat} (hs : stay Wv (S.ρ i) = true) : (S.swp1 s j h).ρ i = S.ρ i := by
  unfold St.swp1
  split
  · split
    · exact ren_stay hs
    · rfl
  · rfl
theorem swp1_μ {s j h i : Nat} {cs : List V} {f : Bool} (hm : S.μ i = some (cs, f)) (hd : cs.all V.datC = true) : (S.swp1 s j h).μ i = some (cs, f) := by
  unfold St.swp1
  split
  · split
    · simp only [St.ren, hm, Option.map_some, ren_data hd]
    · exact hm
  · exact hm
theorem swp1_μn {s j h i : Nat} (hm : S.μ i = none) : (S.swp1 s j h).μ i = none := by
  unfold St.swp1
  split
  · split
    · simp only [St.ren, hm, Option.map_none]
    · exact hm
  · exact hm
theorem swps_keep {Wv : List Nat} : ∀ (n : Nat) (L : List Nat) (S : St), L.length ≤ n → (∀ i, stay Wv (S.ρ i) = true → (S.swps L).ρ i = S.ρ i) ∧ (∀ i cs f, S.μ i = some (cs, f) → cs.all V.datC = true → (S.swps L).μ i = some (cs, f)) ∧
    ∀ i, S.μ i = none → (S.swps L).μ i = none := by
  intro n
  induction n with
  | zero =>
    intro L S hL
    have : L = [] := List.eq_nil_of_length_eq_zero (by omega)
    subst this
    exact ⟨fun _ _ => rfl, fun _ _ _ h _ => h, fun _ h => h⟩
  | succ n ih =>
    intro L S hL
    match L, hL with
    | [], _ => exact ⟨fun _ _ => rfl, fun _ _ _ h _ => h, fun _ h => h⟩
    | [_], _ => exact ⟨fun _ _ => rfl, fun _ _ _ h _ => h, fun _ h => h⟩
    | [_, _], _ => exact ⟨fun _ _ => rfl, fun _ _ _ h _ => h, fun _ h => h⟩
    | s :: j :: h :: l, hL =>
      obtain ⟨i1, i2, i3⟩ := ih l (S.swp1 s j h) (by simp at hL; omega)
      refine ⟨fun i hs => ?_, fun i cs f hm hd => i2 i cs f (swp1_μ hm hd) hd, fun i hm => i3 i (swp1_μn hm)⟩
      have e := swp1_ρ (s := s) (j := j) (h := h) hs
      exact (i1 i (by rw [e]; exact hs)).trans e
theorem head_ρs {L Wv Wa : List Nat} {i : Nat} {v : V} (hv : S.ρ i = v) (hs : stay Wv v = true) : (S.head [] L Wv Wa).ρ i = v := by
  subst hv
  have e := (swps_keep (Wv := Wv) L.length L S (Nat.le_refl _)).1 i hs
  show scrubV Wv Wa ((S.swps L).ρ i) = _
  rw [e]; exact scrub_stay hs
theorem head_μs {L Wv Wa : List Nat} {i : Nat} {cs : List V} {f : Bool} (hm : S.μ i = some (cs, f)) (hd : cs.all V.datC = true) (hw : Wv.contains i = false) : (S.head [] L Wv Wa).μ i = some (cs, f) := by
  have e := (swps_keep (Wv := Wv) L.length L S (Nat.le_refl _)).2.1 i cs f hm hd
  show (if Wv.contains i then none else _) = _
  rw [hw, e]
  simp only [Bool.false_eq_true, if_false, Option.map_some, scrub_data hd]
  cases Wa.isEmpty <;> rfl
theorem head_μn {L Wv Wa : List Nat} {i : Nat} (hm : S.μ i = none ∨ Wv.contains i = true) : (S.head [] L Wv Wa).μ i = none := by
  show (if Wv.contains i then none else _) = _
  rcases hm with hm | hm
  · have e := (swps_keep (Wv := Wv) L.length L S (Nat.le_refl _)).2.2 i hm
    rw [e]; split <;> rfl
  · rw [hm]; rfl
theorem head_nil : S.head [] [] [] [] = S := by
  obtain ⟨ρ, μ, A⟩ := S
  have e1 : ∀ v : V, scrubV [] [] v = v := fun v => by cases v <;> simp [scrubV]
  show St.mk _ _ _ = _
  congr 1
  · funext t; exact e1 _
  · funext s
    show (μ s).map _ = μ s
    cases μ s <;> rfl
def Fr (A : AA) (n : Nat) : Prop := ∀ x, n ≤ x → A x = none
end
end Sg
namespace Sg
open Go Go.RowKit
set_option linter.unusedSimpArgs false
set_option linter.unusedVariables false
inductive CT where
  | bool
  | int (k : IntKind)
  | str
  | slice (r : List CT)
  deriving Inhabited
abbrev gt (r : List CT) (j : Nat) : CT := r.getD j .bool
inductive HasN (N : Nat) : CT → V → Prop
  | bool (b) : HasN N .bool (.bool b)
  | int (k n) (h : (Lit.int k n).wf = true) : HasN N (.int k) (.int k n)
  | str (s) (h : s.length ≤ N) : HasN N .str (.str s)
  | slice (r : List CT) (rows : List (List V)) (hl : rows.length ≤ N) (hz : ∀ i, i < rows.length → (gr rows i).length = r.length)
      (h : ∀ i j, i < rows.length → j < r.length → HasN N (gt r j) (gv (gr rows i) j)) : HasN N (.slice r) (.slice r.length rows)
abbrev Has : CT → V → Prop := HasN maxLen
structure BK {H : Type} (bk : DataW H → Nat) (bkA : List (DataW H) → Nat) : Prop where
  str : ∀ b, bk (.lit (.string b)) = b.length + 1
  slice : ∀ e s, bk (.slice e s) = bkA e + bkA s + 1
  agg : ∀ p, bk (.agg p) = bkA p + 1
  cons : ∀ d l, bkA (d :: l) = bk d + bkA l
  one : ∀ d, 1 ≤ bk d
theorem BK.part {H : Type} {bk : DataW H → Nat} {bkA : List (DataW H) → Nat} (h : BK bk bkA) {d : DataW H} : ∀ {l : List (DataW H)}, d ∈ l → bk d ≤ bkA l
  | x :: l, hd => by
    rw [h.cons]
    rcases List.mem_cons.1 hd with rfl | hd
    · omega
    · have := h.part hd; omega
theorem BK.len {H : Type} {bk : DataW H → Nat} {bkA : List (DataW H) → Nat} (h : BK bk bkA) : ∀ {l : List (DataW H)}, l.length ≤ bkA l
  | [] => Nat.zero_le _
  | x :: l => by
    rw [h.cons]
    have := h.len (l := l)
    have := h.one x
    simp only [List.length_cons]; omega
def Fit {H : Type} (N : Nat) (bk : DataW H → Nat) (bkA : List (DataW H) → Nat) (d : DataW H) : Prop := maxLen ≤ N ∨ (BK bk bkA ∧ bk d ≤ N)
section
variable (P : Program)
def rowFs (g : TypeId → Option (List CT)) : List Field → Nat → Option (List CT)
  | [], _ => some []
  | f :: fs, o => if f.offset = o then (g f.type).bind fun r => if szT P f.type = some r.length then (rowFs g fs (o + r.length)).bind fun rs => some (r ++ rs) else none else none
def rowT : Nat → TypeId → Option (List CT)
  | 0, _ => none
  | n + 1, t => match P.underlying t with
    | some .bool => some [.bool]
    | some (.int k) => some [.int k]
    | some .string => some [.str]
    | some (.slice e) => (rowT n e).bind fun r => if szT P e = some r.length ∧ r.length ≠ 0 then some [.slice r] else none
    | some (.struct fs) => (rowFs P (rowT n) fs.toList 0).bind fun r => if szT P t = some r.length then some r else none
    | _ => none
end
section
variable {P : Program} {cx : Cx} {w : World} {X : Nat → Prop} {N : Nat}
def Row (N : Nat) (cx : Cx) (w : World) (X : Nat → Prop) (r : List CT) (f : Nat → Option Value) (xs : List V) : Prop :=
  xs.length = r.length ∧ ∀ j, j < r.length → ∃ u, f j = some u ∧ u.oneCell' = true ∧ RelD cx w X u (gv xs j) ∧ HasN N (gt r j) (gv xs j)
theorem Row.append {r1 r2 : List CT} {f : Nat → Option Value} {xs ys : List V} (h1 : Row N cx w X r1 f xs) (h2 : Row N cx w X r2 (fun j => f (r1.length + j)) ys) : Row N cx w X (r1 ++ r2) f (xs ++ ys) := by
  refine ⟨by simp [h1.1, h2.1], fun j hj => ?_⟩
  simp only [List.length_append] at hj
  by_cases hlt : j < r1.length
  · obtain ⟨u, a, b, c, d⟩ := h1.2 j hlt
    refine ⟨u, a, b, ?_, ?_⟩
    · rw [show gv (xs ++ ys) j = gv xs j from by simp [gv, List.getD_eq_getElem?_getD, List.getElem?_append_left (by rw [h1.1]; exact hlt)]]; exact c
    · rw [show gv (xs ++ ys) j = gv xs j from by simp [gv, List.getD_eq_getElem?_getD, List.getElem?_append_left (by rw [h1.1]; exact hlt)],
        show gt (r1 ++ r2) j = gt r1 j from by simp [gt, List.getD_eq_getElem?_getD, List.getElem?_append_left hlt]]; exact d
  · obtain ⟨u, a, b, c, d⟩ := h2.2 (j - r1.length) (by omega)
    have e : r1.length + (j - r1.length) = j := by omega
    simp only [e] at a
    have g1 : gv (xs ++ ys) j = gv ys (j - r1.length) := by
      simp only [gv, List.getD_eq_getElem?_getD]; rw [List.getElem?_append_right (by rw [h1.1]; omega), h1.1]
    have g2 : gt (r1 ++ r2) j = gt r2 (j - r1.length) := by
      simp only [gt, List.getD_eq_getElem?_getD]; rw [List.getElem?_append_right (by omega)]
    exact ⟨u, a, b, by rw [g1]; exact c, by rw [g1, g2]; exact d⟩
theorem Row.one {c : CT} {f : Nat → Option Value} {u : Value} {x : V} (h0 : f 0 = some u) (h1 : u.oneCell' = true) (h2 : RelD cx w X u x) (h3 : HasN N c x) : Row N cx w X [c] f [x] :=
  ⟨rfl, fun j hj => by
    have : j = 0 := by simp at hj; exact hj
    subst this
    exact ⟨u, h0, h1, h2, h3⟩⟩
theorem cell_at {a : Addr} {u : Value} (h : w.cell? a = some u) : ∃ c e fr, a = ⟨a.block, a.off, none⟩ ∧ w.heap[a.block]? = some (.cells c e fr) ∧ c[a.off]? = some u := by
  obtain ⟨b, o, sp⟩ := a
  unfold World.cell? at h
  split at h
  · rename_i c e fr hc
    split at h
    · simp at h
    · rename_i hs
      cases sp with
      | none => exact ⟨c, e, fr, rfl, hc, h⟩
      | some x => simp at hs
  · simp at h
theorem szT_cells {t : TypeId} {n : Nat} (h : szT P t = some n) : P.cellsOf t = n := by
  unfold szT at h
  unfold Program.cellsOf
  rw [h]; rfl
theorem fields_row {H : Type} {enc : TypeId × Value → H} {bk : DataW H → Nat} {bkA : List (DataW H) → Nat} {fuel : Nat} {g : TypeId → Option (List CT)} {cs : List Value}
    (ih : ∀ (t : TypeId) (cs : List Value) (d : DataW H) (ps : List MemPlace) (r : List CT), DataW.trod enc P w 0 (fun _ => true) true fuel t cs = some (d, ps) → g t = some r → Fit N bk bkA d → ∃ xs, Row N cx w X r (fun j => cs[j]?) xs) :
    ∀ (fs : List Field) (o : Nat) (ys : List (DataW H × List MemPlace)) (r : List CT), (fs.mapM fun f => DataW.trod enc P w 0 (fun _ => true) true fuel f.type ((cs.drop f.offset).take (P.cellsOf f.type))) = some ys →
      rowFs P g fs o = some r → (∀ y ∈ ys, Fit N bk bkA y.1) → ∃ xs, Row N cx w X r (fun j => cs[o + j]?) xs
  | [], o, ys, r, _, hr, _ => by
    simp only [rowFs, Option.some.injEq] at hr
    subst hr
    exact ⟨[], rfl, fun j hj => by simp at hj⟩
  | f :: fs, o, ys, r, h, hr, hfit => by
    rw [List.mapM_cons] at h
    simp only [rowFs] at hr
    split at hr <;> try (simp at hr; done)
    rename_i ho
    simp only [Option.bind_eq_some_iff] at hr
    obtain ⟨r1, hr1, hr⟩ := hr
    split at hr <;> try (simp at hr; done)
    rename_i hz
    simp only [Option.bind_eq_some_iff, Option.some.injEq] at hr
    obtain ⟨r2, hr2, rfl⟩ := hr
    cases h1 : DataW.trod enc P w 0 (fun _ => true) true fuel f.type ((cs.drop f.offset).take (P.cellsOf f.type)) with
    | none => simp [h1] at h
    | some y =>
      cases h2 : fs.mapM fun f => DataW.trod enc P w 0 (fun _ => true) true fuel f.type ((cs.drop f.offset).take (P.cellsOf f.type)) with
      | none => simp [h1, h2] at h
      | some zs =>
        obtain ⟨d, ps⟩ := y
        have hys : ys = (d, ps) :: zs := by simpa [h1, h2] using h.symm
        subst hys
        obtain ⟨xs, hx⟩ := ih _ _ _ _ _ h1 hr1 (hfit _ (List.mem_cons_self ..))
        obtain ⟨ys, hy⟩ := fields_row ih fs (o + r1.length) zs r2 h2 hr2 (fun y hy => hfit y (List.mem_cons_of_mem _ hy))
        have hx' : Row N cx w X r1 (fun j => cs[o + j]?) xs := ⟨hx.1, fun j hj => by
          obtain ⟨u, a, b⟩ := hx.2 j hj
          refine ⟨u, ?_, b⟩
          simp only at a ⊢
          rw [szT_cells hz, List.getElem?_take_of_lt hj, List.getElem?_drop, ho] at a
          exact a⟩
        refine ⟨xs ++ ys, hx'.append ?_⟩
        simpa only [Nat.add_assoc] using hy
theorem reading {H : Type} {enc : TypeId × Value → H} {bk : DataW H → Nat} {bkA : List (DataW H) → Nat} : ∀ (fuel : Nat) (n : Nat) (t : TypeId) (cs : List Value) (d : DataW H) (ps : List MemPlace) (r : List CT),
    DataW.trod enc P w 0 (fun _ => true) true fuel t cs = some (d, ps) → rowT P n t = some r → Fit N bk bkA d → ∃ xs, Row N cx w (fun _ => False) r (fun j => cs[j]?) xs
  | 0, n, t, cs, d, ps, r, h, _, _ => by simp [DataW.trod] at h
  | fuel + 1, 0, t, cs, d, ps, r, _, hr, _ => by simp [rowT] at hr
  | fuel + 1, n + 1, t, cs, d, ps, r, h, hr, hfit => by
    have ih := fun t cs d ps r => reading (enc := enc) (bk := bk) (bkA := bkA) fuel n t cs d ps r
    unfold rowT at hr
    unfold DataW.trod at h
    split at hr
    · rename_i ht
      rw [ht] at h
      simp only [Option.some.injEq] at hr
      subst hr
      split at h <;> simp_all
      subst_vars
      exact ⟨_, Row.one rfl rfl (.bool _) (.bool _)⟩
    · rename_i k ht
      rw [ht] at h
      simp only [Option.some.injEq] at hr
      subst hr
      split at h <;> simp_all
      obtain ⟨⟨rfl, hw⟩, -⟩ := h
      subst_vars
      exact ⟨_, Row.one rfl rfl (.int _ _) (.int _ _ hw)⟩
    · rename_i ht
      rw [ht] at h
      simp only [Option.some.injEq] at hr
      subst hr
      split at h
      all_goals try (simp_all; done)
      rename_i s heq
      split at h <;> simp only [Option.some.injEq, reduceCtorEq, Prod.mk.injEq] at h
      rename_i hle
      obtain ⟨rfl, -⟩ := h
      have hl : s.data.toList.length = s.size := Array.length_toList
      exact ⟨_, Row.one rfl rfl (.str s) (.str _ (by
        rcases hfit with hfit | ⟨hb, hfit⟩
        · omega
        · rw [hb.str] at hfit; omega))⟩
    · rename_i e ht
      simp only [Option.bind_eq_some_iff] at hr
      obtain ⟨r1, hr1, hr⟩ := hr
      split at hr <;> simp only [Option.some.injEq, reduceCtorEq] at hr
      rename_i hz
      subst hr
      rw [ht] at h
      split at h
      all_goals try (simp_all; done)
      · exact ⟨_, Row.one rfl rfl (.nilslice none r1.length) (.slice r1 [] (by simp) (fun i hi => by simp at hi) (fun i j hi => by simp at hi))⟩
      · rename_i e' a len cap heq
        simp only [Option.some.injEq, TypeDesc.slice.injEq] at heq
        subst heq
        simp only at h
        split at h <;> try (simp at h; done)
        rename_i hc
        obtain ⟨-, hc1, hc2⟩ := hc
        have hsz : P.cellsOf e = r1.length := szT_cells hz.1
        simp only [Option.bind_eq_some_iff, Option.map_eq_some_iff] at h
        obtain ⟨elems, hel, rest, hrest, hd⟩ := h
        simp only [Prod.mk.injEq] at hd
        obtain ⟨rfl, -⟩ := hd
        simp only [if_true] at hrest
        rw [hsz] at hel hrest
        have el : ∀ i, i < cap → ∃ l, w.cells? 0 (a.add (i * r1.length)) r1.length = some l ∧ ∃ y, DataW.trod enc P w 0 (fun _ => true) true fuel e l = some y ∧ (y ∈ elems ∨ y ∈ rest) := by
          intro i hi
          have : ∃ y, ((w.cells? 0 (a.add (i * r1.length)) r1.length).bind (DataW.trod enc P w 0 (fun _ => true) true fuel e)) = some y ∧ (y ∈ elems ∨ y ∈ rest) := by
            by_cases hlt : i < len
            · have h1 := mapM_some_get hel i i (by simp [hlt])
              have h2 := mapM_some_length hel
              simp only [List.length_range] at h2
              exact ⟨elems[i], by rw [h1]; simp, .inl (List.getElem_mem _)⟩
            · have hr0 : (List.range (cap - len))[i - len]? = some (i - len) := by
                rw [List.getElem?_range (by omega)]
              have h1 := mapM_some_get hrest (i - len) (i - len) hr0
              have h2 := mapM_some_length hrest
              simp only [List.length_range] at h2
              rw [show len + (i - len) = i from by omega] at h1
              exact ⟨rest[i - len], by rw [h1]; simp, .inr (List.getElem_mem _)⟩
          obtain ⟨y, hy, hym⟩ := this
          simp only [Option.bind_eq_some_iff] at hy
          obtain ⟨l, h1, h2⟩ := hy
          exact ⟨l, h1, y, h2, hym⟩
        have hfe : ∀ y, (y ∈ elems ∨ y ∈ rest) → Fit N bk bkA y.1 := fun y hy => by
          rcases hfit with hfit | ⟨hb, hfit⟩
          · exact .inl hfit
          · rw [hb.slice] at hfit
            refine .inr ⟨hb, ?_⟩
            rcases hy with hy | hy
            · have := hb.part (List.mem_map_of_mem (f := fun x : DataW H × List MemPlace => x.1) hy); omega
            · have := hb.part (List.mem_map_of_mem (f := fun x : DataW H × List MemPlace => x.1) hy); omega
        have hln : len ≤ N := by
          rcases hfit with hfit | ⟨hb, hfit⟩
          · omega
          · rw [hb.slice] at hfit
            have h1 := hb.len (l := elems.map fun x => x.1)
            have h2 := mapM_some_length hel
            simp only [List.length_range, List.length_map] at h1 h2
            omega
        by_cases hcap : cap = 0
        · subst hcap
          obtain rfl : len = 0 := by omega
          exact ⟨_, Row.one rfl rfl (.nilslice (some a) r1.length) (.slice r1 [] (by simp) (fun i hi => by simp at hi) (fun i j hi => by simp at hi))⟩
        · obtain ⟨l0, hl0, -⟩ := el 0 (by omega)
          have hl0' := World.cells?_some hl0
          obtain ⟨c, ec, fr, hspot, hheap, -⟩ := cell_at (w := w) (a := (a.add (0 * r1.length)).add 0) (u := l0[0]'(by omega)) (by rw [hl0'.2.2 0 (by omega)]; simp)
          have hspot' : a = ⟨a.block, a.off, none⟩ := by
            obtain ⟨b, o, sp⟩ := a
            simp only [Addr.add] at hspot
            cases sp <;> simp_all
          obtain ⟨b, o, sp⟩ := a
          simp only [Addr.mk.injEq, true_and] at hspot'
          subst hspot'
          have hheap : w.heap[b]? = some (.cells c ec fr) := by simpa [Addr.add] using hheap
          have row : ∀ i, i < len → ∃ xs, Row N cx w (fun _ => False) r1 (fun j => c[o + i * r1.length + j]?) xs := by
            intro i hi
            obtain ⟨l, hl, ⟨d', ps'⟩, hd, hym⟩ := el i (by omega)
            obtain ⟨xs, hx1, hx2⟩ := ih _ _ _ _ _ hd hr1 (hfe _ hym)
            obtain ⟨-, hl1, hl2⟩ := World.cells?_some hl
            refine ⟨xs, hx1, fun j hj => ?_⟩
            obtain ⟨u, p1, p2⟩ := hx2 j hj
            refine ⟨u, ?_, p2⟩
            simp only at p1 ⊢
            have h3 := hl2 j hj
            rw [p1, addr_add, addr_add] at h3
            obtain ⟨c', _, _, _, h4, h5⟩ := cell_at h3
            rw [hheap] at h4
            simp only [Option.some.injEq, Obj.cells.injEq] at h4
            obtain ⟨rfl, -⟩ := h4
            exact h5
          obtain ⟨f, hf⟩ := pickf row
          have hlen : ((List.range len).map f).length = len := by simp
          have hgr : ∀ i, i < len → gr ((List.range len).map f) i = f i := fun i hi => by simp [gr, hi]
          refine ⟨[.slice r1.length ((List.range len).map f)], Row.one rfl rfl ?_ ?_⟩
          · refine slice_mk (c := c) (e := ec) (fr := fr) (lt_of_some hheap) id hheap (by simpa using hc1) (fun i hi => ?_) (fun i j hi hj => ?_) hlen
            · rw [hlen] at hi; rw [hgr i hi]; exact (hf i hi).1
            · rw [hlen] at hi; rw [hgr i hi]
              obtain ⟨u, p1, p2, p3, p4⟩ := (hf i hi).2 j hj
              exact ⟨u, p1, p2, p3⟩
          · refine .slice r1 _ (by rw [hlen]; exact hln) (fun i hi => ?_) (fun i j hi hj => ?_)
            · rw [hlen] at hi; rw [hgr i hi]; exact (hf i hi).1
            · rw [hlen] at hi; rw [hgr i hi]
              obtain ⟨u, p1, p2, p3, p4⟩ := (hf i hi).2 j hj
              exact p4
    · rename_i fs ht
      simp only [Option.bind_eq_some_iff] at hr
      obtain ⟨r1, hr1, hr⟩ := hr
      split at hr <;> simp only [Option.some.injEq, reduceCtorEq] at hr
      subst hr
      rw [ht] at h
      split at h
      all_goals try (simp_all; done)
      rename_i fs' _ heq
      simp only [Option.some.injEq, TypeDesc.struct.injEq] at heq
      subst heq
      split at h <;> try (simp at h; done)
      simp only [Option.map_eq_some_iff] at h
      obtain ⟨ys, hys, hd⟩ := h
      simp only [Prod.mk.injEq] at hd
      obtain ⟨rfl, -⟩ := hd
      have hfy : ∀ y ∈ ys, Fit N bk bkA y.1 := fun y hy => by
        rcases hfit with hfit | ⟨hb, hfit⟩
        · exact .inl hfit
        · rw [hb.agg] at hfit
          have := hb.part (List.mem_map_of_mem (f := fun x : DataW H × List MemPlace => x.1) hy)
          exact .inr ⟨hb, by omega⟩
      obtain ⟨xs, hx⟩ := fields_row (fun t cs d ps r => ih t cs d ps r) fs.toList 0 ys _ hys hr1 hfy
      exact ⟨xs, by simpa using hx⟩
    · simp at hr
end
end Sg
namespace Sg
open Go Go.RowKit Go.ChangeShapes Go.WideShapes
set_option linter.unusedSimpArgs false
set_option linter.unusedVariables false
def isAgg (P : Program) (t : TypeId) : Bool :=
  match P.underlying t with
  | some (.struct _) => true
  | _ => false
def sigT (P : Program) (t : TypeId) : Option (Bool × List CT) := (rowT P 20 t).bind fun r => some (isAgg P t, r)
def HasRowN (N : Nat) (r : List CT) (xs : List V) : Prop := xs.length = r.length ∧ ∀ j, j < r.length → HasN N (gt r j) (gv xs j)
def ArgVN (N : Nat) : Bool × List CT → V → Prop
  | (true, r), x => ∃ xs, x = .agg xs ∧ HasRowN N r xs
  | (false, r), x => ∃ c, r = [c] ∧ HasN N c x
def ArgsVN (N : Nat) : List (Bool × List CT) → List V → Prop
  | [], [] => True
  | s :: ss, x :: xs => ArgVN N s x ∧ ArgsVN N ss xs
  | _, _ => False
section
variable {P : Program} {cx : Cx} {w : World} {N : Nat}
theorem arg_ok {H : Type} {enc : TypeId × Value → H} {bk : DataW H → Nat} {bkA : List (DataW H) → Nat} {t : TypeId} {v : Value} {d : DataW H} {ps : List MemPlace} {s : Bool × List CT} {base : Nat} (h : DataW.Trod enc P w 0 (fun _ => true) true t v d ps)
    (hw : Value.okWide P w .any base t v) (hs : sigT P t = some s) (hfit : Fit N bk bkA d) : ∃ x, RelD cx w (fun _ => False) v x ∧ ArgVN N s x := by
  unfold sigT at hs
  simp only [Option.bind_eq_some_iff, Option.some.injEq] at hs
  obtain ⟨r, hr, rfl⟩ := hs
  obtain ⟨fuel, hf⟩ := h
  obtain ⟨xs, hl, hx⟩ := reading (cx := cx) (N := N) (bk := bk) (bkA := bkA) fuel 20 t _ d ps r hf hr hfit
  have one : ∀ c, r = [c] → v.cells = #[v] → isAgg P t = false → ∃ x, RelD cx w (fun _ => False) v x ∧ ArgVN N (isAgg P t, r) x := by
    intro c hc hv ha
    subst hc
    obtain ⟨u, h1, h2, h3, h4⟩ := hx 0 (by simp)
    rw [hv] at h1
    simp at h1
    subst h1
    exact ⟨gv xs 0, h3, by rw [ha]; exact ⟨c, rfl, h4⟩⟩
  unfold rowT at hr
  split at hr
  · rename_i ht
    obtain ⟨b, rfl⟩ := okWide_bool ht hw
    simp only [Option.some.injEq] at hr
    exact one _ hr.symm rfl (by simp [isAgg, ht])
  · rename_i k ht
    obtain ⟨b, rfl⟩ := okWide_int ht hw
    simp only [Option.some.injEq] at hr
    exact one _ hr.symm rfl (by simp [isAgg, ht])
  · rename_i ht
    obtain ⟨b, rfl⟩ := okWide_string ht hw
    simp only [Option.some.injEq] at hr
    exact one _ hr.symm rfl (by simp [isAgg, ht])
  · rename_i e ht
    obtain ⟨a, len, cap, rfl⟩ := okWide_slice ht hw
    simp only [Option.bind_eq_some_iff] at hr
    obtain ⟨r1, -, hr⟩ := hr
    split at hr <;> simp only [Option.some.injEq, reduceCtorEq] at hr
    exact one _ hr.symm rfl (by simp [isAgg, ht])
  · rename_i fs ht
    obtain ⟨cs, rfl, hsz⟩ := okWide_struct ht hw
    simp only [Option.bind_eq_some_iff] at hr
    obtain ⟨r1, -, hr⟩ := hr
    split at hr <;> simp only [Option.some.injEq, reduceCtorEq] at hr
    rename_i hz
    subst hr
    have hcs : cs.size = r1.length := by rw [hsz]; exact szT_cells hz
    have ha : isAgg P t = true := by simp [isAgg, ht]
    obtain ⟨u, hu⟩ := pickf hx
    refine ⟨.agg xs, .agg cs xs u (by rw [hcs, hl]) (fun i hi => ?_) (fun i hi => ?_), ?_⟩
    · rw [hl] at hi
      have := (hu i hi).1
      exact ⟨by simpa [Value.cells] using this, (hu i hi).2.1⟩
    · rw [hl] at hi; exact (hu i hi).2.2.1
    · rw [ha]; exact ⟨xs, rfl, hl, fun j hj => (hu j hj).2.2.2⟩
  · simp at hr
theorem args_ok {H : Type} {enc : TypeId × Value → H} {bk : DataW H → Nat} {bkA : List (DataW H) → Nat} {base : Nat} : ∀ (ts : List TypeId) (vs : List Value) (ds : List (DataW H)) (ps : List MemPlace) (ss : List (Bool × List CT)), DataW.TrodAll enc P w 0 (fun _ => true) true ts vs ds ps →
    (∀ (j : Nat) t v, ts[j]? = some t → vs[j]? = some v → Value.okWide P w .any base t v) → mapO (sigT P) ts = some ss → (∀ d ∈ ds, Fit N bk bkA d) →
    ∃ xs : List V, xs.length = vs.length ∧ (∀ i, i < xs.length → ∃ u, vs[i]? = some u ∧ RelD cx w (fun _ => False) u (gv xs i)) ∧ ArgsVN N ss xs ∧ ds.length = ts.length
  | [], vs, ds, ps, ss, h, _, hs, _ => by
    obtain ⟨rfl, rfl, rfl⟩ := trodAll_nil h
    simp only [mapO, Option.some.injEq] at hs
    subst hs
    exact ⟨[], rfl, fun i hi => by simp at hi, trivial, rfl⟩
  | t :: ts, vs, ds, ps, ss, h, hok, hs, hfit => by
    match vs, ds, h, hfit with
    | v :: vs, d :: ds, h, hfit =>
      obtain ⟨p, q, h1, h2, rfl⟩ := h
      simp only [mapO, Option.bind_eq_some_iff, Option.some.injEq] at hs
      obtain ⟨s, hs1, ss', hs2, rfl⟩ := hs
      obtain ⟨x, hx1, hx2⟩ := arg_ok (cx := cx) (N := N) h1 (hok 0 t v rfl rfl) hs1 (hfit d (List.mem_cons_self ..))
      obtain ⟨xs, a, b, c, e⟩ := args_ok ts vs ds q ss' h2 (fun j t v hj hv => hok (j + 1) t v (by simpa using hj) (by simpa using hv)) hs2 (fun d hd => hfit d (List.mem_cons_of_mem _ hd))
      refine ⟨x :: xs, by simp [a], fun i hi => ?_, ⟨hx2, c⟩, by simp [e]⟩
      cases i with
      | zero => exact ⟨v, rfl, by simpa [gv] using hx1⟩
      | succ i => obtain ⟨u, p1, p2⟩ := b i (by simpa using hi); exact ⟨u, by simpa using p1, by simpa [gv] using p2⟩
theorem args_back {H : Type} {enc : TypeId × Value → H} {W W' : World} {sp : Nat → Bool} (hl : laidOutB P = true) (hb : Below W.heap.size W W') :
    ∀ (ts : List TypeId) (vs : List Value) (ds : List (DataW H)) (ps : List MemPlace), (ts.all fun t => P.readableRec t && decide (t < P.types.size)) = true →
    DataW.TrodAll enc P W 0 (fun _ => true) true ts vs ds ps → (∀ p ∈ ps, p.block < W.heap.size) → (∀ p ∈ ps, sp p.block = true) → DataW.TrodAll enc P W' 0 sp true ts vs ds ps
  | [], vs, ds, ps, _, h, _, _ => by
    obtain ⟨rfl, rfl, rfl⟩ := trodAll_nil h
    exact trodAll_mk0
  | t :: ts, vs, ds, ps, hc, h, hlt, hsp => by
    match vs, ds, h with
    | v :: vs, d :: ds, h =>
      obtain ⟨p, q, h1, h2, rfl⟩ := h
      simp only [List.all_cons, Bool.and_eq_true, decide_eq_true_eq] at hc
      exact ⟨p, q, WideElems.Trod_stays hl hc.1.1 hc.1.2 h1 (fun x hx => hb.same (hlt x (by simp [hx]))) (fun x hx => hsp x (by simp [hx])),
        args_back hl hb ts vs ds q (by simpa using hc.2) h2 (fun x hx => hlt x (by simp [hx])) (fun x hx => hsp x (by simp [hx])), rfl⟩
theorem liftN {H : Type} {enc : TypeId × Value → H} {bk : DataW H → Nat} {bkA : List (DataW H) → Nat} {fn : Func} {s : ChangeSpec} {conds : List PathCond} {apart fresh handsOn again : Bool} {own : Option Nat} {fid : Nat} {f : FuncId} {ss : List (Bool × List CT)} {tb : TypeId}
    (hcx : cx.fm fid = f) (hprm : mapO (sigT P) fn.params.toList = some ss) (hclosed : (fn.params.toList.all fun t => P.readableRec t && decide (t < P.types.size)) = true) (hl : laidOutB P = true)
    (hvars : s.vars = []) (hres : fn.resultTypes = #[tb]) (htb : P.underlying tb = some .bool)
    (hspec : ∀ ds : List (DataW H), ds.length = fn.params.toList.length → s.fn H ds = { results := [.lit (.bool true)], args := ds })
    (hctr : ∀ xs, ArgsVN N ss xs → Ctr P cx own fid xs (.bool true))
    (W : World) (hgn : cx.gn ≤ W.heap.size) (hG : cx.G W) (base : Nat) (args : Array Value) (ds gs : List (DataW H)) (before : List MemPlace)
    (hval : ∀ (j : Nat) t v, fn.params[j]? = some t → args[j]? = some v → Value.okWide P W .any base t v)
    (hW : DataW.Whole enc P fn.params.toList s.vars apart W args.toList ds gs before) (hfit : ∀ d ∈ ds, Fit N bk bkA d) :
    Calls P f args W fun e W' => ∃ v, e = .returned v ∧ s.post enc P fn apart fresh handsOn again W args v W' := by
  have hlt := hW.lt
  have hW' := hW
  obtain ⟨p, q, hA, hV, rfl, -, -⟩ := hW
  rw [hvars] at hV
  obtain ⟨rfl, rfl⟩ := trodVars_none hV
  obtain ⟨xs, h1, h2, h3, h4⟩ := args_ok (cx := cx) (N := N) (bk := bk) (bkA := bkA) (base := base) fn.params.toList args.toList ds p ss hA (fun j t v hj hv => hval j t v (by simpa using hj) (by simpa using hv)) hprm hfit
  obtain ⟨-, hc⟩ := hctr xs h3
  subst hcx
  refine (hc W (fun _ => False) args (fun b hb => hb.elim) hgn hG (by simpa using h1.symm) (fun i hi => by simpa using h2 i hi)).mono fun e W' ⟨v, he, hb, hr⟩ => ?_
  subst he
  have hr' := hr.data (fun b hb => hb.elim)
  have hv : v = .bool true := by cases hr'; rfl
  subst hv
  have hs := hspec ds h4
  have hlt' : ∀ x ∈ p, x.block < W.heap.size := fun x hx => hlt x (by simpa using hx)
  have res : ∀ (b : Nat) (sp : Nat → Bool) (hd : Bool), DataW.TrodAll enc P W' b sp hd fn.resultTypes.toList ((Value.bool true).resultList fn.resultTypes.size) (s.fn H (ds ++ [])).results [] := fun b sp hd => by
    rw [List.append_nil, hs, hres]; exact trodAll_mk1 (shut_bool htb true)
  have back : ∀ sp : Nat → Bool, (∀ x ∈ p, sp x.block = true) → DataW.TrodAll enc P W' 0 sp true fn.params.toList args.toList (s.fn H (ds ++ [])).args p := fun sp hsp => by
    rw [List.append_nil, hs]; exact args_back hl hb _ _ _ _ hclosed hA hlt' hsp
  have vars : ∀ sp : Nat → Bool, DataW.TrodVars enc P W' sp s.vars (s.fn H (ds ++ [])).vars [] := fun sp => by
    rw [List.append_nil, hs, hvars]; rfl
  refine ⟨_, rfl, ds, [], p ++ [], [], p, [], hW', res _ _ _, back _ (fun x hx => by simpa using hlt' x hx), vars _, hb.frame _, fun _ => ⟨ok_one hres rfl (okWide_bool_mk htb true), (s.fn H (ds ++ [])).results ++ (s.fn H (ds ++ [])).args, (s.fn H (ds ++ [])).vars, p, ?_, fun x hx _ => by simpa using hx⟩⟩
  obtain ⟨_, _, _, _, _, hz, hn⟩ := hW'
  refine ⟨p, [], ?_, vars _, by simp, fun b off hx => ?_, fun ha => by simpa using hn ha⟩
  · have := trodAll_append (back (fun _ => true) (fun _ _ => rfl)) (res 0 (fun _ => true) true)
    simpa using this
  · rw [hb.frozen (hlt' _ hx)]
    exact hz b off (by simpa using hx)
end
end Sg
