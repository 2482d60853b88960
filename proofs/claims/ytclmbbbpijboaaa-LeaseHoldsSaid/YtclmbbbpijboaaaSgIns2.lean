import Derived.Test.YtclmbbbpijboaaaSgIns
namespace Sg
open Go Go.RowKit
set_option linter.unusedSimpArgs false
set_option linter.unusedVariables false
section
variable {P : Program} {cx : Cx} {B : Nat} {X : Nat → Prop} {S : St} {w : World} {β : Nat → Nat} {α : Nat → Value} {M : Nat → Prop}

theorem cell_in {w : World} {b : Nat} {c : Array Value} {e : TypeId} {fr : Nat × Nat} (h : w.heap[b]? = some (.cells c e fr)) (k : Nat) : w.cell? ⟨b, k, none⟩ = c[k]? := by
  simp [World.cell?, h]

theorem ins_ok {f tS el : Nat} {z : Nat} (hI : InsC P f z tS el) (h : RelW cx B X S w β α M) {s n k : Nat} {rows ys : List (List V)} {v u : Value}
    (hA : S.A s = some (z, rows, .live)) (hn : rows.length = n) (hk : k ≤ n) (hlim : rows.length + ys.length ≤ lim)
    (hx : RelT cx w (orP X M) S β α v (.own s z n)) (hy : RelT cx w (orP X M) S β α u (.slice z ys)) :
    Calls P f #[v, .int .i64 k, u] w fun e w1 => ∃ q, e = .returned q ∧
      OpPost cx B X S w β α M { S with A := upd S.A s (some (z, rows.take k ++ (ys ++ rows.drop k), .live)) } (.own s z (rows.length + ys.length)) q w1 := by
  have hy0 := hy
  obtain ⟨rows', f', a, cap, hA', rfl, ha, ho⟩ := hx
  rw [hA] at hA'
  simp only [Option.some.injEq, Prod.mk.injEq] at hA'
  obtain ⟨-, rfl, rfl⟩ := hA'
  have hα := (ho (by simp)).2 hn
  obtain ⟨p1, p2⟩ := h.arr s z rows .live hA (by simp)
  obtain ⟨lx, hdx, -, hat⟩ := p1.cells hI.pos
  subst hn
  rw [← hα] at p1 hat
  have hcapn : rows.length ≤ cap ∧ (a = none → rows.length = 0) := by
    rcases p1.at_ with ⟨h1, h2⟩ | ⟨b, o, cap', c, el', h1, h2, h3, h4, h5⟩
    · simp only [Value.slice.injEq] at h1
      subst h2
      exact ⟨by simp, fun _ => rfl⟩
    · simp only [Value.slice.injEq] at h1
      obtain ⟨rfl, -, rfl⟩ := h1
      exact ⟨h3, fun e => by simp at e⟩
  have hlim' : rows.length + ys.length ≤ 1073741824 := hlim
  simp only [RelT] at hy
  have hyl : ∃ vb vc, u = .slice vb ys.length vc := by
    rcases slice_inv hy with ⟨⟨a0, rfl⟩, rfl⟩ | ⟨b, o, vc, c, e', fr, rfl, -⟩
    · exact ⟨a0, 0, rfl⟩
    · exact ⟨_, _, rfl⟩
  rcases Nat.eq_zero_or_pos ys.length with hz | hpos
  · -- nothing
    have hy0 : ys = [] := List.eq_nil_of_length_eq_zero hz
    subst hy0
    obtain ⟨vb, vc, rfl⟩ := hyl
    refine (hI.nothing a rows.length cap k vc vb w hcapn.1 hk hcapn.2).mono ?_
    rintro e w1 ⟨rfl, rfl⟩
    refine ⟨_, rfl, ?_⟩
    have : S = { S with A := upd S.A s (some (z, rows.take k ++ ([] ++ rows.drop k), .live)) } := by
      have : upd S.A s (some (z, rows.take k ++ ([] ++ rows.drop k), .live)) = S.A := by
        funext t; simp only [upd]; split
        · rename_i e; rw [e, hA]; simp
        · rfl
      rw [this]
    rw [← this]
    exact .pure h ⟨rows, .live, a, cap, hA, rfl, ha, ho⟩
  · by_cases hend : k = rows.length
    · -- at the end
      obtain ⟨ie, zv, hie, hb2, hzv, hzz⟩ := hI.info
      have hev : appV S s z (.own s z rows.length) (.slice z ys) = some (.own s z (rows.length + ys.length), { S with A := upd S.A s (some (z, rows ++ ys, .live)) }) := by
        simp only [appV, and_self, if_true, hA, V.rowsOf, Option.bind_some]
        rw [if_pos hlim]
      have hxx : RelT cx w (orP X M) S β α (.slice a rows.length cap) (.own s z rows.length) := ⟨rows, .live, a, cap, hA, rfl, ha, ho⟩
      obtain ⟨q, w', hrun, hpost⟩ := app_ok (P := P) (t' := tS) (ty := tS) h hxx hy0 hI.hS hI.hz hie hb2 hzv hzz hI.pos (by simp [okAppT, hI.hS]) hev
      obtain ⟨vb, vc, rfl⟩ := hyl
      subst hend
      refine (hI.end_ a rows.length cap ys.length vc vb w w' q hpos hcapn.1 hlim' hcapn.2 hrun).mono ?_
      rintro e w1 ⟨rfl, rfl⟩
      refine ⟨q, rfl, ?_⟩
      rw [List.take_length, List.drop_length, List.append_nil]
      exact hpost
    · have hlt : k < rows.length := by omega
      rcases p1.at_ with ⟨h1, h2⟩ | ⟨b, o, cap', c, el', h1, h2, h3, h4, h5⟩
      · subst h2; simp at hlt
      simp only [Value.slice.injEq] at h1
      obtain ⟨rfl, -, rfl⟩ := h1
      have hM : M b := (p2 b (by rw [← hα]; rfl)).2.1 rfl
      rcases slice_inv hy with ⟨⟨a0, rfl⟩, rfl⟩ | ⟨vb, vo, vc, cv, ev', fr, rfl, hvb, hvX, hvw, hvcap, hzz, hcc⟩
      · simp at hpos
      have hne : ys ≠ [] := fun e => by rw [e] at hpos; simp at hpos
      have hvsz := (DR.of_cells hzz hcc hI.pos).resolve_right hne
      have hdr := DR.seg hvsz hzz hcc
      generalize hly : (cv.toList.drop vo).take (ys.length * z) = ly at hdr
      have hvb' : vb ≠ b := fun e => hvX (.inr (e ▸ hM))
      have hlx := hat b o _ _ c el' rfl h2
      have hcs : ∀ (j : Nat) (v : Value), lx[j]? = some v → w.cell? ⟨b, o + j, none⟩ = some v := fun j v hj => by
        have hjl : j < lx.length := by
          rcases Nat.lt_or_ge j lx.length with h' | h'
          · exact h'
          · rw [List.getElem?_eq_none h'] at hj; simp at hj
        rw [cell_in h2, hlx j hjl, hj]
      have hvs : ∀ (j : Nat) (v : Value), ly[j]? = some v → w.cell? ⟨vb, vo + j, none⟩ = some v := fun j v hj => by
        have hjl : j < ly.length := by
          rcases Nat.lt_or_ge j ly.length with h' | h'
          · exact h'
          · rw [List.getElem?_eq_none h'] at hj; simp at hj
        rw [hdr.1] at hjl
        rw [cell_in hvw, ← hj, ← hly, List.getElem?_take_of_lt hjl, List.getElem?_drop]; simp
      have hfz : ∀ j, w.frozen? ⟨b, j, none⟩ = false := fun j => by simp [World.frozen?, h2]
      have e1 : lx.length = rows.length * z := hdx.1
      have e2 : ly.length = ys.length * z := hdr.1
      have o1 := hdx.one hI.pos
      have o2 := hdr.one hI.pos
      have hkz : k * z ≤ rows.length * z := Nat.mul_le_mul_right z (by omega)
      have e3 : (lx.drop (k * z)).length = rows.length * z - k * z := by rw [List.length_drop, e1]
      have e4 : (k + ys.length) * z = k * z + ys.length * z := Nat.add_mul ..
      have e5 : (rows.length + ys.length) * z = rows.length * z + ys.length * z := Nat.add_mul ..
      have e6 : (lx.take (k * z)).length = k * z := by rw [List.length_take, e1]; omega
      have o3 : ∀ v ∈ lx.drop (k * z), v.oneCell' = true := fun v hv => o1 v (List.mem_of_mem_drop hv)
      -- the cells of the new row
      have content : ∀ (c3 : Array Value) (O : Nat), (∀ t, t < k * z → c3[O + t]? = lx[t]?) → (∀ t, t < ly.length → c3[O + k * z + t]? = ly[t]?) → (∀ t, t < (lx.drop (k * z)).length → c3[O + (k + ys.length) * z + t]? = (lx.drop (k * z))[t]?) →
          ∀ t, t < (lx.take (k * z) ++ (ly ++ lx.drop (k * z))).length → c3[O + t]? = (lx.take (k * z) ++ (ly ++ lx.drop (k * z)))[t]? := by
        intro c3 O q1 q2 q3 t ht
        rw [List.length_append, List.length_append, e6, e2, e3] at ht
        rcases Nat.lt_or_ge t (k * z) with t1 | t1
        · rw [List.getElem?_append_left (by omega), List.getElem?_take_of_lt t1]; exact q1 t t1
        · rw [List.getElem?_append_right (by omega), e6]
          rcases Nat.lt_or_ge (t - k * z) (ly.length) with t2 | t2
          · rw [List.getElem?_append_left t2, ← q2 _ t2]; congr 1; omega
          · rw [List.getElem?_append_right t2, ← q3 _ (by omega)]; congr 1; omega
      by_cases hfit : rows.length + ys.length ≤ cap
      · -- in place
        have hcz : (rows.length + ys.length) * z ≤ cap * z := Nat.mul_le_mul_right z hfit
        have hc := hI.shift b o rows.length cap k vb vo ys.length vc lx ly w hlt hpos hfit hlim' hvb' e1 e2 hcs (fun j hj => by
          rw [cell_in h2, Array.getElem?_eq_getElem (by omega)]; rfl) hfz hvs o1 o2 ev' el' cv.size c.size (by simp [World.shape?, hvw]) (by simp [World.shape?, h2]) (by
            have := Nat.le_mul_of_pos_left z hpos
            have := hI.pos; omega)
        refine hc.mono ?_
        rintro e w1 ⟨rfl, rfl⟩
        refine ⟨_, rfl, ?_⟩
        obtain ⟨c2, s1, s2, s3, s4, s5, s6, s7⟩ := setCells_at P (w := w.drew) (b := b) (o := o + (k + ys.length) * z) (vs := lx.drop (k * z)) h2 (by rw [e3]; omega) o3
        obtain ⟨c3, t1, t2, t3, t4, t5, t6, t7⟩ := setCells_at P (b := b) (o := o + k * z) (vs := ly) s1 (by omega) o2
        generalize (w.drew.setCells b (o + (k + ys.length) * z) (lx.drop (k * z))).setCells b (o + k * z) ly = w2 at t1 t3 t4 ⊢
        generalize w.drew.setCells b (o + (k + ys.length) * z) (lx.drop (k * z)) = w3 at s1 s3 s4 t3 t4 ⊢
        have hT : Turn b w w2 := ⟨t3.size.trans s3.size, fun b' hb' => (t3.block b' hb').trans (s3.block b' hb')⟩
        have hBb : B ≤ b := (p2 b (by rw [← hα]; rfl)).1
        have hbel : Below B w w2 := by
          have q1 := s4 B hBb
          have q2 := t4 B hBb
          exact ⟨q2.os.trans q1.os, q2.tape.trans q1.tape, q2.output.trans q1.output, Nat.le_trans q1.size q2.size, fun k hk => (q2.block k hk).trans (q1.block k hk)⟩
        have hD : ∀ u x, RelD cx w (orP X M) u x → RelD cx w2 (orP X M) u x := fun _ _ hr => turn_D hT hM hr
        have hall : DR cx w2 (orP X M) z (lx.take (k * z) ++ (ly ++ lx.drop (k * z))) (rows.take k ++ (ys ++ rows.drop k)) := ((hdx.take hk).append (hdr.append (hdx.drop hk))).mono hD
        have hlen : (rows.take k ++ (ys ++ rows.drop k)).length = rows.length + ys.length := by simp; omega
        have harr : ArrOK cx w2 (orP X M) (.slice (some ⟨b, o, none⟩) (rows.length + ys.length) cap) z (rows.take k ++ (ys ++ rows.drop k)) := by
          refine ArrOK.of_DR t1 hall (content c3 o (fun t ht => ?_) (fun t ht => t6 t ht) (fun t ht => ?_)) (by rw [hlen]; exact hfit) (by rw [t2, s2]; exact h4) hlen
          · rw [t5 _ (by omega), s5 _ (by omega)]; exact hlx t (by omega)
          · rw [t7 _ (by omega)]; exact s6 t ht
        have hsame : (rows.take k ++ (ys ++ rows.drop k)).length = rows.length → (Value.slice (some ⟨b, o, none⟩) (rows.length + ys.length) cap) = α s := fun e' => by rw [hlen] at e'; omega
        obtain ⟨hsa, hD'⟩ := h.setArr (M' := M) (rows' := rows.take k ++ (ys ++ rows.drop k)) (v' := .slice (some ⟨b, o, none⟩) (rows.length + ys.length) cap) hA
          (fun b' hb' _ => hT.block b' (fun e' => hb' (by rw [← hα, e']; rfl))) (by rw [hT.size]; exact Nat.le_refl _) (.inl (by rw [← hα]; rfl)) (by rw [hlen]; omega) hsame
          (fun _ hb => hb) (fun _ hb => .inl hb) (fun b' hb' => by simp only [Sg.hdr, Option.some.injEq] at hb'; subst hb'; exact hM) harr
        exact ⟨β, _, M, hsa, fun u' x' hu' => RelT.tr hD' (atr_set hA (by rw [hlen]; omega) hsame) (fun s hs => ⟨hs, rfl⟩) hu', own_mk hlen, hbel⟩
      · -- a new row
        have hc := hI.grow b o rows.length cap k vb vo ys.length vc lx ly w hlt hpos h3 (by omega) hlim' e1 e2 (lt_of_some h2) hvb hcs hvs o1 o2
        refine hc.mono ?_
        rintro e w1 ⟨G, ROW, d1, g1, g2, g3, g4, rfl, rfl⟩
        refine ⟨_, rfl, ?_⟩
        have hW0 : (({ w with drawn := d1 } : World).alloc (.cells ROW el)).heap[w.heap.size]? = some (.cells ROW el (0, 0)) := by simp [World.alloc]
        have hGr0 : Grow w (({ w with drawn := d1 } : World).alloc (.cells ROW el)) := ⟨by simp [World.alloc], fun b hb => by simp [World.alloc, Array.getElem?_push, Nat.ne_of_lt hb]⟩
        have hW0s : (({ w with drawn := d1 } : World).alloc (.cells ROW el)).heap.size = w.heap.size + 1 := by simp [World.alloc]
        have hW0b : Below B w (({ w with drawn := d1 } : World).alloc (.cells ROW el)) := ⟨rfl, rfl, rfl, hGr0.size, fun k hk => hGr0.block k (Nat.lt_of_lt_of_le hk h.size)⟩
        generalize (({ w with drawn := d1 } : World).alloc (.cells ROW el)) = w0 at hW0 hGr0 hW0s hW0b ⊢
        obtain ⟨c2, s1, s2, s3, s4, s5, s6, s7⟩ := setCells_at P (b := w.heap.size) (o := k * z) (vs := ly) hW0 (by omega) o2
        obtain ⟨c3, t1, t2, t3, t4, t5, t6, t7⟩ := setCells_at P (b := w.heap.size) (o := (k + ys.length) * z) (vs := lx.drop (k * z)) s1 (by rw [e3]; omega) o3
        generalize (w0.setCells w.heap.size (k * z) ly).setCells w.heap.size ((k + ys.length) * z) (lx.drop (k * z)) = w2 at t1 t3 t4 ⊢
        generalize w0.setCells w.heap.size (k * z) ly = w3 at s1 s3 s4 t3 t4 ⊢
        have hsz2 : w2.heap.size = w.heap.size + 1 := by rw [t3.size, s3.size, hW0s]
        have hg : Grow w w2 := ⟨by omega, fun b hb => by rw [t3.block b (by omega), s3.block b (by omega)]; exact hGr0.block b hb⟩
        have hlt2 : w.heap.size < w2.heap.size := by omega
        have hbel : Below B w w2 := by
          have q1 := s4 B h.size
          have q2 := t4 B h.size
          exact ⟨q2.os.trans (q1.os.trans hW0b.os), q2.tape.trans (q1.tape.trans hW0b.tape), q2.output.trans (q1.output.trans hW0b.output), hg.size, fun k hk => hg.block k (Nat.lt_of_lt_of_le hk h.size)⟩
        have h2' : ∀ b, (M b ∨ b = w.heap.size) → M b ∨ (w.heap.size ≤ b ∧ b < w2.heap.size) := fun b hb => by
          rcases hb with hb | hb
          · exact .inl hb
          · subst hb; exact .inr ⟨Nat.le_refl _, hlt2⟩
        have hD : ∀ u x, RelD cx w (orP X M) u x → RelD cx w2 (orP X (fun b => M b ∨ b = w.heap.size)) u x := fun _ _ hr => grow_D hg (fun b hb => (h2' b hb).imp id (·.1)) hr
        have hall : DR cx w2 (orP X (fun b => M b ∨ b = w.heap.size)) z (lx.take (k * z) ++ (ly ++ lx.drop (k * z))) (rows.take k ++ (ys ++ rows.drop k)) := ((hdx.take hk).append (hdr.append (hdx.drop hk))).mono hD
        have hlen : (rows.take k ++ (ys ++ rows.drop k)).length = rows.length + ys.length := by simp; omega
        have harr : ArrOK cx w2 (orP X (fun b => M b ∨ b = w.heap.size)) (.slice (some ⟨w.heap.size, 0, none⟩) (rows.length + ys.length) G) z (rows.take k ++ (ys ++ rows.drop k)) := by
          refine ArrOK.of_DR t1 hall (content c3 0 (fun t ht => ?_) (fun t ht => ?_) (fun t ht => ?_)) (by rw [hlen]; exact g1) (by rw [t2, s2, g3]; omega) hlen
          · rw [Nat.zero_add, t5 _ (by omega), s5 _ (by omega)]
            have hlt' : t < lx.length := by omega
            rw [List.getElem?_eq_getElem hlt']
            refine g4 t _ ?_
            rw [List.getElem?_take_of_lt ht, List.getElem?_eq_getElem hlt']
          · rw [Nat.zero_add, t5 _ (by omega)]; exact s6 t ht
          · rw [Nat.zero_add]; exact t6 t ht
        have hsame : (rows.take k ++ (ys ++ rows.drop k)).length = rows.length → (Value.slice (some ⟨w.heap.size, 0, none⟩) (rows.length + ys.length) G) = α s := fun e' => by rw [hlen] at e'; omega
        obtain ⟨hsa, hD'⟩ := h.setArr (M' := fun b => M b ∨ b = w.heap.size) (rows' := rows.take k ++ (ys ++ rows.drop k)) (v' := .slice (some ⟨w.heap.size, 0, none⟩) (rows.length + ys.length) G) hA
          (fun b' _ hb' => hg.block b' hb') hg.size (.inr ⟨w.heap.size, rfl, Nat.le_refl _, hlt2⟩) (by rw [hlen]; omega) hsame
          (fun _ hb => .inl hb) h2' (fun b' hb' => by simp only [Sg.hdr, Option.some.injEq] at hb'; exact .inr hb'.symm) harr
        exact ⟨β, _, _, hsa, fun u' x' hu' => RelT.tr hD' (atr_set hA (by rw [hlen]; omega) hsame) (fun s hs => ⟨hs, rfl⟩) hu', own_mk hlen, hbel⟩

theorem own_mk2 {s d z n : Nat} {rows : List (List V)} {v' : Value} {b o cap : Nat} (hv : v' = .slice (some ⟨b, o, none⟩) n cap) (hn : rows.length = n) :
    RelO { S with A := upd (upd S.A s (some (z, [], .dead))) d (some (z, rows, .live)) } (upd α d v') v' d z n :=
  ⟨rows, .live, some ⟨b, o, none⟩, cap, by simp [upd], hv, fun _ => ⟨b, o, rfl⟩, fun _ => ⟨by omega, fun _ => by simp [upd]⟩⟩

theorem del_ok {f : Nat} {z : Nat} (hI : DelC P f z) (h : RelW cx B X S w β α M) {s d n k m : Nat} {rows : List (List V)} {v : Value}
    (hA : S.A s = some (z, rows, .live)) (hd : S.A d = none) (hn : rows.length = n) (hk : k ≤ m) (hm : m ≤ n) (hlim : n ≤ lim)
    (hx : RelT cx w (orP X M) S β α v (.own s z n)) :
    Calls P f #[v, .int .i64 k, .int .i64 m] w fun e w1 => ∃ q, e = .returned q ∧
      OpPost cx B X S w β α M { S with A := upd (upd S.A s (some (z, [], .dead))) d (some (z, rows.take k ++ rows.drop m, .live)) } (.own d z (rows.take k ++ rows.drop m).length) q w1 := by
  obtain ⟨rows', f', a, cap, hA', rfl, ha, ho⟩ := hx
  rw [hA] at hA'
  simp only [Option.some.injEq, Prod.mk.injEq] at hA'
  obtain ⟨-, rfl, rfl⟩ := hA'
  have hα := (ho (by simp)).2 hn
  obtain ⟨p1, p2⟩ := h.arr s z rows .live hA (by simp)
  obtain ⟨lx, hdx, -, hat⟩ := p1.cells hI.pos
  subst hn
  rw [← hα] at p1 hat
  have hlen : (rows.take k ++ rows.drop m).length = rows.length - (m - k) := by simp; omega
  rcases p1.at_ with ⟨h1, h2⟩ | ⟨b, o, cap', c, el', h1, h2, h3, h4, h5⟩
  · -- nil
    simp only [Value.slice.injEq] at h1
    obtain ⟨rfl, -, rfl⟩ := h1
    subst h2
    have hm0 : m = 0 := by simpa using hm
    have hk0 : k = 0 := by omega
    subst hm0; subst hk0
    refine (hI.nothing none 0 0 0 w (by omega) (by omega) (fun _ => rfl)).mono ?_
    rintro e w1 ⟨rfl, rfl⟩
    refine ⟨_, rfl, ?_⟩
    -- the array under its new name
    have hT : ATr S { S with A := upd (upd S.A s (some (z, [], .dead))) d (some (z, List.take 0 [] ++ List.drop 0 [], .live)) } α (upd α d (.slice none 0 0)) := fun t z1 r f ht => by
      have htd : t ≠ d := fun e => by rw [e, hd] at ht; simp at ht
      by_cases e : t = s
      · subst e
        rw [hA] at ht
        simp only [Option.some.injEq, Prod.mk.injEq] at ht
        obtain ⟨rfl, rfl, rfl⟩ := ht
        exact ⟨[], .dead, by simp [upd, htd], fun h => absurd rfl h⟩
      · exact ⟨r, f, by simp [upd, htd, e, ht], fun h => ⟨h, Nat.le_refl _, fun _ => by simp [upd, htd]⟩⟩
    have old : ∀ t z1 r f, t ≠ d → (upd (upd S.A s (some (z, [], .dead))) d (some (z, List.take 0 [] ++ List.drop 0 [], .live))) t = some (z1, r, f) → f ≠ .dead → S.A t = some (z1, r, f) ∧ t ≠ s := fun t z1 r f htd ht hf => by
      by_cases e : t = s
      · subst e
        simp only [upd, if_neg htd, if_true, Option.some.injEq, Prod.mk.injEq] at ht
        exact absurd ht.2.2.symm hf
      · simp only [upd, if_neg htd, if_neg e] at ht
        exact ⟨ht, e⟩
    refine ⟨β, upd α d (.slice none 0 0), M, ⟨h.xb, h.size, h.m, fun t ct f ht => ?_, h.varInj, fun t z' r f ht hf => ?_, fun t t' z1 r1 f1 z2 r2 f2 ht hf ht' hf' b hb hb' => ?_, fun t z' r f t' ht hf ht' => ?_⟩,
      fun u' x' hu' => RelT.tr (fun _ _ hr => hr) hT (fun s hs => ⟨hs, rfl⟩) hu', ⟨[], .live, none, 0, by simp [upd], rfl, fun e => absurd rfl e, fun _ => ⟨by simp, fun _ => by simp [upd]⟩⟩, Below.refl _ _⟩
    · obtain ⟨a1, a2, a3, c', e'', a4, a5, a6⟩ := h.var t ct f ht
      refine ⟨a1, a2, a3, c', e'', a4, a5, fun i hi => ?_⟩
      obtain ⟨u, b1, b2, b3⟩ := a6 i hi
      exact ⟨u, b1, b2, b3.tr (fun _ _ hr => hr) hT⟩
    · by_cases e : t = d
      · subst e
        simp only [upd, if_true, Option.some.injEq, Prod.mk.injEq] at ht ⊢
        obtain ⟨rfl, rfl, rfl⟩ := ht
        exact ⟨⟨fun i hi => by simp at hi, .inl ⟨rfl, rfl⟩⟩, fun b hb => by simp [hdr] at hb⟩
      · obtain ⟨q1, q2⟩ := old t z' r f e ht hf
        have : upd α d (Value.slice none 0 0) t = α t := by simp [upd, e]
        rw [this]
        exact h.arr t z' r f q1 hf
    · by_cases e1 : t = d
      · simp [upd, e1, hdr] at hb
      · by_cases e2 : t' = d
        · simp [upd, e2, hdr] at hb'
        · obtain ⟨q1, q2⟩ := old t z1 r1 f1 e1 ht hf
          obtain ⟨q3, q4⟩ := old t' z2 r2 f2 e2 ht' hf'
          simp only [upd, e1, e2, if_false] at hb hb'
          exact h.arrInj t t' z1 r1 f1 z2 r2 f2 q1 hf q3 hf' b hb hb'
    · by_cases e : t = d
      · simp [upd, e, hdr]
      · obtain ⟨q1, q2⟩ := old t z' r f e ht hf
        have : upd α d (Value.slice none 0 0) t = α t := by simp [upd, e]
        rw [this]
        exact h.arrVar t z' r f t' q1 hf ht'
  simp only [Value.slice.injEq] at h1
  obtain ⟨rfl, -, rfl⟩ := h1
  have hM : M b := (p2 b (by rw [← hα]; rfl)).2.1 rfl
  have hBb : B ≤ b := (p2 b (by rw [← hα]; rfl)).1
  have hb0 : hdr (α s) = some b := by rw [← hα]; rfl
  have hlx := hat b o _ _ c el' rfl h2
  have e1 : lx.length = rows.length * z := hdx.1
  have o1 := hdx.one hI.pos
  by_cases hkm : k = m
  · subst hkm
    refine (hI.nothing (some ⟨b, o, none⟩) rows.length cap k w h3 hm (fun e => by simp at e)).mono ?_
    rintro e w1 ⟨rfl, rfl⟩
    refine ⟨_, rfl, ?_⟩
    have hrr : rows.take k ++ rows.drop k = rows := List.take_append_drop k rows
    rw [hrr]
    obtain ⟨hsa, hD', hT⟩ := h.delArr (d := d) (v' := .slice (some ⟨b, o, none⟩) rows.length cap) hA hd (w' := w1) ⟨rfl, fun _ _ => rfl⟩ hb0 rfl p1
    exact ⟨β, _, M, hsa, fun u' x' hu' => RelT.tr hD' hT (fun s hs => ⟨hs, rfl⟩) hu', own_mk2 rfl rfl, Below.refl _ _⟩
  · have hlt : k < m := by omega
    have hcs : ∀ (j : Nat) (v : Value), lx[j]? = some v → w.cell? ⟨b, o + j, none⟩ = some v := fun j v hj => by
      have hjl : j < lx.length := by
        rcases Nat.lt_or_ge j lx.length with h' | h'
        · exact h'
        · rw [List.getElem?_eq_none h'] at hj; simp at hj
      rw [cell_in h2, hlx j hjl, hj]
    have hfz : ∀ j, w.frozen? ⟨b, j, none⟩ = false := fun j => by simp [World.frozen?, h2]
    refine (hI.cut b o rows.length cap k m lx w hlt hm h3 hlim e1 hcs hfz o1).mono ?_
    rintro e w1 ⟨rfl, d1, zs, z1, z2, rfl⟩
    refine ⟨_, rfl, ?_⟩
    have hkz : k * z ≤ m * z := Nat.mul_le_mul_right z hk
    have hmz : m * z ≤ rows.length * z := Nat.mul_le_mul_right z hm
    have hcz : rows.length * z ≤ cap * z := Nat.mul_le_mul_right z h3
    have e3 : (lx.drop (m * z)).length = rows.length * z - m * z := by rw [List.length_drop, e1]
    have e4 : (m - k) * z = m * z - k * z := Nat.sub_mul ..
    have e5 : (rows.length - (m - k)) * z = rows.length * z - (m * z - k * z) := by rw [Nat.sub_mul, Nat.sub_mul]
    have e6 : (lx.take (k * z)).length = k * z := by rw [List.length_take, e1]; omega
    have o3 : ∀ v ∈ lx.drop (m * z), v.oneCell' = true := fun v hv => o1 v (List.mem_of_mem_drop hv)
    have h2' : ({ w with drawn := d1 } : World).heap[b]? = some (.cells c el' (0, 0)) := h2
    obtain ⟨c2, s1, s2, s3, s4, s5, s6, s7⟩ := setCells_at P (b := b) (o := o + k * z) (vs := lx.drop (m * z)) h2' (by rw [e3]; omega) o3
    obtain ⟨c3, t1, t2, t3, t4, t5, t6, t7⟩ := setCells_at P (b := b) (o := o + (rows.length - (m - k)) * z) (vs := zs) s1 (by rw [z1, e4, e5]; omega) z2
    have s3s := s3.size
    have s3b := s3.block
    have s4' := s4 B hBb
    generalize (({ w with drawn := d1 } : World).setCells b (o + k * z) (lx.drop (m * z))).setCells b (o + (rows.length - (m - k)) * z) zs = w2 at t1 t3 t4 ⊢
    generalize ({ w with drawn := d1 } : World).setCells b (o + k * z) (lx.drop (m * z)) = w3 at s1 s3s s3b s4' t3 t4 ⊢
    have hT : Turn b w w2 := ⟨t3.size.trans s3s, fun b' hb' => (t3.block b' hb').trans (s3b b' hb')⟩
    have hbel : Below B w w2 := by
      have q2 := t4 B hBb
      exact ⟨q2.os.trans s4'.os, q2.tape.trans s4'.tape, q2.output.trans s4'.output, Nat.le_trans s4'.size q2.size, fun k hk => (q2.block k hk).trans (s4'.block k hk)⟩
    have hD : ∀ u x, RelD cx w (orP X M) u x → RelD cx w2 (orP X M) u x := fun _ _ hr => turn_D hT hM hr
    have hall : DR cx w2 (orP X M) z (lx.take (k * z) ++ lx.drop (m * z)) (rows.take k ++ rows.drop m) := ((hdx.take (by omega)).append (hdx.drop hm)).mono hD
    have harr : ArrOK cx w2 (orP X M) (.slice (some ⟨b, o, none⟩) (rows.length - (m - k)) cap) z (rows.take k ++ rows.drop m) := by
      refine ArrOK.of_DR t1 hall (fun t ht => ?_) (by rw [hlen]; omega) (by rw [t2, s2]; exact h4) hlen
      rw [List.length_append, e6, e3] at ht
      rw [t5 _ (by rw [e5]; omega)]
      rcases Nat.lt_or_ge t (k * z) with q | q
      · rw [List.getElem?_append_left (by omega), List.getElem?_take_of_lt q, s5 _ (by omega)]; exact hlx t (by omega)
      · rw [List.getElem?_append_right (by omega), e6, ← s6 _ (by omega)]; congr 1; omega
    obtain ⟨hsa, hD', hTr⟩ := h.delArr (d := d) (v' := .slice (some ⟨b, o, none⟩) (rows.length - (m - k)) cap) hA hd hT hb0 rfl harr
    exact ⟨β, _, M, hsa, fun u' x' hu' => RelT.tr hD' hTr (fun s hs => ⟨hs, rfl⟩) hu', by rw [hlen]; exact own_mk2 rfl hlen, hbel⟩
end
end Sg
