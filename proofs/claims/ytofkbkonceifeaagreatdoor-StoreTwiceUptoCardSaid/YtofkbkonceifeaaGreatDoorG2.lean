/- A checked abstract run of translated code is sound: for every program and input that pass its checks. A general part, used by the proofs of this seat. -/
import Derived.Laws.BytesArg
import Derived.Lib.SliceRun
import Derived.Orders
import Derived.Attr
import Derived.IntWalk
import Derived.Shelf.Unicode.DecodeAny
import Derived.Lib.OthersKept
import Derived.Test.YtofkbkonceifeaaGreatDoorG1
namespace Sg
open Go Go.RowKit
set_option linter.unusedSimpArgs false
set_option linter.unusedVariables false
structure InsC (P : Program) (f : FuncId) (z : Nat) (tS el : TypeId) : Prop where
  ent : Ent P f
  hS : P.underlying tS = some (.slice el)
  hz : szT P el = some z
  pos : 0 < z
  info : ∃ ie zv, P.info? el = some ie ∧ ie.bytes ≤ 65536 ∧ ie.zero = some zv ∧ zv.cells.size = z
  nothing : ∀ (base : Option Addr) (n c i vc : Nat) (vb : Option Addr) (w : World), n ≤ c → i ≤ n → (base = none → n = 0) →
    Calls P f #[.slice base n c, .int .i64 i, .slice vb 0 vc] w fun e w1 => e = .returned (.slice base n c) ∧ w1 = w
  end_ : ∀ (base : Option Addr) (n c m vc : Nat) (vb : Option Addr) (w w' : World) (q : Value), 0 < m → n ≤ c → n + m ≤ 1073741824 → (base = none → n = 0) →
    (Builtin.append_ #[tS, tS] tS #[.slice base n c, .slice vb m vc]).run P w = .ok q w' →
    Calls P f #[.slice base n c, .int .i64 n, .slice vb m vc] w fun e w1 => e = .returned q ∧ w1 = w'
  shift : ∀ (b off n c i vb voff m vc : Nat) (cs vs : List Value) (w : World), i < n → 0 < m → n + m ≤ c → n + m ≤ 1073741824 → vb ≠ b → cs.length = n * z → vs.length = m * z →
    (∀ (j : Nat) (v : Value), cs[j]? = some v → w.cell? ⟨b, off + j, none⟩ = some v) → (∀ j, j < (n + m) * z → (w.cell? ⟨b, off + j, none⟩).isSome = true) → (∀ j, w.frozen? ⟨b, j, none⟩ = false) →
    (∀ (j : Nat) (v : Value), vs[j]? = some v → w.cell? ⟨vb, voff + j, none⟩ = some v) → (∀ v ∈ cs, v.oneCell' = true) → (∀ v ∈ vs, v.oneCell' = true) →
    ∀ (tA tB : TypeId) (kA kB : Nat), w.shape? vb = some (tA, kA) → w.shape? b = some (tB, kB) → kA ≠ 0 →
    Calls P f #[.slice (some ⟨b, off, none⟩) n c, .int .i64 i, .slice (some ⟨vb, voff, none⟩) m vc] w fun e w' =>
      e = .returned (.slice (some ⟨b, off, none⟩) (n + m) c) ∧ w' = (w.drew.setCells b (off + (i + m) * z) (cs.drop (i * z))).setCells b (off + i * z) vs
  grow : ∀ (b off n c i vb voff m vc : Nat) (cs vs : List Value) (w : World), i < n → 0 < m → n ≤ c → c < n + m → n + m ≤ 1073741824 → cs.length = n * z → vs.length = m * z → b < w.heap.size → vb < w.heap.size →
    (∀ (j : Nat) (v : Value), cs[j]? = some v → w.cell? ⟨b, off + j, none⟩ = some v) →
    (∀ (j : Nat) (v : Value), vs[j]? = some v → w.cell? ⟨vb, voff + j, none⟩ = some v) → (∀ v ∈ cs, v.oneCell' = true) → (∀ v ∈ vs, v.oneCell' = true) →
    Calls P f #[.slice (some ⟨b, off, none⟩) n c, .int .i64 i, .slice (some ⟨vb, voff, none⟩) m vc] w fun e w' =>
      ∃ (G : Nat) (ROW : Array Value) (d1 : Nat), n + m ≤ G ∧ (n + m) * z ≤ ROW.size ∧ ROW.size = G * z ∧ (∀ (j : Nat) (v : Value), (cs.take (i * z))[j]? = some v → ROW[j]? = some v) ∧ e = .returned (.slice (some ⟨w.heap.size, 0, none⟩) (n + m) G) ∧
      w' = ((({ w with drawn := d1 } : World).alloc (.cells ROW el)).setCells w.heap.size (i * z) vs).setCells w.heap.size ((i + m) * z) (cs.drop (i * z))
structure DelC (P : Program) (f : FuncId) (z : Nat) : Prop where
  ent : Ent P f
  pos : 0 < z
  nothing : ∀ (base : Option Addr) (n c i : Nat) (w : World), n ≤ c → i ≤ n → (base = none → n = 0) →
    Calls P f #[.slice base n c, .int .i64 i, .int .i64 i] w fun e w1 => e = .returned (.slice base n c) ∧ w1 = w
  cut : ∀ (b off n c i j : Nat) (cs : List Value) (w : World), i < j → j ≤ n → n ≤ c → n ≤ 1073741824 → cs.length = n * z →
    (∀ (j : Nat) (v : Value), cs[j]? = some v → w.cell? ⟨b, off + j, none⟩ = some v) → (∀ j, w.frozen? ⟨b, j, none⟩ = false) → (∀ v ∈ cs, v.oneCell' = true) →
    Calls P f #[.slice (some ⟨b, off, none⟩) n c, .int .i64 i, .int .i64 j] w fun e w' =>
      e = .returned (.slice (some ⟨b, off, none⟩) (n - (j - i)) c) ∧ ∃ (d1 : Nat) (zs : List Value), zs.length = (j - i) * z ∧ (∀ v ∈ zs, v.oneCell' = true) ∧
      w' = ((({ w with drawn := d1 } : World)).setCells b (off + i * z) (cs.drop (j * z))).setCells b (off + (n - (j - i)) * z) zs
theorem setCells_at (P : Program) {w : World} {b o : Nat} {c : Array Value} {e : TypeId} {vs : List Value} (h : w.heap[b]? = some (.cells c e (0, 0))) (hsz : o + vs.length ≤ c.size) (h1 : ∀ v ∈ vs, v.oneCell' = true) :
    ∃ c2, (w.setCells b o vs).heap[b]? = some (.cells c2 e (0, 0)) ∧ c2.size = c.size ∧ Turn b w (w.setCells b o vs) ∧ (∀ B : Nat → Prop, ¬ B b → Kept B w (w.setCells b o vs)) ∧
      (∀ k, k < o → c2[k]? = c[k]?) ∧ (∀ k, k < vs.length → c2[o + k]? = vs[k]?) ∧ ∀ k, o + vs.length ≤ k → c2[k]? = c[k]? := by
  have a := run_storeCells_at P b o e vs 0 c w h (by omega) h1
  have hcell : ∀ j, j < vs.length → (w.cell? ⟨b, o + 0 + j, none⟩).isSome = true := fun j hj => by
    simp [World.cell?, h]; omega
  have hfz : ∀ j, j < vs.length → w.frozen? ⟨b, o + 0 + j, none⟩ = false := fun j hj => by simp [World.frozen?, h]
  have b' := run_storeCells_cells (P := P) b o vs 0 w hcell hfz h1
  rw [a] at b'
  have e1 : w.setCells b o vs = w.setRow b (c.toList.take o ++ vs ++ c.toList.drop (o + vs.length)).toArray := by
    simpa using b'.symm
  rw [e1]
  have hcl : c.toList.length = c.size := Array.length_toList
  have htk : (c.toList.take o).length = o := by rw [List.length_take, hcl]; omega
  refine ⟨_, setRow_heap w b c _ e (0, 0) h, by rw [List.size_toArray, List.length_append, List.length_append, htk, List.length_drop, hcl]; omega, turn_setRow w b _, fun B hB => below_setRow w _ hB, fun k hk => ?_, fun k hk => ?_, fun k hk => ?_⟩
  · simp only [List.getElem?_toArray]
    rw [List.append_assoc, List.getElem?_append_left (by omega), List.getElem?_take_of_lt hk]; simp
  · simp only [List.getElem?_toArray]
    rw [List.append_assoc, List.getElem?_append_right (by omega), htk, Nat.add_sub_cancel_left, List.getElem?_append_left hk]
  · simp only [List.getElem?_toArray]
    rw [List.getElem?_append_right (by rw [List.length_append, htk]; omega), List.length_append, htk, List.getElem?_drop]
    have : o + vs.length + (k - (o + vs.length)) = k := by omega
    rw [this]; simp
section
variable {P : Program} {cx : Cx} {B : Nat → Prop} {X : Nat → Prop} {S : St} {w : World} {β : Nat → Nat} {α : Nat → Value} {M : Nat → Prop}
theorem DR.take {z i : Nat} {l : List Value} {rows : List (List V)} (h : DR cx w X z l rows) (hi : i ≤ rows.length) : DR cx w X z (l.take (i * z)) (rows.take i) := by
  have hle : i * z ≤ rows.length * z := Nat.mul_le_mul_right z hi
  refine ⟨by rw [List.length_take, h.1, List.length_take, Nat.min_eq_left hle, Nat.min_eq_left hi], fun k hk => ?_, fun k j hk hj => ?_⟩
  · have hk' : k < i := by simp at hk; omega
    have := h.2.1 k (by omega)
    simpa [gr, List.getD_eq_getElem?_getD, List.getElem?_take_of_lt hk'] using this
  · have hk' : k < i := by simp at hk; omega
    obtain ⟨u, a, b, c⟩ := h.2.2 k j (by omega) hj
    exact ⟨u, by rw [List.getElem?_take_of_lt (idx_lt hk' hj)]; exact a, b, by simpa [gr, List.getD_eq_getElem?_getD, List.getElem?_take_of_lt hk'] using c⟩
theorem DR.drop {z i : Nat} {l : List Value} {rows : List (List V)} (h : DR cx w X z l rows) (hi : i ≤ rows.length) : DR cx w X z (l.drop (i * z)) (rows.drop i) := by
  refine ⟨by rw [List.length_drop, h.1, List.length_drop, Nat.sub_mul], fun k hk => ?_, fun k j hk hj => ?_⟩
  · have := h.2.1 (i + k) (by simp at hk; omega)
    simpa [gr, List.getD_eq_getElem?_getD, List.getElem?_drop] using this
  · obtain ⟨u, a, b, c⟩ := h.2.2 (i + k) j (by simp at hk; omega) hj
    refine ⟨u, ?_, b, by simpa [gr, List.getD_eq_getElem?_getD, List.getElem?_drop] using c⟩
    rw [List.getElem?_drop, ← a]; congr 1; rw [Nat.add_mul]; omega
theorem RelW.delArr (h : RelW cx B X S w β α M) {s d z b0 : Nat} {rows rows' : List (List V)} {v' : Value} {w' : World} (hs : S.A s = some (z, rows, .live)) (hd : S.A d = none)
    (hg : Turn b0 w w') (hb0 : hdr (α s) = some b0) (hv : hdr v' = some b0) (ha : ArrOK cx w' (orP X M) v' z rows') :
    RelW cx B X { S with A := upd (upd S.A s (some (z, [], .dead))) d (some (z, rows', .live)) } w' β (upd α d v') M ∧ (∀ u x, RelD cx w (orP X M) u x → RelD cx w' (orP X M) u x) ∧
      ATr S { S with A := upd (upd S.A s (some (z, [], .dead))) d (some (z, rows', .live)) } α (upd α d v') := by
  obtain ⟨p1, p2⟩ := h.arr s z rows .live hs (by simp)
  have hM : M b0 := (p2 b0 hb0).2.1 rfl
  have hsd : s ≠ d := fun e => by rw [e, hd] at hs; simp at hs
  have hD : ∀ u x, RelD cx w (orP X M) u x → RelD cx w' (orP X M) u x := fun _ _ hr => turn_D hg hM hr
  have hT : ATr S { S with A := upd (upd S.A s (some (z, [], .dead))) d (some (z, rows', .live)) } α (upd α d v') := fun t z1 r f ht => by
    have htd : t ≠ d := fun e => by rw [e, hd] at ht; simp at ht
    by_cases e : t = s
    · subst e
      rw [hs] at ht
      simp only [Option.some.injEq, Prod.mk.injEq] at ht
      obtain ⟨rfl, rfl, rfl⟩ := ht
      exact ⟨[], .dead, by simp [upd, htd], fun h => absurd rfl h⟩
    · exact ⟨r, f, by simp [upd, htd, e, ht], fun h => ⟨h, Nat.le_refl _, fun _ => by simp [upd, htd]⟩⟩
  have keep : ∀ t, (S.μ t).isSome → β t ≠ b0 := fun t ht e => h.arrVar s z rows .live t hs (by simp) ht (by rw [hb0, e])
  have old : ∀ t z1 r f, t ≠ d → (upd (upd S.A s (some (z, [], .dead))) d (some (z, rows', .live))) t = some (z1, r, f) → f ≠ .dead → S.A t = some (z1, r, f) ∧ t ≠ s := fun t z1 r f htd ht hf => by
    by_cases e : t = s
    · subst e
      simp only [upd, if_neg htd, if_true, Option.some.injEq, Prod.mk.injEq] at ht
      exact absurd ht.2.2.symm hf
    · simp only [upd, if_neg htd, if_neg e] at ht
      exact ⟨ht, e⟩
  refine ⟨⟨h.xb, ⟨h.glob.1, cx.Gst w w' h.glob.2 fun b hb => hg.block b (fun e => (h.m _ hM).1 (e ▸ h.glob.1 b hb))⟩, by rw [hg.size]; exact h.size, fun b hb => by rw [hg.size]; exact h.m b hb, fun t ct f ht => ?_, h.varInj, fun t z' r f ht hf => ?_, fun t t' z1 r1 f1 z2 r2 f2 ht hf ht' hf' b hb hb' => ?_, fun t z' r f t' ht hf ht' => ?_⟩, hD, hT⟩
  · obtain ⟨a1, a2, a3, c', e'', a4, a5, a6⟩ := h.var t ct f ht
    refine ⟨a1, a2, a3, c', e'', (hg.block _ (keep t (Option.isSome_iff_exists.2 ⟨_, ht⟩))).trans a4, a5, fun i hi => ?_⟩
    obtain ⟨u, b1, b2, b3⟩ := a6 i hi
    exact ⟨u, b1, b2, b3.tr hD hT⟩
  · by_cases e : t = d
    · subst e
      simp only [upd, if_true, Option.some.injEq, Prod.mk.injEq] at ht ⊢
      obtain ⟨rfl, rfl, rfl⟩ := ht
      refine ⟨ha, fun b hb => ?_⟩
      rw [hv] at hb
      simp only [Option.some.injEq] at hb
      subst hb
      exact ⟨(p2 b0 hb0).1, fun _ => hM, fun hf => by simp at hf⟩
    · obtain ⟨ht, es⟩ := old t z' r f e ht hf
      obtain ⟨a1, a2⟩ := h.arr t z' r f ht hf
      have : upd α d v' t = α t := by simp [upd, e]
      rw [this]
      exact ⟨a1.tr hD (fun b hb => hg.block b (fun e' => es (h.arrInj t s z' r f z rows .live ht hf hs (by simp) b hb (by rw [hb0, e'])))), a2⟩
  · have other : ∀ t z1 r1 f1, t ≠ d → S.A t = some (z1, r1, f1) → t ≠ s → f1 ≠ .dead → hdr (α t) = some b → hdr v' = some b → False := fun t z1 r1 f1 hne ht hs' hf hb hv' => by
      rw [hv] at hv'
      simp only [Option.some.injEq] at hv'
      subst hv'
      exact hs' (h.arrInj t s z1 r1 f1 z rows .live ht hf hs (by simp) b0 hb hb0)
    by_cases e1 : t = d <;> by_cases e2 : t' = d
    · rw [e1, e2]
    · obtain ⟨q1, q2⟩ := old t' z2 r2 f2 e2 ht' hf'
      simp only [upd, e1, if_true] at hb
      simp only [upd, e2, if_false] at hb'
      exact (other t' z2 r2 f2 e2 q1 q2 hf' hb' hb).elim
    · obtain ⟨q1, q2⟩ := old t z1 r1 f1 e1 ht hf
      simp only [upd, e2, if_true] at hb'
      simp only [upd, e1, if_false] at hb
      exact (other t z1 r1 f1 e1 q1 q2 hf hb hb').elim
    · obtain ⟨q1, q2⟩ := old t z1 r1 f1 e1 ht hf
      obtain ⟨q3, q4⟩ := old t' z2 r2 f2 e2 ht' hf'
      simp only [upd, e1, e2, if_false] at hb hb'
      exact h.arrInj t t' z1 r1 f1 z2 r2 f2 q1 hf q3 hf' b hb hb'
  · by_cases e : t = d
    · subst e
      simp only [upd, if_true]
      rw [hv]
      intro hb
      simp only [Option.some.injEq] at hb
      exact keep t' ht' hb.symm
    · obtain ⟨q1, q2⟩ := old t z' r f e ht hf
      have : upd α d v' t = α t := by simp [upd, e]
      rw [this]
      exact h.arrVar t z' r f t' q1 hf ht'
end
end Sg
namespace Sg
open Go Go.RowKit
set_option linter.unusedSimpArgs false
set_option linter.unusedVariables false
section
variable {P : Program} {cx : Cx} {B : Nat → Prop} {X : Nat → Prop} {S : St} {w : World} {β : Nat → Nat} {α : Nat → Value} {M : Nat → Prop}
theorem cell_in {w : World} {b : Nat} {c : Array Value} {e : TypeId} {fr : Nat × Nat} (h : w.heap[b]? = some (.cells c e fr)) (k : Nat) : w.cell? ⟨b, k, none⟩ = c[k]? := by
  simp [World.cell?, h]
theorem ins_ok {f tS el : Nat} {z : Nat} (hI : InsC P f z tS el) (h : RelW cx B X S w β α M) {s n k : Nat} {rows ys : List (List V)} {v u : Value}
    (hA : S.A s = some (z, rows, .live)) (hn : rows.length = n) (hk : k ≤ n) (hlim : rows.length + ys.length ≤ lim)
    (hx : RelT cx w (orP X M) S β α v (.own s z n)) (hy : RelT cx w (orP X M) S β α u (.slice z ys)) :
    Calls P f #[v, .int .i64 k, u] w fun e w1 => ∃ q, e = .returned q ∧
      OpPost cx B X S w β α M { S with A := upd S.A s (some (z, rows.take k ++ (ys ++ rows.drop k), .live)) } (.own s z (rows.length + ys.length)) q w1 := by
  have hy0 := hy
  obtain ⟨rows', f', a, cap, hA', rfl, ha, ho⟩ := hx
  rw [hA] at hA'
  simp only [Option.some.injEq, Prod.mk.injEq] at hA'
  obtain ⟨-, rfl, rfl⟩ := hA'
  have hα := (ho (by simp)).2 hn
  obtain ⟨p1, p2⟩ := h.arr s z rows .live hA (by simp)
  obtain ⟨lx, hdx, -, hat⟩ := p1.cells hI.pos
  subst hn
  rw [← hα] at p1 hat
  have hcapn : rows.length ≤ cap ∧ (a = none → rows.length = 0) := by
    rcases p1.at_ with ⟨h1, h2⟩ | ⟨b, o, cap', c, el', h1, h2, h3, h4, h5⟩
    · simp only [Value.slice.injEq] at h1
      subst h2
      exact ⟨by simp, fun _ => rfl⟩
    · simp only [Value.slice.injEq] at h1
      obtain ⟨rfl, -, rfl⟩ := h1
      exact ⟨h3, fun e => by simp at e⟩
  have hlim' : rows.length + ys.length ≤ 1073741824 := hlim
  simp only [RelT] at hy
  have hyl : ∃ vb vc, u = .slice vb ys.length vc := by
    rcases slice_inv hy with ⟨⟨a0, rfl⟩, rfl⟩ | ⟨b, o, vc, c, e', fr, rfl, -⟩
    · exact ⟨a0, 0, rfl⟩
    · exact ⟨_, _, rfl⟩
  rcases Nat.eq_zero_or_pos ys.length with hz | hpos
  · -- nothing
    have hy0 : ys = [] := List.eq_nil_of_length_eq_zero hz
    subst hy0
    obtain ⟨vb, vc, rfl⟩ := hyl
    refine (hI.nothing a rows.length cap k vc vb w hcapn.1 hk hcapn.2).mono ?_
    rintro e w1 ⟨rfl, rfl⟩
    refine ⟨_, rfl, ?_⟩
    have : S = { S with A := upd S.A s (some (z, rows.take k ++ ([] ++ rows.drop k), .live)) } := by
      have : upd S.A s (some (z, rows.take k ++ ([] ++ rows.drop k), .live)) = S.A := by
        funext t; simp only [upd]; split
        · rename_i e; rw [e, hA]; simp
        · rfl
      rw [this]
    rw [← this]
    exact .pure h ⟨rows, .live, a, cap, hA, rfl, ha, ho⟩
  · by_cases hend : k = rows.length
    · -- at the end
      obtain ⟨ie, zv, hie, hb2, hzv, hzz⟩ := hI.info
      have hev : appV S s z (.own s z rows.length) (.slice z ys) = some (.own s z (rows.length + ys.length), { S with A := upd S.A s (some (z, rows ++ ys, .live)) }) := by
        simp only [appV, and_self, if_true, hA, V.rowsOf, Option.bind_some]
        rw [if_pos hlim]
      have hxx : RelT cx w (orP X M) S β α (.slice a rows.length cap) (.own s z rows.length) := ⟨rows, .live, a, cap, hA, rfl, ha, ho⟩
      obtain ⟨q, w', hrun, hpost⟩ := app_ok (P := P) (t' := tS) (ty := tS) h hxx hy0 hI.hS hI.hz hie hb2 hzv hzz hI.pos (by simp [okAppT, hI.hS]) hev
      obtain ⟨vb, vc, rfl⟩ := hyl
      subst hend
      refine (hI.end_ a rows.length cap ys.length vc vb w w' q hpos hcapn.1 hlim' hcapn.2 hrun).mono ?_
      rintro e w1 ⟨rfl, rfl⟩
      refine ⟨q, rfl, ?_⟩
      rw [List.take_length, List.drop_length, List.append_nil]
      exact hpost
    · have hlt : k < rows.length := by omega
      rcases p1.at_ with ⟨h1, h2⟩ | ⟨b, o, cap', c, el', h1, h2, h3, h4, h5⟩
      · subst h2; simp at hlt
      simp only [Value.slice.injEq] at h1
      obtain ⟨rfl, -, rfl⟩ := h1
      have hM : M b := (p2 b (by rw [← hα]; rfl)).2.1 rfl
      rcases slice_inv hy with ⟨⟨a0, rfl⟩, rfl⟩ | ⟨vb, vo, vc, cv, ev', fr, rfl, hvb, hvX, hvw, hvcap, hzz, hcc⟩
      · simp at hpos
      have hne : ys ≠ [] := fun e => by rw [e] at hpos; simp at hpos
      have hvsz := (DR.of_cells hzz hcc hI.pos).resolve_right hne
      have hdr := DR.seg hvsz hzz hcc
      generalize hly : (cv.toList.drop vo).take (ys.length * z) = ly at hdr
      have hvb' : vb ≠ b := fun e => hvX (.inr (e ▸ hM))
      have hlx := hat b o _ _ c el' rfl h2
      have hcs : ∀ (j : Nat) (v : Value), lx[j]? = some v → w.cell? ⟨b, o + j, none⟩ = some v := fun j v hj => by
        have hjl : j < lx.length := by
          rcases Nat.lt_or_ge j lx.length with h' | h'
          · exact h'
          · rw [List.getElem?_eq_none h'] at hj; simp at hj
        rw [cell_in h2, hlx j hjl, hj]
      have hvs : ∀ (j : Nat) (v : Value), ly[j]? = some v → w.cell? ⟨vb, vo + j, none⟩ = some v := fun j v hj => by
        have hjl : j < ly.length := by
          rcases Nat.lt_or_ge j ly.length with h' | h'
          · exact h'
          · rw [List.getElem?_eq_none h'] at hj; simp at hj
        rw [hdr.1] at hjl
        rw [cell_in hvw, ← hj, ← hly, List.getElem?_take_of_lt hjl, List.getElem?_drop]; simp
      have hfz : ∀ j, w.frozen? ⟨b, j, none⟩ = false := fun j => by simp [World.frozen?, h2]
      have e1 : lx.length = rows.length * z := hdx.1
      have e2 : ly.length = ys.length * z := hdr.1
      have o1 := hdx.one hI.pos
      have o2 := hdr.one hI.pos
      have hkz : k * z ≤ rows.length * z := Nat.mul_le_mul_right z (by omega)
      have e3 : (lx.drop (k * z)).length = rows.length * z - k * z := by rw [List.length_drop, e1]
      have e4 : (k + ys.length) * z = k * z + ys.length * z := Nat.add_mul ..
      have e5 : (rows.length + ys.length) * z = rows.length * z + ys.length * z := Nat.add_mul ..
      have e6 : (lx.take (k * z)).length = k * z := by rw [List.length_take, e1]; omega
      have o3 : ∀ v ∈ lx.drop (k * z), v.oneCell' = true := fun v hv => o1 v (List.mem_of_mem_drop hv)
      -- the cells of the new row
      have content : ∀ (c3 : Array Value) (O : Nat), (∀ t, t < k * z → c3[O + t]? = lx[t]?) → (∀ t, t < ly.length → c3[O + k * z + t]? = ly[t]?) → (∀ t, t < (lx.drop (k * z)).length → c3[O + (k + ys.length) * z + t]? = (lx.drop (k * z))[t]?) →
          ∀ t, t < (lx.take (k * z) ++ (ly ++ lx.drop (k * z))).length → c3[O + t]? = (lx.take (k * z) ++ (ly ++ lx.drop (k * z)))[t]? := by
        intro c3 O q1 q2 q3 t ht
        rw [List.length_append, List.length_append, e6, e2, e3] at ht
        rcases Nat.lt_or_ge t (k * z) with t1 | t1
        · rw [List.getElem?_append_left (by omega), List.getElem?_take_of_lt t1]; exact q1 t t1
        · rw [List.getElem?_append_right (by omega), e6]
          rcases Nat.lt_or_ge (t - k * z) (ly.length) with t2 | t2
          · rw [List.getElem?_append_left t2, ← q2 _ t2]; congr 1; omega
          · rw [List.getElem?_append_right t2, ← q3 _ (by omega)]; congr 1; omega
      by_cases hfit : rows.length + ys.length ≤ cap
      · -- in place
        have hcz : (rows.length + ys.length) * z ≤ cap * z := Nat.mul_le_mul_right z hfit
        have hc := hI.shift b o rows.length cap k vb vo ys.length vc lx ly w hlt hpos hfit hlim' hvb' e1 e2 hcs (fun j hj => by
          rw [cell_in h2, Array.getElem?_eq_getElem (by omega)]; rfl) hfz hvs o1 o2 ev' el' cv.size c.size (by simp [World.shape?, hvw]) (by simp [World.shape?, h2]) (by
            have := Nat.le_mul_of_pos_left z hpos
            have := hI.pos; omega)
        refine hc.mono ?_
        rintro e w1 ⟨rfl, rfl⟩
        refine ⟨_, rfl, ?_⟩
        obtain ⟨c2, s1, s2, s3, s4, s5, s6, s7⟩ := setCells_at P (w := w.drew) (b := b) (o := o + (k + ys.length) * z) (vs := lx.drop (k * z)) h2 (by rw [e3]; omega) o3
        obtain ⟨c3, t1, t2, t3, t4, t5, t6, t7⟩ := setCells_at P (b := b) (o := o + k * z) (vs := ly) s1 (by omega) o2
        generalize (w.drew.setCells b (o + (k + ys.length) * z) (lx.drop (k * z))).setCells b (o + k * z) ly = w2 at t1 t3 t4 ⊢
        generalize w.drew.setCells b (o + (k + ys.length) * z) (lx.drop (k * z)) = w3 at s1 s3 s4 t3 t4 ⊢
        have hT : Turn b w w2 := ⟨t3.size.trans s3.size, fun b' hb' => (t3.block b' hb').trans (s3.block b' hb')⟩
        have hBb : ¬ B b := (p2 b (by rw [← hα]; rfl)).1
        have hbel : Kept B w w2 := by
          have q1 := s4 B hBb
          have q2 := t4 B hBb
          exact ⟨q2.os.trans q1.os, q2.tape.trans q1.tape, q2.output.trans q1.output, Nat.le_trans q1.size q2.size, fun k hk => (q2.block k hk).trans (q1.block k hk)⟩
        have hD : ∀ u x, RelD cx w (orP X M) u x → RelD cx w2 (orP X M) u x := fun _ _ hr => turn_D hT hM hr
        have hall : DR cx w2 (orP X M) z (lx.take (k * z) ++ (ly ++ lx.drop (k * z))) (rows.take k ++ (ys ++ rows.drop k)) := ((hdx.take hk).append (hdr.append (hdx.drop hk))).mono hD
        have hlen : (rows.take k ++ (ys ++ rows.drop k)).length = rows.length + ys.length := by simp; omega
        have harr : ArrOK cx w2 (orP X M) (.slice (some ⟨b, o, none⟩) (rows.length + ys.length) cap) z (rows.take k ++ (ys ++ rows.drop k)) := by
          refine ArrOK.of_DR t1 hall (content c3 o (fun t ht => ?_) (fun t ht => t6 t ht) (fun t ht => ?_)) (by rw [hlen]; exact hfit) (by rw [t2, s2]; exact h4) hlen
          · rw [t5 _ (by omega), s5 _ (by omega)]; exact hlx t (by omega)
          · rw [t7 _ (by omega)]; exact s6 t ht
        have hsame : (rows.take k ++ (ys ++ rows.drop k)).length = rows.length → (Value.slice (some ⟨b, o, none⟩) (rows.length + ys.length) cap) = α s := fun e' => by rw [hlen] at e'; omega
        obtain ⟨hsa, hD'⟩ := h.setArr (M' := M) (rows' := rows.take k ++ (ys ++ rows.drop k)) (v' := .slice (some ⟨b, o, none⟩) (rows.length + ys.length) cap) hA
          (fun b' hb' _ => hT.block b' (fun e' => hb' (by rw [← hα, e']; rfl))) (by rw [hT.size]; exact Nat.le_refl _) (.inl (by rw [← hα]; rfl)) (by rw [hlen]; omega) hsame
          (fun _ hb => hb) (fun _ hb => .inl hb) (fun b' hb' => by simp only [Sg.hdr, Option.some.injEq] at hb'; subst hb'; exact hM) harr
        exact ⟨β, _, M, hsa, fun u' x' hu' => RelT.tr hD' (atr_set hA (by rw [hlen]; omega) hsame) (fun s hs => ⟨hs, rfl⟩) hu', own_mk hlen, hbel⟩
      · -- a new row
        have hc := hI.grow b o rows.length cap k vb vo ys.length vc lx ly w hlt hpos h3 (by omega) hlim' e1 e2 (lt_of_some h2) hvb hcs hvs o1 o2
        refine hc.mono ?_
        rintro e w1 ⟨G, ROW, d1, g1, g2, g3, g4, rfl, rfl⟩
        refine ⟨_, rfl, ?_⟩
        have hW0 : (({ w with drawn := d1 } : World).alloc (.cells ROW el)).heap[w.heap.size]? = some (.cells ROW el (0, 0)) := by simp [World.alloc]
        have hGr0 : Grow w (({ w with drawn := d1 } : World).alloc (.cells ROW el)) := ⟨by simp [World.alloc], fun b hb => by simp [World.alloc, Array.getElem?_push, Nat.ne_of_lt hb]⟩
        have hW0s : (({ w with drawn := d1 } : World).alloc (.cells ROW el)).heap.size = w.heap.size + 1 := by simp [World.alloc]
        have hW0b : Kept B w (({ w with drawn := d1 } : World).alloc (.cells ROW el)) := ⟨rfl, rfl, rfl, hGr0.size, fun k hk => hGr0.block k (h.size k hk)⟩
        generalize (({ w with drawn := d1 } : World).alloc (.cells ROW el)) = w0 at hW0 hGr0 hW0s hW0b ⊢
        obtain ⟨c2, s1, s2, s3, s4, s5, s6, s7⟩ := setCells_at P (b := w.heap.size) (o := k * z) (vs := ly) hW0 (by omega) o2
        obtain ⟨c3, t1, t2, t3, t4, t5, t6, t7⟩ := setCells_at P (b := w.heap.size) (o := (k + ys.length) * z) (vs := lx.drop (k * z)) s1 (by rw [e3]; omega) o3
        generalize (w0.setCells w.heap.size (k * z) ly).setCells w.heap.size ((k + ys.length) * z) (lx.drop (k * z)) = w2 at t1 t3 t4 ⊢
        generalize w0.setCells w.heap.size (k * z) ly = w3 at s1 s3 s4 t3 t4 ⊢
        have hsz2 : w2.heap.size = w.heap.size + 1 := by rw [t3.size, s3.size, hW0s]
        have hg : Grow w w2 := ⟨by omega, fun b hb => by rw [t3.block b (by omega), s3.block b (by omega)]; exact hGr0.block b hb⟩
        have hlt2 : w.heap.size < w2.heap.size := by omega
        have hbel : Kept B w w2 := by
          have hnB : ¬ B w.heap.size := fun hB => Nat.lt_irrefl _ (h.size _ hB)
          have q1 := s4 B hnB
          have q2 := t4 B hnB
          exact ⟨q2.os.trans (q1.os.trans hW0b.os), q2.tape.trans (q1.tape.trans hW0b.tape), q2.output.trans (q1.output.trans hW0b.output), hg.size, fun k hk => hg.block k (h.size k hk)⟩
        have h2' : ∀ b, (M b ∨ b = w.heap.size) → M b ∨ (w.heap.size ≤ b ∧ b < w2.heap.size) := fun b hb => by
          rcases hb with hb | hb
          · exact .inl hb
          · subst hb; exact .inr ⟨Nat.le_refl _, hlt2⟩
        have hD : ∀ u x, RelD cx w (orP X M) u x → RelD cx w2 (orP X (fun b => M b ∨ b = w.heap.size)) u x := fun _ _ hr => grow_D hg (fun b hb => (h2' b hb).imp id (·.1)) hr
        have hall : DR cx w2 (orP X (fun b => M b ∨ b = w.heap.size)) z (lx.take (k * z) ++ (ly ++ lx.drop (k * z))) (rows.take k ++ (ys ++ rows.drop k)) := ((hdx.take hk).append (hdr.append (hdx.drop hk))).mono hD
        have hlen : (rows.take k ++ (ys ++ rows.drop k)).length = rows.length + ys.length := by simp; omega
        have harr : ArrOK cx w2 (orP X (fun b => M b ∨ b = w.heap.size)) (.slice (some ⟨w.heap.size, 0, none⟩) (rows.length + ys.length) G) z (rows.take k ++ (ys ++ rows.drop k)) := by
          refine ArrOK.of_DR t1 hall (content c3 0 (fun t ht => ?_) (fun t ht => ?_) (fun t ht => ?_)) (by rw [hlen]; exact g1) (by rw [t2, s2, g3]; omega) hlen
          · rw [Nat.zero_add, t5 _ (by omega), s5 _ (by omega)]
            have hlt' : t < lx.length := by omega
            rw [List.getElem?_eq_getElem hlt']
            refine g4 t _ ?_
            rw [List.getElem?_take_of_lt ht, List.getElem?_eq_getElem hlt']
          · rw [Nat.zero_add, t5 _ (by omega)]; exact s6 t ht
          · rw [Nat.zero_add]; exact t6 t ht
        have hsame : (rows.take k ++ (ys ++ rows.drop k)).length = rows.length → (Value.slice (some ⟨w.heap.size, 0, none⟩) (rows.length + ys.length) G) = α s := fun e' => by rw [hlen] at e'; omega
        obtain ⟨hsa, hD'⟩ := h.setArr (M' := fun b => M b ∨ b = w.heap.size) (rows' := rows.take k ++ (ys ++ rows.drop k)) (v' := .slice (some ⟨w.heap.size, 0, none⟩) (rows.length + ys.length) G) hA
          (fun b' _ hb' => hg.block b' hb') hg.size (.inr ⟨w.heap.size, rfl, Nat.le_refl _, hlt2⟩) (by rw [hlen]; omega) hsame
          (fun _ hb => .inl hb) h2' (fun b' hb' => by simp only [Sg.hdr, Option.some.injEq] at hb'; exact .inr hb'.symm) harr
        exact ⟨β, _, _, hsa, fun u' x' hu' => RelT.tr hD' (atr_set hA (by rw [hlen]; omega) hsame) (fun s hs => ⟨hs, rfl⟩) hu', own_mk hlen, hbel⟩
theorem own_mk2 {s d z n : Nat} {rows : List (List V)} {v' : Value} {b o cap : Nat} (hv : v' = .slice (some ⟨b, o, none⟩) n cap) (hn : rows.length = n) :
    RelO { S with A := upd (upd S.A s (some (z, [], .dead))) d (some (z, rows, .live)) } (upd α d v') v' d z n :=
  ⟨rows, .live, some ⟨b, o, none⟩, cap, by simp [upd], hv, fun _ => ⟨b, o, rfl⟩, fun _ => ⟨by omega, fun _ => by simp [upd]⟩⟩
theorem del_ok {f : Nat} {z : Nat} (hI : DelC P f z) (h : RelW cx B X S w β α M) {s d n k m : Nat} {rows : List (List V)} {v : Value}
    (hA : S.A s = some (z, rows, .live)) (hd : S.A d = none) (hn : rows.length = n) (hk : k ≤ m) (hm : m ≤ n) (hlim : n ≤ lim)
    (hx : RelT cx w (orP X M) S β α v (.own s z n)) :
    Calls P f #[v, .int .i64 k, .int .i64 m] w fun e w1 => ∃ q, e = .returned q ∧
      OpPost cx B X S w β α M { S with A := upd (upd S.A s (some (z, [], .dead))) d (some (z, rows.take k ++ rows.drop m, .live)) } (.own d z (rows.take k ++ rows.drop m).length) q w1 := by
  obtain ⟨rows', f', a, cap, hA', rfl, ha, ho⟩ := hx
  rw [hA] at hA'
  simp only [Option.some.injEq, Prod.mk.injEq] at hA'
  obtain ⟨-, rfl, rfl⟩ := hA'
  have hα := (ho (by simp)).2 hn
  obtain ⟨p1, p2⟩ := h.arr s z rows .live hA (by simp)
  obtain ⟨lx, hdx, -, hat⟩ := p1.cells hI.pos
  subst hn
  rw [← hα] at p1 hat
  have hlen : (rows.take k ++ rows.drop m).length = rows.length - (m - k) := by simp; omega
  rcases p1.at_ with ⟨h1, h2⟩ | ⟨b, o, cap', c, el', h1, h2, h3, h4, h5⟩
  · -- nil
    simp only [Value.slice.injEq] at h1
    obtain ⟨rfl, -, rfl⟩ := h1
    subst h2
    have hm0 : m = 0 := by simpa using hm
    have hk0 : k = 0 := by omega
    subst hm0; subst hk0
    refine (hI.nothing none 0 0 0 w (by omega) (by omega) (fun _ => rfl)).mono ?_
    rintro e w1 ⟨rfl, rfl⟩
    refine ⟨_, rfl, ?_⟩
    -- the array under its new name
    have hT : ATr S { S with A := upd (upd S.A s (some (z, [], .dead))) d (some (z, List.take 0 [] ++ List.drop 0 [], .live)) } α (upd α d (.slice none 0 0)) := fun t z1 r f ht => by
      have htd : t ≠ d := fun e => by rw [e, hd] at ht; simp at ht
      by_cases e : t = s
      · subst e
        rw [hA] at ht
        simp only [Option.some.injEq, Prod.mk.injEq] at ht
        obtain ⟨rfl, rfl, rfl⟩ := ht
        exact ⟨[], .dead, by simp [upd, htd], fun h => absurd rfl h⟩
      · exact ⟨r, f, by simp [upd, htd, e, ht], fun h => ⟨h, Nat.le_refl _, fun _ => by simp [upd, htd]⟩⟩
    have old : ∀ t z1 r f, t ≠ d → (upd (upd S.A s (some (z, [], .dead))) d (some (z, List.take 0 [] ++ List.drop 0 [], .live))) t = some (z1, r, f) → f ≠ .dead → S.A t = some (z1, r, f) ∧ t ≠ s := fun t z1 r f htd ht hf => by
      by_cases e : t = s
      · subst e
        simp only [upd, if_neg htd, if_true, Option.some.injEq, Prod.mk.injEq] at ht
        exact absurd ht.2.2.symm hf
      · simp only [upd, if_neg htd, if_neg e] at ht
        exact ⟨ht, e⟩
    refine ⟨β, upd α d (.slice none 0 0), M, ⟨h.xb, h.glob, h.size, h.m, fun t ct f ht => ?_, h.varInj, fun t z' r f ht hf => ?_, fun t t' z1 r1 f1 z2 r2 f2 ht hf ht' hf' b hb hb' => ?_, fun t z' r f t' ht hf ht' => ?_⟩,
      fun u' x' hu' => RelT.tr (fun _ _ hr => hr) hT (fun s hs => ⟨hs, rfl⟩) hu', ⟨[], .live, none, 0, by simp [upd], rfl, fun e => absurd rfl e, fun _ => ⟨by simp, fun _ => by simp [upd]⟩⟩, Kept.refl _ _⟩
    · obtain ⟨a1, a2, a3, c', e'', a4, a5, a6⟩ := h.var t ct f ht
      refine ⟨a1, a2, a3, c', e'', a4, a5, fun i hi => ?_⟩
      obtain ⟨u, b1, b2, b3⟩ := a6 i hi
      exact ⟨u, b1, b2, b3.tr (fun _ _ hr => hr) hT⟩
    · by_cases e : t = d
      · subst e
        simp only [upd, if_true, Option.some.injEq, Prod.mk.injEq] at ht ⊢
        obtain ⟨rfl, rfl, rfl⟩ := ht
        exact ⟨⟨fun i hi => by simp at hi, .inl ⟨rfl, rfl⟩⟩, fun b hb => by simp [hdr] at hb⟩
      · obtain ⟨q1, q2⟩ := old t z' r f e ht hf
        have : upd α d (Value.slice none 0 0) t = α t := by simp [upd, e]
        rw [this]
        exact h.arr t z' r f q1 hf
    · by_cases e1 : t = d
      · simp [upd, e1, hdr] at hb
      · by_cases e2 : t' = d
        · simp [upd, e2, hdr] at hb'
        · obtain ⟨q1, q2⟩ := old t z1 r1 f1 e1 ht hf
          obtain ⟨q3, q4⟩ := old t' z2 r2 f2 e2 ht' hf'
          simp only [upd, e1, e2, if_false] at hb hb'
          exact h.arrInj t t' z1 r1 f1 z2 r2 f2 q1 hf q3 hf' b hb hb'
    · by_cases e : t = d
      · simp [upd, e, hdr]
      · obtain ⟨q1, q2⟩ := old t z' r f e ht hf
        have : upd α d (Value.slice none 0 0) t = α t := by simp [upd, e]
        rw [this]
        exact h.arrVar t z' r f t' q1 hf ht'
  simp only [Value.slice.injEq] at h1
  obtain ⟨rfl, -, rfl⟩ := h1
  have hM : M b := (p2 b (by rw [← hα]; rfl)).2.1 rfl
  have hBb : ¬ B b := (p2 b (by rw [← hα]; rfl)).1
  have hb0 : hdr (α s) = some b := by rw [← hα]; rfl
  have hlx := hat b o _ _ c el' rfl h2
  have e1 : lx.length = rows.length * z := hdx.1
  have o1 := hdx.one hI.pos
  by_cases hkm : k = m
  · subst hkm
    refine (hI.nothing (some ⟨b, o, none⟩) rows.length cap k w h3 hm (fun e => by simp at e)).mono ?_
    rintro e w1 ⟨rfl, rfl⟩
    refine ⟨_, rfl, ?_⟩
    have hrr : rows.take k ++ rows.drop k = rows := List.take_append_drop k rows
    rw [hrr]
    obtain ⟨hsa, hD', hT⟩ := h.delArr (d := d) (v' := .slice (some ⟨b, o, none⟩) rows.length cap) hA hd (w' := w1) ⟨rfl, fun _ _ => rfl⟩ hb0 rfl p1
    exact ⟨β, _, M, hsa, fun u' x' hu' => RelT.tr hD' hT (fun s hs => ⟨hs, rfl⟩) hu', own_mk2 rfl rfl, Kept.refl _ _⟩
  · have hlt : k < m := by omega
    have hcs : ∀ (j : Nat) (v : Value), lx[j]? = some v → w.cell? ⟨b, o + j, none⟩ = some v := fun j v hj => by
      have hjl : j < lx.length := by
        rcases Nat.lt_or_ge j lx.length with h' | h'
        · exact h'
        · rw [List.getElem?_eq_none h'] at hj; simp at hj
      rw [cell_in h2, hlx j hjl, hj]
    have hfz : ∀ j, w.frozen? ⟨b, j, none⟩ = false := fun j => by simp [World.frozen?, h2]
    refine (hI.cut b o rows.length cap k m lx w hlt hm h3 hlim e1 hcs hfz o1).mono ?_
    rintro e w1 ⟨rfl, d1, zs, z1, z2, rfl⟩
    refine ⟨_, rfl, ?_⟩
    have hkz : k * z ≤ m * z := Nat.mul_le_mul_right z hk
    have hmz : m * z ≤ rows.length * z := Nat.mul_le_mul_right z hm
    have hcz : rows.length * z ≤ cap * z := Nat.mul_le_mul_right z h3
    have e3 : (lx.drop (m * z)).length = rows.length * z - m * z := by rw [List.length_drop, e1]
    have e4 : (m - k) * z = m * z - k * z := Nat.sub_mul ..
    have e5 : (rows.length - (m - k)) * z = rows.length * z - (m * z - k * z) := by rw [Nat.sub_mul, Nat.sub_mul]
    have e6 : (lx.take (k * z)).length = k * z := by rw [List.length_take, e1]; omega
    have o3 : ∀ v ∈ lx.drop (m * z), v.oneCell' = true := fun v hv => o1 v (List.mem_of_mem_drop hv)
    have h2' : ({ w with drawn := d1 } : World).heap[b]? = some (.cells c el' (0, 0)) := h2
    obtain ⟨c2, s1, s2, s3, s4, s5, s6, s7⟩ := setCells_at P (b := b) (o := o + k * z) (vs := lx.drop (m * z)) h2' (by rw [e3]; omega) o3
    obtain ⟨c3, t1, t2, t3, t4, t5, t6, t7⟩ := setCells_at P (b := b) (o := o + (rows.length - (m - k)) * z) (vs := zs) s1 (by rw [z1, e4, e5]; omega) z2
    have s3s := s3.size
    have s3b := s3.block
    have s4' := s4 B hBb
    generalize (({ w with drawn := d1 } : World).setCells b (o + k * z) (lx.drop (m * z))).setCells b (o + (rows.length - (m - k)) * z) zs = w2 at t1 t3 t4 ⊢
    generalize ({ w with drawn := d1 } : World).setCells b (o + k * z) (lx.drop (m * z)) = w3 at s1 s3s s3b s4' t3 t4 ⊢
    have hT : Turn b w w2 := ⟨t3.size.trans s3s, fun b' hb' => (t3.block b' hb').trans (s3b b' hb')⟩
    have hbel : Kept B w w2 := by
      have q2 := t4 B hBb
      exact ⟨q2.os.trans s4'.os, q2.tape.trans s4'.tape, q2.output.trans s4'.output, Nat.le_trans s4'.size q2.size, fun k hk => (q2.block k hk).trans (s4'.block k hk)⟩
    have hD : ∀ u x, RelD cx w (orP X M) u x → RelD cx w2 (orP X M) u x := fun _ _ hr => turn_D hT hM hr
    have hall : DR cx w2 (orP X M) z (lx.take (k * z) ++ lx.drop (m * z)) (rows.take k ++ rows.drop m) := ((hdx.take (by omega)).append (hdx.drop hm)).mono hD
    have harr : ArrOK cx w2 (orP X M) (.slice (some ⟨b, o, none⟩) (rows.length - (m - k)) cap) z (rows.take k ++ rows.drop m) := by
      refine ArrOK.of_DR t1 hall (fun t ht => ?_) (by rw [hlen]; omega) (by rw [t2, s2]; exact h4) hlen
      rw [List.length_append, e6, e3] at ht
      rw [t5 _ (by rw [e5]; omega)]
      rcases Nat.lt_or_ge t (k * z) with q | q
      · rw [List.getElem?_append_left (by omega), List.getElem?_take_of_lt q, s5 _ (by omega)]; exact hlx t (by omega)
      · rw [List.getElem?_append_right (by omega), e6, ← s6 _ (by omega)]; congr 1; omega
    obtain ⟨hsa, hD', hTr⟩ := h.delArr (d := d) (v' := .slice (some ⟨b, o, none⟩) (rows.length - (m - k)) cap) hA hd hT hb0 rfl harr
    exact ⟨β, _, M, hsa, fun u' x' hu' => RelT.tr hD' hTr (fun s hs => ⟨hs, rfl⟩) hu', by rw [hlen]; exact own_mk2 rfl hlen, hbel⟩
end
end Sg
namespace Sg
open Go Go.RowKit
set_option linter.unusedSimpArgs false
set_option linter.unusedVariables false
section
variable {P : Program} {cx : Cx} {B : Nat → Prop} {X : Nat → Prop} {S : St} {w : World} {β : Nat → Nat} {α : Nat → Value} {M : Nat → Prop}
variable {a : Act} {ds : List (Option Nat)} {e : Nat → V} {κ : Nat → List V → Option V} {ownOf : Nat → Option Nat}
theorem places_run : ∀ (fs : List Field) (pl : List (Nat × Nat)), placesL P fs = some pl → (fs.mapM fun f => do pure (f.offset, ← Go.sizeOf f.type) : Sem (List (Nat × Nat))).run P w = .ok pl w
  | [], pl, h => by simp only [placesL, Option.some.injEq] at h; subst h; simp
  | f :: fs, pl, h => by
    simp only [placesL, Option.bind_eq_some_iff, Option.some.injEq] at h
    obtain ⟨n, hn, r, hr, rfl⟩ := h
    have ih := places_run fs r hr
    simp only [List.mapM_cons, Sem.run_bind, run_sizeOf' hn w, Result.andThen, Sem.run_pure, ih]
theorem places_ok {t : TypeId} {pl : List (Nat × Nat)} (h : placesT P t = some pl) : ∃ fs, P.underlying t = some (.struct fs) ∧ (fs.mapM fun f => do pure (f.offset, ← Go.sizeOf f.type) : Sem (Array (Nat × Nat))).run P w = .ok pl.toArray w := by
  unfold placesT at h
  split at h
  · rename_i fs hu
    refine ⟨fs, hu, ?_⟩
    rw [Array.mapM_eq_mapM_toList]
    have := places_run (w := w) fs.toList pl h
    simp only [map_eq_pure_bind, Sem.run_bind, this, Result.andThen, Sem.run_pure]
  · simp at h
theorem newData_post (h : RelW cx B X S w β α M) {z n : Nat} {rows : List (List V)} {cells : Array Value} {el : TypeId} (hdr : DR cx w (orP X M) z cells.toList rows) (hlen : rows.length = n) :
    OpPost cx B X S w β α M S (.slice z rows) (.slice (some ⟨w.heap.size, 0, none⟩) n n) { w with heap := w.heap.push (.cells cells el) } := by
  have hgr := grow_push w (.cells cells el)
  have hat := push_at w (.cells cells el)
  have hbel := below_push (B := B) w (.cells cells el) h.size
  have hlt : w.heap.size < ({ w with heap := w.heap.push (.cells cells el) } : World).heap.size := by simp
  generalize ({ w with heap := w.heap.push (.cells cells el) } : World) = w2 at *
  have hw := h.grow hgr (M' := M) (fun _ h => h) (fun _ h => .inl h)
  have hD : ∀ u x, RelD cx w (orP X M) u x → RelD cx w2 (orP X M) u x := fun _ _ hr => grow_D hgr (fun _ h => .inl h) hr
  have hdr' := hdr.mono hD
  refine ⟨β, α, M, hw, fun u x hu => RelT.tr hD (ATr.refl S α) (fun s hs => ⟨hs, rfl⟩) hu, ?_, hbel⟩
  refine slice_mk (o := 0) (c := cells) (e := el) (fr := (0, 0)) hlt ?_ hat (by omega) hdr'.2.1 (fun i j hi hj => ?_) hlen
  · rintro (hx | hm)
    · exact Nat.lt_irrefl _ (h.size _ (h.xb _ hx))
    · have := (h.m _ hm).2; omega
  · obtain ⟨u, q1, q2, q3⟩ := hdr'.2.2 i j hi hj
    exact ⟨u, by simpa using q1, q2, q3⟩
theorem nilq_run {P : Program} {w : World} {t el : TypeId} {x y : Operand} {a0 : Option Addr} {n c : Nat} (h : P.underlying t = some (.slice el)) :
    (do eqGuard .eql t x y (.slice a0 n c) (.slice none 0 0); Go.binOp .eql t (.slice a0 n c) (.slice none 0 0) : Sem Value).run P w = .ok (.bool a0.isNone) w := by
  have hG : (eqGuard .eql t x y (.slice a0 n c) (.slice none 0 0)).run P w = .ok () w := by
    unfold eqGuard
    rfl
  simp only [Sem.run_bind, hG, Result.andThen]
  exact Lib.run_eql_slice_nil w t el a0 n c 0 0 h
def okOwn (ownOf : Nat → Option Nat) : K → Bool
  | .call (.k f) _ own _ => own.isNone || own == ownOf f
  | .call (.v _) _ own _ => own.isNone
  | .ins f _ z _ _ _ => decide (z < 1000) && ownOf f == some (1000 + z)
  | .del f _ z _ _ _ => decide (z < 1000) && ownOf f == some (2000 + z)
  | .rcall f _ k _ _ => decide (k < 1000) && ownOf f == some (3000 + k)
  | _ => true
theorem okK_ins {op : Go.Op} {f s z : Nat} {x y i : Arg} (h : okK P cx ds op (.ins f s z x i y) = true) : ∃ c : Call, op = .call c ∧ c.callee = .value (.func (cx.fm f)) ∧ okArgs cx ds c.args.toList [x, i, y] = true := by
  unfold okK at h
  split at h <;> first | (simp_all; done) | skip
  all_goals (rename_i f' args ts f'' s' z' a' b' c' heq; simp only [K.ins.injEq] at heq; obtain ⟨rfl, rfl, rfl, rfl, rfl, rfl⟩ := heq; simp only [Bool.and_eq_true, beq_iff_eq] at h; exact ⟨_, rfl, by rw [← h.1], h.2⟩)
theorem okK_del {op : Go.Op} {f s z : Nat} {x y i : Arg} (h : okK P cx ds op (.del f s z x i y) = true) : ∃ c : Call, op = .call c ∧ c.callee = .value (.func (cx.fm f)) ∧ okArgs cx ds c.args.toList [x, i, y] = true := by
  unfold okK at h
  split at h <;> first | (simp_all; done) | skip
  all_goals (rename_i f' args ts f'' s' z' a' b' c' heq; simp only [K.del.injEq] at heq; obtain ⟨rfl, rfl, rfl, rfl, rfl, rfl⟩ := heq; simp only [Bool.and_eq_true, beq_iff_eq] at h; exact ⟨_, rfl, by rw [← h.1], h.2⟩)
theorem run_enter {o : Oper} {c : Call} {f : FuncId} (ho : o.op = .call c) (hc : c.callee = .value (.func f)) (hE : Ent P f) : (execOp a.eval o).run P w = .ok (.enter f (c.args.map a.eval)) w := by
  have hres : (resolve a.eval c o.type).run P w = .ok { target := .fn (.func f) #[], args := #[] ++ c.args.map a.eval } w := by
    unfold resolve; rw [hc]; rfl
  unfold execOp
  simp only [ho, Sem.run_bind, hres, Result.andThen, invoke]
  rw [callFunc_enter hE]
  simp
theorem three_args (hg : ∀ t, RelT cx w (orP X M) S β α (a.tmps.getD t undef) (S.ρ t)) (hl : ∀ i d, ds[i]? = some (some d) → RelT cx w (orP X M) S β α (a.tmps.getD d undef) (e i))
    {c : Call} {x y z : Arg} (h : okArgs cx ds c.args.toList [x, y, z] = true) : ∃ u1 u2 u3, c.args.map a.eval = #[u1, u2, u3] ∧ RelT cx w (orP X M) S β α u1 (argv e S.ρ x) ∧ RelT cx w (orP X M) S β α u2 (argv e S.ρ y) ∧ RelT cx w (orP X M) S β α u3 (argv e S.ρ z) := by
  obtain ⟨hlen, hrel⟩ := okArgs_rel hg hl _ _ h
  obtain ⟨u1, p1, q1⟩ := hrel 0 (by simp)
  obtain ⟨u2, p2, q2⟩ := hrel 1 (by simp)
  obtain ⟨u3, p3, q3⟩ := hrel 2 (by simp)
  refine ⟨u1, u2, u3, ?_, q1, q2, q3⟩
  have hl : (c.args.toList.map a.eval).length = 3 := by simpa using hlen
  generalize hll : c.args.toList.map a.eval = l at p1 p2 p3 hl
  match l, hl with
  | [a1, a2, a3], _ =>
    simp at p1 p2 p3
    subst p1; subst p2; subst p3
    apply Array.ext'
    simpa using hll
theorem rel_i64 {v : Value} {k : IntKind} {n : Int} (h : RelT cx w (orP X M) S β α v (.int k n)) : v = .int k n := by
  simp only [RelT] at h
  cases h; rfl
structure KOK (P : Program) (cx : Cx) (ownOf : Nat → Option Nat) (κ : Nat → List V → Option V) : Prop where
  call : ∀ f args r, κ f args = some r → Ctr P cx (ownOf f) f args r
  ins : ∀ f z, z < 1000 → ownOf f = some (1000 + z) → ∃ tS el, InsC P (cx.fm f) z tS el
  del : ∀ f z, z < 1000 → ownOf f = some (2000 + z) → DelC P (cx.fm f) z
  rf : ∀ f k, k < 1000 → ownOf f = some (3000 + k) → ∀ args r, κ f args = some r → CtrR P cx k f args r
theorem b2s_ok {P : Program} {cx : Cx} {w : World} {Y : Nat → Prop} {u : Value} {rows : List (List V)} {l : List UInt8} {src dst e : TypeId} (hr : RelD cx w Y u (.slice 1 rows)) (hl : bytesR rows = some l)
    (hs : P.underlying src = some (.slice e)) (he : P.underlying e = some (.int .u8)) (hd : P.underlying dst = some .string) :
    ∃ q, (Go.convert src dst u).run P w = .ok q w ∧ RelD cx w Y q (.str l) := by
  have hx : ∀ (rows : List (List V)) (l : List UInt8), bytesR rows = some l → ∃ xs : List Int, rows = xs.map (fun n => [V.int .u8 n]) ∧ l = xs.map fun n => UInt8.ofNat n.toNat := by
    intro rows
    induction rows with
    | nil => intro l h; simp only [bytesR, Option.some.injEq] at h; exact ⟨[], rfl, h.symm⟩
    | cons r rs ih =>
      intro l h
      unfold bytesR at h
      split at h
      · rename_i h0; simp at h0
      · rename_i n rs' heq
        simp only [List.cons.injEq] at heq
        obtain ⟨rfl, rfl⟩ := heq
        simp only [Option.bind_eq_some_iff, Option.some.injEq] at h
        obtain ⟨l', h1, rfl⟩ := h
        obtain ⟨xs, rfl, rfl⟩ := ih l' h1
        exact ⟨n :: xs, rfl, rfl⟩
      · simp at h
  obtain ⟨xs, rfl, rfl⟩ := hx rows l hl
  have hq : RelD cx w Y (.string (strOfNums xs)) (.str (xs.map fun n => UInt8.ofNat n.toNat)) := by
    have := RelD.str (cx := cx) (w := w) (X := Y) (strOfNums xs)
    rwa [strOfNums_data] at this
  refine ⟨_, ?_, hq⟩
  rcases slice_inv hr with ⟨⟨a, rfl⟩, hn⟩ | ⟨b, o, cap, c, el, fr, rfl, hb, hX, hw, hcap, hz, hc⟩
  · have hxs : xs = [] := by simpa using hn
    subst hxs
    cases a with
    | none => rw [run_convert_bytes_nil w src e hs he 0 0 dst hd]; rfl
    | some a =>
      rw [run_convert_bytes_string w src dst e _ 0 0 hs he hd, run_bytesToString w a 0 0 [] (by
        have := run_loadCells_list (P := P) w a [] (fun j v hj => by simp at hj)
        simpa using this)]
      rfl
  · have hlen : (xs.map (fun n => [V.int .u8 n])).length = xs.length := by simp
    rw [hlen]
    refine run_convert_bytes_arg w src e hs he b o xs.length cap xs rfl (fun i hi => ?_) dst hd
    obtain ⟨u, p, q, r⟩ := hc i 0 (by rw [hlen]; exact hi) (by omega)
    have hg : gv (gr (xs.map (fun n => [V.int .u8 n])) i) 0 = .int .u8 (xs.getD i 0) := by
      simp [gr, gv, hi]
    rw [hg] at r
    cases r
    simp only [Nat.mul_one, Nat.add_zero] at p
    simp [World.cell?, hw, p]
theorem ev_sound {o : Oper} {k : K} {d : Nat} {r : V} {S1 : St} (h : RelW cx B X S w β α M)
    (hg : ∀ t, RelT cx w (orP X M) S β α (a.tmps.getD t undef) (S.ρ t)) (hl : ∀ i d, ds[i]? = some (some d) → RelT cx w (orP X M) S β α (a.tmps.getD d undef) (e i))
    (hκ : KOK P cx ownOf κ) (hok : okK P cx ds o.op k = true) (hown : okOwn ownOf k = true)
    (hev : ev κ d e S k = some (r, S1)) : Does P o a w (OpPost cx B X S w β α M S1 r) := by
  have arg := fun {x : Operand} {y : Arg} (h : okArg cx ds x y = true) => arg_rel hg hl h
  cases k with
  | mov y =>
    obtain ⟨x, hop, hx⟩ := okK_mov hok
    simp only [ev, Option.some.injEq, Prod.mk.injEq] at hev
    obtain ⟨rfl, rfl⟩ := hev
    refine .inl ⟨a.eval x, w, ?_, .pure h (arg hx)⟩
    rcases hop with hop | hop <;> simp [execOp, hop]
  | pick c x y =>
    obtain ⟨c', x', y', hop, h1, h2, h3⟩ := okK_pick hok
    simp only [ev] at hev
    have hc := arg h1
    split at hev <;> try (simp at hev; done)
    rename_i t ht
    rw [ht] at hc
    simp only [Option.some.injEq, Prod.mk.injEq] at hev
    obtain ⟨rfl, rfl⟩ := hev
    refine .inl ⟨if t then a.eval x' else a.eval y', w, ?_, .pure h ?_⟩
    · simp [execOp, hop, rel_bool hc, asBool]
    · cases t
      · exact arg h3
      · exact arg h2
  | box y =>
    obtain ⟨t, x, hop, hx⟩ := okK_box hok
    simp only [ev] at hev
    split at hev
    · simp at hev
    · rename_i hd
      simp only [Option.bind_eq_some_iff, Option.some.injEq, Prod.mk.injEq] at hev
      obtain ⟨cs, hcs, rfl, rfl⟩ := hev
      have := newVar_post (t := t) h hd (cells_rel (arg hx) hcs)
      rw [Array.toArray_toList] at this
      exact .value (s := Instr.box t (a.eval x)) (by simp [execOp, hop]) (by simp [Instr.box, newVar, newRow, Result.andThen]) this
  | alloc z =>
    obtain ⟨t, hop, hz⟩ := okK_alloc hok
    simp only [ev] at hev
    split at hev
    · simp at hev
    · rename_i hd
      simp only [Option.some.injEq, Prod.mk.injEq] at hev
      obtain ⟨rfl, rfl⟩ := hev
      obtain ⟨v, hv, hvz⟩ := run_zero (P := P) (w := w) hz
      have := newVar_post (t := t) h hd (zero_CR hvz)
      rw [Array.toArray_toList] at this
      exact .value (s := Instr.alloc t true (.tuple #[])) (by simp [execOp, hop]) (by simp [Instr.alloc, hv, newVar, newRow, Result.andThen]) this
  | build z qs =>
    obtain ⟨t, ps, hop, hz, hcase⟩ := okK_build hok
    simp only [ev, Option.bind_eq_some_iff, Option.some.injEq, Prod.mk.injEq] at hev
    obtain ⟨cs, hcs, rfl, rfl⟩ := hev
    obtain ⟨v, hv, hvz⟩ := run_zero (P := P) (w := w) hz
    rcases hcase with ⟨pl, hpl, hok'⟩ | ⟨harr, rfl, rfl⟩
    rotate_left
    · simp only [List.map_nil, fillAt, Option.some.injEq] at hcs
      subst hcs
      unfold arrT at harr
      split at harr
      · rename_i m e hu
        obtain ⟨sz, hsz⟩ := Option.isSome_iff_exists.1 harr
        have hcr := zero_CR (cx := cx) (w := w) (X := orP X M) (S := S) (α := α) hvz
        refine .value (s := Instr.build t ((#[] : Array (Nat × Operand)).map fun (i, x) => (i, a.eval x))) (v := .agg v.cells) (by simp only [execOp, hop]) ?_ (.pure h (by simpa using hcr.agg (β := β)))
        unfold Instr.build
        simp only [Sem.run_bind, hv, Result.andThen, run_underlying hu w, run_sizeOf' hsz w, Array.toList_map, List.map_nil, Array.toList_empty, Instr.fill, Sem.run_pure]
      · simp at harr
    obtain ⟨cells, hf, hcr⟩ := fill_ok hg hl ps.toList qs v.cells z cs hok' (zero_CR hvz) hcs
    obtain ⟨fs, hu, hpl'⟩ := places_ok (w := w) hpl
    refine .value (s := Instr.build t (ps.map fun (i, x) => (i, a.eval x))) (v := .agg cells) (by simp only [execOp, hop]) ?_ (.pure h (by simpa using hcr.agg (β := β)))
    unfold Instr.build
    simp only [Sem.run_bind, hv, Result.andThen, run_underlying hu w, hpl', Array.toList_map, List.getElem?_toArray, hf, Sem.run_pure]
  | mks z n zero qs =>
    simp only [ev, Option.bind_eq_some_iff, Option.some.injEq, Prod.mk.injEq] at hev
    obtain ⟨rows, hrows, rfl, rfl⟩ := hev
    rcases okK_mks hok with ⟨t, len, ps, el, hop, h1, h2, h3, h4, h5, h6, h7, h8⟩ | ⟨t, el, ie, hop, h1, h2, h3, h4, h5, h6, rfl, h7, h8, h9⟩
    rotate_left
    · simp only [List.map_nil, fillRows, Option.some.injEq] at hrows
      subst hrows
      obtain ⟨cells, hrun, hdr⟩ := make_ok (cx := cx) (w := w) (X := orP X M) h1 h2 h3 h4 h5 h7 h8 h9 h6
      have hpost := newData_post (el := el) (n := n) h hdr (by simp)
      generalize ({ w with heap := w.heap.push (.cells cells el) } : World) = w2 at hrun hpost
      refine .inl ⟨_, w2, ?_, hpost⟩
      unfold execOp
      rw [hop]
      simp only [Sem.run_bind, Act.eval]
      erw [hrun]
      rfl
    obtain ⟨cells, hrun, hdr, hlen⟩ := mks_ok hg hl h1 h2 h3 h4 h5 h6 h7 h8 hrows
    have e1 : (ps.toList.map fun (i, x) => (i, a.eval x)).toArray = ps.map fun (i, x) => (i, a.eval x) := by apply Array.ext'; simp
    rw [e1] at hrun
    have hpost := newData_post (el := el) h hdr hlen
    generalize ({ w with heap := w.heap.push (.cells cells el) } : World) = w2 at hrun hpost
    refine .inl ⟨_, w2, ?_, hpost⟩
    unfold execOp
    rw [hop]
    simp only [Sem.run_bind]
    erw [hrun]
    rfl
  | mko z =>
    obtain ⟨x, hop, rfl⟩ := okK_mko hok
    simp only [ev] at hev
    split at hev
    · simp at hev
    · rename_i hd
      simp only [Option.some.injEq, Prod.mk.injEq] at hev
      obtain ⟨rfl, rfl⟩ := hev
      refine .inl ⟨.slice none 0 0, w, by rcases hop with hop | hop <;> simp [execOp, hop, Act.eval], ?_⟩
      have hadd := h.addArr (d := d) (z0 := z) (rows0 := []) (v0 := .slice none 0 0) hd ⟨fun i hi => by simp at hi, .inl ⟨rfl, rfl⟩⟩ (fun b hb => by simp [hdr] at hb) (fun s b _ hb => by simp [hdr] at hb) (fun s z' r f _ _ b hb => by simp [hdr] at hb)
      have hT : ATr S { S with A := upd S.A d (some (z, [], .live)) } α (upd α d (.slice none 0 0)) := fun s z' r f hs => by
        have : s ≠ d := fun e => by rw [e, hd] at hs; simp at hs
        exact ⟨r, f, by simp [upd, this, hs], fun hf => ⟨hf, Nat.le_refl _, fun _ => by simp [upd, this]⟩⟩
      exact ⟨β, _, M, hadd, fun u x hu => RelT.tr (fun _ _ h => h) hT (fun s hs => ⟨hs, rfl⟩) hu, ⟨[], .live, none, 0, by simp [upd], rfl, by simp, fun _ => ⟨by simp, fun _ => by simp [upd]⟩⟩, Kept.refl _ _⟩
  | mkb z n zero qs =>
    rcases okK_mks (okK_mkb hok) with ⟨t, len, ps, el, hop, h1, h2, h3, h4, h5, h6, h7, h8⟩ | ⟨t, el, ie, hop, -⟩
    rotate_left
    · rw [hop] at hok
      simp [okK] at hok
    simp only [ev, Option.bind_eq_some_iff] at hev
    obtain ⟨rows, hrows, hev⟩ := hev
    obtain ⟨cells, hrun, hdr, hlen⟩ := mks_ok hg hl h1 h2 h3 h4 h5 h6 h7 h8 hrows
    have e1 : (ps.toList.map fun (i, x) => (i, a.eval x)).toArray = ps.map fun (i, x) => (i, a.eval x) := by apply Array.ext'; simp
    rw [e1] at hrun
    have hat : (w.heap.push (.cells cells el) : Array Obj)[w.heap.size]? = some (.cells cells el) := by simp
    have hold : ∀ k, k < w.heap.size → (w.heap.push (.cells cells el) : Array Obj)[k]? = w.heap[k]? := fun k hk => by
      rw [Array.getElem?_push]; simp [Nat.ne_of_lt hk]
    have hbel : Below w.heap.size w { w with heap := w.heap.push (.cells cells el) } := ⟨rfl, rfl, rfl, by simp, hold⟩
    have hD : ∀ u x, RelD cx w (orP X M) u x → RelD cx { w with heap := w.heap.push (.cells cells el) } (orP (orP X M) fun b => b = w.heap.size) u x := fun u x hr =>
      hr.mono (by simp) (fun b hb _ => hold b hb) (fun b hb hn hx => by
        rcases hx with hx | hx
        · exact hn hx
        · omega)
    have hall := hdr.mono hD
    have hro : ROut cx w { w with heap := w.heap.push (.cells cells el) } (orP X M) (some 0) (.slice (some ⟨w.heap.size, 0, none⟩) n n) (.slice z rows) :=
      ⟨_, z, rows, fun b => b = w.heap.size, fun b hb => by subst hb; exact ⟨Nat.le_refl _, by simp⟩, fun b hb => by simpa [Sg.hdr, eq_comm] using hb,
        ArrOK.of_DR hat hall (fun k hk => by simp) (by omega) (by
          have := hdr.1
          rw [Array.length_toList, hlen] at this
          omega) hlen, .inl ⟨rfl, rfl⟩⟩
    have hpost := adopt_ok (own := some 0) h hbel (.inr rfl) hro (fun b hb => by
      rcases hb with hb | hb
      · exact h.size b (h.xb b hb)
      · exact (h.m b hb).2) hev
    generalize ({ w with heap := w.heap.push (.cells cells el) } : World) = w2 at hrun hpost
    refine .inl ⟨_, w2, ?_, hpost⟩
    unfold execOp
    rw [hop]
    simp only [Sem.run_bind]
    erw [hrun]
    rfl
  | frz s y =>
    obtain ⟨x, hop, h1⟩ := okK_frz hok
    simp only [ev] at hev
    have r1 := arg h1
    split at hev <;> try (simp at hev; done)
    rename_i s' z n hy
    split at hev <;> try (simp at hev; done)
    rename_i e0
    subst e0
    simp only [Option.bind_eq_some_iff, Option.some.injEq, Prod.mk.injEq] at hev
    obtain ⟨v, hv, rfl, rfl⟩ := hev
    rw [hy] at r1
    obtain ⟨M', f1, f2, f3, f4⟩ := frzA_ok [s'] h
    refine .inl ⟨a.eval x, w, by simp [execOp, hop], β, α, M', f1, fun u x hu => RelT.tr (S' := { S with A := frzA S.A [s'] }) (fun _ _ hr => sub_D f2 hr) f3 (fun s hs => ⟨hs, rfl⟩) hu,
      .of_data (toDC_ok h (x := .own s' z n) r1 hv (fun b hb => hb.imp id (f2 b)) (fun s hs b hb hex hn => ?_)), Kept.refl _ _⟩
    rcases hn with hx | hm
    · obtain ⟨z, rows, f, e1, e2⟩ := hex
      exact ((h.arr s z rows f e1 e2).2 b hb).1 (h.xb b hx)
    · exact f4 s (by simpa [sitesC] using hs) b hb hex hm
  | nilq y =>
    obtain ⟨t, x, t', el, hop, h1, h2⟩ := okK_nilq hok
    simp only [ev] at hev
    have r1 := arg h1
    split at hev <;> simp only [Option.some.injEq, Prod.mk.injEq, reduceCtorEq] at hev
    · rename_i z hz
      obtain ⟨rfl, rfl⟩ := hev
      rw [hz] at r1
      simp only [RelT] at r1
      generalize hv : a.eval x = v at r1
      cases r1
      exact .value (s := do eqGuard .eql t x (.const (.slice none 0 0)) (a.eval x) (.slice none 0 0); Go.binOp .eql t (a.eval x) (.slice none 0 0)) (v := .bool true) (by simp only [execOp, hop]; rfl) (by rw [hv]; exact nilq_run h2) (.pure h (RelD.bool _))
    · rename_i z rows hz
      obtain ⟨rfl, rfl⟩ := hev
      rw [hz] at r1
      simp only [RelT] at r1
      generalize hv : a.eval x = v at r1
      cases r1
      exact .value (s := do eqGuard .eql t x (.const (.slice none 0 0)) (a.eval x) (.slice none 0 0); Go.binOp .eql t (a.eval x) (.slice none 0 0)) (v := .bool false) (by simp only [execOp, hop]; rfl) (by rw [hv]; exact nilq_run h2) (.pure h (RelD.bool _))
  | load l n y =>
    obtain ⟨t, p, hop, hp, hu, hn⟩ := okK_load hok
    simp only [ev, Option.bind_eq_some_iff, Option.some.injEq, Prod.mk.injEq] at hev
    obtain ⟨v, hv, rfl, rfl⟩ := hev
    obtain ⟨q, hrun, hq⟩ := load_ok (l := l) h (arg hp) hu hn hv
    exact .value (s := Instr.loadAt t (a.eval p)) (by simp [execOp, hop]) hrun (.pure h hq)
  | ldf s v n y =>
    obtain ⟨t, p, hop, hp, hu, hn⟩ := okK_ldf hok
    simp only [ev, Option.bind_eq_some_iff] at hev
    obtain ⟨x, hx, hev⟩ := hev
    split at hev <;> try (simp at hev; done)
    rename_i hall
    simp only [Option.bind_eq_some_iff, Option.some.injEq, Prod.mk.injEq] at hev
    obtain ⟨y', hy', rfl, rfl⟩ := hev
    obtain ⟨q, hrun, hq⟩ := load_ok (l := .v v) h (arg hp) hu hn hx
    obtain ⟨M', f1, f2, f3, f4⟩ := frzA_ok [s] h
    refine .inl ⟨q, w, by simp [execOp, hop, hrun, Result.andThen], β, α, M', f1, fun u x hu => RelT.tr (S' := { S with A := frzA S.A [s] }) (fun _ _ hr => sub_D f2 hr) f3 (fun s hs => ⟨hs, rfl⟩) hu,
      .of_data (toD_ok h hq hy' (fun b hb => hb.imp id (f2 b)) (fun s' hs b hb hex hn => ?_)), Kept.refl _ _⟩
    have hs' : s' = s := beq_iff_eq.1 (List.all_eq_true.1 hall s' hs)
    subst hs'
    rcases hn with hx | hm
    · obtain ⟨z, rows, f, e1, e2⟩ := hex
      exact ((h.arr s' z rows f e1 e2).2 b hb).1 (h.xb b hx)
    · exact f4 s' (by simp) b hb hex hm
  | store l n y z =>
    obtain ⟨t, p, x, hop, hp, hx, hz⟩ := okK_store hok
    simp only [ev, Option.bind_eq_some_iff, Option.some.injEq, Prod.mk.injEq] at hev
    obtain ⟨S2, hv, rfl, rfl⟩ := hev
    obtain ⟨w', hrun, hpost⟩ := store_ok (l := l) h (arg hp) (arg hx) hz hv
    exact .inr (.inl ⟨w', by simp [execOp, hop, hrun, Result.andThen], hpost⟩)
  | bin o' y z =>
    obtain ⟨t, x, x', t', hop, h1, h2⟩ := okK_bin hok
    simp only [ev, Option.bind_eq_some_iff, Option.some.injEq, Prod.mk.injEq] at hev
    obtain ⟨v, hv, rfl, rfl⟩ := hev
    obtain ⟨q, hrun, hq⟩ := bin_ok (P := P) (t := t) (p := x) (q := x') (arg h1) (arg h2) hv
    exact .value (by simp only [execOp, hop]) hrun (.pure h (.of_data hq))
  | eqa ne sh y z =>
    obtain ⟨t, x, x', t', hop, h1, h2, h3, h4, h5⟩ := okK_eqa hok
    simp only [ev] at hev
    have r1 := arg h1
    have r2 := arg h2
    split at hev <;> try (simp at hev; done)
    rename_i xs ys e1 e2
    rw [e1] at r1
    rw [e2] at r2
    simp only [Option.bind_eq_some_iff, Option.some.injEq, Prod.mk.injEq] at hev
    obtain ⟨b, hb, rfl, rfl⟩ := hev
    exact .value (by simp only [execOp, hop]) (eqa_ok (p := x) (q := x') h3 h4 h5 r1 r2 hb) (.pure h (RelD.bool _))
  | eqb ne y z =>
    obtain ⟨t, x, x', t', hop, h1, h2, h3⟩ := okK_eqb hok
    simp only [ev] at hev
    have r1 := arg h1
    have r2 := arg h2
    split at hev <;> try (simp at hev; done)
    rename_i xs ys e1 e2
    rw [e1] at r1
    rw [e2] at r2
    simp only [Option.some.injEq, Prod.mk.injEq] at hev
    obtain ⟨rfl, rfl⟩ := hev
    have hrun := eqb_ok (P := P) (w := w) (ne := ne) (a := xs) (b := ys) (p := x) (q := x') h3
    rw [← rel_bool r1, ← rel_bool r2] at hrun
    exact .value (by simp only [execOp, hop]) hrun (.pure h (RelD.bool _))
  | sh o' y z =>
    obtain ⟨t, x, x', t', hop, h1, h2⟩ := okK_sh hok
    simp only [ev, Option.bind_eq_some_iff, Option.some.injEq, Prod.mk.injEq] at hev
    obtain ⟨v, hv, rfl, rfl⟩ := hev
    obtain ⟨q, hrun, hq⟩ := sh_ok (P := P) (t := t) (p := x) (q := x') (arg h1) (arg h2) hv
    exact .value (by simp only [execOp, hop]) hrun (.pure h (.of_data hq))
  | mm mx y z =>
    obtain ⟨x, x', ts, hop, h1, h2⟩ := okK_mm hok
    simp only [ev] at hev
    have r1 := arg h1
    have r2 := arg h2
    split at hev <;> try (simp at hev; done)
    rename_i k1 b1 k2 b2 e1 e2
    rw [e1] at r1
    rw [e2] at r2
    split at hev <;> try (simp at hev; done)
    rename_i hk
    subst hk
    simp only [Option.some.injEq, Prod.mk.injEq] at hev
    obtain ⟨rfl, rfl⟩ := hev
    have hrun := mm_ok (P := P) (w := w) (mx := mx) (k := k1) (a := b1) (b := b2) (ts := ts) (ty := o.type)
    refine .inl ⟨_, w, ?_, .pure h (RelD.int _ _)⟩
    cases mx
    · simp only [Bool.false_eq_true, if_false] at hop hrun
      simp [execOp, hop, resolve, invoke, builtin, rel_int r1, rel_int r2, hrun, Result.andThen]
    · simp only [if_true] at hop hrun
      simp [execOp, hop, resolve, invoke, builtin, rel_int r1, rel_int r2, hrun, Result.andThen]
  | un o' y =>
    obtain ⟨t, x, hop, h1⟩ := okK_un hok
    simp only [ev, Option.bind_eq_some_iff, Option.some.injEq, Prod.mk.injEq] at hev
    obtain ⟨v, hv, rfl, rfl⟩ := hev
    obtain ⟨q, hrun, hq⟩ := un_ok (P := P) (arg h1) hv
    exact .value (by simp only [execOp, hop]) hrun (.pure h (.of_data hq))
  | conv c y =>
    simp only [ev, Option.bind_eq_some_iff, Option.some.injEq, Prod.mk.injEq] at hev
    obtain ⟨v, hv, rfl, rfl⟩ := hev
    cases c with
    | int k =>
      obtain ⟨s, d', x, dd, hop, h1, h2, h3⟩ := okK_convi hok
      have r1 := arg h1
      cases hy : argv e S.ρ y <;> rw [hy] at hv r1 <;> simp only [convV, Option.some.injEq, reduceCtorEq] at hv
      rename_i k1 n
      subst hv
      have hrun := conv_int (P := P) (w := w) (n := n) (k' := k1) h2 h3
      rw [← rel_int r1] at hrun
      exact .value (by simp only [execOp, hop]) hrun (.pure h (RelD.int _ _))
    | same =>
      obtain ⟨s, d', x, hop, h1, h2, h3⟩ := okK_convs hok
      have r1 := arg h1
      cases hy : argv e S.ρ y <;> rw [hy] at hv r1 <;> simp only [convV, Option.some.injEq, reduceCtorEq] at hv
      rename_i l
      subst hv
      obtain ⟨b, hb, rfl⟩ := rel_str r1
      have hrun := conv_str (P := P) (w := w) (n := b) h2 h3
      rw [← hb] at hrun
      exact .value (by simp only [execOp, hop]) hrun (.pure h (by rw [hb]; exact RelD.str _))
  | fn f asx sites =>
    obtain ⟨cap, hop, h1⟩ := okK_fn hok
    have := fn_ok h hg hl h1 (by simpa only [ev] using hev)
    refine .inl ⟨_, w, ?_, this⟩
    have e1 : (cap.toList.map a.eval).toArray = cap.map a.eval := by apply Array.ext'; simp
    simp [execOp, hop, Instr.makeFunc, e1]
  | sl st z y lo hi =>
    obtain ⟨t, x, lo', hi', hop, h1, h2, h3, h4⟩ := okK_sl hok
    simp only [ev, Option.bind_eq_some_iff, Option.some.injEq, Prod.mk.injEq] at hev
    obtain ⟨v, hv, rfl, rfl⟩ := hev
    have opt : ∀ {o : Option Operand} {y : Option Arg}, okOpt cx ds o y = true → (o.map a.eval = none ∧ y.map (argv e S.ρ) = none) ∨ ∃ p q, o.map a.eval = some p ∧ y.map (argv e S.ρ) = some q ∧ RelT cx w (orP X M) S β α p q := by
      intro o y hoy
      unfold okOpt at hoy
      split at hoy
      · exact .inl ⟨rfl, rfl⟩
      · exact .inr ⟨_, _, rfl, rfl, arg hoy⟩
      · simp at hoy
    obtain ⟨q, hrun, hq⟩ := sl_ok (P := P) h4 (arg h1) (opt h2) (opt h3) hv
    exact .value (by simp only [execOp, hop, Option.map_none]) hrun (.pure h (.of_data hq))
  | fad y off =>
    obtain ⟨s, x, i, hop, h1, h2⟩ := okK_fad hok
    simp only [ev, Option.bind_eq_some_iff, Option.some.injEq, Prod.mk.injEq] at hev
    obtain ⟨v, hv, rfl, rfl⟩ := hev
    obtain ⟨q, hrun, hq⟩ := fad_ok (P := P) (arg h1) h2 hv
    exact .value (by simp only [execOp, hop]) hrun (.pure h hq)
  | iad z y i =>
    obtain ⟨t, x, x', el, hop, h1, h2, h3, h4⟩ := okK_iad hok
    simp only [ev, Option.bind_eq_some_iff, Option.some.injEq, Prod.mk.injEq] at hev
    obtain ⟨v, hv, rfl, rfl⟩ := hev
    obtain ⟨q, hrun, hq⟩ := iad_ok (P := P) h3 h4 (arg h1) (arg h2) hv
    exact .value (by simp only [execOp, hop]) hrun (.pure h hq)
  | iada z n y i =>
    obtain ⟨t, x, x', el, hop, h1, h2, h3, h4⟩ := okK_iada hok
    simp only [ev, Option.bind_eq_some_iff, Option.some.injEq, Prod.mk.injEq] at hev
    obtain ⟨v, hv, rfl, rfl⟩ := hev
    obtain ⟨q, hrun, hq⟩ := iada_ok (P := P) h3 h4 (arg h1) (arg h2) hv
    exact .value (by simp only [execOp, hop]) hrun (.pure h hq)
  | idx y i =>
    obtain ⟨t, x, x', hop, h1, h2, h3⟩ := okK_idx hok
    simp only [ev, Option.bind_eq_some_iff, Option.some.injEq, Prod.mk.injEq] at hev
    obtain ⟨v, hv, rfl, rfl⟩ := hev
    obtain ⟨q, hrun, hq⟩ := idx_ok (P := P) h3 (arg h1) (arg h2) hv
    exact .value (by simp only [execOp, hop]) hrun (.pure h (.of_data hq))
  | ext y i =>
    obtain ⟨x, hop, h1⟩ := okK_ext hok
    simp only [ev, Option.bind_eq_some_iff, Option.some.injEq, Prod.mk.injEq] at hev
    obtain ⟨v, hv, rfl, rfl⟩ := hev
    obtain ⟨q, hrun, hq⟩ := ext_ok (P := P) (arg h1) hv
    exact .value (by simp only [execOp, hop]) hrun (.pure h hq)
  | len st y =>
    obtain ⟨x, t, hop, h1, h2⟩ := okK_len hok
    simp only [ev, Option.bind_eq_some_iff, Option.some.injEq, Prod.mk.injEq] at hev
    obtain ⟨v, hv, rfl, rfl⟩ := hev
    obtain ⟨q, hrun, hq⟩ := len_ok (P := P) (ty := o.type) h2 (arg h1) hv
    refine .inl ⟨q, w, ?_, .pure h (.of_data hq)⟩
    simp [execOp, hop, resolve, invoke, builtin, hrun, Result.andThen]
  | app s z y y' =>
    obtain ⟨x, x', t, t', el, ie, zv, hop, h1, h2, h3, h4, h5, h6, h7, h8, h9, h10, hz0⟩ := okK_app hok
    simp only [ev] at hev
    have r1 := arg h1
    have r2 := arg h2
    by_cases hns : ∃ z', argv e S.ρ y = .nslice z'
    · obtain ⟨z', hns⟩ := hns
      rw [hns] at hev r1
      simp only [appN] at hev
      split at hev <;> try (simp at hev; done)
      rename_i hz'
      split at hev <;> try (simp at hev; done)
      rename_i hd
      have r1 : RelD cx w (orP X M) _ (.nslice z') := r1
      generalize hv1 : a.eval x = v1 at r1
      cases r1
      have hadd := h.addArr (d := s) (z0 := z) (rows0 := []) (v0 := .slice none 0 0) hd ⟨fun i hi => by simp at hi, .inl ⟨rfl, rfl⟩⟩ (fun b hb => by simp [hdr] at hb) (fun s b _ hb => by simp [hdr] at hb) (fun s z' r f _ _ b hb => by simp [hdr] at hb)
      have hT : ATr S { S with A := upd S.A s (some (z, [], .live)) } α (upd α s (.slice none 0 0)) := fun s' z' r f hs => by
        have : s' ≠ s := fun e => by rw [e, hd] at hs; simp at hs
        exact ⟨r, f, by simp [upd, this, hs], fun hf => ⟨hf, Nat.le_refl _, fun _ => by simp [upd, this]⟩⟩
      have hmv : ∀ u x, RelT cx w (orP X M) S β α u x → RelT cx w (orP X M) { S with A := upd S.A s (some (z, [], .live)) } β (upd α s (.slice none 0 0)) u x :=
        fun u x hu => RelT.tr (fun _ _ h => h) hT (fun s hs => ⟨hs, rfl⟩) hu
      have r1' : RelT cx w (orP X M) { S with A := upd S.A s (some (z, [], .live)) } β (upd α s (.slice none 0 0)) (.slice none 0 0) (.own s z 0) :=
        ⟨[], .live, none, 0, by simp [upd], rfl, by simp, fun _ => ⟨by simp, fun _ => by simp [upd]⟩⟩
      have hev' : appV { S with A := upd S.A s (some (z, [], .live)) } s z (.own s z 0) (argv e S.ρ y') = some (r, S1) := by
        rw [← hev]
        have eu : ∀ q : Option (Nat × List (List V) × Fz), upd (upd S.A s (some (z, [], .live))) s q = upd S.A s q := fun q => by funext k; simp only [upd]; split <;> rfl
        have e0 : upd S.A s (some (z, [], .live)) s = some (z, [], .live) := by simp [upd]
        simp only [appV, and_self, if_true, e0, List.length_nil, Nat.zero_add, List.nil_append, eu]
      obtain ⟨q, w', hrun, hpost⟩ := app_ok (ty := o.type) hadd r1' (hmv _ _ r2) h3 h4 h5 h7 h8 h9 hz0 h10 hev'
      refine .inl ⟨q, w', by simp [execOp, hop, resolve, invoke, builtin, hv1, hrun, Result.andThen], ?_⟩
      obtain ⟨β', α', M', p1, p2, p3, p4⟩ := hpost
      exact ⟨β', α', M', p1, fun u x hu => p2 u x (hmv u x hu), p3, p4⟩
    have hap : appN S s z (argv e S.ρ y) (argv e S.ρ y') = appV S s z (argv e S.ρ y) (argv e S.ρ y') := by
      unfold appN
      split
      · rename_i z' hz'; exact absurd ⟨z', hz'⟩ hns
      · rfl
    rw [hap] at hev
    have hx : ∃ n, argv e S.ρ y = .own s z n := by
      unfold appV at hev
      split at hev
      · split at hev
        · rename_i hc; obtain ⟨rfl, rfl⟩ := hc; rename_i n hy; exact ⟨n, hy⟩
        · simp at hev
      · simp at hev
    obtain ⟨n, hx⟩ := hx
    rw [hx] at r1 hev
    obtain ⟨q, w', hrun, hpost⟩ := app_ok (ty := o.type) h r1 r2 h3 h4 h5 h7 h8 h9 hz0 h10 hev
    exact .inl ⟨q, w', by simp [execOp, hop, resolve, invoke, builtin, hrun, Result.andThen], hpost⟩
  | apf s z y y' =>
    obtain ⟨x, x', t, t', el, ie, zv, hop, h1, h2, h3, h4, h5, h6, h7, h8, h9, h10, hz0⟩ := okK_app (okK_apf hok)
    simp only [ev, Option.bind_eq_some_iff, Option.some.injEq, Prod.mk.injEq] at hev
    obtain ⟨⟨v1, S1⟩, hev, v2, hv, rfl, rfl⟩ := hev
    have r1 := arg h1
    have r2 := arg h2
    have hx : ∃ n m, argv e S.ρ y = .own s z n ∧ v1 = .own s z m := by
      unfold appV at hev
      split at hev
      · split at hev
        · rename_i hc; obtain ⟨rfl, rfl⟩ := hc; rename_i n hy
          refine ⟨n, ?_⟩
          split at hev
          · split at hev
            · simp only [Option.bind_eq_some_iff] at hev
              obtain ⟨ys, _, hev⟩ := hev
              split at hev
              · simp only [Option.some.injEq, Prod.mk.injEq] at hev
                exact ⟨_, hy, hev.1.symm⟩
              · simp at hev
            · simp at hev
          · simp at hev
        · simp at hev
      · simp at hev
    obtain ⟨n, m, hx, rfl⟩ := hx
    rw [hx] at r1 hev
    obtain ⟨q, w', hrun, hpost⟩ := app_ok (ty := o.type) h r1 r2 h3 h4 h5 h7 h8 h9 hz0 h10 hev
    obtain ⟨β1, α1, M1, g1, g2, g3, g4⟩ := hpost
    obtain ⟨M', f1, f2, f3, f4⟩ := frzA_ok [s] g1
    refine .inl ⟨q, w', by simp [execOp, hop, resolve, invoke, builtin, hrun, Result.andThen], β1, α1, M', f1, fun u x hu => RelT.tr (S' := { S1 with A := frzA S1.A [s] }) (fun _ _ hr => sub_D f2 hr) f3 (fun s hs => ⟨hs, rfl⟩) (g2 u x hu),
      .of_data (toDC_ok g1 (x := .own s z m) g3 hv (fun b hb => hb.imp id (f2 b)) (fun s hs b hb hex hn => ?_)), g4⟩
    rcases hn with hx | hm
    · obtain ⟨z, rows, f, e1, e2⟩ := hex
      exact ((g1.arr s z rows f e1 e2).2 b hb).1 (g1.xb b hx)
    · exact f4 s (by simpa [sitesC] using hs) b hb hex hm
  | ins f s z x i y =>
    obtain ⟨c, hop, hc, hargs⟩ := okK_ins hok
    simp only [okOwn, Bool.and_eq_true, decide_eq_true_eq, beq_iff_eq] at hown
    obtain ⟨tS, el, hI⟩ := hκ.ins f z hown.1 hown.2
    obtain ⟨u1, u2, u3, hu, r1, r2, r3⟩ := three_args hg hl hargs
    have hrun := run_enter (a := a) (w := w) hop hc hI.ent
    rw [hu] at hrun
    refine .inr (.inr ⟨_, _, _, hrun, ?_⟩)
    simp only [ev] at hev
    split at hev <;> try (simp at hev; done)
    rename_i s' z' n k z'' ys hx hi hy
    split at hev <;> try (simp at hev; done)
    rename_i hsz
    obtain ⟨rfl, rfl, rfl⟩ := hsz
    split at hev <;> try (simp at hev; done)
    rename_i z3 rows hA
    split at hev <;> try (simp at hev; done)
    rename_i hcond
    obtain ⟨rfl, hn, hk0, hkn, hlim⟩ := hcond
    simp only [Option.some.injEq, Prod.mk.injEq] at hev
    obtain ⟨rfl, rfl⟩ := hev
    rw [hx] at r1
    rw [hi] at r2
    rw [hy] at r3
    have hk : k = ((k.toNat : Nat) : Int) := by omega
    rw [rel_i64 r2, hk]
    have := ins_ok hI h hA hn (k := k.toNat) (by omega) hlim r1 r3
    exact this
  | del f s z x i j =>
    obtain ⟨c, hop, hc, hargs⟩ := okK_del hok
    simp only [okOwn, Bool.and_eq_true, decide_eq_true_eq, beq_iff_eq] at hown
    have hI := hκ.del f z hown.1 hown.2
    obtain ⟨u1, u2, u3, hu, r1, r2, r3⟩ := three_args hg hl hargs
    have hrun := run_enter (a := a) (w := w) hop hc hI.ent
    rw [hu] at hrun
    refine .inr (.inr ⟨_, _, _, hrun, ?_⟩)
    simp only [ev] at hev
    split at hev <;> try (simp at hev; done)
    rename_i s' z' n k m hx hi hy
    split at hev <;> try (simp at hev; done)
    rename_i hsz
    obtain ⟨rfl, rfl⟩ := hsz
    split at hev <;> try (simp at hev; done)
    rename_i z3 rows hA hd
    split at hev <;> try (simp at hev; done)
    rename_i hcond
    obtain ⟨rfl, hn, hk0, hkm, hmn, hlim⟩ := hcond
    simp only [Option.some.injEq, Prod.mk.injEq] at hev
    obtain ⟨rfl, rfl⟩ := hev
    rw [hx] at r1
    rw [hi] at r2
    rw [hy] at r3
    have hk : k = ((k.toNat : Nat) : Int) := by omega
    have hm : m = ((m.toNat : Nat) : Int) := by omega
    rw [rel_i64 r2, rel_i64 r3, hk, hm]
    have := del_ok hI h hA hd hn (k := k.toNat) (m := m.toNat) (by omega) (by omega) hlim r1
    exact this
  | rcall f avs k s b0 =>
    obtain ⟨c, hop, hcx, hargs⟩ := okK_rcall hok
    simp only [okOwn, Bool.and_eq_true, decide_eq_true_eq, beq_iff_eq] at hown
    exact rcall_ok h hg hl (hκ.rf f k hown.1 hown.2) hop hcx hargs (by simpa only [ev] using hev)
  | allo z b =>
    obtain ⟨t, hop, hz⟩ := okK_allo hok
    simp only [ev] at hev
    split at hev
    · simp at hev
    · rename_i hd
      simp only [Option.bind_eq_some_iff, Option.some.injEq, Prod.mk.injEq] at hev
      obtain ⟨⟨cells, A'⟩, ht, rfl, rfl⟩ := hev
      obtain ⟨v, hv, hvz⟩ := run_zero (P := P) (w := w) hz
      have := newVarO_post (t := t) h hd (zero_CR hvz) ht
      rw [Array.toArray_toList] at this
      exact .value (s := Instr.alloc t true (.tuple #[])) (by simp [execOp, hop]) (by simp [Instr.alloc, hv, newVar, newRow, Result.andThen]) this
  | boxo y b =>
    obtain ⟨t, x, hop, hx⟩ := okK_boxo hok
    simp only [ev] at hev
    split at hev
    · simp at hev
    · rename_i hd
      split at hev <;> try (simp at hev; done)
      rename_i cs hcs
      split at hev <;> try (simp at hev; done)
      rename_i hdat
      simp only [Option.bind_eq_some_iff, Option.some.injEq, Prod.mk.injEq] at hev
      obtain ⟨⟨cells, A'⟩, ht, rfl, rfl⟩ := hev
      have r1 := arg hx
      rw [hcs] at r1
      have := newVarO_post (t := t) h hd (cells_rel (x := .agg cs) r1 rfl) ht
      rw [Array.toArray_toList] at this
      exact .value (s := Instr.box t (a.eval x)) (by simp [execOp, hop]) (by simp [Instr.box, newVar, newRow, Result.andThen]) this
  | appd z y y' =>
    obtain ⟨x, x', t, t', el, ie, zv, hop, h1, h2, h3, h4, h5, h6, h7, h8, h9, h10, hz0⟩ := okK_app (okK_appd (s := 0) hok)
    simp only [ev, appW] at hev
    have r1 := arg h1
    have r2 := arg h2
    split at hev <;> try (simp at hev; done)
    rename_i s z' n hx
    have hzz : z' = z := by
      unfold appV at hev
      rw [hx] at hev
      simp only at hev
      split at hev
      · rename_i hc; exact hc.2
      · simp at hev
    subst hzz
    rw [hx] at r1 hev
    obtain ⟨q, w', hrun, hpost⟩ := app_ok (ty := o.type) h r1 r2 h3 h4 h5 h7 h8 h9 hz0 h10 hev
    exact .inl ⟨q, w', by simp [execOp, hop, resolve, invoke, builtin, hrun, Result.andThen], hpost⟩
  | slf z y lo hi =>
    obtain ⟨t, x, lo', hi', hop, h1, h2, h3, h4⟩ := okK_slf hok
    simp only [ev, Option.bind_eq_some_iff, Option.some.injEq, Prod.mk.injEq] at hev
    obtain ⟨y', hy', v, hv, rfl, rfl⟩ := hev
    obtain ⟨M', f1, f2, f3, f4⟩ := frzA_ok (sitesC (argv e S.ρ y)) h
    have hT : ∀ u x, RelT cx w (orP X M) S β α u x → RelT cx w (orP X M') { S with A := frzA S.A (sitesC (argv e S.ρ y)) } β α u x :=
      fun u x hu => RelT.tr (S' := { S with A := frzA S.A (sitesC (argv e S.ρ y)) }) (fun _ _ hr => sub_D f2 hr) f3 (fun s hs => ⟨hs, rfl⟩) hu
    have opt : ∀ {o : Option Operand} {y0 : Option Arg}, okOpt cx ds o y0 = true → (o.map a.eval = none ∧ y0.map (argv e S.ρ) = none) ∨ ∃ p q, o.map a.eval = some p ∧ y0.map (argv e S.ρ) = some q ∧ RelT cx w (orP X M') { S with A := frzA S.A (sitesC (argv e S.ρ y)) } β α p q := by
      intro o y0 hoy
      unfold okOpt at hoy
      split at hoy
      · exact .inl ⟨rfl, rfl⟩
      · exact .inr ⟨_, _, rfl, rfl, hT _ _ (arg hoy)⟩
      · simp at hoy
    have hrC : RelC cx w (orP X M) S α (a.eval x) (argv e S.ρ y) := by
      have := arg h1
      revert this hy'
      generalize argv e S.ρ y = q
      intro hy' h
      cases q <;> first | exact h | (simp [toDC, V.datC] at hy')
    have hdat : RelD cx w (orP X M') (a.eval x) y' := toDC_ok h hrC hy' (fun b hb => hb.imp id (f2 b)) (fun s hs b hb hex hn => by
      rcases hn with hx | hm
      · obtain ⟨z, rows, f, e1, e2⟩ := hex
        exact ((h.arr s z rows f e1 e2).2 b hb).1 (h.xb b hx)
      · exact f4 s hs b hb hex hm)
    obtain ⟨q, hrun, hq⟩ := sl_ok (P := P) h4 (.of_data hdat) (opt h2) (opt h3) hv
    exact .value (by simp only [execOp, hop, Option.map_none]) hrun ⟨β, α, M', f1, hT, .of_data hq, Kept.refl _ _⟩
  | mkoz z s =>
    have hop := okK_mkoz hok
    simp only [ev] at hev
    split at hev
    · simp at hev
    · rename_i hd
      simp only [Option.some.injEq, Prod.mk.injEq] at hev
      obtain ⟨rfl, rfl⟩ := hev
      obtain ⟨M', f1, f2, f3, f4⟩ := frzA_ok [s] h
      refine .inl ⟨.slice none 0 0, w, by simp [execOp, hop, Act.eval], ?_⟩
      have hadd := f1.addArr (d := d) (z0 := z) (rows0 := []) (v0 := .slice none 0 0) hd ⟨fun i hi => by simp at hi, .inl ⟨rfl, rfl⟩⟩ (fun b hb => by simp [hdr] at hb) (fun s b _ hb => by simp [hdr] at hb) (fun s z' r f _ _ b hb => by simp [hdr] at hb)
      have hT : ATr { S with A := frzA S.A [s] } { S with A := upd (frzA S.A [s]) d (some (z, [], .live)) } α (upd α d (.slice none 0 0)) := fun s' z' r f hs => by
        have : s' ≠ d := fun e => by rw [e] at hs; simp only at hs; rw [hd] at hs; simp at hs
        exact ⟨r, f, by simp only [upd, if_neg this]; exact hs, fun hf => ⟨hf, Nat.le_refl _, fun _ => by simp [upd, this]⟩⟩
      exact ⟨β, _, M', hadd, fun u x hu => RelT.tr (S := S) (fun _ _ hr => sub_D f2 hr) (f3.trans hT) (fun s hs => ⟨hs, rfl⟩) hu, ⟨[], .live, none, 0, by simp [upd], rfl, by simp, fun _ => ⟨by simp, fun _ => by simp [upd]⟩⟩, Kept.refl _ _⟩
  | slr s z y lo hi =>
    obtain ⟨t, x, lo', hi', hop, h1, h2, h3, h4⟩ := okK_slr hok
    simp only [ev, Option.bind_eq_some_iff, Option.some.injEq, Prod.mk.injEq] at hev
    obtain ⟨y', hy', v, hv, rfl, rfl⟩ := hev
    have opt : ∀ {o : Option Operand} {y : Option Arg}, okOpt cx ds o y = true → (o.map a.eval = none ∧ y.map (argv e S.ρ) = none) ∨ ∃ p q, o.map a.eval = some p ∧ y.map (argv e S.ρ) = some q ∧ RelT cx w (orP X M) S β α p q := by
      intro o y hoy
      unfold okOpt at hoy
      split at hoy
      · exact .inl ⟨rfl, rfl⟩
      · exact .inr ⟨_, _, rfl, rfl, arg hoy⟩
      · simp at hoy
    have r1 := arg h1
    unfold frzD at hy'
    split at hy' <;> try (simp at hy'; done)
    rename_i s' z' n hx
    split at hy' <;> try (simp at hy'; done)
    rename_i e0; subst e0
    split at hy' <;> try (simp at hy'; done)
    rename_i z'' rows hA
    split at hy' <;> simp only [Option.some.injEq, reduceCtorEq] at hy'
    rename_i hc
    obtain ⟨rfl, hn⟩ := hc
    subst hy'
    rw [hx] at r1
    have hdat : RelD cx w (orP X M) (a.eval x) (.slice z'' rows) := toDC_ok h (x := .own s' z'' n) r1 (by simp [toDC, hA, hn]) (fun b hb => hb) (fun s hs b hb hex hn => by
      have : s = s' := by simpa [sitesC] using hs
      subst this
      have p2 := (h.arr s z'' rows .frz hA (by simp)).2 b hb
      rcases hn with hx | hm
      · exact p2.1 (h.xb b hx)
      · exact p2.2.2 rfl hm)
    obtain ⟨q, hrun, hq⟩ := sl_ok (P := P) h4 (.of_data hdat) (opt h2) (opt h3) hv
    exact .value (by simp only [execOp, hop, Option.map_none]) hrun (.pure h (.of_data hq))
  | fld y off n =>
    obtain ⟨s, x, i, fs, f, hop, h1, h2, h3, h4, h5, h6⟩ := okK_fld hok
    simp only [ev] at hev
    have r1 := arg h1
    split at hev <;> try (simp at hev; done)
    rename_i cs hcs
    simp only [Option.bind_eq_some_iff, Option.some.injEq, Prod.mk.injEq] at hev
    obtain ⟨v, hv, rfl, rfl⟩ := hev
    rw [hcs] at r1
    obtain ⟨q, hrun, hq⟩ := fld_ok r1 h2 h3 h4 h5 h6 hv
    exact .value (by simp only [execOp, hop]) hrun (.pure h hq)
  | b2s y =>
    obtain ⟨s, d, x, e', hop, h1, h2, h3, h4⟩ := okK_b2s hok
    simp only [ev, Option.bind_eq_some_iff, Option.some.injEq, Prod.mk.injEq] at hev
    obtain ⟨v, hv, rfl, rfl⟩ := hev
    unfold b2sV at hv
    split at hv <;> try (simp at hv; done)
    rename_i rows hrows
    simp only [Option.bind_eq_some_iff, Option.some.injEq] at hv
    obtain ⟨l, hl', rfl⟩ := hv
    have hrC : RelC cx w (orP X M) S α (a.eval x) (argv e S.ρ y) := by
      have := arg h1
      revert this hrows
      generalize argv e S.ρ y = q
      intro hy' h
      cases q <;> first | exact h | (simp [toDC, V.datC] at hy')
    have hdat : RelD cx w (fun _ => False) (a.eval x) (.slice 1 rows) := toDC_ok h hrC hrows (fun b hb => hb.elim) (fun s hs b hb hex hn => hn)
    obtain ⟨q, hrun, hq⟩ := b2s_ok (dst := d) hdat hl' h2 h4 h3
    have hq' : RelD cx w (orP X M) q (.str l) := by cases hq; exact .str _
    exact .value (by simp only [execOp, hop]) hrun (.pure h hq')
  | bad => simp [ev] at hev
  | call f cv own asx =>
    obtain ⟨x, c, hop, hcx, hcal, hargs⟩ := okK_call hok
    refine call_ok h hg hl hκ.call ?_ hop hcx hcal hargs (by simpa only [ev] using hev)
    cases f with
    | k f => simp only [okOwn, Bool.or_eq_true, beq_iff_eq, Option.isNone_iff_eq_none] at hown; exact hown.imp id (fun h => ⟨f, rfl, h⟩)
    | v y => simp only [okOwn, Option.isNone_iff_eq_none] at hown; exact .inl hown
  | nilc y =>
    obtain ⟨x, hop, h1⟩ := okK_nilc hok
    have r1 := arg h1
    simp only [ev] at hev
    split at hev <;> simp only [Option.some.injEq, Prod.mk.injEq, reduceCtorEq] at hev
    · rename_i s' o' hy
      obtain ⟨rfl, rfl⟩ := hev
      rw [hy] at r1
      obtain ⟨q1, q2⟩ := r1
      exact .inl ⟨_, w, by simp [execOp, hop, q2], .pure h ⟨q1, rfl⟩⟩
    · rename_i s' i' o' n' hy
      obtain ⟨rfl, rfl⟩ := hev
      rw [hy] at r1
      have r2 := r1
      obtain ⟨_, _, _, _, _, _, _, q2, _⟩ := r1
      exact .inl ⟨a.eval x, w, by simp [execOp, hop, q2], .pure h r2⟩
    · rename_i cs o' hy
      obtain ⟨rfl, rfl⟩ := hev
      rw [hy] at r1
      have r2 := r1
      simp only [RelT] at r1
      obtain ⟨b, o'', c, el, fr, q2, _⟩ := cptr_inv r1
      exact .inl ⟨a.eval x, w, by simp [execOp, hop, q2], .pure h r2⟩
end
end Sg
namespace Sg
set_option linter.unusedSimpArgs false
set_option linter.unusedVariables false
def Arg.lr : Arg → List Nat
  | .l i => [i]
  | _ => []
def Arg.gr : Arg → List Nat
  | .g t => [t]
  | _ => []
def Cal.args : Cal → List Arg
  | .v x => [x]
  | .k _ => []
def K.args : K → List Arg
  | .mov x | .frz _ x | .box x | .nilq x | .un _ x | .conv _ x | .fad x _ | .ext x _ | .len _ x | .nilc x => [x]
  | .pick c a b => [c, a, b]
  | .alloc _ | .mko _ | .bad => []
  | .build _ ps => ps.map (·.2.2)
  | .mks _ _ _ ps | .mkb _ _ _ ps => ps.map (·.2)
  | .load _ _ p | .ldf _ _ _ p => [p]
  | .store _ _ p x => [p, x]
  | .bin _ x y | .eqa _ _ x y | .eqb _ x y | .sh _ x y | .mm _ x y | .iad _ x y | .iada _ _ x y | .idx x y | .app _ _ x y | .apf _ _ x y => [x, y]
  | .fn _ cap _ => cap
  | .sl _ _ x lo hi => x :: (lo.toList ++ hi.toList)
  | .ins _ _ _ x i y | .del _ _ _ x i y => [x, i, y]
  | .rcall _ xs _ _ _ => xs
  | .allo _ _ | .mkoz _ _ => []
  | .boxo x _ | .b2s x | .fld x _ _ => [x]
  | .appd _ x y => [x, y]
  | .slf _ x lo hi | .slr _ _ x lo hi => x :: (lo.toList ++ hi.toList)
  | .call f _ _ xs => f.args ++ xs
def K.vs (d : Nat) : K → List Nat
  | .box _ | .alloc _ | .allo _ _ | .boxo _ _ => [d]
  | .rcall _ _ _ s _ => [s]
  | .load (.v s) _ _ | .store (.v s) _ _ _ | .ldf _ s _ _ => [s]
  | .fn _ _ sites => sites
  | _ => []
def K.vw (d : Nat) : K → List Nat
  | .load .. | .ldf .. => []
  | k => k.vs d
def K.avs (d : Nat) : K → Option (List Nat)
  | .mko _ | .mkb .. => some [d]
  | .mkoz _ s => some [s, d]
  | .slr s _ _ _ _ => some [s]
  | .load (.e s) _ _ | .store (.e s) _ _ _ | .app s _ _ _ | .apf s _ _ _ | .ins _ s _ _ _ _ | .frz s _ | .ldf s _ _ _ => some [s]
  | .del _ s _ _ _ _ => some [s, d]
  | .call _ .no none _ => some []
  | .call _ .no (some _) _ => some [d]
  | .call .. => none
  | .rcall .. | .allo .. | .boxo .. | .appd .. | .slf .. | .b2s _ | .load .x _ _ => none
  | _ => some []
def K.aw (d : Nat) : K → Option (List Nat)
  | .load .. | .call _ .borrow _ _ | .b2s _ | .slr .. => some []
  | k => k.avs d
def inO (s : Nat) : Option (List Nat) → Prop
  | none => True
  | some l => s ∈ l
section
variable (κ : Nat → List V → Option V)
def Same (d : Nat) (k : K) (S S' : St) : Option (V × St) → Option (V × St) → Prop
  | none, none => True
  | some (v, T), some (v', T') => v = v' ∧ T.ρ = S.ρ ∧ T'.ρ = S'.ρ ∧ (∀ s, s ∈ k.vw d → T.μ s = T'.μ s) ∧ (∀ s, s ∉ k.vw d → T.μ s = S.μ s ∧ T'.μ s = S'.μ s) ∧
      (∀ s, inO s (k.aw d) → T.A s = T'.A s) ∧ (∀ s, ¬ inO s (k.aw d) → T.A s = S.A s ∧ T'.A s = S'.A s)
  | _, _ => False
theorem Same.pure {d : Nat} {k : K} {S S' : St} {v : V} (h1 : ∀ s, s ∈ k.vw d → S.μ s = S'.μ s) (h2 : ∀ s, inO s (k.aw d) → S.A s = S'.A s) : Same d k S S' (some (v, S)) (some (v, S')) :=
  ⟨rfl, rfl, rfl, h1, fun _ _ => ⟨rfl, rfl⟩, h2, fun _ _ => ⟨rfl, rfl⟩⟩
theorem Same.bindV {d : Nat} {k : K} {S S' : St} {o : Option V} (h1 : ∀ s, s ∈ k.vw d → S.μ s = S'.μ s) (h2 : ∀ s, inO s (k.aw d) → S.A s = S'.A s) :
    Same d k S S' (o.bind fun v => some (v, S)) (o.bind fun v => some (v, S')) := by
  cases o with
  | none => exact trivial
  | some v => exact .pure h1 h2
theorem mapO_congr {α β : Type} {f g : α → Option β} {l : List α} (h : ∀ x ∈ l, f x = g x) : mapO f l = mapO g l := by
  induction l with
  | nil => rfl
  | cons a l ih =>
    simp only [mapO, h a (by simp)]
    rw [ih fun x hx => h x (by simp [hx])]
theorem frzM_at (l : List Nat) : ∀ (μ μ' : Nat → Option (List V × Bool)) (s : Nat), μ s = μ' s → frzM μ l s = frzM μ' l s := by
  induction l with
  | nil => intro μ μ' s h; exact h
  | cons a l ih =>
    intro μ μ' s h
    show frzM (upd μ a _) l s = frzM (upd μ' a _) l s
    refine ih _ _ s ?_
    simp only [upd]
    split
    · rename_i e; subst e; rw [h]
    · exact h
theorem frzM_out (l : List Nat) : ∀ (μ : Nat → Option (List V × Bool)) (s : Nat), s ∉ l → frzM μ l s = μ s := by
  induction l with
  | nil => intro μ s _; rfl
  | cons a l ih =>
    intro μ s h
    show frzM (upd μ a _) l s = μ s
    rw [ih _ s (fun hs => h (by simp [hs]))]
    simp only [upd]
    rw [if_neg (fun e => h (by simp [e]))]
theorem toDC_same {A A' : Nat → Option (Nat × List (List V) × Fz)} {x : V} (h : ∀ s ∈ sitesC x, A s = A' s) : toDC A x = toDC A' x := by
  cases x <;> try rfl
  rename_i s z n
  have := h s (by simp [sitesC])
  simp only [toDC, this]
theorem toD_same {A A' : Nat → Option (Nat × List (List V) × Fz)} {x : V} (h : ∀ s ∈ sitesV x, A s = A' s) : toD A x = toD A' x := by
  cases x with
  | agg cs =>
    simp only [toD]
    rw [mapO_congr fun y hy => toDC_same fun s hs => h s (List.mem_flatMap.2 ⟨y, hy, hs⟩)]
  | own s z n =>
    have := h s (by simp [sitesV, sitesC])
    simp only [toD, toDC, this]
  | _ => rfl
theorem ev_same (d : Nat) (k : K) (e e' : Nat → V) (S S' : St) (ha : ∀ x ∈ k.args, argv e S.ρ x = argv e' S'.ρ x) (hv : ∀ s, s ∈ k.vs d → S.μ s = S'.μ s) (hA : ∀ s, inO s (k.avs d) → S.A s = S'.A s) :
    Same d k S S' (ev κ d e S k) (ev κ d e' S' k) := by
  cases k with
  | mov x => simp only [ev, ha x (by simp [K.args])]; exact .pure (by simp [K.vw, K.vs]) (by simp [K.aw, K.avs, inO])
  | pick c a b =>
    simp only [ev, ha c (by simp [K.args]), ha a (by simp [K.args]), ha b (by simp [K.args])]
    split
    · exact .pure (by simp [K.vw, K.vs]) (by simp [K.aw, K.avs, inO])
    · exact trivial
  | box x =>
    simp only [ev, ha x (by simp [K.args]), hv d (by simp [K.vs])]
    split
    · exact trivial
    · cases (argv e' S'.ρ x).cells with
      | none => exact trivial
      | some cs =>
        refine ⟨rfl, rfl, rfl, fun s hs => ?_, fun s hs => ?_, fun s hs => by simp [K.aw, K.avs, inO] at hs, fun s hs => ⟨rfl, rfl⟩⟩
        · simp [K.vw, K.vs] at hs; simp [upd, hs]
        · simp [K.vw, K.vs] at hs; simp [upd, hs]
  | alloc z =>
    simp only [ev, hv d (by simp [K.vs])]
    split
    · exact trivial
    · refine ⟨rfl, rfl, rfl, fun s hs => ?_, fun s hs => ?_, fun s hs => by simp [K.aw, K.avs, inO] at hs, fun s hs => ⟨rfl, rfl⟩⟩
      · simp [K.vw, K.vs] at hs; simp [upd, hs]
      · simp [K.vw, K.vs] at hs; simp [upd, hs]
  | build z ps =>
    have : ps.map (fun p => (p.1, p.2.1, argv e S.ρ p.2.2)) = ps.map (fun p => (p.1, p.2.1, argv e' S'.ρ p.2.2)) := List.map_congr_left fun p hp => by rw [ha p.2.2 (by simp only [K.args, List.mem_map]; exact ⟨p, hp, rfl⟩)]
    simp only [ev, this]
    cases fillAt z (ps.map fun p => (p.1, p.2.1, argv e' S'.ρ p.2.2)) with
    | none => exact trivial
    | some cs => exact .pure (by simp [K.vw, K.vs]) (by simp [K.aw, K.avs, inO])
  | mks z n zero ps =>
    have : ps.map (fun p => (p.1, argv e S.ρ p.2)) = ps.map (fun p => (p.1, argv e' S'.ρ p.2)) := List.map_congr_left fun p hp => by rw [ha p.2 (by simp only [K.args, List.mem_map]; exact ⟨p, hp, rfl⟩)]
    simp only [ev, this]
    cases fillRows z (List.replicate n zero) (ps.map fun p => (p.1, argv e' S'.ρ p.2)) with
    | none => exact trivial
    | some cs => exact .pure (by simp [K.vw, K.vs]) (by simp [K.aw, K.avs, inO])
  | mko z =>
    simp only [ev, hA d (by simp [K.avs, inO])]
    split
    · exact trivial
    · refine ⟨rfl, rfl, rfl, fun s hs => by simp [K.vw, K.vs] at hs, fun s hs => ⟨rfl, rfl⟩, fun s hs => ?_, fun s hs => ?_⟩
      · simp [K.aw, K.avs, inO] at hs; simp [upd, hs]
      · simp [K.aw, K.avs, inO] at hs; simp [upd, hs]
  | load l n p =>
    have : loadV S l n (argv e S.ρ p) = loadV S' l n (argv e' S'.ρ p) := by
      rw [ha p (by simp [K.args])]
      generalize argv e' S'.ρ p = p'
      unfold loadV
      cases l with
      | v s =>
        have h1 := hv s (by simp [K.vs])
        cases p' <;> simp only [h1]
      | e s =>
        have h1 := hA s (by simp [K.avs, inO])
        cases p' <;> simp only [h1]
      | c => cases p' <;> rfl
      | x =>
        have h1 : S.A = S'.A := funext fun s => hA s (by simp [K.avs, inO])
        cases p' <;> simp only [h1]
    simp only [ev, this]
    exact .bindV (by simp [K.vw]) (by simp [K.aw, inO])
  | store l n p x =>
    simp only [ev, ha p (by simp [K.args]), ha x (by simp [K.args])]
    generalize argv e' S'.ρ p = p'
    generalize argv e' S'.ρ x = x'
    unfold storeV
    cases x'.cells with
    | none => exact trivial
    | some xs =>
      simp only [Option.bind_some]
      split
      · cases l with
        | v s =>
          cases p' <;> try exact trivial
          rename_i s' off
          simp only
          split
          · rw [hv s (by simp [K.vs])]
            split
            · rename_i cs _
              cases setAt cs off xs with
              | none => exact trivial
              | some cs' =>
                refine ⟨rfl, rfl, rfl, fun s hs => ?_, fun s hs => ?_, fun s hs => by simp [K.aw, K.avs, inO] at hs, fun s hs => ⟨rfl, rfl⟩⟩
                · simp [K.vw, K.vs] at hs; simp [upd, hs]
                · simp [K.vw, K.vs] at hs; simp [upd, hs]
            · exact trivial
          · exact trivial
        | e s =>
          cases p' <;> try exact trivial
          rename_i s' i off m
          simp only
          split
          · rw [hA s (by simp [K.avs, inO])]
            split
            · rename_i z rows _
              split
              · cases rows[i]? with
                | none => exact trivial
                | some r =>
                  simp only [Option.bind_some]
                  cases setAt r off xs with
                  | none => exact trivial
                  | some r' =>
                    refine ⟨rfl, rfl, rfl, fun s hs => by simp [K.vw, K.vs] at hs, fun s hs => ⟨rfl, rfl⟩, fun s hs => ?_, fun s hs => ?_⟩
                    · simp [K.aw, K.avs, inO] at hs; simp [upd, hs]
                    · simp [K.aw, K.avs, inO] at hs; simp [upd, hs]
              · exact trivial
            · exact trivial
          · exact trivial
        | c => cases p' <;> exact trivial
        | x => cases p' <;> exact trivial
      · exact trivial
  | bin o x y => simp only [ev, ha x (by simp [K.args]), ha y (by simp [K.args])]; exact .bindV (by simp [K.vw, K.vs]) (by simp [K.aw, K.avs, inO])
  | eqa ne sh x y =>
    simp only [ev, ha x (by simp [K.args]), ha y (by simp [K.args])]
    split
    · rename_i xs ys _ _
      cases eqVs sh xs ys with
      | none => exact trivial
      | some b => exact .pure (by simp [K.vw, K.vs]) (by simp [K.aw, K.avs, inO])
    · exact trivial
  | eqb ne x y =>
    simp only [ev, ha x (by simp [K.args]), ha y (by simp [K.args])]
    split
    · exact .pure (by simp [K.vw, K.vs]) (by simp [K.aw, K.avs, inO])
    · exact trivial
  | sh o x y => simp only [ev, ha x (by simp [K.args]), ha y (by simp [K.args])]; exact .bindV (by simp [K.vw, K.vs]) (by simp [K.aw, K.avs, inO])
  | mm mx x y =>
    simp only [ev, ha x (by simp [K.args]), ha y (by simp [K.args])]
    split
    · split
      · exact .pure (by simp [K.vw, K.vs]) (by simp [K.aw, K.avs, inO])
      · exact trivial
    · exact trivial
  | un o x => simp only [ev, ha x (by simp [K.args])]; exact .bindV (by simp [K.vw, K.vs]) (by simp [K.aw, K.avs, inO])
  | conv c x => simp only [ev, ha x (by simp [K.args])]; exact .bindV (by simp [K.vw, K.vs]) (by simp [K.aw, K.avs, inO])
  | fn f cap sites =>
    have hc : cap.map (argv e S.ρ) = cap.map (argv e' S'.ρ) := List.map_congr_left fun x hx => ha x (by simp [K.args, hx])
    have hd : sites.all (datSite S.μ) = sites.all (datSite S'.μ) := by
      rw [Bool.eq_iff_iff, List.all_eq_true, List.all_eq_true]
      constructor <;> intro h s hs
      · have := h s hs; simp only [datSite] at this ⊢; rwa [← hv s (by simpa [K.vs] using hs)]
      · have := h s hs; simp only [datSite] at this ⊢; rwa [hv s (by simpa [K.vs] using hs)]
    have hcap : ∀ x : V, capV S.μ sites x = capV S'.μ sites x := fun x => by
      unfold capV
      split
      · rename_i s
        by_cases hs : s ∈ sites
        · rw [hv s (by simpa [K.vs] using hs)]
        · have : sites.contains s = false := by simpa using hs
          rw [this]
          cases S.μ s <;> cases S'.μ s <;> simp
      · rfl
    simp only [ev, hc, hd, mapO_congr (fun x _ => hcap x)]
    split
    · cases mapO (capV S'.μ sites) (cap.map (argv e' S'.ρ)) with
      | none => exact trivial
      | some cs =>
        refine ⟨rfl, rfl, rfl, fun s hs => ?_, fun s hs => ?_, fun s hs => by simp [K.aw, K.avs, inO] at hs, fun s hs => ⟨rfl, rfl⟩⟩
        · exact frzM_at sites _ _ s (hv s hs)
        · exact ⟨frzM_out sites _ s hs, frzM_out sites _ s hs⟩
    · exact trivial
  | sl st z x lo hi =>
    have hlo : lo.map (argv e S.ρ) = lo.map (argv e' S'.ρ) := by cases lo with | none => rfl | some a => simp [ha a (by simp [K.args])]
    have hhi : hi.map (argv e S.ρ) = hi.map (argv e' S'.ρ) := by cases hi with | none => rfl | some a => simp [ha a (by simp [K.args])]
    simp only [ev, ha x (by simp [K.args]), hlo, hhi]; exact .bindV (by simp [K.vw, K.vs]) (by simp [K.aw, K.avs, inO])
  | fad x off => simp only [ev, ha x (by simp [K.args])]; exact .bindV (by simp [K.vw, K.vs]) (by simp [K.aw, K.avs, inO])
  | iad z x i => simp only [ev, ha x (by simp [K.args]), ha i (by simp [K.args])]; exact .bindV (by simp [K.vw, K.vs]) (by simp [K.aw, K.avs, inO])
  | iada z n x i => simp only [ev, ha x (by simp [K.args]), ha i (by simp [K.args])]; exact .bindV (by simp [K.vw, K.vs]) (by simp [K.aw, K.avs, inO])
  | idx x i => simp only [ev, ha x (by simp [K.args]), ha i (by simp [K.args])]; exact .bindV (by simp [K.vw, K.vs]) (by simp [K.aw, K.avs, inO])
  | ext x i => simp only [ev, ha x (by simp [K.args])]; exact .bindV (by simp [K.vw, K.vs]) (by simp [K.aw, K.avs, inO])
  | len st x => simp only [ev, ha x (by simp [K.args])]; exact .bindV (by simp [K.vw, K.vs]) (by simp [K.aw, K.avs, inO])
  | app s z x y =>
    simp only [ev, ha x (by simp [K.args]), ha y (by simp [K.args])]
    generalize argv e' S'.ρ x = x'
    generalize argv e' S'.ρ y = y'
    unfold appN appV
    cases x' <;> try exact trivial
    case nslice z' =>
      simp only
      split
      · rw [hA s (by simp [K.avs, inO])]
        split
        · cases V.rowsOf z y' with
          | none => exact trivial
          | some ys =>
            simp only [Option.bind_some]
            split
            · refine ⟨rfl, rfl, rfl, fun s hs => by simp [K.vw, K.vs] at hs, fun s hs => ⟨rfl, rfl⟩, fun s hs => ?_, fun s hs => ?_⟩
              · simp [K.aw, K.avs, inO] at hs; simp [upd, hs]
              · simp [K.aw, K.avs, inO] at hs; simp [upd, hs]
            · exact trivial
        · exact trivial
      · exact trivial
    rename_i s' z' n
    simp only
    split
    · rw [hA s (by simp [K.avs, inO])]
      split
      · rename_i z'' rows _
        split
        · cases V.rowsOf z y' with
          | none => exact trivial
          | some ys =>
            simp only [Option.bind_some]
            split
            · refine ⟨rfl, rfl, rfl, fun s hs => by simp [K.vw, K.vs] at hs, fun s hs => ⟨rfl, rfl⟩, fun s hs => ?_, fun s hs => ?_⟩
              · simp [K.aw, K.avs, inO] at hs; simp [upd, hs]
              · simp [K.aw, K.avs, inO] at hs; simp [upd, hs]
            · exact trivial
        · exact trivial
      · exact trivial
    · exact trivial
  | apf s z x y =>
    simp only [ev, ha x (by simp [K.args]), ha y (by simp [K.args])]
    generalize argv e' S'.ρ x = x'
    generalize argv e' S'.ρ y = y'
    unfold appV
    cases x' <;> try exact trivial
    rename_i s' z' n
    simp only
    split
    · rw [hA s (by simp [K.avs, inO])]
      split
      · rename_i z'' rows _
        split
        · cases V.rowsOf z y' with
          | none => exact trivial
          | some ys =>
            simp only [Option.bind_some]
            split
            · rename_i hlen
              have e1 : ∀ A : Nat → Option (Nat × List (List V) × Fz), toDC (upd A s (some (z, rows ++ ys, .live))) (.own s z (rows.length + ys.length)) = some (.slice z (rows ++ ys)) := fun A => by simp [toDC, upd]
              simp only [e1, Option.bind_some]
              refine ⟨rfl, rfl, rfl, fun s hs => by simp [K.vw, K.vs] at hs, fun s hs => ⟨rfl, rfl⟩, fun s hs => ?_, fun s hs => ?_⟩
              · simp [K.aw, K.avs, inO] at hs; simp [frzA, upd, hs]
              · simp [K.aw, K.avs, inO] at hs; simp [frzA, upd, hs]
            · exact trivial
        · exact trivial
      · exact trivial
    · exact trivial
  | ins f s z x i y =>
    simp only [ev, ha x (by simp [K.args]), ha i (by simp [K.args]), ha y (by simp [K.args])]
    split
    · split
      · rw [hA s (by simp [K.avs, inO])]
        split
        · split
          · refine ⟨rfl, rfl, rfl, fun s hs => by simp [K.vw, K.vs] at hs, fun s hs => ⟨rfl, rfl⟩, fun s hs => ?_, fun s hs => ?_⟩
            · simp [K.aw, K.avs, inO] at hs; simp [upd, hs]
            · simp [K.aw, K.avs, inO] at hs; simp [upd, hs]
          · exact trivial
        · exact trivial
      · exact trivial
    · exact trivial
  | del f s z x i j =>
    simp only [ev, ha x (by simp [K.args]), ha i (by simp [K.args]), ha j (by simp [K.args])]
    split
    · split
      · rw [hA s (by simp [K.avs, inO]), hA d (by simp [K.avs, inO])]
        split
        · split
          · refine ⟨rfl, rfl, rfl, fun s hs => by simp [K.vw, K.vs] at hs, fun s hs => ⟨rfl, rfl⟩, fun t ht => ?_, fun t ht => ?_⟩
            · simp [K.aw, K.avs, inO] at ht
              by_cases e1 : t = d
              · simp [upd, e1]
              · have : t = s := by rcases ht with h | h <;> simp_all
                subst this; simp [upd, e1]
            · simp [K.aw, K.avs, inO] at ht
              simp [upd, ht.1, ht.2]
          · exact trivial
        · exact trivial
      · exact trivial
    · exact trivial
  | call f cv own xs =>
    have hc : callee e S.ρ f = callee e' S'.ρ f := by
      cases f with
      | k f => rfl
      | v x => simp only [callee, ha x (by simp [K.args, Cal.args])]
    have hx : xs.map (argv e S.ρ) = xs.map (argv e' S'.ρ) := List.map_congr_left fun x hx => ha x (by simp [K.args, hx])
    simp only [ev, hc, hx]
    cases callee e' S'.ρ f with
    | none => exact trivial
    | some fc =>
      simp only [Option.bind_some]
      generalize xs.map (argv e' S'.ρ) = avs
      unfold callV
      cases cv with
      | no =>
        simp only
        split
        · cases κ fc.1 (avs ++ fc.2) with
          | none => exact trivial
          | some r =>
            simp only [Option.bind_some]
            cases own with
            | none => exact .pure (by simp [K.vw, K.vs]) (by simp [K.aw, K.avs, inO])
            | some j =>
              simp only [adopt, hA d (by simp [K.avs, inO])]
              split
              · exact trivial
              · split
                · refine ⟨rfl, rfl, rfl, fun s hs => by simp [K.vw, K.vs] at hs, fun s hs => ⟨rfl, rfl⟩, fun s hs => ?_, fun s hs => ?_⟩
                  · simp [K.aw, K.avs, inO] at hs; simp [upd, hs]
                  · simp [K.aw, K.avs, inO] at hs; simp [upd, hs]
                · split
                  · refine ⟨rfl, rfl, rfl, fun s hs => by simp [K.vw, K.vs] at hs, fun s hs => ⟨rfl, rfl⟩, fun s hs => ?_, fun s hs => ?_⟩
                    · simp [K.aw, K.avs, inO] at hs; simp [upd, hs]
                    · simp [K.aw, K.avs, inO] at hs; simp [upd, hs]
                  · exact trivial
                · exact trivial
        · exact trivial
      | borrow =>
        have : S.A = S'.A := funext fun s => hA s (by simp [K.avs, inO])
        simp only [this]
        cases mapO (toD S'.A) avs with
        | none => exact trivial
        | some bs =>
          simp only [Option.bind_some]
          cases κ fc.1 (bs ++ fc.2) with
          | none => exact trivial
          | some r =>
            simp only [Option.bind_some]
            split
            · exact .pure (by simp [K.vw, K.vs]) (by simp [K.aw, inO])
            · exact trivial
      | freeze =>
        have hAA : S.A = S'.A := funext fun s => hA s (by simp [K.avs, inO])
        simp only [hAA]
        cases mapO (toD S'.A) avs with
        | none => exact trivial
        | some bs =>
          simp only [Option.bind_some]
          cases κ fc.1 (bs ++ fc.2) with
          | none => exact trivial
          | some r =>
            simp only [Option.bind_some]
            unfold adopt
            cases own with
            | none => exact ⟨rfl, rfl, rfl, fun s hs => by simp [K.vw, K.vs] at hs, fun s hs => ⟨rfl, rfl⟩, fun s hs => rfl, fun s hs => by simp [K.aw, K.avs, inO] at hs⟩
            | some j =>
              simp only
              split
              · exact trivial
              · split
                · exact ⟨rfl, rfl, rfl, fun s hs => by simp [K.vw, K.vs] at hs, fun s hs => ⟨rfl, rfl⟩, fun s hs => rfl, fun s hs => by simp [K.aw, K.avs, inO] at hs⟩
                · split
                  · exact ⟨rfl, rfl, rfl, fun s hs => by simp [K.vw, K.vs] at hs, fun s hs => ⟨rfl, rfl⟩, fun s hs => rfl, fun s hs => by simp [K.aw, K.avs, inO] at hs⟩
                  · exact trivial
                · exact trivial
  | nilc x =>
    simp only [ev, ha x (by simp [K.args])]
    split <;> first | exact trivial | exact .pure (by simp [K.vw, K.vs]) (by simp [K.aw, K.avs, inO])
  | nilq x =>
    simp only [ev, ha x (by simp [K.args])]
    split <;> first | exact trivial | exact .pure (by simp [K.vw, K.vs]) (by simp [K.aw, K.avs, inO])
  | frz s x =>
    simp only [ev, ha x (by simp [K.args])]
    have hA0 : S.A s = S'.A s := hA s (by simp [K.avs, inO])
    split
    · rename_i s' z n hx
      split
      · have e1 : toDC S.A (.own s z n) = toDC S'.A (.own s z n) := by simp only [toDC, hA0]
        rw [e1]
        cases toDC S'.A (.own s z n) with
        | none => exact trivial
        | some v => exact ⟨rfl, rfl, rfl, fun s hs => by simp [K.vw, K.vs] at hs, fun s hs => ⟨rfl, rfl⟩, fun t ht => by
            simp [K.aw, K.avs, inO] at ht; subst ht; simp [frzA, upd, hA0], fun t ht => by
            simp [K.aw, K.avs, inO] at ht; exact ⟨by simp [frzA, upd, ht], by simp [frzA, upd, ht]⟩⟩
      · exact trivial
    · exact trivial
  | ldf s v n p =>
    have e0 : loadV S (.v v) (some n) (argv e S.ρ p) = loadV S' (.v v) (some n) (argv e' S'.ρ p) := by
      rw [ha p (by simp [K.args])]
      generalize argv e' S'.ρ p = p'
      unfold loadV
      have h1 := hv v (by simp [K.vs])
      cases p' <;> simp only [h1]
    have hA0 : S.A s = S'.A s := hA s (by simp [K.avs, inO])
    simp only [ev, e0]
    cases loadV S' (.v v) (some n) (argv e' S'.ρ p) with
    | none => exact trivial
    | some x =>
      simp only [Option.bind_some]
      split
      · rename_i hall
        have e1 : toD S.A x = toD S'.A x := toD_same fun t ht => by
          have := List.all_eq_true.1 hall t ht
          rw [beq_iff_eq.1 this]; exact hA0
        rw [e1]
        cases toD S'.A x with
        | none => exact trivial
        | some y => exact ⟨rfl, rfl, rfl, fun s hs => by simp [K.vw] at hs, fun s hs => ⟨rfl, rfl⟩, fun t ht => by
            simp [K.aw, K.avs, inO] at ht; subst ht; simp [frzA, upd, hA0], fun t ht => by
            simp [K.aw, K.avs, inO] at ht; exact ⟨by simp [frzA, upd, ht], by simp [frzA, upd, ht]⟩⟩
      · exact trivial
  | mkb z n zero ps =>
    have : ps.map (fun p => (p.1, argv e S.ρ p.2)) = ps.map (fun p => (p.1, argv e' S'.ρ p.2)) := List.map_congr_left fun p hp => by rw [ha p.2 (by simp only [K.args, List.mem_map]; exact ⟨p, hp, rfl⟩)]
    have hA0 : S.A d = S'.A d := hA d (by simp [K.avs, inO])
    simp only [ev, this, adopt, ← hA0]
    cases fillRows z (List.replicate n zero) (ps.map fun p => (p.1, argv e' S'.ρ p.2)) with
    | none => exact trivial
    | some rows =>
      simp only [Option.bind_some]
      cases S.A d with
      | some x => exact trivial
      | none => exact ⟨rfl, rfl, rfl, fun s hs => by simp [K.vw, K.vs] at hs, fun s hs => ⟨rfl, rfl⟩, fun s hs => by
          simp [K.aw, K.avs, inO] at hs; subst hs; simp [upd], fun s hs => by
          simp [K.aw, K.avs, inO] at hs; exact ⟨by simp [upd, hs], by simp [upd, hs]⟩⟩
  | rcall f xs k s b =>
    have hx : xs.map (argv e S.ρ) = xs.map (argv e' S'.ρ) := List.map_congr_left fun x hx => ha x (by simp [K.args, hx])
    have hAA : S.A = S'.A := funext fun s => hA s (by simp [K.avs, inO])
    have h1 : S.μ s = S'.μ s := hv s (by simp [K.vs])
    simp only [ev, hx]
    generalize xs.map (argv e' S'.ρ) = avs
    have hA1 : rcallA S k s avs = rcallA S' k s avs := by unfold rcallA; simp only [hAA, h1]
    unfold rcallV
    rw [hA1]
    cases rcallA S' k s avs with
    | none => exact trivial
    | some q =>
      simp only [Option.bind_some]
      cases κ f q.1 with
      | none => exact trivial
      | some r =>
        simp only [Option.bind_some]
        unfold rcallE
        split
        · rename_i us
          cases takeL b us q.2 with
          | none => exact trivial
          | some t =>
            refine ⟨rfl, rfl, rfl, fun s hs => ?_, fun s hs => ?_, fun s hs => rfl, fun s hs => by simp [K.aw, K.avs, inO] at hs⟩
            · simp [K.vw, K.vs] at hs; simp [upd, hs]
            · simp [K.vw, K.vs] at hs; simp [upd, hs]
        · exact trivial
  | allo z b =>
    have hAA : S.A = S'.A := funext fun s => hA s (by simp [K.avs, inO])
    simp only [ev, hv d (by simp [K.vs]), hAA]
    split
    · exact trivial
    · cases takeL b (z.map nilT) S'.A with
      | none => exact trivial
      | some t =>
        refine ⟨rfl, rfl, rfl, fun s hs => ?_, fun s hs => ?_, fun s hs => rfl, fun s hs => by simp [K.aw, K.avs, inO] at hs⟩
        · simp [K.vw, K.vs] at hs; simp [upd, hs]
        · simp [K.vw, K.vs] at hs; simp [upd, hs]
  | boxo x b =>
    have hAA : S.A = S'.A := funext fun s => hA s (by simp [K.avs, inO])
    simp only [ev, hv d (by simp [K.vs]), hAA, ha x (by simp [K.args])]
    split
    · exact trivial
    · split
      · rename_i cs _
        split
        · cases takeL b (cs.map nilT) S'.A with
          | none => exact trivial
          | some t =>
            refine ⟨rfl, rfl, rfl, fun s hs => ?_, fun s hs => ?_, fun s hs => rfl, fun s hs => by simp [K.aw, K.avs, inO] at hs⟩
            · simp [K.vw, K.vs] at hs; simp [upd, hs]
            · simp [K.vw, K.vs] at hs; simp [upd, hs]
        · exact trivial
      · exact trivial
  | appd z x y =>
    have hAA : S.A = S'.A := funext fun s => hA s (by simp [K.avs, inO])
    simp only [ev, ha x (by simp [K.args]), ha y (by simp [K.args])]
    generalize argv e' S'.ρ x = x'
    generalize argv e' S'.ρ y = y'
    unfold appW appV
    cases x' <;> try exact trivial
    simp only [hAA]
    split
    · split
      · split
        · cases V.rowsOf z y' with
          | none => exact trivial
          | some ys =>
            simp only [Option.bind_some]
            split
            · exact ⟨rfl, rfl, rfl, fun s hs => by simp [K.vw, K.vs] at hs, fun s hs => ⟨rfl, rfl⟩, fun s hs => rfl, fun s hs => by simp [K.aw, K.avs, inO] at hs⟩
            · exact trivial
        · exact trivial
      · exact trivial
    · exact trivial
  | slf z x lo hi =>
    have hAA : S.A = S'.A := funext fun s => hA s (by simp [K.avs, inO])
    have hlo : lo.map (argv e S.ρ) = lo.map (argv e' S'.ρ) := by cases lo with | none => rfl | some a => simp [ha a (by simp [K.args])]
    have hhi : hi.map (argv e S.ρ) = hi.map (argv e' S'.ρ) := by cases hi with | none => rfl | some a => simp [ha a (by simp [K.args])]
    simp only [ev, ha x (by simp [K.args]), hlo, hhi, hAA]
    cases toDC S'.A (argv e' S'.ρ x) with
    | none => exact trivial
    | some y =>
      simp only [Option.bind_some]
      cases slV false z y (lo.map (argv e' S'.ρ)) (hi.map (argv e' S'.ρ)) with
      | none => exact trivial
      | some v => exact ⟨rfl, rfl, rfl, fun s hs => by simp [K.vw, K.vs] at hs, fun s hs => ⟨rfl, rfl⟩, fun s hs => rfl, fun s hs => by simp [K.aw, K.avs, inO] at hs⟩
  | mkoz z s =>
    have h1 : S.A s = S'.A s := hA s (by simp [K.avs, inO])
    have h2 : S.A d = S'.A d := hA d (by simp [K.avs, inO])
    have h3 : frzA S.A [s] d = frzA S'.A [s] d := by simp only [frzA, List.foldl_cons, List.foldl_nil, upd, h1, h2]
    simp only [ev, h3]
    split
    · exact trivial
    · refine ⟨rfl, rfl, rfl, fun s hs => by simp [K.vw, K.vs] at hs, fun s hs => ⟨rfl, rfl⟩, fun t ht => ?_, fun t ht => ?_⟩
      · simp [K.aw, K.avs, inO] at ht
        by_cases e1 : t = d
        · simp [upd, e1]
        · have : t = s := by rcases ht with h | h <;> simp_all
          subst this; simp [upd, e1, frzA, h1]
      · simp [K.aw, K.avs, inO] at ht
        simp [upd, frzA, ht.1, ht.2]
  | slr s z x lo hi =>
    have hA0 : S.A s = S'.A s := hA s (by simp [K.avs, inO])
    have hlo : lo.map (argv e S.ρ) = lo.map (argv e' S'.ρ) := by cases lo with | none => rfl | some a => simp [ha a (by simp [K.args])]
    have hhi : hi.map (argv e S.ρ) = hi.map (argv e' S'.ρ) := by cases hi with | none => rfl | some a => simp [ha a (by simp [K.args])]
    have hf : ∀ x, frzD S.A s x = frzD S'.A s x := fun x => by cases x <;> simp only [frzD, hA0]
    simp only [ev, ha x (by simp [K.args]), hlo, hhi, hf]
    cases frzD S'.A s (argv e' S'.ρ x) with
    | none => exact trivial
    | some y =>
      simp only [Option.bind_some]
      exact .bindV (by simp [K.vw, K.vs]) (by simp [K.aw, inO])
  | fld x off n =>
    simp only [ev, ha x (by simp [K.args])]
    split
    · exact .bindV (by simp [K.vw, K.vs]) (by simp [K.aw, K.avs, inO])
    · exact trivial
  | b2s x =>
    have hAA : S.A = S'.A := funext fun s => hA s (by simp [K.avs, inO])
    simp only [ev, ha x (by simp [K.args]), hAA]
    exact .bindV (by simp [K.vw, K.vs]) (by simp [K.aw, inO])
  | bad => exact trivial
def Op.gw (o : Op) : List Nat := if o.gl then o.dst.toList else []
def Op.d (o : Op) : Nat := o.dst.getD 0
def Op.lr (o : Op) : List Nat := (o.gd.toList.map (·.1)) ++ o.k.args.flatMap Arg.lr
def Op.gr (o : Op) : List Nat := o.k.args.flatMap Arg.gr
structure Agree (o : Op) (e e' : Nat → V) (S S' : St) : Prop where
  l : ∀ i, i ∈ o.lr → e i = e' i
  g : ∀ t, t ∈ o.gr → S.ρ t = S'.ρ t
  v : ∀ s, s ∈ o.k.vs o.d → S.μ s = S'.μ s
  a : ∀ s, inO s (o.k.avs o.d) → S.A s = S'.A s
def SameS (o : Op) (S S' : St) : Option (V × St) → Option (V × St) → Prop
  | none, none => True
  | some (v, T), some (v', T') => v = v' ∧ (∀ t, t ∈ o.gw → T.ρ t = T'.ρ t) ∧ (∀ t, t ∉ o.gw → T.ρ t = S.ρ t ∧ T'.ρ t = S'.ρ t) ∧
      (∀ s, s ∈ o.k.vw o.d → T.μ s = T'.μ s) ∧ (∀ s, s ∉ o.k.vw o.d → T.μ s = S.μ s ∧ T'.μ s = S'.μ s) ∧
      (∀ s, inO s (o.k.aw o.d) → T.A s = T'.A s) ∧ (∀ s, ¬ inO s (o.k.aw o.d) → T.A s = S.A s ∧ T'.A s = S'.A s)
  | _, _ => False
theorem vw_vs {d : Nat} {k : K} {s : Nat} (h : s ∈ k.vw d) : s ∈ k.vs d := by
  cases k <;> simp_all [K.vw]
theorem aw_as {d : Nat} {k : K} {s : Nat} (h : inO s (k.aw d)) : inO s (k.avs d) := by
  cases k <;> try (exact h)
  · simp [K.aw, inO] at h
  · rename_i f cv own xs
    cases cv
    · exact h
    · simp [K.aw, inO] at h
    · exact h
  · simp [K.aw, inO] at h
  · simp [K.aw, inO] at h
theorem put_ρ (S : St) (o : Op) (v : V) : (∀ t, t ∈ o.gw → (S.put o v).ρ t = v) ∧ (∀ t, t ∉ o.gw → (S.put o v).ρ t = S.ρ t) ∧ (S.put o v).μ = S.μ ∧ (S.put o v).A = S.A := by
  unfold St.put Op.gw
  cases o.gl <;> cases o.dst <;> simp [upd]
  intro t ht e; exact absurd e ht
theorem step_same (o : Op) (e e' : Nat → V) (S S' : St) (h : Agree o e e' S S') : SameS o S S' (step κ o e S) (step κ o e' S') := by
  have hw : wantedV e o.gd = wantedV e' o.gd := by
    unfold wantedV
    cases hg : o.gd with
    | none => rfl
    | some jb => obtain ⟨j, b⟩ := jb; simp only; rw [h.l j (by simp [Op.lr, hg])]
  unfold step
  rw [hw]
  have ha : ∀ x ∈ o.k.args, argv e S.ρ x = argv e' S'.ρ x := fun x hx => by
    cases x with
    | g t => exact h.g t (by simp only [Op.gr, List.mem_flatMap]; exact ⟨_, hx, by simp [Arg.gr]⟩)
    | l i => exact h.l i (by simp only [Op.lr, List.mem_append, List.mem_flatMap]; exact .inr ⟨_, hx, by simp [Arg.lr]⟩)
    | c v => rfl
    | f k => rfl
  split
  · exact trivial
  · obtain ⟨p1, p2, p3, p4⟩ := put_ρ S o .un
    obtain ⟨q1, q2, q3, q4⟩ := put_ρ S' o .un
    refine ⟨rfl, fun t ht => by rw [p1 t ht, q1 t ht], fun t ht => ⟨p2 t ht, q2 t ht⟩, fun s hs => by rw [p3, q3]; exact h.v s (vw_vs hs), fun s hs => by rw [p3, q3]; exact ⟨rfl, rfl⟩,
      fun s hs => by rw [p4, q4]; exact h.a s (aw_as hs), fun s hs => by rw [p4, q4]; exact ⟨rfl, rfl⟩⟩
  · have hev := ev_same κ o.d o.k e e' S S' ha h.v h.a
    show SameS o S S' ((ev κ o.d e S o.k).bind _) ((ev κ o.d e' S' o.k).bind _)
    generalize ev κ o.d e S o.k = r at hev
    generalize ev κ o.d e' S' o.k = r' at hev
    cases r with
    | none => cases r' with
      | none => exact trivial
      | some _ => exact hev.elim
    | some r => cases r' with
      | none => exact hev.elim
      | some r' =>
        obtain ⟨v, T⟩ := r
        obtain ⟨v', T'⟩ := r'
        obtain ⟨rfl, h1, h2, h3, h4, h5, h6⟩ := hev
        obtain ⟨p1, p2, p3, p4⟩ := put_ρ T o v
        obtain ⟨q1, q2, q3, q4⟩ := put_ρ T' o v
        exact ⟨rfl, fun t ht => by rw [p1 t ht, q1 t ht], fun t ht => ⟨by rw [p2 t ht, h1], by rw [q2 t ht, h2]⟩, fun s hs => by rw [p3, q3]; exact h3 s hs, fun s hs => by rw [p3, q3]; exact h4 s hs,
          fun s hs => by rw [p4, q4]; exact h5 s hs, fun s hs => by rw [p4, q4]; exact h6 s hs⟩
def disO : Option (List Nat) → Option (List Nat) → Bool
  | some [], _ => true
  | _, some [] => true
  | some l, some m => l.all fun s => !m.contains s
  | _, _ => false
theorem disO_spec {a b : Option (List Nat)} (h : disO a b = true) (s : Nat) (ha : inO s a) : ¬ inO s b := by
  unfold disO at h
  split at h
  · simp [inO] at ha
  · simp [inO]
  · rw [List.all_eq_true] at h; have := h s ha; simpa [inO] using this
  · simp at h
theorem contF (l : List Nat) (x : Nat) : l.contains x = false ↔ x ∉ l := by simp
def indep (i j : Nat) (p q : Op) : Bool :=
  !q.lr.contains i && !p.lr.contains j &&
  (p.gw.all fun t => !q.gr.contains t && !q.gw.contains t) && (q.gw.all fun t => !p.gr.contains t) &&
  ((p.k.vw p.d).all fun s => !(q.k.vs q.d).contains s) && ((q.k.vw q.d).all fun s => !(p.k.vs p.d).contains s) &&
  disO (p.k.aw p.d) (q.k.avs q.d) && disO (q.k.aw q.d) (p.k.avs p.d)
theorem SameS.refl {o : Op} {e : Nat → V} {S : St} : SameS o S S (step κ o e S) (step κ o e S) := step_same κ o e e S S ⟨fun _ _ => rfl, fun _ _ => rfl, fun _ _ => rfl, fun _ _ => rfl⟩
theorem St.ext' {S T : St} (h1 : ∀ t, S.ρ t = T.ρ t) (h2 : ∀ s, S.μ s = T.μ s) (h3 : ∀ s, S.A s = T.A s) : S = T := by
  cases S; cases T; congr <;> funext x <;> simp_all
theorem step_comm {i j : Nat} (hij : i ≠ j) {p q : Op} (h : indep i j p q = true) (e : Nat → V) (S : St) :
    ((step κ p e S).bind fun r => (step κ q (upd e i r.1) r.2).bind fun r' => some (upd (upd e i r.1) j r'.1, r'.2)) =
    ((step κ q e S).bind fun r => (step κ p (upd e j r.1) r.2).bind fun r' => some (upd (upd e j r.1) i r'.1, r'.2)) := by
  simp only [indep, Bool.and_eq_true, List.all_eq_true, Bool.not_eq_true', contF] at h
  obtain ⟨⟨⟨⟨⟨⟨⟨h1, h2⟩, h3⟩, h4⟩, h5⟩, h6⟩, h7⟩, h8⟩ := h
  have a7 := disO_spec h7
  have a8 := disO_spec h8
  -- q behind p
  have Q : ∀ v T, step κ p e S = some (v, T) → SameS q S T (step κ q e S) (step κ q (upd e i v) T) := fun v T hp => by
    have := SameS.refl κ (o := p) (e := e) (S := S)
    rw [hp] at this
    obtain ⟨-, -, g, -, m, -, a⟩ := this
    refine step_same κ q e (upd e i v) S T ⟨fun k hk => ?_, fun t ht => ?_, fun s hs => ?_, fun s hs => ?_⟩
    · have : k ≠ i := fun he => h1 (he ▸ hk)
      simp [upd, this]
    · exact (g t (fun hg => (h3 t hg).1 ht)).1.symm
    · exact (m s (fun hm => h5 s hm hs)).1.symm
    · exact (a s (fun ha => a7 s ha hs)).1.symm
  have P : ∀ v T, step κ q e S = some (v, T) → SameS p S T (step κ p e S) (step κ p (upd e j v) T) := fun v T hq => by
    have := SameS.refl κ (o := q) (e := e) (S := S)
    rw [hq] at this
    obtain ⟨-, -, g, -, m, -, a⟩ := this
    refine step_same κ p e (upd e j v) S T ⟨fun k hk => ?_, fun t ht => ?_, fun s hs => ?_, fun s hs => ?_⟩
    · have : k ≠ j := fun he => h2 (he ▸ hk)
      simp [upd, this]
    · exact (g t (fun hg => h4 t hg ht)).1.symm
    · exact (m s (fun hm => h6 s hm hs)).1.symm
    · exact (a s (fun ha => a8 s ha hs)).1.symm
  cases hp : step κ p e S with
  | none =>
    cases hq : step κ q e S with
    | none => rfl
    | some r =>
      have := P r.1 r.2 (by rw [hq])
      rw [hp] at this
      cases hh : step κ p (upd e j r.1) r.2 with
      | none => simp [hh]
      | some _ => rw [hh] at this; exact this.elim
  | some r =>
    obtain ⟨v, T⟩ := r
    have hQ := Q v T hp
    cases hq : step κ q e S with
    | none =>
      rw [hq] at hQ
      cases hh : step κ q (upd e i v) T with
      | none => simp [hh]
      | some _ => rw [hh] at hQ; exact hQ.elim
    | some r' =>
      obtain ⟨u, U⟩ := r'
      have hP := P u U hq
      rw [hq] at hQ
      rw [hp] at hP
      cases hh : step κ q (upd e i v) T with
      | none => rw [hh] at hQ; exact hQ.elim
      | some x =>
        cases hh' : step κ p (upd e j u) U with
        | none => rw [hh'] at hP; exact hP.elim
        | some y =>
          obtain ⟨u', T2⟩ := x
          obtain ⟨v', U2⟩ := y
          rw [hh] at hQ
          rw [hh'] at hP
          obtain ⟨rfl, q1, q2, q3, q4, q5, q6⟩ := hQ
          obtain ⟨rfl, p1, p2, p3, p4, p5, p6⟩ := hP
          simp only [Option.bind_some, hh, hh', Option.some.injEq, Prod.mk.injEq]
          refine ⟨?_, St.ext' (fun t => ?_) (fun s => ?_) (fun s => ?_)⟩
          · funext k; simp only [upd]; split <;> split <;> simp_all
          · by_cases t1 : t ∈ p.gw
            · rw [← p1 t t1]; exact (q2 t (h3 t t1).2).2
            · rw [(p2 t t1).2]
              by_cases t2 : t ∈ q.gw
              · exact (q1 t t2).symm
              · rw [(q2 t t2).2, (q2 t t2).1, (p2 t t1).1]
          · by_cases t1 : s ∈ p.k.vw p.d
            · rw [← p3 s t1]; exact (q4 s (fun hh => h5 s t1 (vw_vs hh))).2
            · rw [(p4 s t1).2]
              by_cases t2 : s ∈ q.k.vw q.d
              · exact (q3 s t2).symm
              · rw [(q4 s t2).2, (q4 s t2).1, (p4 s t1).1]
          · by_cases t1 : inO s (p.k.aw p.d)
            · rw [← p5 s t1]; exact (q6 s (fun hh => a7 s t1 (aw_as hh))).2
            · rw [(p6 s t1).2]
              by_cases t2 : inO s (q.k.aw q.d)
              · exact (q5 s t2).symm
              · rw [(q6 s t2).2, (q6 s t2).1, (p6 s t1).1]
def runIx (ops : List Op) : List Nat → (Nat → V) → St → Option St
  | [], _, S => some S
  | i :: l, e, S => match ops[i]? with
    | none => runIx ops l e S
    | some o => (step κ o e S).bind fun r => runIx ops l (upd e i r.1) r.2
theorem runIx_swap {ops : List Op} {i j : Nat} (hij : i ≠ j) (h : ∀ p q, ops[i]? = some p → ops[j]? = some q → indep i j p q = true) (l : List Nat) (e : Nat → V) (S : St) :
    runIx κ ops (i :: j :: l) e S = runIx κ ops (j :: i :: l) e S := by
  simp only [runIx]
  cases hi : ops[i]? with
  | none => cases hj : ops[j]? <;> rfl
  | some p => cases hj : ops[j]? with
    | none => rfl
    | some q =>
      have := step_comm κ hij (h p q hi hj) e S
      have c := congrArg (fun x => x.bind fun r : (Nat → V) × St => runIx κ ops l r.1 r.2) this
      simpa [Option.bind_assoc] using c
def insI (a : Nat) : List Nat → List Nat
  | [] => [a]
  | b :: l => if a ≤ b then a :: b :: l else b :: insI a l
def sortI : List Nat → List Nat
  | [] => []
  | a :: l => insI a (sortI l)
theorem mem_insI {a x : Nat} {l : List Nat} : x ∈ insI a l ↔ x = a ∨ x ∈ l := by
  induction l with
  | nil => simp [insI]
  | cons b l ih =>
    simp only [insI]
    split
    · simp
    · simp [ih]; constructor
      · rintro (h | h | h) <;> simp_all
      · rintro (h | h | h) <;> simp_all
theorem mem_sortI {x : Nat} {l : List Nat} : x ∈ sortI l ↔ x ∈ l := by
  induction l with
  | nil => simp [sortI]
  | cons a l ih => simp [sortI, mem_insI, ih]
theorem runIx_ins {ops : List Op} {a : Nat} : ∀ (s : List Nat) (e : Nat → V) (S : St), (∀ b ∈ s, b < a → ∀ p q, ops[a]? = some p → ops[b]? = some q → indep a b p q = true) →
    runIx κ ops (a :: s) e S = runIx κ ops (insI a s) e S
  | [], e, S, _ => rfl
  | b :: s, e, S, h => by
    simp only [insI]
    split
    · rfl
    · rename_i hab
      rw [runIx_swap κ (by omega) (h b (by simp) (by omega))]
      simp only [runIx]
      cases ops[b]? with
      | none => exact runIx_ins s e S fun c hc => h c (by simp [hc])
      | some q =>
        simp only
        cases step κ q e S with
        | none => rfl
        | some r => exact runIx_ins s _ _ fun c hc => h c (by simp [hc])
theorem runIx_sort {ops : List Op} : ∀ (l : List Nat) (e : Nat → V) (S : St), (l.Pairwise fun a b => b < a → ∀ p q, ops[a]? = some p → ops[b]? = some q → indep a b p q = true) →
    runIx κ ops l e S = runIx κ ops (sortI l) e S
  | [], e, S, _ => rfl
  | a :: l, e, S, h => by
    rw [List.pairwise_cons] at h
    have h1 : runIx κ ops (a :: l) e S = runIx κ ops (a :: sortI l) e S := by
      simp only [runIx]
      cases ops[a]? with
      | none => exact runIx_sort l e S h.2
      | some p =>
        simp only
        cases step κ p e S with
        | none => rfl
        | some r => exact runIx_sort l _ _ h.2
    rw [h1]
    exact runIx_ins κ (sortI l) e S fun b hb => h.1 b (mem_sortI.1 hb)
theorem sorted_insI {a : Nat} {l : List Nat} (h : l.Pairwise (· ≤ ·)) : (insI a l).Pairwise (· ≤ ·) := by
  induction l with
  | nil => simp [insI]
  | cons b l ih =>
    rw [List.pairwise_cons] at h
    simp only [insI]
    split
    · rename_i hab
      rw [List.pairwise_cons]
      exact ⟨fun c hc => by rcases List.mem_cons.1 hc with rfl | hc; exact hab; exact Nat.le_trans hab (h.1 c hc), List.pairwise_cons.2 h⟩
    · rename_i hab
      rw [List.pairwise_cons]
      refine ⟨fun c hc => ?_, ih h.2⟩
      rcases mem_insI.1 hc with rfl | hc
      · omega
      · exact h.1 c hc
theorem sorted_sortI (l : List Nat) : (sortI l).Pairwise (· ≤ ·) := by
  induction l with
  | nil => simp [sortI]
  | cons a l ih => exact sorted_insI ih
theorem perm_insI (a : Nat) (l : List Nat) : (insI a l).Perm (a :: l) := by
  induction l with
  | nil => exact .refl _
  | cons b l ih =>
    simp only [insI]
    split
    · exact .refl _
    · exact (ih.cons b).trans (.swap a b l)
theorem perm_sortI (l : List Nat) : (sortI l).Perm l := by
  induction l with
  | nil => exact .refl _
  | cons a l ih => exact (perm_insI a _).trans (ih.cons a)
theorem sortI_range {l : List Nat} {n : Nat} (h : l.Perm (List.range n)) : sortI l = List.range n := by
  refine List.Perm.eq_of_pairwise (le := (· ≤ ·)) (fun a b _ _ h1 h2 => Nat.le_antisymm h1 h2) (sorted_sortI l) ?_ ((perm_sortI l).trans h)
  exact List.pairwise_le_range
theorem runOps_ix {ops : List Op} : ∀ (l : List Op) (i : Nat) (e : Nat → V) (S : St), (∀ j, l[j]? = ops[i + j]?) → runOps κ l i e S = runIx κ ops (List.range' i l.length) e S
  | [], i, e, S, _ => rfl
  | o :: l, i, e, S, h => by
    have h0 : ops[i]? = some o := by simpa using (h 0).symm
    simp only [runOps, List.length_cons, List.range'_succ, runIx, h0]
    cases step κ o e S with
    | none => rfl
    | some r => exact runOps_ix l (i + 1) _ _ fun j => by have := h (j + 1); simpa [Nat.add_assoc, Nat.add_comm 1 j] using this
end
end Sg
namespace Sg
open Go
set_option linter.unusedSimpArgs false
set_option linter.unusedVariables false
def bindsAny (e : Edge) : Bool := Region.binds .any e
def okEdges (ops : Array Oper) : Bool :=
  (List.range ops.size).all fun i => match ops[i]? with
    | some o => o.after.toList.all fun e => !bindsAny e || decide (e.on < i)
    | none => true
def directs (o : Oper) : List Nat := (o.after.toList.filter bindsAny).map (·.on)
theorem okEdges_spec {ops : Array Oper} (h : okEdges ops = true) {i : Nat} {o : Oper} (ho : ops[i]? = some o) {j : Nat} (hj : j ∈ directs o) : j < i := by
  have hi : i < ops.size := by
    rcases Nat.lt_or_ge i ops.size with h' | h'
    · exact h'
    · simp [Array.getElem?_eq_none h'] at ho
  have := List.all_eq_true.1 h i (List.mem_range.2 hi)
  rw [ho] at this
  simp only [directs, List.mem_map, List.mem_filter] at hj
  obtain ⟨e, ⟨he, hb⟩, rfl⟩ := hj
  have := List.all_eq_true.1 this e he
  rw [hb] at this
  simpa using this
def left (n : Nat) (listed : Array Bool) : List Nat := (List.range n).filter fun i => !listed.getD i true
theorem left_set {n i : Nat} {listed : Array Bool} (hs : listed.size = n) (hi : i ∈ left n listed) :
    (left n (listed.setIfInBounds i true)).length + 1 = (left n listed).length ∧ ∀ j, j ∈ left n (listed.setIfInBounds i true) ↔ j ∈ left n listed ∧ j ≠ i := by
  have hmem : ∀ j, j ∈ left n (listed.setIfInBounds i true) ↔ j ∈ left n listed ∧ j ≠ i := by
    intro j
    simp only [left, List.mem_filter, List.mem_range, Bool.not_eq_true']
    by_cases e : j = i
    · subst e
      simp only [left, List.mem_filter, List.mem_range] at hi
      have : j < listed.size := by omega
      simp [this]
    · have e' : i ≠ j := fun h => e h.symm
      rw [getD_set_ne true e']
      simp [e]
  refine ⟨?_, hmem⟩
  have nd1 : (left n listed).Nodup := List.Nodup.sublist List.filter_sublist List.nodup_range
  have nd2 : (left n (listed.setIfInBounds i true)).Nodup := List.Nodup.sublist List.filter_sublist List.nodup_range
  have hp : (left n listed).Perm (i :: left n (listed.setIfInBounds i true)) := by
    refine (List.perm_ext_iff_of_nodup nd1 (List.nodup_cons.2 ⟨fun hh => ((hmem i).1 hh).2 rfl, nd2⟩)).2 fun j => ?_
    rw [List.mem_cons, hmem]
    constructor
    · intro hj
      by_cases e : j = i
      · exact .inl e
      · exact .inr ⟨hj, e⟩
    · rintro (rfl | ⟨hj, _⟩)
      · exact hi
      · exact hj
  have := hp.length_eq
  simpa using this.symm
theorem lin_go {ops : Array Oper} (hok : okEdges ops = true) : ∀ (fuel t : Nat) (listed : Array Bool), listed.size = ops.size → (left ops.size listed).length ≤ fuel →
    (Region.linearise.go .any ops fuel t listed []).Perm (left ops.size listed) ∧
    ∀ pre i post, Region.linearise.go .any ops fuel t listed [] = pre ++ i :: post → ∀ o, ops[i]? = some o → ∀ j ∈ directs o, j ∈ pre ∨ j ∉ left ops.size listed := by
  intro fuel
  induction fuel with
  | zero =>
    intro t listed hs hl
    have h0 : left ops.size listed = [] := List.length_eq_zero_iff.1 (by omega)
    simp only [Region.linearise.go, List.reverse_nil, h0]
    exact ⟨.refl _, fun pre i post h => by simp at h⟩
  | succ fuel ih =>
    intro t listed hs hl
    simp only [Region.linearise.go]
    change (match (Region.ready .any ops listed)[t % (Region.ready .any ops listed).length]? with
      | some i => Region.linearise.go .any ops fuel (t / (Region.ready .any ops listed).length) (listed.setIfInBounds i true) [i]
      | none => [].reverse).Perm _ ∧ ∀ pre i post, (match (Region.ready .any ops listed)[t % (Region.ready .any ops listed).length]? with
      | some i => Region.linearise.go .any ops fuel (t / (Region.ready .any ops listed).length) (listed.setIfInBounds i true) [i]
      | none => [].reverse) = pre ++ i :: post → _
    cases hi : (Region.ready .any ops listed)[t % (Region.ready .any ops listed).length]? with
    | none =>
      have hnil : Region.ready .any ops listed = [] := by
        cases hr : Region.ready .any ops listed with
        | nil => rfl
        | cons x xs =>
          rw [hr] at hi
          have hlt : t % (x :: xs).length < (x :: xs).length := Nat.mod_lt _ (by simp)
          rw [List.getElem?_eq_getElem hlt] at hi
          simp at hi
      have h0 : left ops.size listed = [] := by
        rcases hl0 : left ops.size listed with _ | ⟨a, avs⟩
        · rfl
        · exfalso
          -- the least that is left is ready
          have hmin : ∃ m, m ∈ left ops.size listed ∧ ∀ k, k ∈ left ops.size listed → m ≤ k := by
            refine ⟨a, by rw [hl0]; simp, fun k hk => ?_⟩
            have hp : (left ops.size listed).Pairwise (· ≤ ·) := List.Pairwise.sublist List.filter_sublist List.pairwise_le_range
            rw [hl0, List.pairwise_cons] at hp
            rw [hl0] at hk
            rcases List.mem_cons.1 hk with rfl | hk
            · exact Nat.le_refl _
            · exact hp.1 k hk
          obtain ⟨m, hm, hle⟩ := hmin
          have hm' := hm
          simp only [left, List.mem_filter, List.mem_range, Bool.not_eq_true'] at hm'
          have : m ∈ Region.ready .any ops listed := mem_ready.2 ⟨hm'.2, ops[m]'hm'.1, by simp [hm'.1], fun e he hb => by
            have hlt : e.on < m := okEdges_spec hok (i := m) (o := ops[m]'hm'.1) (by simp [hm'.1]) (by simp only [directs, List.mem_map, List.mem_filter]; exact ⟨e, ⟨by simpa using he, hb⟩, rfl⟩)
            have hn : e.on ∉ left ops.size listed := fun hh => by have := hle _ hh; omega
            simp only [left, List.mem_filter, List.mem_range, Bool.not_eq_true', not_and, Bool.not_eq_false] at hn
            have := hn (by omega)
            have hsz : e.on < listed.size := by omega
            simpa [hsz] using this⟩
          rw [hnil] at this
          simp at this
      simp only [List.reverse_nil, h0]
      exact ⟨.refl _, fun pre i post h => by simp at h⟩
    | some i =>
      have hmem := List.mem_of_getElem? hi
      obtain ⟨hl1, o, ho, hdeps⟩ := mem_ready.1 hmem
      have hisz : i < ops.size := by
        rcases Nat.lt_or_ge i ops.size with h' | h'
        · exact h'
        · simp [Array.getElem?_eq_none h'] at ho
      have hil : i ∈ left ops.size listed := by simp only [left, List.mem_filter, List.mem_range]; exact ⟨hisz, by simpa using hl1⟩
      obtain ⟨s1, s2⟩ := left_set hs hil
      simp only []
      rw [linearise_go_acc, List.reverse_singleton, List.singleton_append]
      obtain ⟨ih1, ih2⟩ := ih (t / (Region.ready .any ops listed).length) (listed.setIfInBounds i true) (by simpa using hs) (by omega)
      refine ⟨?_, fun pre k post hsplit o' ho' j hj => ?_⟩
      · refine (ih1.cons i).trans ?_
        have nd1 : (left ops.size listed).Nodup := List.Nodup.sublist List.filter_sublist List.nodup_range
        have nd2 : (left ops.size (listed.setIfInBounds i true)).Nodup := List.Nodup.sublist List.filter_sublist List.nodup_range
        refine (List.perm_ext_iff_of_nodup (List.nodup_cons.2 ⟨fun hh => ((s2 i).1 hh).2 rfl, nd2⟩) nd1).2 fun j => ?_
        rw [List.mem_cons, s2]
        constructor
        · rintro (rfl | ⟨hj, _⟩)
          · exact hil
          · exact hj
        · intro hj
          by_cases e : j = i
          · exact .inl e
          · exact .inr ⟨hj, e⟩
      · cases pre with
        | nil =>
          simp only [List.nil_append, List.cons.injEq] at hsplit
          obtain ⟨rfl, -⟩ := hsplit
          rw [ho] at ho'
          simp only [Option.some.injEq] at ho'
          subst ho'
          simp only [directs, List.mem_map, List.mem_filter] at hj
          obtain ⟨e, ⟨he, hb⟩, rfl⟩ := hj
          have := hdeps e (by simpa using he) hb
          refine .inr fun hh => ?_
          simp only [left, List.mem_filter, List.mem_range, Bool.not_eq_true'] at hh
          have hsz : e.on < listed.size := by omega
          simp [hsz] at this hh
          rw [this] at hh; simp at hh
        | cons p pre =>
          simp only [List.cons_append, List.cons.injEq] at hsplit
          obtain ⟨rfl, hsplit⟩ := hsplit
          rcases ih2 pre k post hsplit o' ho' j hj with h' | h'
          · exact .inl (List.mem_cons_of_mem _ h')
          · rw [s2] at h'
            by_cases e : j = i
            · exact .inl (by simp [e])
            · exact .inr fun hh => h' ⟨hh, e⟩
theorem lin_ok {ops : Array Oper} (hok : okEdges ops = true) (t : Nat) :
    (Region.linearise .any ops t).Perm (List.range ops.size) ∧ ∀ pre i post, Region.linearise .any ops t = pre ++ i :: post → ∀ o, ops[i]? = some o → ∀ j ∈ directs o, j ∈ pre := by
  have hall : left ops.size (Array.replicate ops.size false) = List.range ops.size := by
    unfold left
    rw [List.filter_eq_self]
    intro i hi
    have := List.mem_range.1 hi
    simp [this]
  obtain ⟨h1, h2⟩ := lin_go hok ops.size t (Array.replicate ops.size false) (by simp) (by rw [hall]; simp)
  rw [hall] at h1 h2
  refine ⟨h1, fun pre i post hs o ho j hj => (h2 pre i post hs o ho j hj).resolve_right fun hn => hn (List.mem_range.2 ?_)⟩
  have := okEdges_spec hok ho hj
  have hi : i < ops.size := by
    rcases Nat.lt_or_ge i ops.size with h' | h'
    · exact h'
    · simp [Array.getElem?_eq_none h'] at ho
  omega
def closure : List Oper → List (List Nat) → List (List Nat)
  | [], acc => acc
  | o :: os, acc => closure os (acc ++ [directs o ++ (directs o).flatMap fun j => acc.getD j []])
theorem closure_get : ∀ (os : List Oper) (acc : List (List Nat)) (i : Nat), i < acc.length → (closure os acc).getD i [] = acc.getD i []
  | [], acc, i, _ => rfl
  | o :: os, acc, i, h => by
    simp only [closure]
    rw [closure_get os _ i (by simp; omega)]
    simp only [List.getD_eq_getElem?_getD]
    rw [List.getElem?_append_left h]
theorem closure_at : ∀ (os : List Oper) (acc : List (List Nat)) (k : Nat) (o : Oper), os[k]? = some o → (∀ j ∈ directs o, j < acc.length + k) →
    ∀ x, x ∈ (closure os acc).getD (acc.length + k) [] → x ∈ directs o ∨ ∃ j ∈ directs o, x ∈ (closure os acc).getD j []
  | [], acc, k, o, h, _ => by simp at h
  | o' :: os, acc, 0, o, h, hb => by
    simp only [List.getElem?_cons_zero, Option.some.injEq] at h
    subst h
    intro x hx
    simp only [closure, Nat.add_zero] at hx ⊢
    rw [closure_get os _ acc.length (by simp)] at hx
    have : (acc ++ [directs o' ++ (directs o').flatMap fun j => acc.getD j []]).getD acc.length [] = directs o' ++ (directs o').flatMap fun j => acc.getD j [] := by
      simp [List.getD_eq_getElem?_getD]
    rw [this, List.mem_append, List.mem_flatMap] at hx
    rcases hx with hx | ⟨j, hj, hx⟩
    · exact .inl hx
    · refine .inr ⟨j, hj, ?_⟩
      have hlt := hb j hj
      rw [closure_get os _ j (by simp; omega)]
      simp only [List.getD_eq_getElem?_getD]
      rw [List.getElem?_append_left (by omega)]
      simpa [List.getD_eq_getElem?_getD] using hx
  | o' :: os, acc, k + 1, o, h, hb => by
    simp only [List.getElem?_cons_succ] at h
    have := closure_at os (acc ++ [directs o' ++ (directs o').flatMap fun j => acc.getD j []]) k o h (fun j hj => by have := hb j hj; simp; omega)
    simp only [List.length_append, List.length_cons, List.length_nil] at this
    intro x hx
    simp only [closure] at hx ⊢
    rw [show acc.length + (k + 1) = acc.length + (0 + 1) + k by omega] at hx
    exact this x hx
def closureB : List Oper → List Nat → List Nat
  | [], acc => acc
  | o :: os, acc => closureB os (acc ++ [(directs o).foldl (fun m j => (m ||| acc.getD j 0) ||| (1 <<< j)) 0])
theorem foldB_spec {accB : List Nat} {b : Nat} : ∀ (l : List Nat) (m : Nat), (l.foldl (fun m j => (m ||| accB.getD j 0) ||| (1 <<< j)) m).testBit b = true → m.testBit b = true ∨ ∃ j ∈ l, b = j ∨ (accB.getD j 0).testBit b = true
  | [], m, h => .inl h
  | j :: l, m, h => by
    rcases foldB_spec l _ h with h | ⟨k, hk, h⟩
    · simp only [Nat.testBit_or, Bool.or_eq_true] at h
      rcases h with (h | h) | h
      · exact .inl h
      · exact .inr ⟨j, by simp, .inr h⟩
      · refine .inr ⟨j, by simp, .inl ?_⟩
        rw [Nat.one_shiftLeft, Nat.testBit_two_pow] at h
        exact (of_decide_eq_true h).symm
    · exact .inr ⟨k, by simp [hk], h⟩
theorem closureB_spec : ∀ (os : List Oper) (acc : List (List Nat)) (accB : List Nat), acc.length = accB.length → (∀ i b, (accB.getD i 0).testBit b = true → b ∈ acc.getD i []) →
    ∀ i b, ((closureB os accB).getD i 0).testBit b = true → b ∈ (closure os acc).getD i []
  | [], acc, accB, _, h, i, b, hb => h i b hb
  | o :: os, acc, accB, hl, h, i, b, hb => by
    simp only [closureB] at hb
    simp only [closure]
    refine closureB_spec os _ _ (by simp [hl]) (fun i b hb => ?_) i b hb
    rcases Nat.lt_trichotomy i accB.length with hi | hi | hi
    · have h0 := h i b
      simp only [List.getD_eq_getElem?_getD] at hb h0 ⊢
      rw [List.getElem?_append_left hi] at hb
      rw [List.getElem?_append_left (by omega)]
      exact h0 hb
    · subst hi
      rw [List.getD_eq_getElem?_getD, List.getElem?_append_right (Nat.le_refl _)] at hb
      rw [List.getD_eq_getElem?_getD, List.getElem?_append_right (by omega)]
      simp only [hl, Nat.sub_self] at hb ⊢
      have hb : ((directs o).foldl (fun m j => (m ||| accB.getD j 0) ||| (1 <<< j)) 0).testBit b = true := hb
      show b ∈ directs o ++ (directs o).flatMap fun j => acc.getD j []
      rw [List.mem_append, List.mem_flatMap]
      rcases foldB_spec _ _ hb with h0 | ⟨j, hj, h0⟩
      · simp at h0
      · rcases h0 with rfl | h0
        · exact .inl hj
        · exact .inr ⟨j, hj, h j b h0⟩
    · rw [List.getD_eq_getElem?_getD, List.getElem?_eq_none (by simp; omega)] at hb
      simp at hb
def okDraw (os : List Oper) (ps : List Op) : Bool :=
  let cl := closureB os []
  (List.range ps.length).all fun a => (List.range a).all fun b => (cl.getD a 0).testBit b || (match ps[a]?, ps[b]? with | some p, some q => indep a b p q | _, _ => true)
theorem draw_inv {os : Array Oper} {ps : List Op} (hok : okEdges os = true) (hlen : ps.length = os.size) (hd : okDraw os.toList ps = true) (t : Nat) :
    (Region.linearise .any os t).Pairwise fun a b => b < a → ∀ p q, ps[a]? = some p → ps[b]? = some q → indep a b p q = true := by
  obtain ⟨hperm, hdeps⟩ := lin_ok hok t
  -- what a hangs on, near and far, stands ahead of it
  have far : ∀ n, ∀ a, a ≤ n → ∀ pre post, Region.linearise .any os t = pre ++ a :: post → ∀ x, x ∈ (closure os.toList []).getD a [] → x ∈ pre := by
    intro n
    induction n with
    | zero =>
      intro a ha pre post hs x hx
      obtain rfl : a = 0 := by omega
      have : (0 : Nat) ∈ List.range os.size := hperm.mem_iff.1 (by rw [hs]; simp)
      have h0 := List.mem_range.1 this
      have ho : os.toList[0]? = some os[0] := by simp [h0]
      have hnone : directs os[0] = [] := by
        rcases hdd : directs os[0] with _ | ⟨j, js⟩
        · rfl
        · have := okEdges_spec hok (i := 0) (o := os[0]) (by simp [h0]) (j := j) (by rw [hdd]; simp); omega
      have := closure_at os.toList [] 0 os[0] ho (fun j hj => by rw [hnone] at hj; simp at hj) x (by simpa using hx)
      rw [hnone] at this
      simp at this
    | succ n ih =>
      intro a ha pre post hs x hx
      have : a ∈ List.range os.size := hperm.mem_iff.1 (by rw [hs]; simp)
      have h0 := List.mem_range.1 this
      have ho : os[a]? = some os[a] := by simp [h0]
      have hlt : ∀ j ∈ directs os[a], j < a := fun j hj => okEdges_spec hok ho hj
      have := closure_at os.toList [] a os[a] (by simp [h0]) (fun j hj => by have := hlt j hj; simp; omega) x (by simpa using hx)
      rcases this with hdir | ⟨j, hj, hx'⟩
      · exact hdeps pre a post hs _ ho x hdir
      · have hjp := hdeps pre a post hs _ ho j hj
        obtain ⟨p1, p2, rfl⟩ := List.append_of_mem hjp
        have := ih j (by have := hlt j hj; omega) p1 (p2 ++ a :: post) (by rw [hs]; simp) x hx'
        simp [this]
  have nd : (Region.linearise .any os t).Nodup := hperm.nodup_iff.2 List.nodup_range
  -- split by places
  rw [List.pairwise_iff_forall_sublist]
  intro a b hab hlt p q hp hq
  have hin : ∃ pre post, Region.linearise .any os t = pre ++ a :: post ∧ b ∈ post := by
    have : ∀ (l : List Nat), [a, b].Sublist l → ∃ pre post, l = pre ++ a :: post ∧ b ∈ post := by
      intro l
      induction l with
      | nil => intro h; simp at h
      | cons c l ih =>
        intro h
        rcases List.sublist_cons_iff.1 h with h | ⟨r, hr, h⟩
        · obtain ⟨pre, post, rfl, hb⟩ := ih h
          exact ⟨c :: pre, post, rfl, hb⟩
        · simp only [List.cons.injEq] at hr
          obtain ⟨rfl, rfl⟩ := hr
          exact ⟨[], l, rfl, List.singleton_sublist.1 h⟩
    exact this _ hab
  obtain ⟨pre, post, hs, hb⟩ := hin
  have hnot : b ∉ (closure os.toList []).getD a [] := fun hh => by
    have h1 := far a a (Nat.le_refl _) pre post hs b hh
    rw [hs, List.nodup_append] at nd
    exact nd.2.2 b h1 b (by simp [hb]) rfl
  have ha : a < ps.length := by
    rcases Nat.lt_or_ge a ps.length with h' | h'
    · exact h'
    · simp [List.getElem?_eq_none h'] at hp
  have := List.all_eq_true.1 (List.all_eq_true.1 hd a (List.mem_range.2 ha)) b (List.mem_range.2 hlt)
  rw [hp, hq] at this
  simp only [Bool.or_eq_true] at this
  exact this.resolve_left fun hh => hnot (closureB_spec os.toList [] [] rfl (fun i b hb => by simp at hb) a b hh)
end Sg
namespace Sg
open Go Go.RowKit
set_option linter.unusedSimpArgs false
set_option linter.unusedVariables false
def Pin (pin : Option (Nat × Nat)) (S : St) (β : Nat → Nat) : Prop := ∀ k b, pin = some (k, b) → (S.μ k).isSome ∧ β k = b
theorem Pin.tr {cx : Cx} {w w' : World} {Y Y' : Nat → Prop} {S S' : St} {β β' : Nat → Nat} {α α' : Nat → Value} {pin : Option (Nat × Nat)} (h : Pin pin S β)
    (hT : ∀ u x, RelT cx w Y S β α u x → RelT cx w' Y' S' β' α' u x) : Pin pin S' β' := fun k b hp => by
  obtain ⟨h1, h2⟩ := h k b hp
  obtain ⟨h3, h4⟩ := hT (.pointer (some ⟨b, 0, none⟩)) (.lref k 0) ⟨h1, by rw [h2]⟩
  simp only [Value.pointer.injEq, Option.some.injEq, Addr.mk.injEq] at h4
  exact ⟨h3, h4.1.symm⟩
def FR (cx : Cx) (B : Nat → Prop) (X : Nat → Prop) (pin : Option (Nat × Nat)) (G : List Nat) (ds : List (Option Nat)) (e : Nat → V) (S : St) (tm : Array Value) (w : World) : Prop :=
  (∀ t, t ∉ G → S.ρ t = .undef) ∧ ∃ β α M, RelW cx B X S w β α M ∧ (∀ t, RelT cx w (orP X M) S β α (tm.getD t undef) (S.ρ t)) ∧
    (∀ i d, ds[i]? = some (some d) → RelT cx w (orP X M) S β α (tm.getD d undef) (e i)) ∧ Pin pin S β
section
variable (P : Program) (cx : Cx) (ownOf : Nat → Option Nat) (G : List Nat) (N : Nat)
def okOper (ds : List (Option Nat)) (o : Oper) (p : Op) : Bool :=
  o.dst == p.dst && o.guard == p.gd && (match p.dst with | some d => p.gl == G.contains d && decide (d < N) | none => true) &&
  (match p.gd with | some (j, _) => (match ds[j]? with | some (some _) => true | _ => false) | none => true) &&
  okK P cx ds o.op p.k && okOwn ownOf p.k
def okOpers (ds : List (Option Nat)) : List Oper → List Op → Bool
  | [], [] => true
  | o :: os, p :: ps => okOper P cx ownOf G N ds o p && okOpers ds os ps
  | _, _ => false
def distinctDst : List (Option Nat) → Bool
  | [] => true
  | none :: ds => distinctDst ds
  | some d :: ds => !ds.contains (some d) && distinctDst ds
def okRegion (draw : Bool) (os : Array Oper) (dr : Bool) (ps : List Op) : Bool :=
  let ds := ps.map (·.dst)
  okOpers P cx ownOf G N ds os.toList ps && distinctDst ds && draw == dr && (!draw || (okEdges os && okDraw os.toList ps))
end
theorem okOpers_get {P : Program} {cx : Cx} {ownOf : Nat → Option Nat} {G : List Nat} {N : Nat} {ds : List (Option Nat)} : ∀ {os : List Oper} {ps : List Op}, okOpers P cx ownOf G N ds os ps = true →
    os.length = ps.length ∧ ∀ (i : Nat) (o : Oper) (p : Op), os[i]? = some o → ps[i]? = some p → okOper P cx ownOf G N ds o p = true
  | [], [], _ => ⟨rfl, fun i o p h => by simp at h⟩
  | o :: os, p :: ps, h => by
    simp only [okOpers, Bool.and_eq_true] at h
    obtain ⟨h1, h2⟩ := okOpers_get h.2
    refine ⟨by simp [h1], fun i o' p' ho hp => ?_⟩
    cases i with
    | zero => simp at ho hp; subst ho; subst hp; exact h.1
    | succ i => exact h2 i o' p' (by simpa using ho) (by simpa using hp)
  | [], _ :: _, h => by simp [okOpers] at h
  | _ :: _, [], h => by simp [okOpers] at h
theorem distinct_spec : ∀ {ds : List (Option Nat)}, distinctDst ds = true → ∀ (i j : Nat) (d : Nat), ds[i]? = some (some d) → ds[j]? = some (some d) → i = j
  | [], _, i, j, d, h, _ => by simp at h
  | x :: ds, hd, i, j, d, hi, hj => by
    have hd' : distinctDst ds = true := by cases x <;> simp_all [distinctDst]
    have hx : ∀ d', x = some d' → some d' ∉ ds := fun d' e => by subst e; simp [distinctDst] at hd; exact hd.1
    cases i with
    | zero => cases j with
      | zero => rfl
      | succ j =>
        simp at hi hj
        exact absurd (List.mem_of_getElem? hj) (hx d hi)
    | succ i => cases j with
      | zero =>
        simp at hi hj
        exact absurd (List.mem_of_getElem? hi) (hx d hj)
      | succ j => rw [distinct_spec hd' i j d (by simpa using hi) (by simpa using hj)]
section
variable {P : Program} {cx : Cx} {ownOf : Nat → Option Nat} {G : List Nat} {N : Nat} {B : Nat → Prop} {X : Nat → Prop} {pin : Option (Nat × Nat)} {κ : Nat → List V → Option V}
theorem getD_set {tm : Array Value} {d t : Nat} {u : Value} (hd : d < tm.size) : (tm.setIfInBounds d u).getD t undef = if t = d then u else tm.getD t undef := by
  by_cases e : t = d
  · subst e; simp [hd]
  · have : d ≠ t := fun h => e h.symm
    simp [e, Array.getElem?_setIfInBounds_ne this]
theorem FR.put {ds : List (Option Nat)} {e : Nat → V} {S S1 : St} {a : Act} {w w' : World} {i : Nat} {o : Oper} {p : Op} {v : V} {u : Value} {β α M}
    (hG : ∀ t, t ∉ G → S.ρ t = .undef) (hρ : S1.ρ = S.ρ) (hsz : a.tmps.size = N)
    (hg : ∀ t, RelT cx w (orP X M) S β α (a.tmps.getD t undef) (S.ρ t)) (hl : ∀ i d, ds[i]? = some (some d) → RelT cx w (orP X M) S β α (a.tmps.getD d undef) (e i))
    (hpin : Pin pin S β) (hp : OpPost cx B X S w β α M S1 v u w') (hdi : ds[i]? = some p.dst) (hdist : distinctDst ds = true) (hdst : o.dst = p.dst)
    (hgl : ∀ d, p.dst = some d → p.gl = G.contains d ∧ d < N) : FR cx B X pin G ds (upd e i v) (S1.put p v) (a.put o.dst u).tmps w' := by
  obtain ⟨β', α', M', q1, q2, q3, -⟩ := hp
  have hw' : RelW cx B X (S1.put p v) w' β' α' M' := by
    have : (S1.put p v).μ = S1.μ ∧ (S1.put p v).A = S1.A := by unfold St.put; split <;> exact ⟨rfl, rfl⟩
    obtain ⟨e1, e2⟩ := this
    have : S1.put p v = { ρ := (S1.put p v).ρ, μ := S1.μ, A := S1.A } := by rw [← e1, ← e2]
    rw [this]
    exact ⟨q1.xb, q1.glob, q1.size, q1.m, q1.var, q1.varInj, q1.arr, q1.arrInj, q1.arrVar⟩
  have hT : ∀ {u x}, RelT cx w' (orP X M') S1 β' α' u x → RelT cx w' (orP X M') (S1.put p v) β' α' u x := by
    intro u x h
    have : (S1.put p v).μ = S1.μ ∧ (S1.put p v).A = S1.A := by unfold St.put; split <;> exact ⟨rfl, rfl⟩
    obtain ⟨e1, e2⟩ := this
    exact RelT.tr (S := S1) (S' := S1.put p v) (fun _ _ h => h) (fun s z rows f hs => ⟨rows, f, by rw [e2]; exact hs, fun hf => ⟨hf, Nat.le_refl _, fun _ => rfl⟩⟩) (fun s hs => ⟨by rw [e1]; exact hs, rfl⟩) h
  have hP : Pin pin (S1.put p v) β' := (hpin.tr q2).tr (S' := S1.put p v) (β' := β') (fun _ _ h => hT h)
  cases hd : p.dst with
  | none =>
    rw [hdst, hd]
    have hS : (S1.put p v).ρ = S.ρ := by unfold St.put; rw [hd]; cases p.gl <;> exact hρ
    refine ⟨fun t ht => by rw [hS]; exact hG t ht, β', α', M', hw', fun t => ?_, fun j d hj => ?_, hP⟩
    · rw [hS]; exact hT (q2 _ _ (hg t))
    · have hne : j ≠ i := fun e' => by subst e'; rw [hdi, hd] at hj; simp at hj
      simp only [upd, if_neg hne]
      exact hT (q2 _ _ (hl j d hj))
  | some d =>
    obtain ⟨g1, g2⟩ := hgl d hd
    rw [hdst, hd]
    have hlt : d < a.tmps.size := by omega
    have hput : (a.put (some d) u).tmps = a.tmps.setIfInBounds d u := rfl
    rw [hput]
    have hSρ : ∀ t, (S1.put p v).ρ t = if t = d ∧ d ∈ G then v else S.ρ t := by
      intro t
      unfold St.put
      rw [hd, g1]
      by_cases hin : d ∈ G
      · have : G.contains d = true := by simpa using hin
        rw [this]
        simp only [upd, hρ, hin, and_true]
      · have : G.contains d = false := by simpa using hin
        rw [this]
        simp only [hρ, hin, and_false, if_false]
    refine ⟨fun t ht => ?_, β', α', M', hw', fun t => ?_, fun j d' hj => ?_, hP⟩
    · rw [hSρ, if_neg (show ¬ (t = d ∧ d ∈ G) from fun h => ht (by rw [h.1]; exact h.2))]; exact hG t ht
    · rw [hSρ, getD_set hlt]
      by_cases e1 : t = d
      · subst e1
        by_cases hin : t ∈ G
        · simp only [hin, and_self, if_true]; exact hT q3
        · simp only [hin, and_false, if_false, if_true]; rw [hG t hin]; exact RelD.undef _
      · simp only [e1, false_and, if_false]; exact hT (q2 _ _ (hg t))
    · rw [getD_set hlt]
      by_cases e1 : j = i
      · subst e1
        rw [hdi, hd] at hj
        simp only [Option.some.injEq] at hj
        subst hj
        simp only [upd, if_true]; exact hT q3
      · have e2 : d' ≠ d := fun e' => e1 (distinct_spec hdist j i d (e' ▸ hj) (by rw [hdi, hd]))
        simp only [upd, if_neg e1, if_neg e2]
        exact hT (q2 _ _ (hl j d' hj))
theorem ops_sim {ops : Array Oper} {ps : List Op} (hκ : KOK P cx ownOf κ)
    (hok : okOpers P cx ownOf G N (ps.map (·.dst)) ops.toList ps = true) (hdist : distinctDst (ps.map (·.dst)) = true) {Q : Exit → Act → World → Prop} {S' : St} {w0 : World}
    (hQ : ∀ (a : Act) (w : World) (e : Nat → V), FR cx B X pin G (ps.map (·.dst)) e S' a.tmps w → a.defers = [] → a.tmps.size = N → Kept B w0 w → Q .normal a w) :
    ∀ (l : List Nat) (e : Nat → V) (S : St) (a : Act) (w : World), FR cx B X pin G (ps.map (·.dst)) e S a.tmps w → a.defers = [] → a.tmps.size = N → Kept B w0 w →
      runIx κ ps l e S = some S' → wpOps P ops Q l a w := by
  obtain ⟨hlen, hget⟩ := okOpers_get hok
  intro l
  induction l with
  | nil =>
    intro e S a w hF hd hs hb hr
    simp only [runIx, Option.some.injEq] at hr
    subst hr
    exact hQ a w e hF hd hs hb
  | cons i l ih =>
    intro e S a w hF hd hs hb hr
    simp only [runIx] at hr
    simp only [wpOps]
    cases hp : ps[i]? with
    | none =>
      rw [hp] at hr
      have : ops[i]? = none := by
        have : ps.length ≤ i := by
          rcases Nat.lt_or_ge i ps.length with h' | h'
          · simp [h'] at hp
          · exact h'
        have h2 : ops.size ≤ i := by simpa using (by omega : ops.toList.length ≤ i)
        simp [h2]
      rw [this]
      exact ih e S a w hF hd hs hb hr
    | some p =>
      rw [hp] at hr
      have hi : i < ops.size := by
        have : i < ps.length := by
          rcases Nat.lt_or_ge i ps.length with h' | h'
          · exact h'
          · simp [List.getElem?_eq_none h'] at hp
        simpa using (by omega : i < ops.toList.length)
      have ho : ops[i]? = some ops[i] := by simp [hi]
      simp only [ho]
      have hoo := hget i ops[i] p (by simp [hi]) hp
      simp only [okOper, Bool.and_eq_true, beq_iff_eq] at hoo
      obtain ⟨⟨⟨⟨⟨o1, o2⟩, o3⟩, o4⟩, o5⟩, o6⟩ := hoo
      have hgl : ∀ d, p.dst = some d → p.gl = G.contains d ∧ d < N := fun d hd => by
        rw [hd] at o3; simpa using o3
      have hdi : (ps.map (·.dst))[i]? = some p.dst := by simp [hp]
      simp only [Option.bind_eq_some_iff] at hr
      obtain ⟨r, hst, hr⟩ := hr
      obtain ⟨hG, β, α, M, hW, hg, hl, hpin⟩ := hF
      unfold step at hst
      have hwant : ∀ b, wantedV e p.gd = some b → Region.wanted ops[i] (yielded ops a.tmps) = b := by
        intro b hb'
        unfold Region.wanted
        rw [o2]
        unfold wantedV at hb'
        cases hgd : p.gd with
        | none => rw [hgd] at hb'; simpa using hb'
        | some jb =>
          obtain ⟨j, want⟩ := jb
          rw [hgd] at hb' o4
          simp only at hb' o4 ⊢
          split at hb' <;> simp only [Option.some.injEq, reduceCtorEq] at hb'
          rotate_left
          · rename_i hej
            subst hb'
            split at o4
            · rename_i d hdj
              have hr := hl j d hdj
              rw [hej] at hr
              obtain ⟨cs, hv, hsz, -⟩ := hr
              have hcs : cs = #[] := Array.eq_empty_of_size_eq_zero hsz
              have hyd : yielded ops a.tmps j = none := by
                unfold yielded
                split
                · rename_i t hb
                  exfalso
                  simp only [Option.bind_eq_some_iff] at hb
                  obtain ⟨d', ⟨o', ho', hd'⟩, ht⟩ := hb
                  have hj : j < ops.size := by
                    rcases Nat.lt_or_ge j ops.size with h' | h'
                    · exact h'
                    · simp [Array.getElem?_eq_none h'] at ho'
                  have hpj : ∃ q, ps[j]? = some q ∧ q.dst = some d := by
                    simp only [List.getElem?_map, Option.map_eq_some_iff] at hdj
                    exact hdj
                  obtain ⟨q, hq1, hq2⟩ := hpj
                  have hoj := hget j o' q (by simpa using ho') hq1
                  simp only [okOper, Bool.and_eq_true, beq_iff_eq] at hoj
                  have : o'.dst = some d := by rw [hoj.1.1.1.1.1]; exact hq2
                  rw [this] at hd'
                  simp only [Option.some.injEq] at hd'
                  subst hd'
                  rw [Array.getD_eq_getD_getElem?, ht] at hv
                  simp at hv
                · rfl
              rw [hyd]; rfl
            · simp at o4
          rename_i t hej
          subst hb'
          split at o4
          · rename_i d hdj
            have hr := hl j d hdj
            rw [hej] at hr
            have hv := rel_bool hr
            have hj : j < ops.size := by
              have : j < (ps.map (·.dst)).length := by
                rcases Nat.lt_or_ge j (ps.map (·.dst)).length with h' | h'
                · exact h'
                · simp [List.getElem?_eq_none h'] at hdj
              simp only [List.length_map] at this
              simpa using (by omega : j < ops.toList.length)
            have hpj : ∃ q, ps[j]? = some q ∧ q.dst = some d := by
              simp only [List.getElem?_map, Option.map_eq_some_iff] at hdj
              exact hdj
            obtain ⟨q, hq1, hq2⟩ := hpj
            have hoj := hget j ops[j] q (by simp [hj]) hq1
            simp only [okOper, Bool.and_eq_true, beq_iff_eq] at hoj
            have hdj' : ops[j].dst = some d := by rw [hoj.1.1.1.1.1]; exact hq2
            have hyd : yielded ops a.tmps j = some t := by
              unfold yielded
              have hoj' : ops[j]? = some ops[j] := by simp [hj]
              rw [hoj']
              simp only [Option.bind_some, hdj']
              have hin : d < a.tmps.size := by
                rcases Nat.lt_or_ge d a.tmps.size with h' | h'
                · exact h'
                · simp [h', undef] at hv
              simp only [hin, Array.getD_eq_getD_getElem?, Array.getElem?_eq_getElem, Option.getD_some] at hv
              simp [hin, hv]
            rw [hyd]; cases t <;> cases want <;> rfl
          · simp at o4
      split at hst
      · simp at hst
      · rename_i hw
        rw [hwant false hw]
        simp only [Option.some.injEq] at hst
        subst hst
        simp only [Bool.false_eq_true, if_false]
        have hpost : OpPost cx B X S w β α M S .un undef w := .pure hW ⟨#[], rfl, rfl, fun i hi => by simp at hi⟩
        have hF' := FR.put (G := G) (N := N) (o := ops[i]) hG rfl hs hg hl hpin hpost hdi hdist o1 hgl
        refine ih _ _ _ _ hF' ?_ ?_ hb hr
        · unfold Act.put; cases ops[i].dst <;> exact hd
        · unfold Act.put; cases ops[i].dst
          · exact hs
          · simpa using hs
      · rename_i hw
        rw [hwant true hw]
        simp only [if_true]
        simp only [Option.bind_eq_some_iff, Option.some.injEq] at hst
        obtain ⟨⟨v, S1⟩, hev, rfl⟩ := hst
        have hdoes := ev_sound hW hg hl hκ o5 o6 hev
        refine .inl (hdoes.wp fun u w' hpost => ?_)
        have hρ : S1.ρ = S.ρ := by
          have := ev_same κ (p.dst.getD 0) p.k e e S S (fun _ _ => rfl) (fun _ _ => rfl) (fun _ _ => rfl)
          rw [hev] at this
          exact this.2.1
        have hF' := FR.put (G := G) (N := N) (o := ops[i]) hG hρ hs hg hl hpin hpost hdi hdist o1 hgl
        obtain ⟨_, _, _, _, _, _, hbel⟩ := hpost
        refine ih _ _ _ _ hF' ?_ ?_ (hb.trans hbel) hr
        · unfold Act.put; cases ops[i].dst <;> exact hd
        · unfold Act.put; cases ops[i].dst
          · exact hs
          · simpa using hs
theorem FR.start {ds ds' : List (Option Nat)} {e : Nat → V} {S : St} {tm : Array Value} {w : World} (h : FR cx B X pin G ds e S tm w) : FR cx B X pin G ds' (fun _ => .undef) S tm w := by
  obtain ⟨hG, β, α, M, hW, hg, hl, hpin⟩ := h
  exact ⟨hG, β, α, M, hW, hg, fun _ _ _ => CR.undef _, hpin⟩
theorem FR.drew {ds : List (Option Nat)} {e : Nat → V} {S : St} {tm : Array Value} {w w' : World} (h : FR cx B X pin G ds e S tm w) (hh : w'.heap = w.heap) : FR cx B X pin G ds e S tm w' := by
  obtain ⟨hG, β, α, M, hW, hg, hl, hpin⟩ := h
  have hgr : Grow w w' := ⟨by rw [hh]; exact Nat.le_refl _, fun b _ => by rw [hh]⟩
  have hD : ∀ u x, RelD cx w (orP X M) u x → RelD cx w' (orP X M) u x := fun _ _ hr => grow_D hgr (fun _ h => .inl h) hr
  exact ⟨hG, β, α, M, hW.grow hgr (fun _ h => h) (fun _ h => .inl h), fun t => (hg t).tr hD (ATr.refl S α) (fun _ h => ⟨h, rfl⟩), fun i d hd => (hl i d hd).tr hD (ATr.refl S α) (fun _ h => ⟨h, rfl⟩), hpin⟩
theorem region_sim {id : Nat} {ops : Array Oper} {draw dr : Bool} {ps : List Op} (hm : P.follows .mixedOrders = true) (hκ : KOK P cx ownOf κ)
    (hok : okRegion P cx ownOf G N draw ops dr ps = true) {S S' : St} {a : Act} {w : World} {Q : Exit → Act → World → Prop}
    (hF : FR cx B X pin G [] (fun _ => .undef) S a.tmps w) (hd : a.defers = []) (hs : a.tmps.size = N) (hr : runOps κ ps 0 (fun _ => .undef) S = some S')
    (hQ : ∀ (a' : Act) (w' : World), FR cx B X pin G [] (fun _ => .undef) S' a'.tmps w' → a'.defers = [] → a'.tmps.size = N → Kept B w w' → Q .normal a' w') :
    (Code.region id ops draw).wp P Q a w := by
  simp only [okRegion, Bool.and_eq_true, beq_iff_eq] at hok
  obtain ⟨⟨⟨h1, h2⟩, rfl⟩, h4⟩ := hok
  obtain ⟨hlen, -⟩ := okOpers_get h1
  have hlen' : ps.length = ops.size := by simpa using hlen.symm
  have hix : runIx κ ps (List.range ps.length) (fun _ => .undef) S = some S' := by
    rw [List.range_eq_range', ← runOps_ix κ ps 0 _ _ (fun j => by simp)]; exact hr
  have hQ' : ∀ (a' : Act) (w' : World) (e : Nat → V), FR cx B X pin G (ps.map (·.dst)) e S' a'.tmps w' → a'.defers = [] → a'.tmps.size = N → Kept B w w' → Q .normal a' w' :=
    fun a' w' e hF' hd' hs' hb' => hQ a' w' hF'.start hd' hs' hb'
  cases draw with
  | false =>
    refine wp_region (ops_sim hκ h1 h2 hQ' _ _ _ _ _ hF.start hd hs (Kept.refl _ _) ?_)
    rw [← hlen']; exact hix
  | true =>
    simp only [Bool.not_true, Bool.false_or, Bool.and_eq_true] at h4
    refine wp_region_draw fun t => ?_
    simp only [Region.schedule, hm, Bool.true_or, if_true]
    refine ops_sim hκ h1 h2 hQ' _ (fun _ => .undef) S _ _ (hF.start.drew rfl) hd hs ⟨rfl, rfl, rfl, Nat.le_refl _, fun _ _ => rfl⟩ ?_
    rw [runIx_sort κ _ _ _ (draw_inv h4.1 hlen' h4.2 t), sortI_range (lin_ok h4.1 t).1, ← hlen']
    exact hix
end
end Sg
namespace Sg
open Go Go.RowKit
set_option linter.unusedSimpArgs false
set_option linter.unusedVariables false
section
variable (P : Program) (cx : Cx) (ownOf : Nat → Option Nat) (G : List Nat) (N : Nat)
def okC : Code → C → Bool
  | .skip, .skip => true
  | .region _ ops draw, .region dr ps => okRegion P cx ownOf G N draw ops dr ps
  | .seq a b, .seq a' b' => okC a a' && okC b b'
  | .cond x a b, .cond y a' b' => okArg cx [] x y && okC a a' && okC b b'
  | .block id c, .block id' c' => id == id' && okC c c'
  | .loop c, .loop _ _ _ _ c' => okC c c'
  | .exit id, .exit id' => id == id'
  | .ret, .ret => true
  | _, _ => false
end
section
variable {P : Program} {cx : Cx} {ownOf : Nat → Option Nat} {G : List Nat} {N : Nat} {B : Nat → Prop} {X : Nat → Prop} {pin : Option (Nat × Nat)} {κ : Nat → List V → Option V}
theorem head_A {S : St} {W Wv Wa : List Nat} {s : Nat} (h : s ∉ Wa) : (S.scrub W Wv Wa).A s = S.A s := by
  simp [St.scrub, h]
theorem head_A_some {S : St} {W Wv Wa : List Nat} {s : Nat} {x} (h : (S.scrub W Wv Wa).A s = some x) : s ∉ Wa ∧ S.A s = some x := by
  simp only [St.scrub] at h
  split at h
  · simp at h
  · rename_i hn; exact ⟨by simpa using hn, h⟩
theorem head_O {S : St} {W Wv Wa : List Nat} {α : Nat → Value} {v : Value} {s z n : Nat} (h : RelO S α v s z n) (hs : s ∉ Wa) : RelO (S.scrub W Wv Wa) α v s z n := by
  obtain ⟨rows, f, a, cap, hA, h⟩ := h
  exact ⟨rows, f, a, cap, by rw [head_A hs]; exact hA, h⟩
theorem head_C {S : St} {W Wv Wa : List Nat} {α : Nat → Value} {w : World} {Y : Nat → Prop} {v : Value} {x : V} (h : RelC cx w Y S α v x) : RelC cx w Y (S.scrub W Wv Wa) α v (scrubC Wa x) := by
  cases x with
  | own s z n =>
    simp only [scrubC]
    split
    · exact RelD.undef _
    · rename_i hn; exact head_O h (by simpa using hn)
  | _ => exact h
theorem head_T {S : St} {W Wv Wa : List Nat} {α : Nat → Value} {β : Nat → Nat} {w : World} {Y : Nat → Prop} {v : Value} {x : V} (h : RelT cx w Y S β α v x) : RelT cx w Y (S.scrub W Wv Wa) β α v (scrubV Wv Wa x) := by
  cases x with
  | own s z n =>
    simp only [scrubV]
    split
    · exact RelD.undef _
    · rename_i hn; exact head_O h (by simpa using hn)
  | lref s o =>
    simp only [scrubV]
    split
    · exact RelD.undef _
    · rename_i hn
      obtain ⟨h1, h2⟩ := h
      refine ⟨?_, h2⟩
      have : Wv.contains s = false := by simpa using hn
      simp only [St.scrub, this]
      cases hm : S.μ s with
      | none => simp [hm] at h1
      | some m => simp
  | eref s i o m =>
    simp only [scrubV]
    split
    · exact RelD.undef _
    · rename_i hn
      obtain ⟨z, rows, f, b, o', cap, hA, h⟩ := h
      exact ⟨z, rows, f, b, o', cap, by rw [head_A (by simpa using hn)]; exact hA, h⟩
  | agg vs =>
    simp only [scrubV]
    split
    · rename_i he
      have he' : Wa = [] := by simpa using he
      subst he'
      obtain ⟨cs, rfl, hl, hc⟩ := h
      refine ⟨cs, rfl, hl, fun i hi => ?_⟩
      obtain ⟨u, p, q, r⟩ := hc i hi
      refine ⟨u, p, q, ?_⟩
      have := head_C (W := W) (Wv := Wv) (Wa := []) r
      have e : scrubC [] (gv vs i) = gv vs i := by cases gv vs i <;> simp [scrubC]
      rwa [e] at this
    · exact RelD.undef _
  | tuple vs =>
    simp only [scrubV]
    split
    · rename_i he
      have he' : Wa = [] := by simpa using he
      subst he'
      obtain ⟨cs, rfl, hl, hc⟩ := h
      refine ⟨cs, rfl, hl, fun i hi => ?_⟩
      obtain ⟨u, p, r⟩ := hc i hi
      refine ⟨u, p, ?_⟩
      have := head_C (W := W) (Wv := Wv) (Wa := []) r
      have e : scrubC [] (gv vs i) = gv vs i := by cases gv vs i <;> simp [scrubC]
      rwa [e] at this
    · exact RelD.undef _
  | _ => exact h
theorem head_W {S : St} {W Wv Wa : List Nat} {α : Nat → Value} {β : Nat → Nat} {w : World} {M : Nat → Prop} (h : RelW cx B X S w β α M) : RelW cx B X (S.scrub W Wv Wa) w β α M := by
  have hm : ∀ s cs f, (S.scrub W Wv Wa).μ s = some (cs, f) → ∃ cs0, S.μ s = some (cs0, f) ∧ cs = (bif Wa.isEmpty then cs0 else cs0.map (scrubC Wa)) := by
    intro s cs f hs
    simp only [St.scrub] at hs
    split at hs
    · simp at hs
    · cases hm : S.μ s with
      | none => simp [hm] at hs
      | some m =>
        simp only [hm, Option.map_some, Option.some.injEq, Prod.mk.injEq] at hs
        obtain ⟨rfl, rfl⟩ := hs
        exact ⟨m.1, rfl, rfl⟩
  have hi : ∀ s, ((S.scrub W Wv Wa).μ s).isSome → (S.μ s).isSome := fun s hs => by
    obtain ⟨x, hx⟩ := Option.isSome_iff_exists.1 hs
    obtain ⟨cs0, h0, -⟩ := hm s x.1 x.2 hx
    simp [h0]
  refine ⟨h.xb, h.glob, h.size, h.m, fun s cs f hs => ?_, fun s s' hs hs' he => h.varInj s s' (hi s hs) (hi s' hs') he, fun s z rows f hs hf => h.arr s z rows f (head_A_some hs).2 hf,
    fun s s' z rows f z' rows' f' hs hf hs' hf' => h.arrInj s s' z rows f z' rows' f' (head_A_some hs).2 hf (head_A_some hs').2 hf', fun s z rows f s' hs hf hs' => h.arrVar s z rows f s' (head_A_some hs).2 hf (hi s' hs')⟩
  obtain ⟨cs0, h0, rfl⟩ := hm s cs f hs
  obtain ⟨a1, a2, a3, c, e, a4, a5, a6⟩ := h.var s cs0 f h0
  have hlen : (bif Wa.isEmpty then cs0 else cs0.map (scrubC Wa)).length = cs0.length := by cases Wa.isEmpty <;> simp
  have hgv : ∀ i, i < cs0.length → gv (bif Wa.isEmpty then cs0 else cs0.map (scrubC Wa)) i = scrubC Wa (gv cs0 i) := by
    intro i hi'
    cases hW : Wa.isEmpty with
    | true =>
      have : Wa = [] := by simpa using hW
      subst this
      simp only [cond_true]
      cases gv cs0 i <;> simp [scrubC]
    | false => simp [gv, hi']
  refine ⟨a1, a2, fun hf => ⟨(a3 hf).1, ?_⟩, c, e, a4, by rw [hlen]; exact a5, fun i hi' => ?_⟩
  · have hd := (a3 hf).2
    cases Wa.isEmpty with
    | true => exact hd
    | false =>
      simp only [cond_false, List.all_map, List.all_eq_true, Function.comp] at hd ⊢
      intro x hx
      have := hd x hx
      cases x <;> simp_all [scrubC, V.datC]
  · rw [hlen] at hi'
    obtain ⟨u, p, q, r⟩ := a6 i hi'
    exact ⟨u, p, q, by rw [hgv i hi']; exact head_C r⟩
theorem swp_swp (x h t : Nat) : swp x h (swp x h t) = t := by
  unfold swp
  by_cases e1 : t = x
  · subst e1; simp only [if_true]; split
    · rename_i e; exact e
    · rfl
  · rw [if_neg e1]
    by_cases e2 : t = h
    · subst e2; simp
    · rw [if_neg e2, if_neg e1, if_neg e2]
theorem swp_inj {x h s t : Nat} (e : swp x h s = swp x h t) : s = t := by rw [← swp_swp x h s, e, swp_swp]
section
variable {S : St} {α : Nat → Value} {β : Nat → Nat} {w : World} {Y : Nat → Prop} {x0 h0 : Nat}
theorem ren_O {v : Value} {s z n : Nat} (h : RelO S α v s z n) : RelO (S.ren x0 h0) (fun t => α (swp x0 h0 t)) v (swp x0 h0 s) z n := by
  obtain ⟨rows, f, a, cap, hA, h⟩ := h
  exact ⟨rows, f, a, cap, by simp only [St.ren, swp_swp]; exact hA, by simpa only [swp_swp] using h⟩
theorem ren_C {v : Value} {x : V} (h : RelC cx w Y S α v x) : RelC cx w Y (S.ren x0 h0) (fun t => α (swp x0 h0 t)) v (renC x0 h0 x) := by
  cases x with
  | own s z n => exact ren_O h
  | _ => exact h
theorem ren_T {v : Value} {x : V} (h : RelT cx w Y S β α v x) : RelT cx w Y (S.ren x0 h0) β (fun t => α (swp x0 h0 t)) v (renV x0 h0 x) := by
  cases x with
  | own s z n => exact ren_O h
  | lref s o =>
    obtain ⟨h1, h2⟩ := h
    exact ⟨by simp only [St.ren, Option.isSome_map]; exact h1, h2⟩
  | eref s i o m =>
    obtain ⟨z, rows, f, b, o', cap, hA, h⟩ := h
    exact ⟨z, rows, f, b, o', cap, by simp only [St.ren, swp_swp]; exact hA, by simpa only [swp_swp] using h⟩
  | agg vs =>
    obtain ⟨cs, rfl, hl, hc⟩ := h
    refine ⟨cs, rfl, by simpa using hl, fun i hi => ?_⟩
    have hi' : i < vs.length := by simpa using hi
    obtain ⟨u, p, q, r⟩ := hc i hi'
    refine ⟨u, p, q, ?_⟩
    have := ren_C (x0 := x0) (h0 := h0) r
    have e : gv (vs.map (renC x0 h0)) i = renC x0 h0 (gv vs i) := by simp [gv, hi']
    rwa [← e] at this
  | tuple vs =>
    obtain ⟨cs, rfl, hl, hc⟩ := h
    refine ⟨cs, rfl, by simpa using hl, fun i hi => ?_⟩
    have hi' : i < vs.length := by simpa using hi
    obtain ⟨u, p, r⟩ := hc i hi'
    refine ⟨u, p, ?_⟩
    have := ren_C (x0 := x0) (h0 := h0) r
    have e : gv (vs.map (renC x0 h0)) i = renC x0 h0 (gv vs i) := by simp [gv, hi']
    rwa [← e] at this
  | _ => exact h
theorem ren_datC {x : V} (h : x.datC = true) : renC x0 h0 x = x := by cases x <;> simp_all [renC, V.datC]
theorem ren_W {M : Nat → Prop} (h : RelW cx B X S w β α M) : RelW cx B X (S.ren x0 h0) w β (fun t => α (swp x0 h0 t)) M := by
  have hm : ∀ s cs f, (S.ren x0 h0).μ s = some (cs, f) → ∃ cs0, S.μ s = some (cs0, f) ∧ cs = cs0.map (renC x0 h0) := by
    intro s cs f hs
    simp only [St.ren, Option.map_eq_some_iff, Prod.mk.injEq] at hs
    obtain ⟨m, hm, rfl, rfl⟩ := hs
    exact ⟨m.1, hm, rfl⟩
  have hi : ∀ s, ((S.ren x0 h0).μ s).isSome → (S.μ s).isSome := fun s hs => by simpa [St.ren] using hs
  refine ⟨h.xb, h.glob, h.size, h.m, fun s cs f hs => ?_, fun s s' hs hs' he => h.varInj s s' (hi s hs) (hi s' hs') he, fun s z rows f hs hf => h.arr (swp x0 h0 s) z rows f hs hf,
    fun s s' z rows f z' rows' f' hs hf hs' hf' b hb hb' => swp_inj (h.arrInj (swp x0 h0 s) (swp x0 h0 s') z rows f z' rows' f' hs hf hs' hf' b hb hb'), fun s z rows f s' hs hf hs' => h.arrVar (swp x0 h0 s) z rows f s' hs hf (hi s' hs')⟩
  obtain ⟨cs0, h0', rfl⟩ := hm s cs f hs
  obtain ⟨a1, a2, a3, c, e, a4, a5, a6⟩ := h.var s cs0 f h0'
  refine ⟨a1, a2, fun hf => ⟨(a3 hf).1, ?_⟩, c, e, a4, by simpa using a5, fun i hi' => ?_⟩
  · have hd := (a3 hf).2
    simp only [List.all_map, List.all_eq_true, Function.comp] at hd ⊢
    intro x hx
    rw [ren_datC (hd x hx)]; exact hd x hx
  · simp only [List.length_map] at hi'
    obtain ⟨u, p, q, r⟩ := a6 i hi'
    have e : gv (cs0.map (renC x0 h0)) i = renC x0 h0 (gv cs0 i) := by simp [gv, hi']
    exact ⟨u, p, q, by rw [e]; exact ren_C r⟩
end
structure Nam (cx : Cx) (B X : Nat → Prop) (w : World) (β : Nat → Nat) (M : Nat → Prop) (S S' : St) (α α' : Nat → Value) : Prop where
  hw : RelW cx B X S w β α M → RelW cx B X S' w β α' M
  ht : ∀ t u, RelT cx w (orP X M) S β α u (S.ρ t) → RelT cx w (orP X M) S' β α' u (S'.ρ t)
  hm : ∀ k, (S.μ k).isSome → (S'.μ k).isSome
  hu : ∀ t, S.ρ t = .undef → S'.ρ t = .undef
theorem swp1_ok {w : World} {β : Nat → Nat} {M : Nat → Prop} (S : St) (α : Nat → Value) (s j h : Nat) : ∃ α', Nam cx B X w β M S (S.swp1 s j h) α α' := by
  unfold St.swp1
  split
  · split
    · exact ⟨_, ⟨ren_W, fun t u h => ren_T h, fun k hk => by simpa [St.ren] using hk, fun t ht => by simp [St.ren, ht, renV]⟩⟩
    · exact ⟨α, ⟨fun h => h, fun _ _ h => h, fun _ h => h, fun _ h => h⟩⟩
  · exact ⟨α, ⟨fun h => h, fun _ _ h => h, fun _ h => h, fun _ h => h⟩⟩
theorem swps_ok {w : World} {β : Nat → Nat} {M : Nat → Prop} : ∀ (n : Nat) (L : List Nat) (S : St) (α : Nat → Value), L.length ≤ n → ∃ α', Nam cx B X w β M S (S.swps L) α α' := by
  intro n
  induction n with
  | zero =>
    intro L S α hL
    have : L = [] := List.eq_nil_of_length_eq_zero (by omega)
    subst this
    exact ⟨α, ⟨fun h => h, fun _ _ h => h, fun _ h => h, fun _ h => h⟩⟩
  | succ n ih =>
    intro L S α hL
    match L, hL with
    | [], _ => exact ⟨α, ⟨fun h => h, fun _ _ h => h, fun _ h => h, fun _ h => h⟩⟩
    | [a], _ => exact ⟨α, ⟨fun h => h, fun _ _ h => h, fun _ h => h, fun _ h => h⟩⟩
    | [a, b], _ => exact ⟨α, ⟨fun h => h, fun _ _ h => h, fun _ h => h, fun _ h => h⟩⟩
    | s :: j :: h :: l, hL =>
      obtain ⟨α1, h1⟩ := swp1_ok (cx := cx) (B := B) (X := X) (w := w) (β := β) (M := M) S α s j h
      obtain ⟨α2, h2⟩ := ih l (S.swp1 s j h) α1 (by simp at hL; omega)
      exact ⟨α2, ⟨fun h => h2.hw (h1.hw h), fun t u h => h2.ht t u (h1.ht t u h), fun k hk => h2.hm k (h1.hm k hk), fun t ht => h2.hu t (h1.hu t ht)⟩⟩
def nsC (k : Nat) : C → Bool
  | .seq a b => nsC k a && nsC k b
  | .cond _ a b => nsC k a && nsC k b
  | .block _ c => nsC k c
  | .loop _ _ Wv _ c => !Wv.contains k && nsC k c
  | _ => true
def PinOK (pin : Option (Nat × Nat)) (c : C) : Prop := ∀ k b, pin = some (k, b) → nsC k c = true
theorem FR.head {W L Wv Wa : List Nat} {ds : List (Option Nat)} {e : Nat → V} {S : St} {tm : Array Value} {w : World} (hpin : ∀ k b, pin = some (k, b) → Wv.contains k = false) (h : FR cx B X pin G ds e S tm w) : FR cx B X pin G [] (fun _ => .undef) (S.head W L Wv Wa) tm w := by
  obtain ⟨hG, β, α, M, hW, hg, hl, hp⟩ := h
  obtain ⟨α', hN⟩ := swps_ok (cx := cx) (B := B) (X := X) (w := w) (β := β) (M := M) L.length L S α (Nat.le_refl _)
  refine ⟨fun t ht => ?_, β, α', M, head_W (hN.hw hW), fun t => ?_, fun i d hd => by simp at hd, fun k b hk => ⟨?_, (hp k b hk).2⟩⟩
  · simp only [St.head, St.scrub, hN.hu t (hG t ht), scrubV]; split <;> rfl
  · simp only [St.head, St.scrub]
    split
    · exact RelD.undef _
    · exact head_T (hN.ht t _ (hg t))
  · have h1 := hN.hm k (hp k b hk).1
    simp only [St.head, St.scrub, hpin k b hk, Bool.false_eq_true, if_false, Option.isSome_map]
    exact h1
def CPost (cx : Cx) (B : Nat → Prop) (X : Nat → Prop) (pin : Option (Nat × Nat)) (G : List Nat) (N : Nat) (w : World) (S' : St) (ex : Ex) : Exit → Act → World → Prop := fun e a' w' =>
  (match ex with | .norm => e = .normal | .ret => e = .ret | .exit id => e = .exit id) ∧ FR cx B X pin G [] (fun _ => .undef) S' a'.tmps w' ∧ a'.defers = [] ∧ a'.tmps.size = N ∧ Kept B w w'
def Head (P : Program) (c : Code) (Q : Exit → Act → World → Prop) (a : Act) (w : World) : Prop :=
  ∀ (b : Frame) (k : List Item) (cs : List Frame), ∃ e a' w', Q e a' w' ∧ Arrives P (lone (b.at a (.code c :: .inLoop c :: k)) cs w) b k cs e a' w'
theorem Head.loop {c : Code} {Q : Exit → Act → World → Prop} {a : Act} {w : World} (h : Head P c Q a w) : (Code.loop c).wp P Q a w := fun b k cs => by
  obtain ⟨e, a', w', hq, harr⟩ := h b k cs
  exact ⟨e, a', w', hq, .of_steps (.one step_loop) harr⟩
theorem Head.round {c : Code} {Q : Exit → Act → World → Prop} {a : Act} {w : World} (h : c.wp P (Exit.then (Head P c Q) Q) a w) : Head P c Q a w := fun b k cs => by
  obtain ⟨e, a₁, w₁, hq, harr⟩ := h b (.inLoop c :: k) cs
  cases e with
  | normal =>
    obtain ⟨e₂, a₂, w₂, hq₂, harr₂⟩ := hq b k cs
    exact ⟨e₂, a₂, w₂, hq₂, .of_steps (Steps.trans harr (.one step_inLoop)) harr₂⟩
  | exit id => exact ⟨_, a₁, w₁, hq, .pass (x := .inLoop c) rfl (fun _ _ => .inl (by simp)) harr⟩
  | goto l => exact ⟨_, a₁, w₁, hq, .pass (x := .inLoop c) rfl (fun _ _ => .inl (by simp)) harr⟩
  | ret => exact ⟨_, a₁, w₁, hq, .pass (x := .inLoop c) rfl (fun _ _ => .inl (by simp)) harr⟩
  | panic ch => exact ⟨_, a₁, w₁, hq, .pass (x := .inLoop c) rfl (fun _ _ => .inl (by simp)) harr⟩
  | outgrown => exact ⟨_, a₁, w₁, hq, .pass (x := .inLoop c) rfl (fun _ _ => .inl (by simp)) harr⟩
theorem code_sim (hm : P.follows .mixedOrders = true) (hκ : KOK P cx ownOf κ) : ∀ (m : Nat),
    (∀ (c : Code) (c' : C) (S S' : St) (ex : Ex) (a : Act) (w : World), okC P cx ownOf G N c c' = true → PinOK pin c' → exec κ m c' S = some (ex, S') → FR cx B X pin G [] (fun _ => .undef) S a.tmps w → a.defers = [] → a.tmps.size = N →
      c.wp P (CPost cx B X pin G N w S' ex) a w) ∧
    (∀ (c : Code) (W L Wv Wa : List Nat) (c' : C) (S S' : St) (ex : Ex) (a : Act) (w : World), okC P cx ownOf G N c c' = true → PinOK pin (.loop W L Wv Wa c') → exec κ m (.loop W L Wv Wa c') S = some (ex, S') → FR cx B X pin G [] (fun _ => .undef) S a.tmps w → a.defers = [] → a.tmps.size = N →
      Head P c (CPost cx B X pin G N w S' ex) a w) := by
  intro m
  induction m with
  | zero => exact ⟨fun c c' S S' ex a w _ _ h => by simp [exec] at h, fun c W L Wv Wa c' S S' ex a w _ _ h => by simp [exec] at h⟩
  | succ m ih =>
    obtain ⟨ih1, ih2⟩ := ih
    have loop : ∀ (c : Code) (W L Wv Wa : List Nat) (c' : C) (S S' : St) (ex : Ex) (a : Act) (w : World), okC P cx ownOf G N c c' = true → PinOK pin (.loop W L Wv Wa c') → exec κ (m + 1) (.loop W L Wv Wa c') S = some (ex, S') → FR cx B X pin G [] (fun _ => .undef) S a.tmps w → a.defers = [] → a.tmps.size = N →
        Head P c (CPost cx B X pin G N w S' ex) a w := by
      intro c W L Wv Wa c' S S' ex a w hok hpn hex hF hd hs
      have hp1 : PinOK pin c' := fun k b hk => by have := hpn k b hk; simp only [nsC, Bool.and_eq_true] at this; exact this.2
      have hp2 : ∀ k b, pin = some (k, b) → Wv.contains k = false := fun k b hk => by have := hpn k b hk; simp only [nsC, Bool.and_eq_true, Bool.not_eq_true'] at this; exact this.1
      simp only [exec, Option.bind_eq_some_iff] at hex
      obtain ⟨⟨x, S2⟩, h1, h2⟩ := hex
      refine Head.round (wp_mono (ih1 c c' _ S2 x a w hok hp1 h1 (hF.head hp2) hd hs) fun e a' w' hp => ?_)
      obtain ⟨p1, p2, p3, p4, p5⟩ := hp
      cases x with
      | norm =>
        simp only at p1 h2
        subst p1
        intro b k cs
        obtain ⟨e2, a2, w2, q, r⟩ := ih2 c W L Wv Wa c' S2 S' ex a' w' hok hpn h2 p2 p3 p4 b k cs
        obtain ⟨q1, q2, q3, q4, q5⟩ := q
        exact ⟨e2, a2, w2, ⟨q1, q2, q3, q4, p5.trans q5⟩, r⟩
      | ret =>
        simp only [Option.some.injEq, Prod.mk.injEq] at p1 h2
        obtain ⟨rfl, rfl⟩ := h2
        subst p1
        exact ⟨rfl, p2, p3, p4, p5⟩
      | exit id =>
        simp only [Option.some.injEq, Prod.mk.injEq] at p1 h2
        obtain ⟨rfl, rfl⟩ := h2
        subst p1
        exact ⟨rfl, p2, p3, p4, p5⟩
    refine ⟨fun c c' S S' ex a w hok hpn hex hF hd hs => ?_, loop⟩
    cases c' with
    | skip =>
      cases c <;> try (simp [okC] at hok; done)
      simp only [exec, Option.some.injEq, Prod.mk.injEq] at hex
      obtain ⟨rfl, rfl⟩ := hex
      exact wp_skip ⟨rfl, hF, hd, hs, Kept.refl _ _⟩
    | ret =>
      cases c <;> try (simp [okC] at hok; done)
      simp only [exec, Option.some.injEq, Prod.mk.injEq] at hex
      obtain ⟨rfl, rfl⟩ := hex
      exact wp_ret ⟨rfl, hF, hd, hs, Kept.refl _ _⟩
    | exit id =>
      cases c <;> try (simp [okC] at hok; done)
      simp only [okC, beq_iff_eq] at hok
      subst hok
      simp only [exec, Option.some.injEq, Prod.mk.injEq] at hex
      obtain ⟨rfl, rfl⟩ := hex
      exact wp_exit ⟨rfl, hF, hd, hs, Kept.refl _ _⟩
    | region dr ps =>
      cases c <;> try (simp [okC] at hok; done)
      simp only [okC] at hok
      simp only [exec, Option.bind_eq_some_iff, Option.some.injEq, Prod.mk.injEq] at hex
      obtain ⟨S2, hr, rfl, rfl⟩ := hex
      exact region_sim hm hκ hok hF hd hs hr fun a' w' q1 q2 q3 q4 => ⟨rfl, q1, q2, q3, q4⟩
    | seq x y =>
      cases c <;> try (simp [okC] at hok; done)
      rename_i cx' cy'
      simp only [okC, Bool.and_eq_true] at hok
      simp only [exec, Option.bind_eq_some_iff] at hex
      obtain ⟨⟨e1, S2⟩, h1, h2⟩ := hex
      refine wp_seq (wp_mono (ih1 _ x S S2 e1 a w hok.1 (fun k b hk => by have := hpn k b hk; simp only [nsC, Bool.and_eq_true] at this; exact this.1) h1 hF hd hs) fun e a' w' hp => ?_)
      obtain ⟨p1, p2, p3, p4, p5⟩ := hp
      cases e1 with
      | norm =>
        simp only at p1 h2
        subst p1
        exact wp_mono (ih1 _ y S2 S' ex a' w' hok.2 (fun k b hk => by have := hpn k b hk; simp only [nsC, Bool.and_eq_true] at this; exact this.2) h2 p2 p3 p4) fun e a'' w'' ⟨q1, q2, q3, q4, q5⟩ => ⟨q1, q2, q3, q4, p5.trans q5⟩
      | ret =>
        simp only [Option.some.injEq, Prod.mk.injEq] at p1 h2
        obtain ⟨rfl, rfl⟩ := h2
        subst p1
        exact ⟨rfl, p2, p3, p4, p5⟩
      | exit id =>
        simp only [Option.some.injEq, Prod.mk.injEq] at p1 h2
        obtain ⟨rfl, rfl⟩ := h2
        subst p1
        exact ⟨rfl, p2, p3, p4, p5⟩
    | cond x y z =>
      cases c <;> try (simp [okC] at hok; done)
      simp only [okC, Bool.and_eq_true] at hok
      simp only [exec] at hex
      split at hex <;> try (simp at hex; done)
      rename_i t ht
      have hF0 := hF
      obtain ⟨hG, β, α, M, hW, hg, hl, hpp⟩ := hF
      have hr := arg_rel (a := a) (ds := []) (e := fun _ => .undef) hg (fun i d hd => by simp at hd) hok.1.1
      rw [ht] at hr
      refine wp_cond (rel_bool hr) ?_
      cases t
      · exact ih1 _ z S S' ex a w hok.2 (fun k b hk => by have := hpn k b hk; simp only [nsC, Bool.and_eq_true] at this; exact this.2) (by simpa using hex) hF0 hd hs
      · exact ih1 _ y S S' ex a w hok.1.2 (fun k b hk => by have := hpn k b hk; simp only [nsC, Bool.and_eq_true] at this; exact this.1) (by simpa using hex) hF0 hd hs
    | block id x =>
      cases c <;> try (simp [okC] at hok; done)
      simp only [okC, Bool.and_eq_true, beq_iff_eq] at hok
      obtain ⟨rfl, hok⟩ := hok
      simp only [exec, Option.bind_eq_some_iff] at hex
      obtain ⟨⟨e1, S2⟩, h1, h2⟩ := hex
      refine wp_block (wp_mono (ih1 _ x S S2 e1 a w hok (fun k b hk => by have := hpn k b hk; simpa only [nsC] using this) h1 hF hd hs) fun e a' w' hp => ?_)
      obtain ⟨p1, p2, p3, p4, p5⟩ := hp
      cases e1 with
      | norm =>
        simp only [Option.some.injEq, Prod.mk.injEq] at p1 h2
        obtain ⟨rfl, rfl⟩ := h2
        subst p1
        exact ⟨rfl, p2, p3, p4, p5⟩
      | ret =>
        simp only [Option.some.injEq, Prod.mk.injEq] at p1 h2
        obtain ⟨rfl, rfl⟩ := h2
        subst p1
        exact ⟨rfl, p2, p3, p4, p5⟩
      | exit id' =>
        simp only at p1 h2
        subst p1
        simp only [Exit.inBlock]
        split at h2
        · rename_i he
          simp only [Option.some.injEq, Prod.mk.injEq] at h2
          obtain ⟨rfl, rfl⟩ := h2
          rw [if_pos he]
          exact ⟨rfl, p2, p3, p4, p5⟩
        · rename_i he
          simp only [Option.some.injEq, Prod.mk.injEq] at h2
          obtain ⟨rfl, rfl⟩ := h2
          rw [if_neg he]
          exact ⟨rfl, p2, p3, p4, p5⟩
    | loop W L Wv Wa x =>
      cases c <;> try (simp [okC] at hok; done)
      simp only [okC] at hok
      exact (loop _ W L Wv Wa x S S' ex a w hok hpn hex hF hd hs).loop
end
end Sg
namespace Sg
open Go Go.RowKit
set_option linter.unusedSimpArgs false
set_option linter.unusedVariables false
def ownOf (Pg : Nat → Option Fn) (f : Nat) : Option Nat :=
  match Pg f with
  | some (.code F) => F.own
  | some (.prim own _) => own
  | some (.codeR _ k) => some (3000 + k)
  | none => none
section
variable (P : Program) (cx : Cx) (Pg : Nat → Option Fn)
def okRes (rs : List ResultVar) (qs : List Res) : Bool :=
  match rs, qs with
  | [], [] => true
  | .tmp t :: rs, .t t' :: qs => t == t' && okRes rs qs
  | .cell a t :: rs, .cell a' n :: qs => a == a' && (P.underlying t).isSome && (if aggT P t then szT P t == n && n.isSome else n.isNone) && okRes rs qs
  | _, _ => false
def okF (f : FuncId) (F : F) : Bool :=
  match P.funcs[f]? with
  | some fn => (fn.name == "runtime.NumGoroutine") == false && (match fn.body with | some c => okC P cx (ownOf Pg) F.gl fn.ntmps c F.body | none => false) &&
      decide (F.np ≤ fn.ntmps) && (List.range F.np).all (F.gl.contains ·) && okRes P fn.results.toList F.res && (match F.own with | some j => decide (j < F.res.length) && decide (j < 1000) | none => true)
  | none => false
end
section
variable {P : Program} {cx : Cx} {Pg : Nat → Option Fn} {X : Nat → Prop}
theorem mapIdxO_some {α β : Type} {f : Nat → α → Option β} : ∀ {l : List α} {r : List β} {k : Nat}, mapIdxO f k l = some r → r.length = l.length ∧ ∀ (i : Nat) (x : α), l[i]? = some x → ∃ y, r[i]? = some y ∧ f (k + i) x = some y
  | [], r, k, h => by simp only [mapIdxO, Option.some.injEq] at h; subst h; exact ⟨rfl, fun i x hx => by simp at hx⟩
  | a :: l, r, k, h => by
    simp only [mapIdxO, Option.bind_eq_some_iff, Option.some.injEq] at h
    obtain ⟨y, hy, ys, hys, rfl⟩ := h
    obtain ⟨h1, h2⟩ := mapIdxO_some hys
    refine ⟨by simp [h1], fun i x hx => ?_⟩
    cases i with
    | zero => simp at hx; subst hx; exact ⟨y, rfl, hy⟩
    | succ i => have := h2 i x (by simpa using hx); simpa [Nat.add_assoc, Nat.add_comm 1 i] using this
theorem results_ok {B : Nat → Prop} {S : St} {w : World} {β : Nat → Nat} {α : Nat → Value} {M : Nat → Prop} {tm : Array Value} (hW : RelW cx B X S w β α M) (hg : ∀ t, RelT cx w (orP X M) S β α (tm.getD t undef) (S.ρ t)) :
    ∀ (rs : List ResultVar) (qs : List Res) (vs : List V), okRes P rs qs = true → mapO (resV S) qs = some vs →
      ∃ us : List Value, (rs.mapM fun | .tmp t => pure (tm.getD t undef) | .cell a t => do loadVar t (← asAddr (tm.getD a undef)) : Sem (List Value)).run P w = .ok us w ∧
        us.length = vs.length ∧ ∀ i, i < vs.length → ∃ u, us[i]? = some u ∧ RelT cx w (orP X M) S β α u (gv vs i)
  | [], [], vs, _, h => by
    simp only [mapO, Option.some.injEq] at h; subst h
    exact ⟨[], by simp, rfl, fun i hi => by simp at hi⟩
  | r :: rs, q :: qs, vs, hok, h => by
    simp only [mapO, Option.bind_eq_some_iff, Option.some.injEq] at h
    obtain ⟨v, hv, ws, hws, rfl⟩ := h
    have hok' : okRes P rs qs = true := by
      unfold okRes at hok
      split at hok <;> simp_all
    obtain ⟨us, h1, h2, h3⟩ := results_ok hW hg rs qs ws hok' hws
    have key : ∃ u, ((match r with | .tmp t => pure (tm.getD t undef) | .cell a t => do loadVar t (← asAddr (tm.getD a undef))) : Sem Value).run P w = .ok u w ∧ RelT cx w (orP X M) S β α u v := by
      cases r with
      | tmp t =>
        cases q with
        | cell a n => simp [okRes] at hok
        | t t' =>
          simp only [okRes, Bool.and_eq_true, beq_iff_eq] at hok
          obtain ⟨rfl, -⟩ := hok
          simp only [resV, Option.some.injEq] at hv
          subst hv
          exact ⟨tm.getD t undef, by simp, hg t⟩
      | cell a t =>
        cases q with
        | t t' => simp [okRes] at hok
        | cell a' n =>
          simp only [okRes, Bool.and_eq_true, beq_iff_eq] at hok
          obtain ⟨⟨⟨rfl, hu⟩, hn⟩, -⟩ := hok
          have ha := hg a
          simp only [resV] at hv
          split at hv <;> try (simp at hv; done)
          rename_i s hs
          split at hv <;> try (simp at hv; done)
          rename_i cs f hm
          rw [hs] at ha
          have hld := load_ok (P := P) (t := t) (n := n) (l := .v s) (p := .lref s 0) (r := v) hW ha hu hn (by simp [loadV, hm, hv])
          obtain ⟨u, hrun, hr⟩ := hld
          refine ⟨u, ?_, hr⟩
          show (do let x ← asAddr (tm.getD a undef); loadVar t x : Sem Value).run P w = _
          rw [rel_lref ha] at hrun ⊢
          simpa [Instr.loadAt, Instr.sureAddr, asAddr] using hrun
    obtain ⟨u, hrun, hr⟩ := key
    refine ⟨u :: us, ?_, by simp [h2], fun i hi => ?_⟩
    · rw [List.mapM_cons, Sem.run_bind, hrun]
      simp only [Result.andThen, Sem.run_bind, h1, Sem.run_pure]
    · cases i with
      | zero => exact ⟨u, rfl, by simpa [gv] using hr⟩
      | succ i => obtain ⟨x, p, q⟩ := h3 i (by simpa using hi); exact ⟨x, by simpa using p, by simpa [gv] using q⟩
  | [], _ :: _, vs, hok, h => by simp [okRes] at hok
  | _ :: _, [], vs, hok, h => by
    unfold okRes at hok
    split at hok <;> simp_all
theorem gv_some (l : List V) (j : Nat) (h : j < l.length) : l[j]? = some (gv l j) := by simp [gv, h]
theorem out_ok {S : St} {w w' : World} {β : Nat → Nat} {α : Nat → Value} {M : Nat → Prop} {own : Option Nat} {vs rs : List V} {us : List Value} (hW : RelW cx (· < w.heap.size) X S w' β α M)
    (hlen : us.length = vs.length) (hr : ∀ i, i < vs.length → ∃ u, us[i]? = some u ∧ RelT cx w' (orP X M) S β α u (gv vs i)) (ho : mapIdxO (outV S.A own) 0 vs = some rs) (hown : ∀ j, own = some j → j < vs.length) :
    ROut cx w w' X own (if us.length = 1 then us.getD 0 undef else .tuple us.toArray) (shut rs) := by
  obtain ⟨h1, h2⟩ := mapIdxO_some ho
  have at_ : ∀ i, i < rs.length → ∃ u, us[i]? = some u ∧ RelT cx w' (orP X M) S β α u (gv vs i) ∧ outV S.A own i (gv vs i) = some (gv rs i) := fun i hi => by
    have hi' : i < vs.length := by omega
    obtain ⟨u, p, q⟩ := hr i hi'
    obtain ⟨y, y1, y2⟩ := h2 i vs[i] (by simp [hi'])
    refine ⟨u, p, q, ?_⟩
    have e1 : gv vs i = vs[i] := by simp [gv, hi']
    have e2 : gv rs i = y := by simp [gv, y1]
    rw [e1, e2]; simpa using y2
  have hxb : ∀ s b, hdr (α s) = some b → (∃ z rows f, S.A s = some (z, rows, f) ∧ f ≠ .dead) → ¬ X b := fun s b hb hex hx => by
    obtain ⟨z, rows, f, e1, e2⟩ := hex
    exact ((hW.arr s z rows f e1 e2).2 b hb).1 (hW.xb b hx)
  cases own with
  | none =>
    have hd : ∀ i, i < rs.length → ∃ u, us[i]? = some u ∧ RelD cx w' X u (gv rs i) := fun i hi => by
      obtain ⟨u, p, q, r⟩ := at_ i hi
      simp only [outV, reduceCtorEq, if_false, if_true] at r
      exact ⟨u, p, toD_ok hW q r (fun b hb => .inl hb) (fun s _ b hb hex => hxb s b hb hex)⟩
    match rs, hd, h1 with
    | [r], hd, h1 =>
      obtain ⟨u, p, q⟩ := hd 0 (by simp)
      have : us.length = 1 := by simp at h1; omega
      rw [if_pos this]
      simp only [shut]
      have : us.getD 0 undef = u := by simp [List.getD_eq_getElem?_getD, p]
      rw [this]; exact q
    | [], hd, h1 =>
      have : us = [] := List.eq_nil_of_length_eq_zero (by simp at h1; omega)
      subst this
      exact RelD.tuple #[] [] (fun _ => undef) rfl (fun i hi => by simp at hi) (fun i hi => by simp at hi)
    | r :: r' :: rs, hd, h1 =>
      rw [if_neg (by simp at h1; omega)]
      obtain ⟨u, hu⟩ := pickf hd
      exact RelD.tuple us.toArray _ u (by simp at h1 ⊢; omega) (fun i hi => by simpa using (hu i hi).1) (fun i hi => (hu i hi).2)
  | some j =>
    have hj : j < rs.length := by have := hown j rfl; omega
    · obtain ⟨u, p, q, r⟩ := at_ j hj
      simp only [outV, if_true] at r
      split at r <;> try (simp at r; done)
      rename_i s z n hs
      split at r <;> try (simp at r; done)
      rename_i z' rows hA
      split at r <;> simp only [Option.some.injEq, reduceCtorEq] at r
      rename_i hc
      obtain ⟨rfl, hn⟩ := hc
      rw [hs] at q
      obtain ⟨rows', f, a, cap, hA', rfl, ha, hoo⟩ := q
      rw [hA] at hA'
      simp only [Option.some.injEq, Prod.mk.injEq] at hA'
      obtain ⟨-, rfl, rfl⟩ := hA'
      have hα := (hoo (by simp)).2 hn
      obtain ⟨a1, a2⟩ := hW.arr s z' rows .live hA (by simp)
      have hsub : ∀ b, hdr (α s) = some b → M b := fun b hb => (a2 b hb).2.1 rfl
      have hE : ∀ u x, RelD cx w' (orP X M) u x → RelD cx w' (orP X (fun b => hdr (α s) = some b)) u x := fun _ _ hr => sub_D hsub hr
      refine ⟨α s, z', rows, fun b => hdr (α s) = some b, fun b hb => ⟨Nat.le_of_not_lt (a2 b hb).1, a1.lt hb⟩, fun b hb => hb, a1.tr hE (fun _ _ => rfl), ?_⟩
      have oth : ∀ i, i < rs.length → i ≠ j → ∃ u, us[i]? = some u ∧ RelD cx w' (orP X (fun b => hdr (α s) = some b)) u (gv rs i) := fun i hi hne => by
        obtain ⟨u, p, q, r⟩ := at_ i hi
        simp only [outV, Option.some.injEq, Ne.symm hne, if_false, reduceCtorEq] at r
        split at r <;> try (simp at r; done)
        rename_i hd
        refine ⟨u, p, toD_ok hW q r (fun b hb => hb.imp id (hsub b)) (fun t ht b hb hex hn => ?_)⟩
        rcases hn with hx | hx
        · exact hxb t b hb hex hx
        · have h1 := List.all_eq_true.1 hd t ht
          obtain ⟨z1, rows1, f1, e1, e2⟩ := hex
          rw [e1] at h1
          have hf : f1 = .frz := by cases f1 <;> simp [frzO] at h1 <;> rfl
          subst hf
          exact ((hW.arr t z1 rows1 .frz e1 e2).2 b hb).2.2 rfl (hsub b hx)
      match rs, at_, h1, hj, r, oth with
      | [r0], at_, h1, hj, r, oth =>
        have : us.length = 1 := by simp at h1; omega
        rw [if_pos this]
        have hj0 : j = 0 := by simp at hj; exact hj
        subst hj0
        refine .inl ⟨by simpa [shut, gv] using r.symm, ?_⟩
        rw [← hα]; simp [List.getD_eq_getElem?_getD, p]
      | r0 :: r1 :: rs, at_, h1, hj, r, oth =>
        rw [if_neg (by simp at h1; omega)]
        refine .inr ⟨r0 :: r1 :: rs, us.toArray, rfl, rfl, by simp at h1 ⊢; omega, hj, ?_, by rw [← hα]; simpa using p, fun i hi hne => ?_⟩
        · exact (gv_some _ j hj).trans (by rw [← r])
        · obtain ⟨u', p', q'⟩ := oth i hi hne
          exact ⟨u', by simpa using p', q'⟩
      | [], at_, h1, hj, r, oth => simp at hj
theorem fn_sound {f : Nat} {F : F} {κ : Nat → List V → Option V} {n : Nat} {args : List V} {r : V} (hm : P.follows .mixedOrders = true) (hκ : KOK P cx (ownOf Pg) κ)
    (hok : okF P cx Pg (cx.fm f) F = true) (hF : Pg f = some (.code F)) (hlen : args.length = F.np)
    (hr : ((exec κ n F.body (start args)).bind fun r => match r.1 with
          | .norm | .ret => finish F r.2
          | .exit _ => none) = some r) : Ctr P cx (ownOf Pg f) f args r := by
  unfold okF at hok
  split at hok <;> try (simp at hok; done)
  rename_i fn hfn
  simp only [Bool.and_eq_true, beq_iff_eq, decide_eq_true_eq] at hok
  obtain ⟨⟨⟨⟨⟨k1, k2⟩, k3⟩, k4⟩, k5⟩, k6⟩ := hok
  split at k2 <;> try (simp at k2; done)
  rename_i c hc
  have hown : ownOf Pg f = F.own := by simp [ownOf, hF]
  refine ⟨⟨fn, hfn, k1, by simp [hc]⟩, fun w X vs hX hgn hG hsz hrel => ?_⟩
  simp only [Option.bind_eq_some_iff] at hr
  obtain ⟨⟨ex, S'⟩, hex, hfin⟩ := hr
  have hRW : RelW cx (· < w.heap.size) X (start args) w (fun _ => 0) (fun _ => undef) (fun _ => False) :=
    ⟨hX, ⟨fun b hb => Nat.lt_of_lt_of_le hb hgn, hG⟩, fun _ h => h, fun b hb => hb.elim, fun s cs f hs => by simp [start] at hs, fun s s' hs => by simp [start] at hs, fun s z rows f hs => by simp [start] at hs, fun s s' z rows f z' rows' f' hs => by simp [start] at hs, fun s z rows f s' hs => by simp [start] at hs⟩
  have hFR : FR cx (· < w.heap.size) X none F.gl [] (fun _ => .undef) (start args) (vs ++ Array.replicate (fn.ntmps - vs.size) undef) w := by
    refine ⟨fun t ht => ?_, _, _, _, hRW, fun t => ?_, fun i d hd => by simp at hd, fun k b hk => by simp at hk⟩
    · have : ¬ t < F.np := fun hlt => ht (by
        have := List.all_eq_true.1 k4 t (List.mem_range.2 hlt)
        simpa using this)
      simp only [start]
      rw [List.getElem?_eq_none (by omega)]; rfl
    · by_cases ht : t < args.length
      · obtain ⟨u, p, q⟩ := hrel t ht
        have : (vs ++ Array.replicate (fn.ntmps - vs.size) undef).getD t undef = u := by
          rw [Array.getD_eq_getD_getElem?, Array.getElem?_append_left (by omega), p]; rfl
        rw [this]
        have : (start args).ρ t = gv args t := by simp [start, gv, List.getD_eq_getElem?_getD]
        rw [this]
        exact .of_data (q.mono (Nat.le_refl _) (fun _ _ _ => rfl) (fun b _ hn hx => hn (hx.resolve_right id)))
      · have : (start args).ρ t = .undef := by simp only [start]; rw [List.getElem?_eq_none (by omega)]; rfl
        rw [this]; exact RelD.undef _
  refine calls_of_wp hfn hc (wp_mono ((code_sim (N := fn.ntmps) hm hκ n).1 c F.body (start args) S' ex _ w k2 (fun k b hk => by simp at hk) hex hFR rfl (by simp; omega)) fun e a' w' hp => ?_)
  obtain ⟨p1, p2, p3, p4, p5⟩ := hp
  have hfin' : finish F S' = some r ∧ (e = .normal ∨ e = .ret) := by
    cases ex with
    | norm => exact ⟨hfin, .inl p1⟩
    | ret => exact ⟨hfin, .inr p1⟩
    | exit id => simp at hfin
  obtain ⟨hfin, he⟩ := hfin'
  unfold finish at hfin
  simp only [Option.bind_eq_some_iff, Option.some.injEq] at hfin
  obtain ⟨vs1, hv1, rs, hrs, rfl⟩ := hfin
  obtain ⟨hG, β, α, M, hW, hg, hl, -⟩ := p2
  obtain ⟨us, hrun, hlu, hru⟩ := results_ok (P := P) hW hg fn.results.toList F.res vs1 k5 hv1
  have hres : (results fn a'.tmps).run P w' = .ok (if us.length = 1 then us.getD 0 undef else .tuple us.toArray) w' := by
    unfold results
    rw [Array.mapM_eq_mapM_toList]
    simp only [map_eq_pure_bind, bind_assoc, pure_bind, Sem.run_bind]
    erw [hrun]
    simp only [Result.andThen, Sem.run_pure, List.size_toArray]
    congr 1
    split
    · rename_i h1
      rw [List.getD_eq_getElem?_getD]
      simp [h1]
    · rfl
  have hvl := (mapO_some hv1).1
  have hR := out_ok hW hlu hru hrs (fun j hj => by rw [hj] at k6; simp only [Bool.and_eq_true, decide_eq_true_eq] at k6; omega)
  rw [hown]
  rcases he with rfl | rfl
  · exact ⟨p3, _, hres, _, rfl, p5.below fun _ h => h, hR⟩
  · exact ⟨p3, _, hres, _, rfl, p5.below fun _ h => h, hR⟩
theorem toD_dies {A A' : AA} (hd : Dies A A') {x y : V} (h : toD A' x = some y) : toD A x = some y ∧ ∀ s ∈ sitesV x, ∃ z rows f, A' s = some (z, rows, f) ∧ f ≠ .dead := by
  have one : ∀ {x y : V}, toDC A' x = some y → toDC A x = some y ∧ ∀ s ∈ sitesC x, ∃ z rows f, A' s = some (z, rows, f) ∧ f ≠ .dead := by
    intro x y h
    cases x with
    | own s z n =>
      simp only [toDC] at h
      split at h
      · rename_i z' rows f hA
        split at h <;> simp only [Option.some.injEq, reduceCtorEq] at h
        rename_i hc
        have := hd.keep hA hc.2.2
        refine ⟨by simp only [toDC, this, if_pos hc, h], fun t ht => ?_⟩
        simp only [sitesC, List.mem_cons, List.not_mem_nil, or_false] at ht
        subst ht
        exact ⟨z', rows, f, hA, hc.2.2⟩
      · simp at h
    | _ => exact ⟨h, fun s hs => by simp [sitesC] at hs⟩
  cases x with
  | agg cs =>
    simp only [toD, Option.map_eq_some_iff] at h ⊢
    obtain ⟨ys, hy, rfl⟩ := h
    have : ∀ (l : List V) (ys : List V), mapO (toDC A') l = some ys → mapO (toDC A) l = some ys ∧ ∀ s ∈ l.flatMap sitesC, ∃ z rows f, A' s = some (z, rows, f) ∧ f ≠ .dead := by
      intro l
      induction l with
      | nil => intro ys h; exact ⟨h, fun s hs => by simp at hs⟩
      | cons a l ih =>
        intro ys h
        simp only [mapO, Option.bind_eq_some_iff, Option.some.injEq] at h
        obtain ⟨y, h1, ys', h2, rfl⟩ := h
        obtain ⟨a1, a2⟩ := one h1
        obtain ⟨b1, b2⟩ := ih ys' h2
        refine ⟨by simp only [mapO, a1, b1, Option.bind_some], fun s hs => ?_⟩
        simp only [List.flatMap_cons, List.mem_append] at hs
        rcases hs with hs | hs
        · exact a2 s hs
        · exact b2 s hs
    obtain ⟨c1, c2⟩ := this cs ys hy
    exact ⟨⟨ys, c1, rfl⟩, fun s hs => c2 s (by simpa [sitesV] using hs)⟩
  | own s z n => exact one (x := .own s z n) h
  | undef => exact ⟨h, fun s hs => by simp [sitesV, sitesC] at hs⟩
  | bool b => exact ⟨h, fun s hs => by simp [sitesV, sitesC] at hs⟩
  | int k n => exact ⟨h, fun s hs => by simp [sitesV, sitesC] at hs⟩
  | str s => exact ⟨h, fun s hs => by simp [sitesV, sitesC] at hs⟩
  | slice z r => exact ⟨h, fun s hs => by simp [sitesV, sitesC] at hs⟩
  | tuple c => simp [toD, toDC, V.datC] at h
  | func f c => exact ⟨h, fun s hs => by simp [sitesV, sitesC] at hs⟩
  | cptr c o => exact ⟨h, fun s hs => by simp [sitesV, sitesC] at hs⟩
  | lref s o => simp [toD, toDC, V.datC] at h
  | eref s i o n => simp [toD, toDC, V.datC] at h
  | iface t v => exact ⟨h, fun s hs => by simp [sitesV, sitesC] at hs⟩
  | niface => exact ⟨h, fun s hs => by simp [sitesV, sitesC] at hs⟩
  | nslice z => exact ⟨h, fun s hs => by simp [sitesV, sitesC] at hs⟩
  | xslice z r => exact ⟨h, fun s hs => by simp [sitesV, sitesC] at hs⟩
theorem fnR_sound {f k : Nat} {F : F} {κ : Nat → List V → Option V} {n : Nat} {args cs : List V} {S0 : St} {r : V} (hm : P.follows .mixedOrders = true) (hκ : KOK P cx (ownOf Pg) κ)
    (hok : okF P cx Pg (cx.fm f) F = true) (hown : F.own = none) (hns : nsC k F.body = true) (hlen : args.length = F.np) (hk : args[k]? = some (.tuple (.lref 0 0 :: cs))) (h0 : startR args k cs = some S0)
    (hr : ((exec κ n F.body S0).bind fun r => match r.1 with
          | .norm | .ret => finishR F k r.2
          | .exit _ => none) = some r) : CtrR P cx k f args r := by
  unfold okF at hok
  split at hok <;> try (simp at hok; done)
  rename_i fn hfn
  simp only [Bool.and_eq_true, beq_iff_eq, decide_eq_true_eq] at hok
  obtain ⟨⟨⟨⟨⟨k1, k2⟩, k3⟩, k4⟩, k5⟩, k6⟩ := hok
  split at k2 <;> try (simp at k2; done)
  rename_i c hc
  refine ⟨⟨fn, hfn, k1, by simp [hc]⟩, fun w X N b vs cs' hX hN hgn hG hsz hk' hvk hRef hrel => ?_⟩
  rw [hk] at hk'
  simp only [Option.some.injEq, V.tuple.injEq, List.cons.injEq, true_and] at hk'
  subst hk'
  obtain ⟨hNb, l, el, hwb, hTr, hnd⟩ := hRef
  obtain ⟨hnd1, hnd2⟩ := List.nodup_cons.1 hnd
  simp only [Option.bind_eq_some_iff] at hr
  obtain ⟨⟨ex, S'⟩, hex, hfin⟩ := hr
  simp only [startR, Option.bind_eq_some_iff, Option.some.injEq] at h0
  obtain ⟨⟨cells, A0⟩, ht0, rfl⟩ := h0
  have hBN : ∀ b, N b → ¬ (b < w.heap.size ∧ ¬ N b) := fun b h1 h2 => h2.2 h1
  have hRE : RelW cx (fun b => b < w.heap.size ∧ ¬ N b) X ⟨fun i => if i = k then .lref k 0 else (args[i]?).getD .undef, fun _ => none, fun _ => none⟩ w (fun _ => 0) (fun _ => undef) N :=
    ⟨fun b hb => ⟨hX b hb, fun hh => (hN b hh).2.1 hb⟩, ⟨fun b hb => ⟨Nat.lt_of_lt_of_le hb hgn, fun hh => by have := (hN b hh).2.2; omega⟩, hG⟩, fun b hb => hb.1, fun b hb => ⟨hBN b hb, (hN b hb).1⟩,
      fun s cs f hs => by simp at hs, fun s s' hs => by simp at hs, fun s z rows f hs => by simp at hs, fun s s' z rows f z' rows' f' hs => by simp at hs, fun s z rows f s' hs => by simp at hs⟩
  obtain ⟨α0, t1, t2, t3, t4⟩ := take_ok cs 9000 _ (fun _ => undef) A0 cells l hRE ht0 hTr hnd2 (fun h hh => ⟨fun s hs => by simp at hs, fun s z rows f hs => by simp at hs⟩)
  have hRW := t1.addVar (d := k) (b0 := b) (cs := cells) rfl hNb hwb (by simpa using t2.1) (fun i hi => by obtain ⟨u, p, q, r⟩ := t2.2 i hi; exact ⟨u, by simpa using p, q, r⟩)
    (fun s hs => by simp at hs) (fun s z rows f hs hf hx => by
      rcases t4 s z rows f hs hf _ hx with h' | ⟨z1, r1, f1, b1, b2, b3⟩
      · exact hnd1 h'
      · simp at b1)
  have hkl : k < args.length := by
    rcases Nat.lt_or_ge k args.length with h' | h'
    · exact h'
    · rw [List.getElem?_eq_none h'] at hk; simp at hk
  have hFR : FR cx (fun b => b < w.heap.size ∧ ¬ N b) X (some (k, b)) F.gl [] (fun _ => .undef) ⟨fun i => if i = k then .lref k 0 else (args[i]?).getD .undef, upd (fun _ => none) k (some (cells, false)), A0⟩ (vs ++ Array.replicate (fn.ntmps - vs.size) undef) w := by
    have hin : ∀ t, t < F.np → t ∈ F.gl := fun t hlt => by
      have := List.all_eq_true.1 k4 t (List.mem_range.2 hlt)
      simpa using this
    refine ⟨fun t ht => ?_, _, _, _, hRW, fun t => ?_, fun i d hd => by simp at hd, fun k' b' hkb => ?_⟩
    · have : ¬ t < F.np := fun hlt => ht (hin t hlt)
      have hne : t ≠ k := by omega
      simp only [if_neg hne]
      rw [List.getElem?_eq_none (by omega)]; rfl
    · by_cases hne : t = k
      · subst hne
        simp only [if_true]
        refine ⟨by simp [upd], ?_⟩
        have : t < vs.size := by omega
        rw [Array.getD_eq_getD_getElem?, Array.getElem?_append_left this, hvk]
        simp [upd]
      · simp only [if_neg hne]
        by_cases ht : t < args.length
        · obtain ⟨u, p, q⟩ := hrel t ht hne
          have : (vs ++ Array.replicate (fn.ntmps - vs.size) undef).getD t undef = u := by
            rw [Array.getD_eq_getD_getElem?, Array.getElem?_append_left (by omega), p]; rfl
          rw [this]
          have : (args[t]?).getD .undef = gv args t := by simp [gv, List.getD_eq_getElem?_getD]
          rw [this]
          exact .of_data q
        · rw [List.getElem?_eq_none (by omega)]; exact RelD.undef _
    · simp only [Option.some.injEq, Prod.mk.injEq] at hkb
      obtain ⟨rfl, rfl⟩ := hkb
      exact ⟨by simp [upd], by simp [upd]⟩
  refine calls_of_wp hfn hc (wp_mono ((code_sim (N := fn.ntmps) hm hκ n).1 c F.body _ S' ex _ w k2 (fun k' b' hkb => by
    simp only [Option.some.injEq, Prod.mk.injEq] at hkb; obtain ⟨rfl, rfl⟩ := hkb; exact hns) hex hFR rfl (by simp; omega)) fun e a' w' hp => ?_)
  obtain ⟨p1, p2, p3, p4, p5⟩ := hp
  have hfin' : finishR F k S' = some r ∧ (e = .normal ∨ e = .ret) := by
    cases ex with
    | norm => exact ⟨hfin, .inl p1⟩
    | ret => exact ⟨hfin, .inr p1⟩
    | exit id => simp at hfin
  obtain ⟨hfin, he⟩ := hfin'
  unfold finishR at hfin
  simp only [Option.bind_eq_some_iff] at hfin
  obtain ⟨vs1, hv1, hfin⟩ := hfin
  split at hfin <;> try (simp at hfin; done)
  rename_i cs1 hmk
  simp only [Option.bind_eq_some_iff, Option.some.injEq] at hfin
  obtain ⟨⟨ts, A1⟩, hh, ws, hws, rfl⟩ := hfin
  obtain ⟨hG, β, α, M, hW, hg, hl, hpin⟩ := p2
  obtain ⟨hk1, hk2⟩ := hpin k b rfl
  obtain ⟨us, hrun, hlu, hru⟩ := results_ok (P := P) hW hg fn.results.toList F.res vs1 k5 hv1
  have hres : (results fn a'.tmps).run P w' = .ok (if us.length = 1 then us.getD 0 undef else .tuple us.toArray) w' := by
    unfold results
    rw [Array.mapM_eq_mapM_toList]
    simp only [map_eq_pure_bind, bind_assoc, pure_bind, Sem.run_bind]
    erw [hrun]
    simp only [Result.andThen, Sem.run_pure, List.size_toArray]
    congr 1
    split
    · rename_i h1
      rw [List.getD_eq_getElem?_getD]
      simp [h1]
    · rfl
  obtain ⟨a1, a2, a3, cb, el1, a4, a5, a6⟩ := hW.var k cs1 false hmk
  rw [hk2] at a4
  have hcr : CR cx w' (orP X M) S' α cb.toList cs1 := ⟨by simpa using a5, fun i hi => by obtain ⟨u, p, q, r⟩ := a6 i hi; exact ⟨u, by simpa using p, q, r⟩⟩
  obtain ⟨q1, q2, q3, q4⟩ := hand_ok cs1 S' cb.toList ts A1 (fun s z rows f hs hf => ⟨(hW.arr s z rows f hs hf).1, fun b hb hl => ((hW.arr s z rows f hs hf).2 b hb).2.1 hl⟩)
    (fun s s' z rows f z' rows' f' hs hf hs' hf' b hb hb' => hW.arrInj s s' z rows f z' rows' f' hs hf hs' hf' b hb hb') hcr hh
  generalize hH : hdrsL cb.toList ts = H at q3 q4
  have hMb : M b := hk2 ▸ a2 rfl
  have hNM : ∀ x, (x = b ∨ x ∈ H) → M x := fun x hx => by
    rcases hx with rfl | hx
    · exact hMb
    · exact (q1.hdr x (hH ▸ hx)).1
  have hHs : b ∉ H := fun hb => by
    obtain ⟨t, z, rows, e1, e2, e3⟩ := q4 _ hb
    exact hW.arrVar t z rows .live k e1 (by simp) hk1 (by rw [hk2]; exact e3)
  have hsub : ∀ u x, RelD cx w' (orP X M) u x → RelD cx w' (orP X fun x => x = b ∨ x ∈ H) u x := fun u x hr => sub_D hNM hr
  have hd : ∀ i, i < ws.length → ∃ u, us[i]? = some u ∧ RelD cx w' (orP X fun x => x = b ∨ x ∈ H) u (gv ws i) := fun i hi => by
    obtain ⟨m1, m2⟩ := mapO_some hws
    have hi' : i < vs1.length := by omega
    obtain ⟨u, p, q⟩ := hru i hi'
    obtain ⟨y, y1, y2⟩ := m2 i vs1[i] (by simp [hi'])
    have e1 : gv vs1 i = vs1[i] := by simp [gv, hi']
    have e2 : gv ws i = y := by simp [gv, y1]
    rw [e1] at q
    rw [e2]
    obtain ⟨d1, d2⟩ := toD_dies q2 y2
    refine ⟨u, p, toD_ok hW q d1 (fun b hb => hb.imp id (hNM b)) (fun s hs b1 hb1 hex hn => ?_)⟩
    obtain ⟨z, rows, f, g1, g2⟩ := d2 s hs
    have g3 := q2.keep g1 g2
    rcases hn with hx | hx | hx
    · exact ((hW.arr s z rows f g3 g2).2 b1 hb1).1 (hW.xb b1 hx)
    · exact hW.arrVar s z rows f k g3 g2 hk1 (by rw [hk2, ← hx]; exact hb1)
    · obtain ⟨t, z', rows', e1, e2, e3⟩ := q4 _ hx
      have := hW.arrInj s t z rows f z' rows' .live g3 g2 e1 (by simp) b1 hb1 e3
      subst this
      rw [g1] at e2
      simp only [Option.some.injEq, Prod.mk.injEq] at e2
      exact g2 e2.2.2
  have hwl : us.length = ws.length := by rw [hlu, (mapO_some hws).1]
  have hR : RelD cx w' (orP X fun x => x = b ∨ x ∈ H) (if us.length = 1 then us.getD 0 undef else .tuple us.toArray) (shut ws) := by
    match ws, hd, hwl with
    | [r], hd, h1 =>
      obtain ⟨u, p, q⟩ := hd 0 (by simp)
      have : us.length = 1 := by simpa using h1
      rw [if_pos this]
      simp only [shut]
      have : us.getD 0 undef = u := by simp [List.getD_eq_getElem?_getD, p]
      rw [this]; exact q
    | [], hd, h1 =>
      have : us = [] := List.eq_nil_of_length_eq_zero (by simpa using h1)
      subst this
      exact RelD.tuple #[] [] (fun _ => undef) rfl (fun i hi => by simp at hi) (fun i hi => by simp at hi)
    | r :: r' :: rs, hd, h1 =>
      rw [if_neg (by simp at h1; omega)]
      obtain ⟨u, hu⟩ := pickf hd
      exact RelD.tuple us.toArray _ u (by simp at h1 ⊢; omega) (fun i hi => by simpa using (hu i hi).1) (fun i hi => (hu i hi).2)
  have hpost : ∃ v r0 cs' N', Ending.returned (if us.length = 1 then us.getD 0 undef else .tuple us.toArray) = .returned v ∧ V.tuple [shut ws, .tuple ts] = .tuple [r0, .tuple cs'] ∧ Kept (fun b => b < w.heap.size ∧ ¬ N b) w w' ∧
      (∀ b, N' b → N b ∨ (w.heap.size ≤ b ∧ b < w'.heap.size)) ∧ RefOK cx w' (orP X N') N' b cs' ∧ RelD cx w' (orP X N') v r0 := by
    refine ⟨_, _, _, fun x => x = b ∨ x ∈ H, rfl, rfl, p5, fun x hx => ?_, ⟨.inl rfl, cb.toList, el1, by simpa using a4, q1.mono hsub (fun x hx => .inr (hH ▸ hx)), ?_⟩, hR⟩
    · obtain ⟨h1, h2⟩ := hW.m x (hNM x hx)
      by_cases hNx : N x
      · exact .inl hNx
      · refine .inr ⟨?_, h2⟩
        rcases Nat.lt_or_ge x w.heap.size with h' | h'
        · exact absurd ⟨h', hNx⟩ h1
        · exact h'
    · rw [hH]; exact List.nodup_cons.2 ⟨hHs, q3⟩
  rcases he with rfl | rfl
  · exact ⟨p3, _, hres, hpost⟩
  · exact ⟨p3, _, hres, hpost⟩
theorem callN_soundR (hm : P.follows .mixedOrders = true) (hcode : ∀ f F, Pg f = some (.code F) → okF P cx Pg (cx.fm f) F = true)
    (hprim : ∀ f own p, Pg f = some (.prim own p) → ∀ args r, p args = some r → Ctr P cx own f args r)
    (hins : ∀ f z p, z < 1000 → Pg f = some (.prim (some (1000 + z)) p) → ∃ tS el, InsC P (cx.fm f) z tS el) (hdel : ∀ f z p, Pg f = some (.prim (some (2000 + z)) p) → DelC P (cx.fm f) z)
    (hcodeR : ∀ f F k, Pg f = some (.codeR F k) → okF P cx Pg (cx.fm f) F = true ∧ F.own = none ∧ nsC k F.body = true)
    (hpl : ∀ f own p, Pg f = some (.prim own p) → ∀ k, k < 1000 → own ≠ some (3000 + k)) :
    ∀ (n f : Nat) (args : List V) (r : V), callN Pg n f args = some r → Ctr P cx (ownOf Pg f) f args r ∧ ∀ k, k < 1000 → ownOf Pg f = some (3000 + k) → CtrR P cx k f args r
  | 0, f, args, r, h => by simp [callN] at h
  | n + 1, f, args, r, h => by
    have own_lt : ∀ g G j, Pg g = some (.code G) → G.own = some j → j < 1000 := fun g G j hg hj => by
      have := hcode g G hg
      unfold okF at this
      split at this
      · simp only [Bool.and_eq_true, hj, decide_eq_true_eq] at this
        exact this.2.2
      · simp at this
    have hK : KOK P cx (ownOf Pg) (callN Pg n) := ⟨fun f args r h => (callN_soundR hm hcode hprim hins hdel hcodeR hpl n f args r h).1, fun g z hz ho => by
        simp only [ownOf] at ho
        split at ho
        · rename_i G hG; have := own_lt g G _ hG ho; omega
        · rename_i own p hG; subst ho; exact hins g z p hz hG
        · simp only [Option.some.injEq] at ho; omega
        · simp at ho, fun g z hz ho => by
        simp only [ownOf] at ho
        split at ho
        · rename_i G hG; have := own_lt g G _ hG ho; omega
        · rename_i own p hG; subst ho; exact hdel g z p hG
        · simp only [Option.some.injEq] at ho; omega
        · simp at ho, fun f k hk ho args r h => (callN_soundR hm hcode hprim hins hdel hcodeR hpl n f args r h).2 k hk ho⟩
    simp only [callN] at h
    split at h
    · simp at h
    · rename_i own p hf
      have : ownOf Pg f = own := by simp [ownOf, hf]
      rw [this]; exact ⟨hprim f own p hf args r h, fun k hk ho => absurd ho (hpl f own p hf k hk)⟩
    · rename_i F k hf
      have how : ownOf Pg f = some (3000 + k) := by simp [ownOf, hf]
      split at h <;> try (simp at h; done)
      rename_i hlen
      split at h <;> try (simp at h; done)
      rename_i cs hk
      simp only [Option.bind_eq_some_iff] at h
      obtain ⟨S0, h0, r1, h1, h2⟩ := h
      obtain ⟨c1, c2, c3⟩ := hcodeR f F k hf
      have hR : CtrR P cx k f args r := fnR_sound hm hK c1 c2 c3 hlen hk h0 (by simp only [Option.bind_eq_some_iff]; exact ⟨r1, h1, h2⟩)
      refine ⟨⟨hR.1, fun w X vs hX hgn hG hsz hrel => ?_⟩, fun k' hk' ho => ?_⟩
      · exfalso
        have hkl : k < args.length := by
          rcases Nat.lt_or_ge k args.length with h' | h'
          · exact h'
          · rw [List.getElem?_eq_none h'] at hk; simp at hk
        obtain ⟨u, p, q⟩ := hrel k hkl
        have hg : gv args k = .tuple (.lref 0 0 :: cs) := by simp [gv, hk]
        rw [hg] at q
        cases q with
        | tuple cs' vs' u' hl hc hr =>
          have := hr 0 (by simp)
          simp only [gv, List.getD_cons_zero] at this
          generalize u' 0 = q at this
          cases this
      · rw [how] at ho
        simp only [Option.some.injEq] at ho
        have : k = k' := by omega
        subst this
        exact hR
    · rename_i F hf
      split at h <;> try (simp at h; done)
      rename_i hlen
      refine ⟨fn_sound hm hK (hcode f F hf) hf hlen h, fun k hk ho => ?_⟩
      simp only [ownOf, hf] at ho
      have := own_lt f F _ hf ho
      omega
end
end Sg
namespace Sg
set_option linter.unusedSimpArgs false
set_option linter.unusedVariables false
def Le (κ κ' : Nat → List V → Option V) : Prop := ∀ f a r, κ f a = some r → κ' f a = some r
theorem ev_mono {κ κ' : Nat → List V → Option V} (h : Le κ κ') {d : Nat} {e : Nat → V} {S : St} {k : K} {r} (hr : ev κ d e S k = some r) : ev κ' d e S k = some r := by
  cases k <;> try exact hr
  rotate_left
  · simp only [ev, rcallV, Option.bind_eq_some_iff] at hr ⊢
    obtain ⟨q, h1, x, h2, h3⟩ := hr
    exact ⟨q, h1, x, h _ _ _ h2, h3⟩
  rename_i f cv own xs
  simp only [ev, Option.bind_eq_some_iff] at hr ⊢
  obtain ⟨fc, h1, h2⟩ := hr
  refine ⟨fc, h1, ?_⟩
  unfold callV at h2 ⊢
  cases cv <;> simp only at h2 ⊢
  · split at h2 <;> try (simp at h2; done)
    rename_i hc
    rw [if_pos hc]
    simp only [Option.bind_eq_some_iff] at h2 ⊢
    obtain ⟨x, h2, h3⟩ := h2
    exact ⟨x, h _ _ _ h2, h3⟩
  · simp only [Option.bind_eq_some_iff] at h2 ⊢
    obtain ⟨bs, h2, x, h3, h4⟩ := h2
    exact ⟨bs, h2, x, h _ _ _ h3, h4⟩
  · simp only [Option.bind_eq_some_iff] at h2 ⊢
    obtain ⟨bs, h2, x, h3, h4⟩ := h2
    exact ⟨bs, h2, x, h _ _ _ h3, h4⟩
theorem step_mono {κ κ' : Nat → List V → Option V} (h : Le κ κ') {o : Op} {e : Nat → V} {S : St} {r} (hr : step κ o e S = some r) : step κ' o e S = some r := by
  unfold step at hr ⊢
  split at hr
  · simp at hr
  · exact hr
  · simp only [Option.bind_eq_some_iff] at hr ⊢
    obtain ⟨x, h1, h2⟩ := hr
    exact ⟨x, ev_mono h h1, h2⟩
theorem runOps_mono {κ κ' : Nat → List V → Option V} (h : Le κ κ') : ∀ {ops : List Op} {i : Nat} {e : Nat → V} {S : St} {r}, runOps κ ops i e S = some r → runOps κ' ops i e S = some r
  | [], _, _, _, _, hr => hr
  | o :: os, i, e, S, r, hr => by
    simp only [runOps, Option.bind_eq_some_iff] at hr ⊢
    obtain ⟨x, h1, h2⟩ := hr
    exact ⟨x, step_mono h h1, runOps_mono h h2⟩
theorem exec_mono {κ κ' : Nat → List V → Option V} (h : Le κ κ') : ∀ {m m' : Nat} {c : C} {S : St} {r}, m ≤ m' → exec κ m c S = some r → exec κ' m' c S = some r
  | 0, _, _, _, _, _, hr => by simp [exec] at hr
  | m + 1, 0, _, _, _, hm, _ => by omega
  | m + 1, m' + 1, c, S, r, hm, hr => by
    have hm' : m ≤ m' := by omega
    have ih := fun {c S r} => exec_mono h (m := m) (m' := m') (c := c) (S := S) (r := r) hm'
    cases c with
    | skip => simpa [exec] using hr
    | region d ops =>
      simp only [exec, Option.bind_eq_some_iff] at hr ⊢
      obtain ⟨x, h1, h2⟩ := hr
      exact ⟨x, runOps_mono h h1, h2⟩
    | seq a b =>
      simp only [exec, Option.bind_eq_some_iff] at hr ⊢
      obtain ⟨⟨ex, x⟩, h1, h2⟩ := hr
      refine ⟨_, ih h1, ?_⟩
      cases ex <;> simp only at h2 ⊢
      · exact ih h2
      · exact h2
      · exact h2
    | cond x a b =>
      simp only [exec] at hr ⊢
      split at hr
      · rename_i t ht
        cases t <;> exact ih hr
      · simp at hr
    | block id c =>
      simp only [exec, Option.bind_eq_some_iff] at hr ⊢
      obtain ⟨x, h1, h2⟩ := hr
      exact ⟨_, ih h1, h2⟩
    | loop W L Wv Wa c =>
      simp only [exec, Option.bind_eq_some_iff] at hr ⊢
      obtain ⟨⟨ex, x⟩, h1, h2⟩ := hr
      refine ⟨_, ih h1, ?_⟩
      cases ex <;> simp only at h2 ⊢
      · exact ih h2
      · exact h2
      · exact h2
    | exit id => simpa [exec] using hr
    | ret => simpa [exec] using hr
theorem Le.refl (κ : Nat → List V → Option V) : Le κ κ := fun _ _ _ h => h
theorem callN_le (Pg : Nat → Option Fn) : ∀ n, Le (callN Pg n) (callN Pg (n + 1))
  | 0 => fun f a r h => by simp [callN] at h
  | n + 1 => fun f a r h => by
    rw [callN] at h ⊢
    split at h
    · simp at h
    · exact h
    · split at h <;> try (simp at h; done)
      rename_i hl
      rw [if_pos hl]
      split at h <;> try (simp at h; done)
      simp only [Option.bind_eq_some_iff] at h ⊢
      obtain ⟨x, h0, y, h1, h2⟩ := h
      exact ⟨x, h0, y, exec_mono (callN_le Pg n) (Nat.le_succ n) h1, h2⟩
    · split at h <;> try (simp at h; done)
      rename_i hl
      rw [if_pos hl]
      simp only [Option.bind_eq_some_iff] at h ⊢
      obtain ⟨x, h1, h2⟩ := h
      exact ⟨x, exec_mono (callN_le Pg n) (Nat.le_succ n) h1, h2⟩
theorem callN_mono (Pg : Nat → Option Fn) {n m : Nat} (h : n ≤ m) : Le (callN Pg n) (callN Pg m) := by
  induction h with
  | refl => exact .refl _
  | step _ ih => exact fun f a r hr => callN_le Pg _ f a r (ih f a r hr)
open Classical in
noncomputable def K' (Pg : Nat → Option Fn) (f : Nat) (args : List V) : Option V :=
  if h : ∃ n r, callN Pg n f args = some r then some h.choose_spec.choose else none
theorem K'_of {Pg : Nat → Option Fn} {n f : Nat} {args : List V} {r : V} (h : callN Pg n f args = some r) : K' Pg f args = some r := by
  have hex : ∃ n r, callN Pg n f args = some r := ⟨n, r, h⟩
  unfold K'
  rw [dif_pos hex]
  have h1 := hex.choose_spec.choose_spec
  have h2 := callN_mono Pg (Nat.le_max_left hex.choose n) _ _ _ h1
  have h3 := callN_mono Pg (Nat.le_max_right hex.choose n) _ _ _ h
  rw [h2] at h3
  exact h3
theorem K'_iff {Pg : Nat → Option Fn} {f : Nat} {args : List V} {r : V} : K' Pg f args = some r ↔ ∃ n, callN Pg n f args = some r := by
  constructor
  · intro h
    unfold K' at h
    split at h
    · rename_i hex
      simp only [Option.some.injEq] at h
      exact ⟨hex.choose, by rw [hex.choose_spec.choose_spec, h]⟩
    · simp at h
  · exact fun ⟨n, h⟩ => K'_of h
theorem ev_cpt {Pg : Nat → Option Fn} {d : Nat} {e : Nat → V} {S : St} {k : K} {r} (hr : ev (K' Pg) d e S k = some r) : ∃ n, ev (callN Pg n) d e S k = some r := by
  cases k <;> try exact ⟨0, hr⟩
  rotate_left
  · simp only [ev, rcallV, Option.bind_eq_some_iff] at hr ⊢
    obtain ⟨q, h1, x, h2, h3⟩ := hr
    obtain ⟨n, hn⟩ := K'_iff.1 h2
    exact ⟨n, q, h1, x, hn, h3⟩
  rename_i f cv own xs
  simp only [ev, Option.bind_eq_some_iff] at hr
  obtain ⟨fc, h1, h2⟩ := hr
  have key : ∃ n, callV (callN Pg n) d S cv own fc (xs.map (argv e S.ρ)) = some r := by
    unfold callV at h2 ⊢
    cases cv <;> simp only at h2 ⊢
    · split at h2 <;> try (simp at h2; done)
      rename_i hc
      simp only [if_pos hc, Option.bind_eq_some_iff] at h2 ⊢
      obtain ⟨x, h2, h3⟩ := h2
      obtain ⟨n, hn⟩ := K'_iff.1 h2
      exact ⟨n, x, hn, h3⟩
    · simp only [Option.bind_eq_some_iff] at h2 ⊢
      obtain ⟨bs, h2, x, h3, h4⟩ := h2
      obtain ⟨n, hn⟩ := K'_iff.1 h3
      exact ⟨n, bs, h2, x, hn, h4⟩
    · simp only [Option.bind_eq_some_iff] at h2 ⊢
      obtain ⟨bs, h2, x, h3, h4⟩ := h2
      obtain ⟨n, hn⟩ := K'_iff.1 h3
      exact ⟨n, bs, h2, x, hn, h4⟩
  obtain ⟨n, hn⟩ := key
  exact ⟨n, by simp only [ev, Option.bind_eq_some_iff]; exact ⟨fc, h1, hn⟩⟩
theorem step_cpt {Pg : Nat → Option Fn} {o : Op} {e : Nat → V} {S : St} {r} (hr : step (K' Pg) o e S = some r) : ∃ n, step (callN Pg n) o e S = some r := by
  unfold step at hr ⊢
  split at hr
  · simp at hr
  · exact ⟨0, hr⟩
  · simp only [Option.bind_eq_some_iff] at hr ⊢
    obtain ⟨x, h1, h2⟩ := hr
    obtain ⟨n, hn⟩ := ev_cpt h1
    exact ⟨n, x, hn, h2⟩
theorem runOps_cpt {Pg : Nat → Option Fn} : ∀ {ops : List Op} {i : Nat} {e : Nat → V} {S : St} {r}, runOps (K' Pg) ops i e S = some r → ∃ n, runOps (callN Pg n) ops i e S = some r
  | [], _, _, _, _, hr => ⟨0, hr⟩
  | o :: os, i, e, S, r, hr => by
    simp only [runOps, Option.bind_eq_some_iff] at hr ⊢
    obtain ⟨x, h1, h2⟩ := hr
    obtain ⟨n, hn⟩ := step_cpt h1
    obtain ⟨m, hm⟩ := runOps_cpt h2
    exact ⟨max n m, x, step_mono (callN_mono Pg (Nat.le_max_left n m)) hn, runOps_mono (callN_mono Pg (Nat.le_max_right n m)) hm⟩
theorem exec_cpt {Pg : Nat → Option Fn} : ∀ {m : Nat} {c : C} {S : St} {r}, exec (K' Pg) m c S = some r → ∃ n, exec (callN Pg n) m c S = some r
  | 0, _, _, _, hr => by simp [exec] at hr
  | m + 1, c, S, r, hr => by
    have up := fun {n n' m c S r} (h : n ≤ n') => exec_mono (callN_mono Pg h) (m := m) (m' := m) (c := c) (S := S) (r := r) (Nat.le_refl m)
    cases c with
    | skip => exact ⟨0, by simpa [exec] using hr⟩
    | region d ops =>
      simp only [exec, Option.bind_eq_some_iff] at hr ⊢
      obtain ⟨x, h1, h2⟩ := hr
      obtain ⟨n, hn⟩ := runOps_cpt h1
      exact ⟨n, x, hn, h2⟩
    | seq a b =>
      simp only [exec, Option.bind_eq_some_iff] at hr ⊢
      obtain ⟨⟨ex, x⟩, h1, h2⟩ := hr
      obtain ⟨n, hn⟩ := exec_cpt h1
      cases ex <;> simp only at h2
      · obtain ⟨n', hn'⟩ := exec_cpt h2
        exact ⟨max n n', _, up (Nat.le_max_left n n') hn, up (Nat.le_max_right n n') hn'⟩
      · exact ⟨n, _, hn, h2⟩
      · exact ⟨n, _, hn, h2⟩
    | cond x a b =>
      simp only [exec] at hr ⊢
      split at hr
      · rename_i t ht
        cases t <;> exact exec_cpt hr
      · simp at hr
    | block id c =>
      simp only [exec, Option.bind_eq_some_iff] at hr ⊢
      obtain ⟨x, h1, h2⟩ := hr
      obtain ⟨n, hn⟩ := exec_cpt h1
      exact ⟨n, _, hn, h2⟩
    | loop W L Wv Wa c =>
      simp only [exec, Option.bind_eq_some_iff] at hr ⊢
      obtain ⟨⟨ex, x⟩, h1, h2⟩ := hr
      obtain ⟨n, hn⟩ := exec_cpt h1
      cases ex <;> simp only at h2
      · obtain ⟨n', hn'⟩ := exec_cpt h2
        exact ⟨max n n', _, up (Nat.le_max_left n n') hn, up (Nat.le_max_right n n') hn'⟩
      · exact ⟨n, _, hn, h2⟩
      · exact ⟨n, _, hn, h2⟩
    | exit id => exact ⟨0, by simpa [exec] using hr⟩
    | ret => exact ⟨0, by simpa [exec] using hr⟩
def Wp (κ : Nat → List V → Option V) (c : C) (S : St) (Q : Ex → St → Prop) : Prop := ∃ m ex S', exec κ m c S = some (ex, S') ∧ Q ex S'
def Cont (κ : Nat → List V → Option V) (b : C) (Q : Ex → St → Prop) : Ex → St → Prop
  | .norm, S => Wp κ b S Q
  | x, S => Q x S
def Blk (id : Nat) (Q : Ex → St → Prop) : Ex → St → Prop
  | .exit id', S => if id' = id then Q .norm S else Q (.exit id') S
  | x, S => Q x S
section
variable {κ : Nat → List V → Option V} {S : St} {Q : Ex → St → Prop}
theorem Wp.mono {c : C} {Q' : Ex → St → Prop} (h : Wp κ c S Q) (hq : ∀ ex S', Q ex S' → Q' ex S') : Wp κ c S Q' := by
  obtain ⟨m, ex, S', h1, h2⟩ := h
  exact ⟨m, ex, S', h1, hq _ _ h2⟩
theorem wp_skip (h : Q .norm S) : Wp κ .skip S Q := ⟨1, .norm, S, rfl, h⟩
theorem wp_exit {id : Nat} (h : Q (.exit id) S) : Wp κ (.exit id) S Q := ⟨1, .exit id, S, rfl, h⟩
theorem wp_ret (h : Q .ret S) : Wp κ .ret S Q := ⟨1, .ret, S, rfl, h⟩
theorem wp_region {d : Bool} {ops : List Op} (h : ∃ S', runOps κ ops 0 (fun _ => .undef) S = some S' ∧ Q .norm S') : Wp κ (.region d ops) S Q := by
  obtain ⟨S', h1, h2⟩ := h
  exact ⟨1, .norm, S', by simp [exec, h1], h2⟩
theorem wp_seq {a b : C} (h : Wp κ a S (Cont κ b Q)) : Wp κ (.seq a b) S Q := by
  obtain ⟨m, ex, S', h1, h2⟩ := h
  cases ex with
  | norm =>
    obtain ⟨m', ex, S'', h3, h4⟩ := h2
    refine ⟨max m m' + 1, ex, S'', ?_, h4⟩
    simp only [exec, exec_mono (.refl κ) (Nat.le_max_left m m') h1, Option.bind_some]
    exact exec_mono (.refl κ) (Nat.le_max_right m m') h3
  | ret => exact ⟨m + 1, _, _, by simp [exec, h1], h2⟩
  | exit id => exact ⟨m + 1, _, _, by simp [exec, h1], h2⟩
theorem wp_cond {x : Arg} {a b : C} (t : Bool) (ht : argv (fun _ => .undef) S.ρ x = .bool t) (h1 : t = true → Wp κ a S Q) (h2 : t = false → Wp κ b S Q) : Wp κ (.cond x a b) S Q := by
  cases t with
  | true =>
    obtain ⟨m, ex, S', h1, h2⟩ := h1 rfl
    exact ⟨m + 1, ex, S', by simp [exec, ht, h1], h2⟩
  | false =>
    obtain ⟨m, ex, S', h1, h2⟩ := h2 rfl
    exact ⟨m + 1, ex, S', by simp [exec, ht, h1], h2⟩
theorem wp_block {id : Nat} {c : C} (h : Wp κ c S (Blk id Q)) : Wp κ (.block id c) S Q := by
  obtain ⟨m, ex, S', h1, h2⟩ := h
  cases ex with
  | norm => exact ⟨m + 1, _, _, by simp [exec, h1], h2⟩
  | ret => exact ⟨m + 1, _, _, by simp [exec, h1], h2⟩
  | exit id' =>
    simp only [Blk] at h2
    split at h2
    · rename_i e; exact ⟨m + 1, .norm, S', by simp [exec, h1, e], h2⟩
    · rename_i e; exact ⟨m + 1, .exit id', S', by simp [exec, h1, e], h2⟩
theorem wp_loop {W L Wv Wa : List Nat} {c : C} (h : Wp κ c (S.head W L Wv Wa) (Cont κ (.loop W L Wv Wa c) Q)) : Wp κ (.loop W L Wv Wa c) S Q := by
  obtain ⟨m, ex, S', h1, h2⟩ := h
  cases ex with
  | norm =>
    obtain ⟨m', ex, S'', h3, h4⟩ := h2
    refine ⟨max m m' + 1, ex, S'', ?_, h4⟩
    simp only [exec, exec_mono (.refl κ) (Nat.le_max_left m m') h1, Option.bind_some]
    exact exec_mono (.refl κ) (Nat.le_max_right m m') h3
  | ret => exact ⟨m + 1, _, _, by simp [exec, h1], h2⟩
  | exit id => exact ⟨m + 1, _, _, by simp [exec, h1], h2⟩
theorem wp_inv {W L Wv Wa : List Nat} {c : C} {σ : Type} (I : σ → St → Prop) (μ : σ → Nat) (s : σ) (h0 : I s (S.head W L Wv Wa))
    (hstep : ∀ s S, I s S → Wp κ c S fun ex S' => match ex with
      | .norm => ∃ s', μ s' < μ s ∧ I s' (S'.head W L Wv Wa)
      | x => Q x S') : Wp κ (.loop W L Wv Wa c) S Q := by
  suffices ∀ n s S, μ s = n → I s (S.head W L Wv Wa) → Wp κ (.loop W L Wv Wa c) S Q from this _ s S rfl h0
  intro n
  induction n using Nat.strongRecOn with
  | _ n ih =>
    intro s S hn hI
    refine wp_loop ((hstep s _ hI).mono fun ex S' hq => ?_)
    cases ex with
    | norm =>
      obtain ⟨s', h1, h2⟩ := hq
      exact ih _ (hn ▸ h1) s' S' rfl h2
    | ret => exact hq
    | exit id => exact hq
end
theorem K'_code {Pg : Nat → Option Fn} {f : Nat} {F : F} {args : List V} {r : V} (hF : Pg f = some (.code F)) (hl : args.length = F.np)
    (h : Wp (K' Pg) F.body (start args) fun ex S => (ex = .norm ∨ ex = .ret) ∧ finish F S = some r) : K' Pg f args = some r := by
  obtain ⟨m, ex, S', h1, h2, h3⟩ := h
  obtain ⟨n, hn⟩ := exec_cpt h1
  have h4 : exec (callN Pg (max n m)) (max n m) F.body (start args) = some (ex, S') := exec_mono (callN_mono Pg (Nat.le_max_left n m)) (Nat.le_max_right n m) hn
  refine K'_of (n := max n m + 1) ?_
  simp only [callN, hF, if_pos hl, h4, Option.bind_some]
  rcases h2 with rfl | rfl <;> exact h3
theorem K'_codeR {Pg : Nat → Option Fn} {f k : Nat} {F : F} {args cs : List V} {r : V} {S0 : St} (hF : Pg f = some (.codeR F k)) (hl : args.length = F.np)
    (hk : args[k]? = some (.tuple (.lref 0 0 :: cs))) (h0 : startR args k cs = some S0)
    (h : Wp (K' Pg) F.body S0 fun ex S => (ex = .norm ∨ ex = .ret) ∧ finishR F k S = some r) : K' Pg f args = some r := by
  obtain ⟨m, ex, S', h1, h2, h3⟩ := h
  obtain ⟨n, hn⟩ := exec_cpt h1
  have h4 : exec (callN Pg (max n m)) (max n m) F.body S0 = some (ex, S') := exec_mono (callN_mono Pg (Nat.le_max_left n m)) (Nat.le_max_right n m) hn
  refine K'_of (n := max n m + 1) ?_
  simp only [callN, hF, if_pos hl, hk, h0, h4, Option.bind_some]
  rcases h2 with rfl | rfl <;> exact h3
theorem K'_prim {Pg : Nat → Option Fn} {f : Nat} {own : Option Nat} {p : List V → Option V} {args : List V} (hF : Pg f = some (.prim own p)) : K' Pg f args = p args := by
  cases h : p args with
  | some r => exact K'_of (n := 1) (by simp [callN, hF, h])
  | none =>
    cases h' : K' Pg f args with
    | none => rfl
    | some r =>
      obtain ⟨n, hn⟩ := K'_iff.1 h'
      cases n <;> simp [callN, hF, h] at hn
def cloneQ (z0 : Nat) (args : List V) : Option V := match args with
  | [.slice z rows] => if rows.length ≤ lim ∧ z = z0 then some (.slice z rows) else none
  | _ => none
end Sg
namespace Sg
def Wr (κ : Nat → List V → Option V) (ops : List Op) (i : Nat) (e : Nat → V) (S : St) (Q : St → Prop) : Prop := ∃ S', runOps κ ops i e S = some S' ∧ Q S'
def putS (gl : Bool) (dst : Option Nat) (S : St) (v : V) : St :=
  match gl, dst with
  | true, some d => ⟨upd S.ρ d v, S.μ, S.A⟩
  | _, _ => S
def WrO (κ : Nat → List V → Option V) (dst : Option Nat) (gl : Bool) (ops : List Op) (i : Nat) (e : Nat → V) (Q : St → Prop) : Option (V × St) → Prop
  | none => False
  | some (v, S) => Wr κ ops (i + 1) (upd e i v) (putS gl dst S v) Q
def WrG (κ : Nat → List V → Option V) (o : Op) (ops : List Op) (i : Nat) (e : Nat → V) (S : St) (Q : St → Prop) (b : Bool) : V → Prop
  | .tuple [] => Wr κ ops (i + 1) (upd e i .un) (putS o.gl o.dst S .un) Q
  | .bool t => (t = b → Wr κ ({ o with gd := none } :: ops) i e S Q) ∧ (t = !b → Wr κ ops (i + 1) (upd e i .un) (putS o.gl o.dst S .un) Q)
  | _ => False
def WpC (κ : Nat → List V → Option V) (a b : C) (S : St) (Q : Ex → St → Prop) : V → Prop
  | .bool t => (t = true → Wp κ a S Q) ∧ (t = false → Wp κ b S Q)
  | _ => False
section
variable {κ : Nat → List V → Option V} {S : St} {Q : St → Prop} {R : Ex → St → Prop} {e : Nat → V} {i : Nat} {ops : List Op}
theorem put_eq {dst : Option Nat} {gl : Bool} {k : K} {gd} {v : V} : S.put ⟨dst, gl, k, gd⟩ v = putS gl dst S v := by
  cases gl <;> cases dst <;> rfl
theorem putS_t {d : Nat} {v : V} {ρ μ A} : putS true (some d) ⟨ρ, μ, A⟩ v = ⟨upd ρ d v, μ, A⟩ := rfl
theorem putS_t' {d : Nat} {v : V} : putS true (some d) S v = ⟨upd S.ρ d v, S.μ, S.A⟩ := rfl
theorem putS_f {d : Option Nat} {v : V} : putS false d S v = S := rfl
theorem putS_n {gl : Bool} {v : V} : putS gl none S v = S := by cases gl <;> rfl
theorem wp_reg {d : Bool} : Wp κ (.region d ops) S R = Wr κ ops 0 (fun _ => .undef) S (R .norm) := by
  refine propext ⟨fun h => ?_, fun h => wp_region h⟩
  obtain ⟨m, ex, S', h1, h2⟩ := h
  cases m with
  | zero => simp [exec] at h1
  | succ m =>
    simp only [exec, Option.bind_eq_some_iff, Option.some.injEq, Prod.mk.injEq] at h1
    obtain ⟨x, h1, rfl, rfl⟩ := h1
    exact ⟨x, h1, h2⟩
theorem wp_seq' {a b : C} : Wp κ (.seq a b) S R = Wp κ a S (Cont κ b R) := by
  refine propext ⟨fun h => ?_, wp_seq⟩
  obtain ⟨m, ex, S', h1, h2⟩ := h
  cases m with
  | zero => simp [exec] at h1
  | succ m =>
    simp only [exec, Option.bind_eq_some_iff] at h1
    obtain ⟨⟨x, S1⟩, h1, h3⟩ := h1
    refine ⟨m, x, S1, h1, ?_⟩
    cases x with
    | norm => exact ⟨m, ex, S', h3, h2⟩
    | ret => simp only [Option.some.injEq, Prod.mk.injEq] at h3; obtain ⟨rfl, rfl⟩ := h3; exact h2
    | exit id => simp only [Option.some.injEq, Prod.mk.injEq] at h3; obtain ⟨rfl, rfl⟩ := h3; exact h2
theorem wp_block' {id : Nat} {c : C} : Wp κ (.block id c) S R = Wp κ c S (Blk id R) := by
  refine propext ⟨fun h => ?_, wp_block⟩
  obtain ⟨m, ex, S', h1, h2⟩ := h
  cases m with
  | zero => simp [exec] at h1
  | succ m =>
    simp only [exec, Option.bind_eq_some_iff] at h1
    obtain ⟨⟨x, S1⟩, h1, h3⟩ := h1
    refine ⟨m, x, S1, h1, ?_⟩
    cases x with
    | norm => simp only [Option.some.injEq, Prod.mk.injEq] at h3; obtain ⟨rfl, rfl⟩ := h3; exact h2
    | ret => simp only [Option.some.injEq, Prod.mk.injEq] at h3; obtain ⟨rfl, rfl⟩ := h3; exact h2
    | exit id =>
      simp only at h3
      simp only [Blk]
      split at h3 <;> simp only [Option.some.injEq, Prod.mk.injEq] at h3 <;> obtain ⟨rfl, rfl⟩ := h3
      · rename_i e; rw [if_pos e]; exact h2
      · rename_i e; rw [if_neg e]; exact h2
theorem wp_ret' : Wp κ .ret S R = R .ret S := propext ⟨fun ⟨m, ex, S', h1, h2⟩ => by
  cases m <;> simp [exec] at h1
  obtain ⟨rfl, rfl⟩ := h1; exact h2, wp_ret⟩
theorem wp_exit' {id : Nat} : Wp κ (.exit id) S R = R (.exit id) S := propext ⟨fun ⟨m, ex, S', h1, h2⟩ => by
  cases m <;> simp [exec] at h1
  obtain ⟨rfl, rfl⟩ := h1; exact h2, wp_exit⟩
theorem wp_skip' : Wp κ .skip S R = R .norm S := propext ⟨fun ⟨m, ex, S', h1, h2⟩ => by
  cases m <;> simp [exec] at h1
  obtain ⟨rfl, rfl⟩ := h1; exact h2, wp_skip⟩
theorem cont_norm {b : C} : Cont κ b R .norm S = Wp κ b S R := rfl
theorem cont_ret {b : C} : Cont κ b R .ret S = R .ret S := rfl
theorem cont_exit {b : C} {id : Nat} : Cont κ b R (.exit id) S = R (.exit id) S := rfl
theorem blk_norm {id : Nat} : Blk id R .norm S = R .norm S := rfl
theorem blk_ret {id : Nat} : Blk id R .ret S = R .ret S := rfl
theorem blk_exit {id id' : Nat} : Blk id R (.exit id') S = if id' = id then R .norm S else R (.exit id') S := rfl
theorem wp_cond' {x : Arg} {a b : C} : Wp κ (.cond x a b) S R = WpC κ a b S R (argv (fun _ => .undef) S.ρ x) := by
  refine propext ⟨fun h => ?_, fun h => ?_⟩
  · obtain ⟨m, ex, S', h1, h2⟩ := h
    cases m with
    | zero => simp [exec] at h1
    | succ m =>
      simp only [exec] at h1
      split at h1
      · rename_i t ht
        rw [ht]
        refine ⟨fun e => ?_, fun e => ?_⟩ <;> subst e
        · exact ⟨m, ex, S', h1, h2⟩
        · exact ⟨m, ex, S', h1, h2⟩
      · simp at h1
  · unfold WpC at h
    split at h
    · rename_i t ht; exact wp_cond t ht h.1 h.2
    · exact h.elim
theorem wpc_t {a b : C} : WpC κ a b S R (.bool true) = Wp κ a S R := by simp [WpC]
theorem wpc_f {a b : C} : WpC κ a b S R (.bool false) = Wp κ b S R := by simp [WpC]
theorem wr_nil : Wr κ [] i e S Q = Q S := by simp [Wr, runOps]
theorem wr_op {dst : Option Nat} {gl : Bool} {k : K} : Wr κ (⟨dst, gl, k, none⟩ :: ops) i e S Q = WrO κ dst gl ops i e Q (ev κ (dst.getD 0) e S k) := by
  unfold Wr WrO
  simp only [runOps, step, wantedV, Option.bind_assoc]
  cases ev κ (dst.getD 0) e S k with
  | none => simp
  | some r =>
    obtain ⟨v, S1⟩ := r
    simp only [Option.bind_some, put_eq, Wr]
theorem wro_some {dst : Option Nat} {gl : Bool} {v : V} : WrO κ dst gl ops i e Q (some (v, S)) = Wr κ ops (i + 1) (upd e i v) (putS gl dst S v) Q := rfl
theorem wr_skip {o : Op} (h : wantedV e o.gd = some false) : Wr κ (o :: ops) i e S Q = Wr κ ops (i + 1) (upd e i .un) (putS o.gl o.dst S .un) Q := by
  obtain ⟨dst, gl, k, gd⟩ := o
  unfold Wr
  simp only [runOps, step, h, put_eq, Option.bind_some]
theorem wr_go {o : Op} (h : wantedV e o.gd = some true) : Wr κ (o :: ops) i e S Q = Wr κ ({ o with gd := none } :: ops) i e S Q := by
  obtain ⟨dst, gl, k, gd⟩ := o
  have h0 : wantedV e (Op.mk dst gl k none).gd = some true := rfl
  unfold Wr
  simp only [runOps, step, h, h0, put_eq]
theorem wr_gd {dst : Option Nat} {gl : Bool} {k : K} {j : Nat} {b : Bool} : Wr κ (⟨dst, gl, k, some (j, b)⟩ :: ops) i e S Q = WrG κ ⟨dst, gl, k, some (j, b)⟩ ops i e S Q b (e j) := by
  have hb : ∀ t b' : Bool, t ≠ b' → t = !b' := by decide
  unfold WrG
  split
  · rename_i he
    exact wr_skip (by simp [wantedV, he])
  · rename_i t ht
    refine propext ⟨fun h => ⟨fun e' => ?_, fun e' => ?_⟩, fun ⟨h1, h2⟩ => ?_⟩
    · rwa [wr_go (by simp [wantedV, ht, e'])] at h
    · rwa [wr_skip (by simp [wantedV, ht, e'])] at h
    · by_cases hb' : t = b
      · rw [wr_go (by simp [wantedV, ht, hb'])]; exact h1 hb'
      · rw [wr_skip (by simp [wantedV, ht, hb'])]; exact h2 (hb _ _ hb')
  · rename_i h1 h2
    refine propext ⟨fun h => ?_, fun h => h.elim⟩
    obtain ⟨S', h, -⟩ := h
    simp only [runOps, step] at h
    have : wantedV e (some (j, b)) = none := by
      unfold wantedV
      simp only
    rw [this] at h
    simp at h
theorem wrg_un {dst : Option Nat} {gl : Bool} {k : K} {gd} {b} : WrG κ ⟨dst, gl, k, gd⟩ ops i e S Q b (.tuple []) = Wr κ ops (i + 1) (upd e i .un) (putS gl dst S .un) Q := rfl
theorem wrg_tt {dst : Option Nat} {gl : Bool} {k : K} {gd} : WrG κ ⟨dst, gl, k, gd⟩ ops i e S Q true (.bool true) = Wr κ (⟨dst, gl, k, none⟩ :: ops) i e S Q := by simp [WrG]
theorem wrg_ff {dst : Option Nat} {gl : Bool} {k : K} {gd} : WrG κ ⟨dst, gl, k, gd⟩ ops i e S Q false (.bool false) = Wr κ (⟨dst, gl, k, none⟩ :: ops) i e S Q := by simp [WrG]
theorem wrg_tf {dst : Option Nat} {gl : Bool} {k : K} {gd} : WrG κ ⟨dst, gl, k, gd⟩ ops i e S Q true (.bool false) = Wr κ ops (i + 1) (upd e i .un) (putS gl dst S .un) Q := by simp [WrG]
theorem wrg_ft {dst : Option Nat} {gl : Bool} {k : K} {gd} : WrG κ ⟨dst, gl, k, gd⟩ ops i e S Q false (.bool true) = Wr κ ops (i + 1) (upd e i .un) (putS gl dst S .un) Q := by simp [WrG]
theorem upd_eq_ {α : Type} {f : Nat → α} {k : Nat} {v : α} : upd f k v k = v := by simp [upd]
theorem upd_ne_ {α : Type} {f : Nat → α} {k i : Nat} {v : α} (h : (i == k) = false) : upd f k v i = f i := by
  have : i ≠ k := by simpa using h
  simp [upd, this]
theorem wrg_it {o : Op} {t : Bool} (h1 : t = true → Wr κ ({ o with gd := none } :: ops) i e S Q) (h2 : t = false → Wr κ ops (i + 1) (upd e i .un) (putS o.gl o.dst S .un) Q) : WrG κ o ops i e S Q true (.bool t) := ⟨h1, h2⟩
theorem wrg_if {o : Op} {t : Bool} (h1 : t = false → Wr κ ({ o with gd := none } :: ops) i e S Q) (h2 : t = true → Wr κ ops (i + 1) (upd e i .un) (putS o.gl o.dst S .un) Q) : WrG κ o ops i e S Q false (.bool t) := ⟨h1, h2⟩
theorem wpc_i {a b : C} {t : Bool} (h1 : t = true → Wp κ a S R) (h2 : t = false → Wp κ b S R) : WpC κ a b S R (.bool t) := ⟨h1, h2⟩
theorem start_ρ {l : List V} {t : Nat} : (start l).ρ t = (l[t]?).getD .undef := rfl
theorem start_μ {l : List V} : (start l).μ = fun _ => none := rfl
theorem start_A {l : List V} : (start l).A = fun _ => none := rfl
def LQ {σ : Type} (I : σ → St → Prop) (m : σ → Nat) (s : σ) (W L Wv Wa : List Nat) (Q : Ex → St → Prop) : Ex → St → Prop
  | .norm, S' => ∃ s', m s' < m s ∧ I s' (S'.head W L Wv Wa)
  | x, S' => Q x S'
theorem lq_norm {σ : Type} {I : σ → St → Prop} {m : σ → Nat} {s : σ} {W L Wv Wa : List Nat} : LQ I m s W L Wv Wa R .norm S = ∃ s', m s' < m s ∧ I s' (S.head W L Wv Wa) := rfl
theorem lq_ret {σ : Type} {I : σ → St → Prop} {m : σ → Nat} {s : σ} {W L Wv Wa : List Nat} : LQ I m s W L Wv Wa R .ret S = R .ret S := rfl
theorem lq_exit {σ : Type} {I : σ → St → Prop} {m : σ → Nat} {s : σ} {W L Wv Wa : List Nat} {id : Nat} : LQ I m s W L Wv Wa R (.exit id) S = R (.exit id) S := rfl
theorem wp_lp {W L Wv Wa : List Nat} {c : C} {σ : Type} (I : σ → St → Prop) (m : σ → Nat) (s : σ) (h0 : I s (S.head W L Wv Wa))
    (hstep : ∀ s S, I s S → Wp κ c S (LQ I m s W L Wv Wa R)) : Wp κ (.loop W L Wv Wa c) S R :=
  wp_inv I m s h0 fun s S hI => (hstep s S hI).mono fun ex S' h => by cases ex <;> exact h
theorem head_ρ {Wv Wa : List Nat} {t : Nat} : (S.head [] [] Wv Wa).ρ t = scrubV Wv Wa (S.ρ t) := rfl
theorem head_μ {Wv Wa : List Nat} {t : Nat} : (S.head [] [] Wv Wa).μ t = if Wv.contains t then none else (S.μ t).map fun m => (bif Wa.isEmpty then m.1 else m.1.map (scrubC Wa), m.2) := rfl
theorem head_Aq {Wv Wa : List Nat} {t : Nat} : (S.head [] [] Wv Wa).A t = if Wa.contains t then none else S.A t := rfl
theorem scrub_int {Wv Wa : List Nat} {k n} : scrubV Wv Wa (.int k n) = .int k n := rfl
theorem scrub_bool {Wv Wa : List Nat} {n} : scrubV Wv Wa (.bool n) = .bool n := rfl
theorem scrub_str {Wv Wa : List Nat} {n} : scrubV Wv Wa (.str n) = .str n := rfl
theorem scrub_slice {Wv Wa : List Nat} {z n} : scrubV Wv Wa (.slice z n) = .slice z n := rfl
theorem scrub_func {Wv Wa : List Nat} {z n} : scrubV Wv Wa (.func z n) = .func z n := rfl
theorem scrub_undef {Wv Wa : List Nat} : scrubV Wv Wa .undef = .undef := rfl
theorem scrub_lref {Wv Wa : List Nat} {s o} : scrubV Wv Wa (.lref s o) = if Wv.contains s then .undef else .lref s o := rfl
theorem scrub_own {Wv Wa : List Nat} {s z n} : scrubV Wv Wa (.own s z n) = if Wa.contains s then .undef else .own s z n := rfl
theorem scrub_agg {Wv : List Nat} {cs} : scrubV Wv [] (.agg cs) = .agg cs := rfl
theorem scrub_tuple {Wv : List Nat} {cs} : scrubV Wv [] (.tuple cs) = .tuple cs := rfl
theorem contains_cons {a b : Nat} {l : List Nat} : (a :: l).contains b = ((b == a) || l.contains b) := rfl
theorem contains_nil {b : Nat} : ([] : List Nat).contains b = false := rfl
theorem shut1 {v : V} : shut [v] = v := rfl
theorem shut2 {v v' : V} {l : List V} : shut (v :: v' :: l) = .tuple (v :: v' :: l) := rfl
theorem outn {A j v} : outV A none j v = toD A v := rfl
theorem get_z {α : Type} {a : α} {l : List α} : (a :: l)[0]? = some a := rfl
theorem get_s {α : Type} {a : α} {l : List α} {n : Nat} : (a :: l)[n + 1]? = l[n]? := rfl
end
section
open _root_.Go (IntKind BinOp UnOp)
variable {S : St} {A : Nat → Option (Nat × List (List V) × Fz)}
theorem bin_i {o : BinOp} {k : IntKind} {a b : Int} : binV o (.int k a) (.int k b) = intBin o k a b := by simp [binV]
theorem bin_s {o : BinOp} {a b : List UInt8} : binV o (.str a) (.str b) = strBin o a b := rfl
theorem sh_r1 {k k' : IntKind} {a : Int} : shV .shr (.int k a) (.int k' 1) = some (.int k (a.fdiv 2)) := by cases k <;> simp [shV, IntKind.bits]
theorem eqv_i {k : IntKind} {a b : Int} : eqV .i (.int k a) (.int k b) = some (decide (a = b)) := by simp [eqV]
theorem eqv_b {a b : Bool} : eqV .b (.bool a) (.bool b) = some (a == b) := rfl
theorem eqv_s {a b : List UInt8} : eqV .s (.str a) (.str b) = some (decide (a = b)) := rfl
theorem un_b {b : Bool} : unV .not (.bool b) = some (.bool !b) := rfl
theorem un_i {k n} : unV .neg (.int k n) = some (.int k (k.wrap (0 - n))) := rfl
theorem sl_s {z lo hi s} : slV true z (.str s) lo hi = (bound hi s.length).bind fun h => (bound lo 0).bind fun l =>
      if l ≤ h ∧ h ≤ s.length then some (.str ((s.take h).drop l)) else none := rfl
theorem sl_r {z lo hi rows} : slV false z (.slice z rows) lo hi = (bound hi rows.length).bind fun h => (bound lo 0).bind fun l =>
      if l ≤ h ∧ h ≤ rows.length then some (.slice z ((rows.take h).drop l)) else none := by simp [slV]
theorem bound_n {d} : bound none d = some d := rfl
theorem bound_i {k d} {n : Nat} : bound (some (.int k n)) d = some n := by simp [bound]
theorem len_r {z rows} : lenV false (.slice z rows) = some (.int .i64 rows.length) := rfl
theorem len_s {s} : lenV true (.str s) = some (.int .i64 s.length) := rfl
theorem len_o {s z n} : lenV false (.own s z n) = some (.int .i64 n) := rfl
theorem iad_r {z rows k} {n : Nat} : iadV z (.slice z rows) (.int k n) = (rows[n]?).map fun r => .cptr r 0 := by simp [iadV]
theorem iad_o {s z m k} {n : Nat} : iadV z (.own s z m) (.int k n) = if n < m then some (.eref s n 0 m) else none := by simp [iadV]
theorem iada_l {z n s off k} {i : Nat} : iadaV z n (.lref s off) (.int k i) = if i < n then some (.lref s (off + i * z)) else none := by simp [iadaV]
theorem iada_c {z n cs off k} {i : Nat} : iadaV z n (.cptr cs off) (.int k i) = if i < n then some (.cptr cs (off + i * z)) else none := by simp [iadaV]
theorem fad_l {off s o} : fadV off (.lref s o) = some (.lref s (o + off)) := rfl
theorem fad_e {off s i o n} : fadV off (.eref s i o n) = some (.eref s i (o + off) n) := rfl
theorem fad_c {off cs o} : fadV off (.cptr cs o) = some (.cptr cs (o + off)) := rfl
theorem idx_s {s k} {n : Nat} : idxV (.str s) (.int k n) = (s[n]?).map fun b => .int .u8 b.toNat := by simp [idxV]
theorem ext_t {i vs} : extV i (.tuple vs) = vs[i]? := rfl
theorem conv_i {k k' n} : convV (.int k) (.int k' n) = some (.int k (k.wrap n)) := rfl
theorem conv_s {s} : convV .same (.str s) = some (.str s) := rfl
theorem ld_v {s n off} : loadV S (.v s) n (.lref s off) = (S.μ s).bind fun m => ldAt m.1 off n := by simp [loadV]
theorem ld_c {n cs off} : loadV S .c n (.cptr cs off) = ldAt cs off n := rfl
def ldE (n : Option Nat) (i off m : Nat) : Option (Nat × List (List V) × Fz) → Option V
  | some (_, rows, f) => if rows.length = m ∧ f ≠ .dead then (rows[i]?).bind fun r => ldAt r off n else none
  | none => none
theorem lde_s {n i off m z rows f} : ldE n i off m (some (z, rows, f)) = if rows.length = m ∧ f ≠ .dead then (rows[i]?).bind fun r => ldAt r off n else none := rfl
theorem ld_e {s n i off m} : loadV S (.e s) n (.eref s i off m) = ldE n i off m (S.A s) := by
  unfold loadV ldE
  simp only [if_true]
  rfl
def stV (S : St) (s off : Nat) (xs : List V) : Option (List V × Bool) → Option St
  | some (cs, false) => (setAt cs off xs).bind fun cs' => some { S with μ := upd S.μ s (some (cs', false)) }
  | _ => none
theorem stv_s {s off xs cs} : stV S s off xs (some (cs, false)) = (setAt cs off xs).bind fun cs' => some ⟨S.ρ, upd S.μ s (some (cs', false)), S.A⟩ := rfl
theorem st_v {s n off x} : storeV S (.v s) n (.lref s off) x = x.cells.bind fun xs => if xs.length = n then stV S s off xs (S.μ s) else none := by
  unfold storeV
  congr 1; funext xs
  split
  · simp only [if_true]
    split
    · rename_i h; rw [h]; rfl
    · rename_i h
      unfold stV
      split
      · rename_i cs h'; exact absurd h' (h cs)
      · rfl
  · rfl
theorem cells_i {k n} : (V.int k n).cells = some [.int k n] := rfl
theorem cells_b {n} : (V.bool n).cells = some [.bool n] := rfl
theorem cells_s {n} : (V.str n).cells = some [.str n] := rfl
theorem cells_r {z n} : (V.slice z n).cells = some [.slice z n] := rfl
theorem cells_a {n} : (V.agg n).cells = some n := rfl
theorem cells_u : V.undef.cells = none := rfl
theorem cells_f {f n} : (V.func f n).cells = some [.func f n] := rfl
theorem cells_n : V.niface.cells = some [.niface] := rfl
theorem cells_o {s z n} : (V.own s z n).cells = some [.own s z n] := rfl
theorem rows_r {z rows} : V.rowsOf z (.slice z rows) = some rows := by simp [V.rowsOf]
theorem rows_s {s} : V.rowsOf 1 (.str s) = some (s.map fun b => [.int .u8 b.toNat]) := rfl
theorem toD_i {k n} : toD A (.int k n) = some (.int k n) := rfl
theorem toD_b {n} : toD A (.bool n) = some (.bool n) := rfl
theorem toD_s {n} : toD A (.str n) = some (.str n) := rfl
theorem toD_r {z n} : toD A (.slice z n) = some (.slice z n) := rfl
theorem toD_f {z n} : toD A (.func z n) = some (.func z n) := rfl
theorem toD_a {n} : toD A (.agg n) = (mapO (toDC A) n).map .agg := rfl
theorem toD_o {s z n} : toD A (.own s z n) = toDC A (.own s z n) := rfl
theorem toD_t {vs} : toD A (.tuple vs) = none := rfl
theorem toDC_i {k n} : toDC A (.int k n) = some (.int k n) := rfl
theorem toDC_b {n} : toDC A (.bool n) = some (.bool n) := rfl
theorem toDC_s {n} : toDC A (.str n) = some (.str n) := rfl
theorem toDC_r {z n} : toDC A (.slice z n) = some (.slice z n) := rfl
theorem toDC_ns {z} : toDC A (.nslice z) = some (.slice z []) := rfl
theorem datC_ns {z} : (V.nslice z).datC = true := rfl
theorem sitesC_ns {z} : sitesC (.nslice z) = [] := rfl
theorem cells_ns {z} : (V.nslice z).cells = some [.nslice z] := rfl
theorem toDC_u : toDC A .undef = some .undef := rfl
theorem toDC_n : toDC A .niface = some .niface := rfl
def ownD (z n : Nat) : Option (Nat × List (List V) × Fz) → Option V
  | some (z', rows, f) => if z' = z ∧ rows.length = n ∧ f ≠ .dead then some (.slice z rows) else none
  | none => none
theorem ownd_s {z n : Nat} {rows f} : ownD z n (some (z, rows, f)) = if rows.length = n ∧ f ≠ .dead then some (.slice z rows) else none := by simp [ownD]
theorem toDC_o {s z n} : toDC A (.own s z n) = ownD z n (A s) := by unfold toDC ownD; rfl
def resC (n : Option Nat) : Option (List V × Bool) → Option V
  | some (cs, _) => ldAt cs 0 n
  | none => none
theorem resc_s {n cs f} : resC n (some (cs, f)) = ldAt cs 0 n := rfl
def resL (S : St) (n : Option Nat) : V → Option V
  | .lref s 0 => resC n (S.μ s)
  | _ => none
theorem resl_l {n s} : resL S n (.lref s 0) = resC n (S.μ s) := rfl
theorem resV_t {t} : resV S (.t t) = some (S.ρ t) := rfl
theorem resV_c {a n} : resV S (.cell a n) = resL S n (S.ρ a) := by
  simp only [resV, resL]
  generalize S.ρ a = x
  cases x with
  | lref s o => cases o with
    | zero => rfl
    | succ o => rfl
  | _ => rfl
theorem ldAt_n {cs : List V} {off} : ldAt cs off none = cs[off]? := rfl
theorem ldAt_s {cs : List V} {off n} : ldAt cs off (some n) = if off + n ≤ cs.length then some (.agg ((cs.drop off).take n)) else none := rfl
theorem call_no {κ d own fc avs} : callV κ d S .no own fc avs = if avs.all V.dat then (κ fc.1 (avs ++ fc.2)).bind fun r => adopt d S own r else none := rfl
theorem call_bo {κ d own fc avs} : callV κ d S .borrow own fc avs = (mapO (toD S.A) avs).bind fun bs => (κ fc.1 (bs ++ fc.2)).bind fun r => if r.scalar then some (r, S) else none := rfl
theorem call_fr {κ d own fc avs} : callV κ d S .freeze own fc avs = (mapO (toD S.A) avs).bind fun bs => (κ fc.1 (bs ++ fc.2)).bind fun r => adopt d { S with A := frzA S.A (avs.flatMap sitesV) } own r := rfl
theorem adopt_n {d r} : adopt d S none r = some (r, S) := rfl
def adA (d : Nat) (S : St) (z : Nat) (rows : List (List V)) : Option (Nat × List (List V) × Fz) → Option (V × St)
  | none => some (.own d z rows.length, ⟨S.ρ, S.μ, upd S.A d (some (z, rows, .live))⟩)
  | some _ => none
theorem ada_n {d z rows} : adA d S z rows none = some (.own d z rows.length, ⟨S.ρ, S.μ, upd S.A d (some (z, rows, .live))⟩) := rfl
theorem adopt_s {d j z rows} : adopt d S (some j) (.slice z rows) = adA d S z rows (S.A d) := by
  simp only [adopt, adA]
  cases S.A d <;> rfl
def apA (S : St) (s z n : Nat) (y : V) : Option (Nat × List (List V) × Fz) → Option (V × St)
  | some (z'', rows, .live) => if z'' = z ∧ rows.length = n then (V.rowsOf z y).bind fun ys =>
          if rows.length + ys.length ≤ lim then some (.own s z (rows.length + ys.length), { S with A := upd S.A s (some (z, rows ++ ys, .live)) }) else none
        else none
  | _ => none
theorem app_o {s z n y} : appV S s z (.own s z n) y = apA S s z n y (S.A s) := by
  simp only [appV, apA, and_self, if_true]
  rfl
theorem appN_o {s z n y s'} : appN S s z (.own s' z n) y = appV S s z (.own s' z n) y := rfl
def apnA (S : St) (s z : Nat) (y : V) : Option (Nat × List (List V) × Fz) → Option (V × St)
  | none => (V.rowsOf z y).bind fun ys => if ys.length ≤ lim then some (.own s z ys.length, { S with A := upd S.A s (some (z, ys, .live)) }) else none
  | some _ => none
theorem appN_n {s z y} : appN S s z (.nslice z) y = apnA S s z y (S.A s) := by
  simp only [appN, apnA, if_true]
  cases S.A s <;> rfl
theorem apna_n {s z y} : apnA S s z y none = (V.rowsOf z y).bind fun ys => if ys.length ≤ lim then some (.own s z ys.length, ⟨S.ρ, S.μ, upd S.A s (some (z, ys, .live))⟩) else none := rfl
theorem apa_s {s z n y rows} : apA S s z n y (some (z, rows, .live)) = if rows.length = n then (V.rowsOf z y).bind fun ys =>
          if rows.length + ys.length ≤ lim then some (.own s z (rows.length + ys.length), ⟨S.ρ, S.μ, upd S.A s (some (z, rows ++ ys, .live))⟩) else none
        else none := by simp [apA]
def mkA (d : Nat) (S : St) (z : Nat) : Option (Nat × List (List V) × Fz) → Option (V × St)
  | none => some (.own d z 0, ⟨S.ρ, S.μ, upd S.A d (some (z, [], .live))⟩)
  | some _ => none
theorem frz_nil : frzA A [] = A := rfl
theorem sites_i {k n} : sitesV (.int k n) = [] := rfl
theorem sites_b {n} : sitesV (.bool n) = [] := rfl
theorem sites_s {n} : sitesV (.str n) = [] := rfl
theorem sites_r {z n} : sitesV (.slice z n) = [] := rfl
theorem sites_a {n} : sitesV (.agg n) = n.flatMap sitesC := rfl
theorem sites_o {s z n} : sitesV (.own s z n) = [s] := rfl
theorem sitesC_i {k n} : sitesC (.int k n) = [] := rfl
theorem sitesC_b {n} : sitesC (.bool n) = [] := rfl
theorem sitesC_s {n} : sitesC (.str n) = [] := rfl
theorem sitesC_r {z n} : sitesC (.slice z n) = [] := rfl
theorem sitesC_o {s z n} : sitesC (.own s z n) = [s] := rfl
theorem flat_nil {f : V → List Nat} : [].flatMap f = [] := rfl
theorem flat_cons {f : V → List Nat} {a l} : (a :: l).flatMap f = f a ++ l.flatMap f := rfl
theorem frz_cons {s l} : frzA A (s :: l) = frzA (upd A s ((A s).map fun (z, rows, f) => (z, rows, if f = .live then .frz else f))) l := rfl
theorem scal_i {k n} : (V.int k n).scalar = true := rfl
theorem scal_b {n} : (V.bool n).scalar = true := rfl
theorem scal_s {n} : (V.str n).scalar = true := rfl
theorem dat_i {k n} : (V.int k n).dat = true := rfl
theorem dat_b {n} : (V.bool n).dat = true := rfl
theorem dat_s {n} : (V.str n).dat = true := rfl
theorem dat_r {z n} : (V.slice z n).dat = true := rfl
theorem dat_f {z n} : (V.func z n).dat = true := rfl
theorem dat_c {z n} : (V.cptr z n).dat = true := rfl
theorem dat_a {n} : (V.agg n).dat = n.all V.datC := rfl
theorem datC_i {k n} : (V.int k n).datC = true := rfl
theorem datC_b {n} : (V.bool n).datC = true := rfl
theorem datC_s {n} : (V.str n).datC = true := rfl
theorem datC_r {z n} : (V.slice z n).datC = true := rfl
theorem datC_f {z n} : (V.func z n).datC = true := rfl
theorem datC_u : V.undef.datC = true := rfl
theorem datC_n : V.niface.datC = true := rfl
end
attribute [go_sem] wp_reg wp_seq' wp_block' wp_ret' wp_exit' wp_skip' cont_norm cont_ret cont_exit blk_norm blk_ret blk_exit wp_cond' wpc_t wpc_f wr_nil wr_op wro_some wr_gd wrg_un wrg_tt wrg_ff wrg_tf wrg_ft upd_eq_ upd_ne_ putS_t putS_t' putS_f putS_n start_ρ start_μ start_A get_z get_s
attribute [go_sem] lq_norm lq_ret lq_exit head_ρ head_μ head_Aq scrub_int scrub_bool scrub_str scrub_slice scrub_func scrub_undef scrub_lref scrub_own scrub_agg scrub_tuple contains_cons contains_nil List.isEmpty_nil List.isEmpty_cons Bool.or_false Bool.false_or Bool.or_true Bool.true_or Bool.false_eq_true
attribute [go_sem] ev argv intBin strBin callee mapO mapIdxO fillAt eqVs finish outn shut1 shut2
attribute [go_sem] appN_o appN_n apna_n toDC_ns datC_ns sitesC_ns cells_ns bin_i bin_s sh_r1 eqv_i eqv_b eqv_s un_b un_i sl_s sl_r bound_n bound_i len_r len_s len_o iad_r iad_o iada_l iada_c fad_l fad_e fad_c idx_s ext_t conv_i conv_s ld_v ld_c ld_e st_v cells_i cells_b cells_s cells_r cells_a cells_u cells_f cells_n cells_o rows_r rows_s toD_i toD_b toD_s toD_r toD_a toD_f toD_o toD_t toDC_i toDC_b toDC_s toDC_r toDC_n toDC_o toDC_u resV_t resV_c ldAt_n ldAt_s call_no call_bo call_fr adopt_n scal_i scal_b scal_s dat_i dat_b dat_s dat_r dat_a dat_f dat_c datC_i datC_b datC_s datC_r datC_f datC_u datC_n fillRows List.reduceReplicate List.set_cons_zero List.set_cons_succ Nat.reduceLT Nat.reduceEqDiff and_self frz_nil frz_cons sites_i sites_b sites_s sites_r sites_a sites_o sitesC_i sitesC_b sitesC_s sitesC_r sitesC_o flat_nil flat_cons adopt_s ada_n app_o apa_s ne_eq not_false_eq_true stv_s lde_s ownd_s resc_s resl_l setAt List.length_map List.getElem?_map List.drop_zero List.drop_succ_cons List.take_succ_cons List.take_zero List.drop_nil List.take_nil Nat.reduceLeDiff Nat.zero_add Nat.add_zero
attribute [go_sem] Option.bind_some Option.bind_none Option.getD_some Option.getD_none Nat.reduceBEq Nat.reduceAdd reduceIte List.length_cons List.length_nil List.map_cons List.map_nil List.all_cons List.all_nil Option.map_some Option.map_none cond_true cond_false Bool.and_true Bool.true_and Bool.and_false Bool.false_and Bool.false_xor Bool.true_xor Nat.zero_le Nat.le_add_right Nat.le_refl beq_self_eq_true Int.ofNat_zero Int.cast_ofNat_Int decide_true decide_false Int.reduceEq Int.reduceLT Int.reduceLE Bool.not_true Bool.not_false List.length_append List.append_nil List.nil_append List.cons_append reduceCtorEq or_true true_or true_and and_true false_or or_false ite_true ite_false eq_self List.getElem?_nil
abbrev iz (n : Int) : V := .int .i64 n
theorem wrap64 {n : Int} (h1 : -9223372036854775808 ≤ n) (h2 : n ≤ 9223372036854775807) : _root_.Go.IntKind.i64.wrap n = n := _root_.Go.IntWalk.i64_in n ⟨h1, h2⟩
theorem drop_at {α : Type} {l : List α} {i : Nat} (h : i < l.length) : ∃ x, l[i]? = some x ∧ l.drop i = x :: l.drop (i + 1) :=
  ⟨l[i], by simp [h], List.drop_eq_getElem_cons h⟩
end Sg
namespace Sg
open _root_.Go
set_option linter.unusedSimpArgs false
set_option linter.unusedVariables false
def cloneF (z : Nat) (zero : List V) : F where
  np := 1
  gl := [0, 2, 4]
  res := [.t 2]
  own := some 0
  body := .seq (.region false [⟨some 2, true, .mov (.c (.slice z [])), none⟩])
    (.seq (.seq (.region false [⟨some 3, false, .mov (.g 0), none⟩, ⟨some 4, true, .nilq (.l 0), none⟩])
      (.cond (.g 4) (.seq (.region false [⟨some 2, true, .mko z, none⟩]) .ret) .skip))
    (.seq (.region false [⟨some 5, false, .mkb z 0 zero [], none⟩, ⟨some 6, false, .mov (.g 0), none⟩, ⟨some 7, false, .app 5 z (.l 0) (.l 1), none⟩, ⟨some 2, true, .mov (.l 2), none⟩]) .ret))
def onePg (id : Nat) (F : F) : Nat → Option Fn := fun k => if k = id then some (.code F) else none
theorem one_sound {P : Program} {cx : Cx} {id : Nat} {F : F} (hm : P.follows .mixedOrders = true) (hok : okF P cx (onePg id F) (cx.fm id) F = true) (n f : Nat) (args : List V) (r : V) (h : callN (onePg id F) n f args = some r) :
    Ctr P cx (ownOf (onePg id F) f) f args r :=
  (callN_soundR (P := P) (cx := cx) (Pg := onePg id F) hm (fun f F hF => by
      unfold onePg at hF
      split at hF <;> simp only [Option.some.injEq, Fn.code.injEq, reduceCtorEq] at hF
      rename_i e; subst e; subst hF; exact hok) (fun f own p hp => by
      unfold onePg at hp
      split at hp <;> simp at hp) (fun f z p _ hp => by
      unfold onePg at hp
      split at hp <;> simp at hp) (fun f z p hp => by
      unfold onePg at hp
      split at hp <;> simp at hp) (fun f F k hp => by
      unfold onePg at hp
      split at hp <;> simp at hp) (fun f own p hp => by
      unfold onePg at hp
      split at hp <;> simp at hp) n f args r h).1
theorem outo {A v} : outV A (some 0) 0 v = match v with
    | .own s z n => match A s with
      | some (z', rows, .live) => if z' = z ∧ rows.length = n then some (.slice z rows) else none
      | _ => none
    | _ => none := by simp only [outV, if_true]; rfl
theorem clone_nil (id z : Nat) (zero : List V) : K' (onePg id (cloneF z zero)) id [.nslice z] = some (.slice z []) := by
  refine K'_code (F := cloneF z zero) (by simp [onePg]) rfl ?_
  simp [go_sem, cloneF, outo, mkA, V.rowsOf]
theorem clone_not (id z : Nat) (zero : List V) (rows : List (List V)) (h : rows.length ≤ lim) : K' (onePg id (cloneF z zero)) id [.xslice z rows] = some (.slice z rows) := by
  refine K'_code (F := cloneF z zero) (by simp [onePg]) rfl ?_
  simp [go_sem, cloneF, outo, mkA, V.rowsOf, h]
theorem clone_ctr {P : Program} {cx : Cx} {id z : Nat} {zero : List V} (hm : P.follows .mixedOrders = true) (hok : okF P cx (onePg id (cloneF z zero)) (cx.fm id) (cloneF z zero) = true) :
    ∀ args r, cloneQ z args = some r → Ctr P cx (some 0) id args r := by
  intro args r h
  unfold cloneQ at h
  split at h <;> try (simp at h; done)
  rename_i z1 rows
  split at h <;> simp only [Option.some.injEq, reduceCtorEq] at h
  rename_i hl
  obtain ⟨hl, rfl⟩ := hl
  subst h
  have own : ownOf (onePg id (cloneF z1 zero)) id = some 0 := by simp [ownOf, onePg, cloneF]
  have all : ∀ args r, K' (onePg id (cloneF z1 zero)) id args = some r → Ctr P cx (some 0) id args r := fun args r hk => by
    obtain ⟨n, hn⟩ := K'_iff.1 hk
    have := one_sound hm hok n id args r hn
    rwa [own] at this
  have c1 := all _ _ (clone_nil id z1 zero)
  have c2 := all _ _ (clone_not id z1 zero rows hl)
  refine ⟨c1.1, fun w X vs hX hgn hG hsz hrel => ?_⟩
  obtain ⟨u, hu, hr⟩ := hrel 0 (by simp)
  have one : ∀ x, RelD cx w X u x → ∀ i, i < [x].length → ∃ u, vs[i]? = some u ∧ RelD cx w X u (gv [x] i) := fun x hx i hi => by
    have : i = 0 := by simp at hi; exact hi
    subst this
    exact ⟨u, hu, hx⟩
  have hr0 : RelD cx w X u (.slice z1 rows) := hr
  have conc : (u = .slice none 0 0 ∧ rows = []) ∨ ∃ a n c, u = .slice (some a) n c := by
    rcases slice_inv hr0 with ⟨⟨a, rfl⟩, rfl⟩ | ⟨b, o, cap, c, e, fr, rfl, -⟩
    · cases a with
      | none => exact .inl ⟨rfl, rfl⟩
      | some a => exact .inr ⟨_, _, _, rfl⟩
    · exact .inr ⟨_, _, _, rfl⟩
  rcases conc with ⟨rfl, rfl⟩ | ⟨a, n, c, rfl⟩
  · exact c1.2 w X vs hX hgn hG (by simpa using hsz) (one _ (.nslice z1))
  · exact c2.2 w X vs hX hgn hG (by simpa using hsz) (one _ (.xslice a n c z1 rows hr0))
end Sg
namespace Sg
open _root_.Go _root_.Go.RowKit _root_.Go.Proofs
set_option linter.unusedSimpArgs false
set_option linter.unusedVariables false
def dN (l : List UInt8) : Nat × Nat := Lib.decodeN l.length (l.getD 0 0).toNat (l.getD 1 0).toNat (l.getD 2 0).toNat (l.getD 3 0).toNat
def decL (l : List UInt8) : Nat × Nat := if l = [] then (65533, 0) else dN l
theorem get!_list (s : ByteArray) (i : Nat) : s.get! i = s.data.toList.getD i 0 := by
  show s.data[i]! = _
  by_cases h : i < s.data.size
  · rw [getElem!_pos s.data i h, List.getD_eq_getElem?_getD, Array.getElem?_toList, Array.getElem?_eq_getElem h]
    rfl
  · rw [getElem!_neg s.data i h, List.getD_eq_getElem?_getD, List.getElem?_eq_none (by simpa using h)]
    rfl
theorem decode_drop (s : ByteArray) (i : Nat) : Utf8.decode s i = dN (s.data.toList.drop i) := by
  rw [Lib.decode_at]
  have hs : s.size - i = (s.data.toList.drop i).length := by
    rw [List.length_drop, Array.length_toList]; rfl
  have e : ∀ k, s.get! (i + k) = (s.data.toList.drop i).getD k 0 := fun k => by
    rw [get!_list, List.getD_eq_getElem?_getD, List.getD_eq_getElem?_getD, List.getElem?_drop]
  simp only [dN, hs, ← e, Nat.add_zero]
theorem decodeGo_list (s : ByteArray) : Lib.decodeGo s = decL s.data.toList := by
  have hs : s.size = s.data.toList.length := by rw [Array.length_toList]; rfl
  unfold Lib.decodeGo decL
  by_cases h : s.data.toList = []
  · rw [if_pos h, if_pos (by rw [hs, h]; rfl)]
  · rw [if_neg h, if_neg (by rw [hs]; intro e; exact h (List.eq_nil_of_length_eq_zero e)), decode_drop]
    simp
theorem width_pos (s : ByteArray) (pos : Nat) : 1 ≤ (Utf8.decode s pos).2 := by
  rw [Lib.decode_at]
  unfold Lib.decodeN
  repeat' split
  all_goals simp
theorem extract_list (s : ByteArray) (pos n : Nat) (hn : n = s.size) : (s.extract pos n).data.toList = s.data.toList.drop pos := by
  have hs : s.size = s.data.toList.length := by rw [Array.length_toList]; rfl
  rw [ByteArray.data_extract, Array.toList_extract, List.extract_eq_take_drop, List.take_of_length_le]
  rw [List.length_drop]; omega
theorem decode_extract (s : ByteArray) (pos n : Nat) (hn : n = s.size) (hp : pos < s.size) : Lib.decodeGo (s.extract pos n) = Utf8.decode s pos := by
  have hs : s.size = s.data.toList.length := by rw [Array.length_toList]; rfl
  rw [decodeGo_list, extract_list s pos n hn, decode_drop, decL, if_neg]
  intro e
  have := congrArg List.length e
  rw [List.length_drop] at this
  simp only [List.length_nil] at this
  omega
theorem drop_ne (s : ByteArray) (pos : Nat) (hp : pos < s.size) : s.data.toList.drop pos ≠ [] := fun e => by
  have hs : s.size = s.data.toList.length := by rw [Array.length_toList]; rfl
  have := congrArg List.length e
  rw [List.length_drop] at this
  simp only [List.length_nil] at this
  omega
theorem size_list (s : ByteArray) : s.data.toList.length = s.size := by rw [Array.length_toList]; rfl
def decQ : List V → Option V
  | [.str s] => some (.tuple [.int .i32 (decL s).1, .int .i64 (decL s).2])
  | _ => none
section
variable {P : Program} {cx : Cx}
theorem str_inv {w : World} {X : Nat → Prop} {u : Value} {l : List UInt8} (h : RelD cx w X u (.str l)) : ∃ s : ByteArray, u = .string s ∧ s.data.toList = l := by
  cases h; exact ⟨_, rfl, rfl⟩
theorem args1 {vs : Array Value} (h : vs.size = 1) {u : Value} (h0 : vs[0]? = some u) : vs = #[u] := by
  apply Array.ext_getElem?
  intro i
  rcases Nat.lt_or_ge i 1 with hi | hi
  · have : i = 0 := by omega
    subst this; simpa using h0
  · rw [Array.getElem?_eq_none (by omega), Array.getElem?_eq_none (by simpa using hi)]
theorem tuple2 {w : World} {X : Nat → Prop} {a b : Value} {x y : V} (h1 : RelD cx w X a x) (h2 : RelD cx w X b y) : RelD cx w X (.tuple #[a, b]) (.tuple [x, y]) :=
  .tuple _ _ (fun i => if i = 0 then a else b) rfl (fun i hi => by
    match i, hi with
    | 0, _ => rfl
    | 1, _ => rfl
    | n + 2, hi => exact absurd hi (by simp)) (fun i hi => by
    match i, hi with
    | 0, _ => simpa [gv] using h1
    | 1, _ => simpa [gv] using h2
    | n + 2, hi => exact absurd hi (by simp))
theorem dec_ctr {id : Nat} (hE : Ent P (cx.fm id)) (hC : ∀ (s : ByteArray) (w : World), cx.G w → Calls P (cx.fm id) #[.string s] w fun e w' => e = .returned (.tuple #[.int .i32 (Lib.decodeGo s).1, .int .i64 (Lib.decodeGo s).2]) ∧ Below w.heap.size w w') :
    ∀ args r, decQ args = some r → Ctr P cx none id args r := by
  intro args r h
  unfold decQ at h
  split at h <;> simp only [Option.some.injEq, reduceCtorEq] at h
  rename_i l
  subst h
  refine ⟨hE, fun w X vs hX hgn hG hsz hrel => ?_⟩
  obtain ⟨u, hu, hr⟩ := hrel 0 (by simp)
  obtain ⟨s, rfl, rfl⟩ := str_inv (l := l) hr
  rw [args1 (by simpa using hsz) hu]
  refine (hC s w hG).mono fun e w' ⟨he, hb⟩ => ?_
  subst he
  rw [decodeGo_list]
  exact ⟨_, rfl, hb, tuple2 (.int _ _) (.int _ _)⟩
def plainR (r n : Int) : Bool := decide (33 ≤ r) && (decide (r < 127) || decide (159 < r)) && (!decide (r = 65533) || decide (n = 3))
def keyAll : Nat → List UInt8 → Bool
  | 0, _ => true
  | f + 1, l => if l = [] then true else plainR (dN l).1 (dN l).2 && keyAll f (l.drop (dN l).2)
def keyR (l : List UInt8) : Bool := keyAll l.length l && (decide (1 ≤ l.length) && decide (l.length ≤ 16))
def keyQ : List V → Option V
  | [.str s] => some (.bool (keyR s))
  | _ => none
theorem key_ctr {id : Nat} (hE : Ent P (cx.fm id)) (hC : ∀ (s : ByteArray) (w : World), cx.gn ≤ w.heap.size → cx.G w → Calls P (cx.fm id) #[.string s] w fun e w' => e = .returned (.bool (keyR s.data.toList)) ∧ Below w.heap.size w w') :
    ∀ args r, keyQ args = some r → Ctr P cx none id args r := by
  intro args r h
  unfold keyQ at h
  split at h <;> simp only [Option.some.injEq, reduceCtorEq] at h
  rename_i l
  subst h
  refine ⟨hE, fun w X vs hX hgn hG hsz hrel => ?_⟩
  obtain ⟨u, hu, hr⟩ := hrel 0 (by simp)
  obtain ⟨s, rfl, rfl⟩ := str_inv (l := l) hr
  rw [args1 (by simpa using hsz) hu]
  refine (hC s w hgn hG).mono fun e w' ⟨he, hb⟩ => ?_
  subst he
  exact ⟨_, rfl, hb, .bool _⟩
end
end Sg
namespace Sg
@[go_sem] abbrev f_ (d : Nat) (k : K) : Op := ⟨some d, false, k, none⟩
@[go_sem] abbrev t_ (d : Nat) (k : K) : Op := ⟨some d, true, k, none⟩
@[go_sem] abbrev y_ (d j : Nat) (k : K) : Op := ⟨some d, false, k, some (j, true)⟩
@[go_sem] abbrev n_ (d j : Nat) (k : K) : Op := ⟨some d, false, k, some (j, false)⟩
@[go_sem] abbrev u_ (k : K) : Op := ⟨none, false, k, none⟩
@[go_sem] abbrev ci (n : Int) : Arg := .c (.int .i64 n)
@[go_sem] abbrev cb (b : Bool) : Arg := .c (.bool b)
def datO : Option (List V × Bool) → Bool
  | some m => m.1.all V.datC
  | none => true
theorem datsite_o {μ s} : datSite μ s = datO (μ s) := rfl
theorem dato_s {cs b} : datO (some (cs, b)) = cs.all V.datC := rfl
def capO (s : Nat) (sites : List Nat) : Option (List V × Bool) → Option V
  | some (cs, _) => if sites.contains s ∧ cs.all V.datC then some (.cptr cs 0) else none
  | none => none
theorem capv_l {μ sites s} : capV μ sites (.lref s 0) = capO s sites (μ s) := by
  unfold capV capO; rfl
theorem capo_s {s sites cs b} : capO s sites (some (cs, b)) = if sites.contains s ∧ cs.all V.datC then some (.cptr cs 0) else none := rfl
theorem capv_i {μ sites k n} : capV μ sites (.int k n) = some (.int k n) := rfl
theorem capv_b {μ sites n} : capV μ sites (.bool n) = some (.bool n) := rfl
theorem capv_s {μ sites n} : capV μ sites (.str n) = some (.str n) := rfl
theorem capv_r {μ sites z n} : capV μ sites (.slice z n) = some (.slice z n) := rfl
theorem frzm_nil {μ} : frzM μ [] = μ := rfl
theorem frzm_cons {μ s l} : frzM μ (s :: l) = frzM (upd μ s ((μ s).map fun m => (m.1, true))) l := rfl
def stE (S : St) (s i off m : Nat) (xs : List V) : Option (Nat × List (List V) × Fz) → Option St
  | some (z, rows, .live) => if rows.length = m then (rows[i]?).bind fun r => (setAt r off xs).bind fun r' => some { S with A := upd S.A s (some (z, rows.set i r', .live)) } else none
  | _ => none
theorem ste_s {S : St} {s i off m : Nat} {xs : List V} {z rows} : stE S s i off m xs (some (z, rows, .live)) = if rows.length = m then (rows[i]?).bind fun r => (setAt r off xs).bind fun r' => some ⟨S.ρ, S.μ, upd S.A s (some (z, rows.set i r', .live))⟩ else none := rfl
theorem st_e {S : St} {s n i off m x} : storeV S (.e s) n (.eref s i off m) x = x.cells.bind fun xs => if xs.length = n then (if xs.all V.datC then stE S s i off m xs (S.A s) else none) else none := by
  unfold storeV
  congr 1; funext xs
  split
  · simp only [true_and]
    split
    · unfold stE; rfl
    · rfl
  · rfl
def insA (S : St) (s z n k : Nat) (ys : List (List V)) : Option (Nat × List (List V) × Fz) → Option (V × St)
  | some (z3, rows, .live) => if z3 = z ∧ rows.length = n ∧ k ≤ n ∧ rows.length + ys.length ≤ lim then
      some (.own s z (rows.length + ys.length), { S with A := upd S.A s (some (z, rows.take k ++ (ys ++ rows.drop k), .live)) }) else none
  | _ => none
theorem insa_s {S : St} {s z n k : Nat} {ys rows} : insA S s z n k ys (some (z, rows, .live)) = if rows.length = n ∧ k ≤ n ∧ rows.length + ys.length ≤ lim then
      some (.own s z (rows.length + ys.length), ⟨S.ρ, S.μ, upd S.A s (some (z, rows.take k ++ (ys ++ rows.drop k), .live))⟩) else none := by simp [insA]
def insV (S : St) (s z : Nat) : V → V → V → Option (V × St)
  | .own s' z' n, .int .i64 k, .slice z'' ys => if s' = s ∧ z' = z ∧ z'' = z then (if 0 ≤ k then insA S s z n k.toNat ys (S.A s) else none) else none
  | _, _, _ => none
theorem insv_o {S : St} {s z n k : Nat} {ys} : insV S s z (.own s z n) (.int .i64 (k : Int)) (.slice z ys) = insA S s z n k ys (S.A s) := by simp [insV]
def delA (S : St) (d s z n k m : Nat) : Option (Nat × List (List V) × Fz) → Option (Nat × List (List V) × Fz) → Option (V × St)
  | some (z3, rows, .live), none => if z3 = z ∧ rows.length = n ∧ k ≤ m ∧ m ≤ n ∧ n ≤ lim then
      some (.own d z (rows.take k ++ rows.drop m).length, { S with A := upd (upd S.A s (some (z, [], .dead))) d (some (z, rows.take k ++ rows.drop m, .live)) }) else none
  | _, _ => none
theorem dela_s {S : St} {d s z n k m : Nat} {rows} : delA S d s z n k m (some (z, rows, .live)) none = if rows.length = n ∧ k ≤ m ∧ m ≤ n ∧ n ≤ lim then
      some (.own d z (rows.take k ++ rows.drop m).length, ⟨S.ρ, S.μ, upd (upd S.A s (some (z, [], .dead))) d (some (z, rows.take k ++ rows.drop m, .live))⟩) else none := by simp [delA]
def delV (S : St) (d s z : Nat) : V → V → V → Option (V × St)
  | .own s' z' n, .int .i64 k, .int .i64 m => if s' = s ∧ z' = z then (if 0 ≤ k ∧ 0 ≤ m then delA S d s z n k.toNat m.toNat (S.A s) (S.A d) else none) else none
  | _, _, _ => none
theorem delv_o {S : St} {d s z n k m : Nat} : delV S d s z (.own s z n) (.int .i64 (k : Int)) (.int .i64 (m : Int)) = delA S d s z n k m (S.A s) (S.A d) := by simp [delV]
section
variable {κ : Nat → List V → Option V} {S : St} {Q : St → Prop} {e : Nat → V} {i : Nat} {ops : List Op}
theorem wr_ins {dst : Option Nat} {gl : Bool} {f s z : Nat} {x y j : Arg} : Wr κ (⟨dst, gl, .ins f s z x j y, none⟩ :: ops) i e S Q = WrO κ dst gl ops i e Q (insV S s z (argv e S.ρ x) (argv e S.ρ j) (argv e S.ρ y)) := by
  rw [wr_op]
  congr 1
  simp only [ev, insV]
  split
  · rename_i s' z' n k z'' ys h1 h2 h3
    rw [h1, h2, h3]
    simp only
    split
    · unfold insA
      by_cases hk : 0 ≤ k
      · have e1 : ∀ n : Nat, (k ≤ (n : Int)) = (k.toNat ≤ n) := fun n => propext (by omega)
        simp only [hk, true_and, if_true, e1]
        rcases S.A s with _ | ⟨z3, rows, fz⟩
        · rfl
        · cases fz <;> rfl
      · simp only [hk, false_and, and_false, if_false]
        rcases S.A s with _ | ⟨z3, rows, fz⟩
        · rfl
        · cases fz <;> simp
    · rfl
  · rename_i h
    split
    · rename_i s' z' n k z'' ys h1 h2 h3; exact absurd h3 (h s' z' n k z'' ys h1 h2)
    · rfl
theorem wr_del {dst : Option Nat} {gl : Bool} {f s z : Nat} {x y j : Arg} : Wr κ (⟨dst, gl, .del f s z x j y, none⟩ :: ops) i e S Q = WrO κ dst gl ops i e Q (delV S (dst.getD 0) s z (argv e S.ρ x) (argv e S.ρ j) (argv e S.ρ y)) := by
  rw [wr_op]
  congr 1
  simp only [ev, delV]
  split
  · rename_i s' z' n k m h1 h2 h3
    rw [h1, h2, h3]
    simp only
    split
    · unfold delA
      by_cases hk : 0 ≤ k
      · by_cases hm : 0 ≤ m
        · have e1 : (k ≤ m) = (k.toNat ≤ m.toNat) := propext (by omega)
          have e2 : ∀ n : Nat, (m ≤ (n : Int)) = (m.toNat ≤ n) := fun n => propext (by omega)
          simp only [hk, hm, and_self, true_and, if_true, e1, e2]
          rcases S.A s with _ | ⟨z3, rows, fz⟩
          · rfl
          · cases fz <;> cases S.A (dst.getD 0) <;> rfl
        · have e3 : ∀ (p q : Prop), (p ∧ q ∧ k ≤ m) ↔ False := fun p q => ⟨fun h => by omega, fun h => h.elim⟩
          have e4 : ¬ (k ≤ m) := by omega
          simp only [hk, hm, e4, and_false, false_and, if_false]
          rcases S.A s with _ | ⟨z3, rows, fz⟩
          · rfl
          · cases fz <;> cases S.A (dst.getD 0) <;> simp
      · simp only [hk, false_and, and_false, if_false]
        rcases S.A s with _ | ⟨z3, rows, fz⟩
        · rfl
        · cases fz <;> cases S.A (dst.getD 0) <;> simp
    · rfl
  · rename_i h
    split
    · rename_i s' z' n k m h1 h2 h3; exact absurd h3 (h s' z' n k m h1 h2)
    · rfl
end
theorem iad_r0 {z rows k} : iadV z (.slice z rows) (.int k 0) = (rows[0]?).map fun r => .cptr r 0 := by simp [iadV]
theorem iad_r1 {z rows k} : iadV z (.slice z rows) (.int k 1) = (rows[1]?).map fun r => .cptr r 0 := by simp [iadV]
theorem iad_r2 {z rows k} : iadV z (.slice z rows) (.int k 2) = (rows[2]?).map fun r => .cptr r 0 := by simp [iadV]
theorem bound_0 {k d} : bound (some (.int k 0)) d = some 0 := rfl
theorem bound_1 {k d} : bound (some (.int k 1)) d = some 1 := rfl
theorem bound_2 {k d} : bound (some (.int k 2)) d = some 2 := rfl
attribute [go_sem] iad_r0 iad_r1 iad_r2 bound_0 bound_1 bound_2
attribute [go_sem] ste_s st_e insa_s insv_o dela_s delv_o
attribute [go_sem high] wr_ins wr_del
attribute [go_sem] datsite_o dato_s capv_l capo_s capv_i capv_b capv_s capv_r frzm_nil frzm_cons
end Sg
