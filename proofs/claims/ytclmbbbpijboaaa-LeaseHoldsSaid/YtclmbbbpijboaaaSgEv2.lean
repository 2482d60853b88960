/- Every operation of the interpreter, against the model's. -/
import Derived.Test.YtclmbbbpijboaaaSgInv
import Derived.Test.YtclmbbbpijboaaaSgIns2
import Derived.Lib.SliceRun
namespace Sg
open Go Go.RowKit
set_option linter.unusedSimpArgs false
set_option linter.unusedVariables false


section
variable {P : Program} {cx : Cx} {B : Nat} {X : Nat → Prop} {S : St} {w : World} {β : Nat → Nat} {α : Nat → Value} {M : Nat → Prop}
variable {a : Act} {ds : List (Option Nat)} {e : Nat → V} {κ : Nat → List V → Option V} {ownOf : Nat → Option Nat}

theorem places_run : ∀ (fs : List Field) (pl : List (Nat × Nat)), placesL P fs = some pl → (fs.mapM fun f => do pure (f.offset, ← Go.sizeOf f.type) : Sem (List (Nat × Nat))).run P w = .ok pl w
  | [], pl, h => by simp only [placesL, Option.some.injEq] at h; subst h; simp
  | f :: fs, pl, h => by
    simp only [placesL, Option.bind_eq_some_iff, Option.some.injEq] at h
    obtain ⟨n, hn, r, hr, rfl⟩ := h
    have ih := places_run fs r hr
    simp only [List.mapM_cons, Sem.run_bind, run_sizeOf' hn w, Result.andThen, Sem.run_pure, ih]

theorem places_ok {t : TypeId} {pl : List (Nat × Nat)} (h : placesT P t = some pl) : ∃ fs, P.underlying t = some (.struct fs) ∧ (fs.mapM fun f => do pure (f.offset, ← Go.sizeOf f.type) : Sem (Array (Nat × Nat))).run P w = .ok pl.toArray w := by
  unfold placesT at h
  split at h
  · rename_i fs hu
    refine ⟨fs, hu, ?_⟩
    rw [Array.mapM_eq_mapM_toList]
    have := places_run (w := w) fs.toList pl h
    simp only [map_eq_pure_bind, Sem.run_bind, this, Result.andThen, Sem.run_pure]
  · simp at h

/-- a slice in a new block -/
theorem newData_post (h : RelW cx B X S w β α M) {z n : Nat} {rows : List (List V)} {cells : Array Value} {el : TypeId} (hdr : DR cx w (orP X M) z cells.toList rows) (hlen : rows.length = n) :
    OpPost cx B X S w β α M S (.slice z rows) (.slice (some ⟨w.heap.size, 0, none⟩) n n) { w with heap := w.heap.push (.cells cells el) } := by
  have hgr := grow_push w (.cells cells el)
  have hat := push_at w (.cells cells el)
  have hbel := below_push w (.cells cells el) h.size
  have hlt : w.heap.size < ({ w with heap := w.heap.push (.cells cells el) } : World).heap.size := by simp
  generalize ({ w with heap := w.heap.push (.cells cells el) } : World) = w2 at *
  have hw := h.grow hgr (M' := M) (fun _ h => h) (fun _ h => .inl h)
  have hD : ∀ u x, RelD cx w (orP X M) u x → RelD cx w2 (orP X M) u x := fun _ _ hr => grow_D hgr (fun _ h => .inl h) hr
  have hdr' := hdr.mono hD
  refine ⟨β, α, M, hw, fun u x hu => RelT.tr hD (ATr.refl S α) (fun s hs => ⟨hs, rfl⟩) hu, ?_, hbel⟩
  refine slice_mk (o := 0) (c := cells) (e := el) (fr := (0, 0)) hlt ?_ hat (by omega) hdr'.2.1 (fun i j hi hj => ?_) hlen
  · rintro (hx | hm)
    · have := h.xb _ hx; have := h.size; omega
    · have := (h.m _ hm).2; omega
  · obtain ⟨u, q1, q2, q3⟩ := hdr'.2.2 i j hi hj
    exact ⟨u, by simpa using q1, q2, q3⟩

theorem nilq_run {P : Program} {w : World} {t el : TypeId} {x y : Operand} {a0 : Option Addr} {n c : Nat} (h : P.underlying t = some (.slice el)) :
    (do eqGuard .eql t x y (.slice a0 n c) (.slice none 0 0); Go.binOp .eql t (.slice a0 n c) (.slice none 0 0) : Sem Value).run P w = .ok (.bool a0.isNone) w := by
  have hG : (eqGuard .eql t x y (.slice a0 n c) (.slice none 0 0)).run P w = .ok () w := by
    unfold eqGuard
    rfl
  simp only [Sem.run_bind, hG, Result.andThen]
  exact Lib.run_eql_slice_nil w t el a0 n c 0 0 h

/-- what a call may take asx its own; what needs a library function's own contract -/
def okOwn (ownOf : Nat → Option Nat) : K → Bool
  | .call (.k f) _ own _ => own.isNone || own == ownOf f
  | .call (.v _) _ own _ => own.isNone
  | .ins f _ z _ _ _ => decide (z < 1000) && ownOf f == some (1000 + z)
  | .del f _ z _ _ _ => ownOf f == some (2000 + z)
  | _ => true

theorem okK_ins {op : Go.Op} {f s z : Nat} {x y i : Arg} (h : okK P cx ds op (.ins f s z x i y) = true) : ∃ c : Call, op = .call c ∧ c.callee = .value (.func (cx.fm f)) ∧ okArgs cx ds c.args.toList [x, i, y] = true := by
  unfold okK at h
  split at h <;> first | (simp_all; done) | skip
  all_goals (rename_i f' args ts f'' s' z' a' b' c' heq; simp only [K.ins.injEq] at heq; obtain ⟨rfl, rfl, rfl, rfl, rfl, rfl⟩ := heq; simp only [Bool.and_eq_true, beq_iff_eq] at h; exact ⟨_, rfl, by rw [← h.1], h.2⟩)

theorem okK_del {op : Go.Op} {f s z : Nat} {x y i : Arg} (h : okK P cx ds op (.del f s z x i y) = true) : ∃ c : Call, op = .call c ∧ c.callee = .value (.func (cx.fm f)) ∧ okArgs cx ds c.args.toList [x, i, y] = true := by
  unfold okK at h
  split at h <;> first | (simp_all; done) | skip
  all_goals (rename_i f' args ts f'' s' z' a' b' c' heq; simp only [K.del.injEq] at heq; obtain ⟨rfl, rfl, rfl, rfl, rfl, rfl⟩ := heq; simp only [Bool.and_eq_true, beq_iff_eq] at h; exact ⟨_, rfl, by rw [← h.1], h.2⟩)

theorem run_enter {o : Oper} {c : Call} {f : FuncId} (ho : o.op = .call c) (hc : c.callee = .value (.func f)) (hE : Ent P f) : (execOp a.eval o).run P w = .ok (.enter f (c.args.map a.eval)) w := by
  have hres : (resolve a.eval c o.type).run P w = .ok { target := .fn (.func f) #[], args := #[] ++ c.args.map a.eval } w := by
    unfold resolve; rw [hc]; rfl
  unfold execOp
  simp only [ho, Sem.run_bind, hres, Result.andThen, invoke]
  rw [callFunc_enter hE]
  simp

theorem three_args (hg : ∀ t, RelT cx w (orP X M) S β α (a.tmps.getD t undef) (S.ρ t)) (hl : ∀ i d, ds[i]? = some (some d) → RelT cx w (orP X M) S β α (a.tmps.getD d undef) (e i))
    {c : Call} {x y z : Arg} (h : okArgs cx ds c.args.toList [x, y, z] = true) : ∃ u1 u2 u3, c.args.map a.eval = #[u1, u2, u3] ∧ RelT cx w (orP X M) S β α u1 (argv e S.ρ x) ∧ RelT cx w (orP X M) S β α u2 (argv e S.ρ y) ∧ RelT cx w (orP X M) S β α u3 (argv e S.ρ z) := by
  obtain ⟨hlen, hrel⟩ := okArgs_rel hg hl _ _ h
  obtain ⟨u1, p1, q1⟩ := hrel 0 (by simp)
  obtain ⟨u2, p2, q2⟩ := hrel 1 (by simp)
  obtain ⟨u3, p3, q3⟩ := hrel 2 (by simp)
  refine ⟨u1, u2, u3, ?_, q1, q2, q3⟩
  have hl : (c.args.toList.map a.eval).length = 3 := by simpa using hlen
  generalize hll : c.args.toList.map a.eval = l at p1 p2 p3 hl
  match l, hl with
  | [a1, a2, a3], _ =>
    simp at p1 p2 p3
    subst p1; subst p2; subst p3
    apply Array.ext'
    simpa using hll

theorem rel_i64 {v : Value} {k : IntKind} {n : Int} (h : RelT cx w (orP X M) S β α v (.int k n)) : v = .int k n := by
  simp only [RelT] at h
  cases h; rfl

/-- what is known of the functions that are called -/
structure KOK (P : Program) (cx : Cx) (ownOf : Nat → Option Nat) (κ : Nat → List V → Option V) : Prop where
  call : ∀ f args r, κ f args = some r → Ctr P cx (ownOf f) f args r
  ins : ∀ f z, z < 1000 → ownOf f = some (1000 + z) → ∃ tS el, InsC P (cx.fm f) z tS el
  del : ∀ f z, ownOf f = some (2000 + z) → DelC P (cx.fm f) z

theorem ev_sound {o : Oper} {k : K} {d : Nat} {r : V} {S1 : St} (h : RelW cx B X S w β α M)
    (hg : ∀ t, RelT cx w (orP X M) S β α (a.tmps.getD t undef) (S.ρ t)) (hl : ∀ i d, ds[i]? = some (some d) → RelT cx w (orP X M) S β α (a.tmps.getD d undef) (e i))
    (hκ : KOK P cx ownOf κ) (hok : okK P cx ds o.op k = true) (hown : okOwn ownOf k = true)
    (hev : ev κ d e S k = some (r, S1)) : Does P o a w (OpPost cx B X S w β α M S1 r) := by
  have arg := fun {x : Operand} {y : Arg} (h : okArg cx ds x y = true) => arg_rel hg hl h
  cases k with
  | mov y =>
    obtain ⟨x, hop, hx⟩ := okK_mov hok
    simp only [ev, Option.some.injEq, Prod.mk.injEq] at hev
    obtain ⟨rfl, rfl⟩ := hev
    refine .inl ⟨a.eval x, w, ?_, .pure h (arg hx)⟩
    rcases hop with hop | hop <;> simp [execOp, hop]
  | pick c x y =>
    obtain ⟨c', x', y', hop, h1, h2, h3⟩ := okK_pick hok
    simp only [ev] at hev
    have hc := arg h1
    split at hev <;> try (simp at hev; done)
    rename_i t ht
    rw [ht] at hc
    simp only [Option.some.injEq, Prod.mk.injEq] at hev
    obtain ⟨rfl, rfl⟩ := hev
    refine .inl ⟨if t then a.eval x' else a.eval y', w, ?_, .pure h ?_⟩
    · simp [execOp, hop, rel_bool hc, asBool]
    · cases t
      · exact arg h3
      · exact arg h2
  | box y =>
    obtain ⟨t, x, hop, hx⟩ := okK_box hok
    simp only [ev] at hev
    split at hev
    · simp at hev
    · rename_i hd
      simp only [Option.bind_eq_some_iff, Option.some.injEq, Prod.mk.injEq] at hev
      obtain ⟨cs, hcs, rfl, rfl⟩ := hev
      have := newVar_post (t := t) h hd (cells_rel (arg hx) hcs)
      rw [Array.toArray_toList] at this
      exact .value (s := Instr.box t (a.eval x)) (by simp [execOp, hop]) (by simp [Instr.box, newVar, newRow, Result.andThen]) this
  | alloc z =>
    obtain ⟨t, hop, hz⟩ := okK_alloc hok
    simp only [ev] at hev
    split at hev
    · simp at hev
    · rename_i hd
      simp only [Option.some.injEq, Prod.mk.injEq] at hev
      obtain ⟨rfl, rfl⟩ := hev
      obtain ⟨v, hv, hvz⟩ := run_zero (P := P) (w := w) hz
      have := newVar_post (t := t) h hd (zero_CR hvz)
      rw [Array.toArray_toList] at this
      exact .value (s := Instr.alloc t true (.tuple #[])) (by simp [execOp, hop]) (by simp [Instr.alloc, hv, newVar, newRow, Result.andThen]) this
  | build z qs =>
    obtain ⟨t, ps, pl, hop, hz, hpl, hok'⟩ := okK_build hok
    simp only [ev, Option.bind_eq_some_iff, Option.some.injEq, Prod.mk.injEq] at hev
    obtain ⟨cs, hcs, rfl, rfl⟩ := hev
    obtain ⟨v, hv, hvz⟩ := run_zero (P := P) (w := w) hz
    obtain ⟨cells, hf, hcr⟩ := fill_ok hg hl ps.toList qs v.cells z cs hok' (zero_CR hvz) hcs
    obtain ⟨fs, hu, hpl'⟩ := places_ok (w := w) hpl
    refine .value (s := Instr.build t (ps.map fun (i, x) => (i, a.eval x))) (v := .agg cells) (by simp only [execOp, hop]) ?_ (.pure h (by simpa using hcr.agg (β := β)))
    unfold Instr.build
    simp only [Sem.run_bind, hv, Result.andThen, run_underlying hu w, hpl', Array.toList_map, List.getElem?_toArray, hf, Sem.run_pure]
  | mks z n zero qs =>
    obtain ⟨t, len, ps, el, hop, h1, h2, h3, h4, h5, h6, h7, h8⟩ := okK_mks hok
    simp only [ev, Option.bind_eq_some_iff, Option.some.injEq, Prod.mk.injEq] at hev
    obtain ⟨rows, hrows, rfl, rfl⟩ := hev
    obtain ⟨cells, hrun, hdr, hlen⟩ := mks_ok hg hl h1 h2 h3 h4 h5 h6 h7 h8 hrows
    have e1 : (ps.toList.map fun (i, x) => (i, a.eval x)).toArray = ps.map fun (i, x) => (i, a.eval x) := by apply Array.ext'; simp
    rw [e1] at hrun
    have hpost := newData_post (el := el) h hdr hlen
    generalize ({ w with heap := w.heap.push (.cells cells el) } : World) = w2 at hrun hpost
    refine .inl ⟨_, w2, ?_, hpost⟩
    unfold execOp
    rw [hop]
    simp only [Sem.run_bind]
    erw [hrun]
    rfl
  | mko z =>
    obtain ⟨x, hop, rfl⟩ := okK_mko hok
    simp only [ev] at hev
    split at hev
    · simp at hev
    · rename_i hd
      simp only [Option.some.injEq, Prod.mk.injEq] at hev
      obtain ⟨rfl, rfl⟩ := hev
      refine .inl ⟨.slice none 0 0, w, by rcases hop with hop | hop <;> simp [execOp, hop, Act.eval], ?_⟩
      have hadd := h.addArr (d := d) (z0 := z) (rows0 := []) (v0 := .slice none 0 0) hd ⟨fun i hi => by simp at hi, .inl ⟨rfl, rfl⟩⟩ (fun b hb => by simp [hdr] at hb) (fun s b _ hb => by simp [hdr] at hb) (fun s z' r f _ _ b hb => by simp [hdr] at hb)
      have hT : ATr S { S with A := upd S.A d (some (z, [], .live)) } α (upd α d (.slice none 0 0)) := fun s z' r f hs => by
        have : s ≠ d := fun e => by rw [e, hd] at hs; simp at hs
        exact ⟨r, f, by simp [upd, this, hs], fun hf => ⟨hf, Nat.le_refl _, fun _ => by simp [upd, this]⟩⟩
      exact ⟨β, _, M, hadd, fun u x hu => RelT.tr (fun _ _ h => h) hT (fun s hs => ⟨hs, rfl⟩) hu, ⟨[], .live, none, 0, by simp [upd], rfl, by simp, fun _ => ⟨by simp, fun _ => by simp [upd]⟩⟩, Below.refl _ _⟩
  | mkb z n zero qs =>
    obtain ⟨t, len, ps, el, hop, h1, h2, h3, h4, h5, h6, h7, h8⟩ := okK_mks (okK_mkb hok)
    simp only [ev, Option.bind_eq_some_iff] at hev
    obtain ⟨rows, hrows, hev⟩ := hev
    obtain ⟨cells, hrun, hdr, hlen⟩ := mks_ok hg hl h1 h2 h3 h4 h5 h6 h7 h8 hrows
    have e1 : (ps.toList.map fun (i, x) => (i, a.eval x)).toArray = ps.map fun (i, x) => (i, a.eval x) := by apply Array.ext'; simp
    rw [e1] at hrun
    have hat : (w.heap.push (.cells cells el) : Array Obj)[w.heap.size]? = some (.cells cells el) := by simp
    have hold : ∀ k, k < w.heap.size → (w.heap.push (.cells cells el) : Array Obj)[k]? = w.heap[k]? := fun k hk => by
      rw [Array.getElem?_push]; simp [Nat.ne_of_lt hk]
    have hbel : Below w.heap.size w { w with heap := w.heap.push (.cells cells el) } := ⟨rfl, rfl, rfl, by simp, hold⟩
    have hD : ∀ u x, RelD cx w (orP X M) u x → RelD cx { w with heap := w.heap.push (.cells cells el) } (orP (orP X M) fun b => b = w.heap.size) u x := fun u x hr =>
      hr.mono (by simp) (fun b hb _ => hold b hb) (fun b hb hn hx => by
        rcases hx with hx | hx
        · exact hn hx
        · omega)
    have hall := hdr.mono hD
    have hro : ROut cx w { w with heap := w.heap.push (.cells cells el) } (orP X M) (some 0) (.slice (some ⟨w.heap.size, 0, none⟩) n n) (.slice z rows) :=
      ⟨_, z, rows, fun b => b = w.heap.size, fun b hb => by subst hb; exact ⟨Nat.le_refl _, by simp⟩, fun b hb => by simpa [Sg.hdr, eq_comm] using hb,
        ArrOK.of_DR hat hall (fun k hk => by simp) (by omega) (by
          have := hdr.1
          rw [Array.length_toList, hlen] at this
          omega) hlen, .inl ⟨rfl, rfl⟩⟩
    have hpost := adopt_ok (own := some 0) h hbel (.inr rfl) hro (fun b hb => by
      rcases hb with hb | hb
      · have := h.xb b hb; have := h.size; omega
      · exact (h.m b hb).2) hev
    generalize ({ w with heap := w.heap.push (.cells cells el) } : World) = w2 at hrun hpost
    refine .inl ⟨_, w2, ?_, hpost⟩
    unfold execOp
    rw [hop]
    simp only [Sem.run_bind]
    erw [hrun]
    rfl
  | frz s y =>
    obtain ⟨x, hop, h1⟩ := okK_frz hok
    simp only [ev] at hev
    have r1 := arg h1
    split at hev <;> try (simp at hev; done)
    rename_i s' z n hy
    split at hev <;> try (simp at hev; done)
    rename_i e0
    subst e0
    simp only [Option.bind_eq_some_iff, Option.some.injEq, Prod.mk.injEq] at hev
    obtain ⟨v, hv, rfl, rfl⟩ := hev
    rw [hy] at r1
    obtain ⟨M', f1, f2, f3, f4⟩ := frzA_ok [s'] h
    refine .inl ⟨a.eval x, w, by simp [execOp, hop], β, α, M', f1, fun u x hu => RelT.tr (S' := { S with A := frzA S.A [s'] }) (fun _ _ hr => sub_D f2 hr) f3 (fun s hs => ⟨hs, rfl⟩) hu,
      .of_data (toDC_ok h (x := .own s' z n) r1 hv (fun b hb => hb.imp id (f2 b)) (fun s hs b hb hex hn => ?_)), Below.refl _ _⟩
    rcases hn with hx | hm
    · obtain ⟨z, rows, f, e1, e2⟩ := hex
      have := ((h.arr s z rows f e1 e2).2 b hb).1
      have := h.xb b hx; omega
    · exact f4 s (by simpa [sitesC] using hs) b hb hex hm
  | nilq y =>
    obtain ⟨t, x, t', el, hop, h1, h2⟩ := okK_nilq hok
    simp only [ev] at hev
    have r1 := arg h1
    split at hev <;> simp only [Option.some.injEq, Prod.mk.injEq, reduceCtorEq] at hev
    · rename_i z hz
      obtain ⟨rfl, rfl⟩ := hev
      rw [hz] at r1
      simp only [RelT] at r1
      generalize hv : a.eval x = v at r1
      cases r1
      exact .value (s := do eqGuard .eql t x (.const (.slice none 0 0)) (a.eval x) (.slice none 0 0); Go.binOp .eql t (a.eval x) (.slice none 0 0)) (v := .bool true) (by simp only [execOp, hop]; rfl) (by rw [hv]; exact nilq_run h2) (.pure h (RelD.bool _))
    · rename_i z rows hz
      obtain ⟨rfl, rfl⟩ := hev
      rw [hz] at r1
      simp only [RelT] at r1
      generalize hv : a.eval x = v at r1
      cases r1
      exact .value (s := do eqGuard .eql t x (.const (.slice none 0 0)) (a.eval x) (.slice none 0 0); Go.binOp .eql t (a.eval x) (.slice none 0 0)) (v := .bool false) (by simp only [execOp, hop]; rfl) (by rw [hv]; exact nilq_run h2) (.pure h (RelD.bool _))
  | load l n y =>
    obtain ⟨t, p, hop, hp, hu, hn⟩ := okK_load hok
    simp only [ev, Option.bind_eq_some_iff, Option.some.injEq, Prod.mk.injEq] at hev
    obtain ⟨v, hv, rfl, rfl⟩ := hev
    obtain ⟨q, hrun, hq⟩ := load_ok (l := l) h (arg hp) hu hn hv
    exact .value (s := Instr.loadAt t (a.eval p)) (by simp [execOp, hop]) hrun (.pure h hq)
  | store l n y z =>
    obtain ⟨t, p, x, hop, hp, hx, hz⟩ := okK_store hok
    simp only [ev, Option.bind_eq_some_iff, Option.some.injEq, Prod.mk.injEq] at hev
    obtain ⟨S2, hv, rfl, rfl⟩ := hev
    obtain ⟨w', hrun, hpost⟩ := store_ok (l := l) h (arg hp) (arg hx) hz hv
    exact .inr (.inl ⟨w', by simp [execOp, hop, hrun, Result.andThen], hpost⟩)
  | bin o' y z =>
    obtain ⟨t, x, x', t', hop, h1, h2⟩ := okK_bin hok
    simp only [ev, Option.bind_eq_some_iff, Option.some.injEq, Prod.mk.injEq] at hev
    obtain ⟨v, hv, rfl, rfl⟩ := hev
    obtain ⟨q, hrun, hq⟩ := bin_ok (P := P) (t := t) (p := x) (q := x') (arg h1) (arg h2) hv
    exact .value (by simp only [execOp, hop]) hrun (.pure h (.of_data hq))
  | eqa ne sh y z =>
    obtain ⟨t, x, x', t', hop, h1, h2, h3, h4, h5⟩ := okK_eqa hok
    simp only [ev] at hev
    have r1 := arg h1
    have r2 := arg h2
    split at hev <;> try (simp at hev; done)
    rename_i xs ys e1 e2
    rw [e1] at r1
    rw [e2] at r2
    simp only [Option.bind_eq_some_iff, Option.some.injEq, Prod.mk.injEq] at hev
    obtain ⟨b, hb, rfl, rfl⟩ := hev
    exact .value (by simp only [execOp, hop]) (eqa_ok (p := x) (q := x') h3 h4 h5 r1 r2 hb) (.pure h (RelD.bool _))
  | eqb ne y z =>
    obtain ⟨t, x, x', t', hop, h1, h2, h3⟩ := okK_eqb hok
    simp only [ev] at hev
    have r1 := arg h1
    have r2 := arg h2
    split at hev <;> try (simp at hev; done)
    rename_i xs ys e1 e2
    rw [e1] at r1
    rw [e2] at r2
    simp only [Option.some.injEq, Prod.mk.injEq] at hev
    obtain ⟨rfl, rfl⟩ := hev
    have hrun := eqb_ok (P := P) (w := w) (ne := ne) (a := xs) (b := ys) (p := x) (q := x') h3
    rw [← rel_bool r1, ← rel_bool r2] at hrun
    exact .value (by simp only [execOp, hop]) hrun (.pure h (RelD.bool _))
  | sh o' y z =>
    obtain ⟨t, x, x', t', hop, h1, h2⟩ := okK_sh hok
    simp only [ev, Option.bind_eq_some_iff, Option.some.injEq, Prod.mk.injEq] at hev
    obtain ⟨v, hv, rfl, rfl⟩ := hev
    obtain ⟨q, hrun, hq⟩ := sh_ok (P := P) (t := t) (p := x) (q := x') (arg h1) (arg h2) hv
    exact .value (by simp only [execOp, hop]) hrun (.pure h (.of_data hq))
  | mm mx y z =>
    obtain ⟨x, x', ts, hop, h1, h2⟩ := okK_mm hok
    simp only [ev] at hev
    have r1 := arg h1
    have r2 := arg h2
    split at hev <;> try (simp at hev; done)
    rename_i k1 b1 k2 b2 e1 e2
    rw [e1] at r1
    rw [e2] at r2
    split at hev <;> try (simp at hev; done)
    rename_i hk
    subst hk
    simp only [Option.some.injEq, Prod.mk.injEq] at hev
    obtain ⟨rfl, rfl⟩ := hev
    have hrun := mm_ok (P := P) (w := w) (mx := mx) (k := k1) (a := b1) (b := b2) (ts := ts) (ty := o.type)
    refine .inl ⟨_, w, ?_, .pure h (RelD.int _ _)⟩
    cases mx
    · simp only [Bool.false_eq_true, if_false] at hop hrun
      simp [execOp, hop, resolve, invoke, builtin, rel_int r1, rel_int r2, hrun, Result.andThen]
    · simp only [if_true] at hop hrun
      simp [execOp, hop, resolve, invoke, builtin, rel_int r1, rel_int r2, hrun, Result.andThen]
  | un o' y =>
    obtain ⟨t, x, hop, h1⟩ := okK_un hok
    simp only [ev, Option.bind_eq_some_iff, Option.some.injEq, Prod.mk.injEq] at hev
    obtain ⟨v, hv, rfl, rfl⟩ := hev
    obtain ⟨q, hrun, hq⟩ := un_ok (P := P) (arg h1) hv
    exact .value (by simp only [execOp, hop]) hrun (.pure h (.of_data hq))
  | conv c y =>
    simp only [ev, Option.bind_eq_some_iff, Option.some.injEq, Prod.mk.injEq] at hev
    obtain ⟨v, hv, rfl, rfl⟩ := hev
    cases c with
    | int k =>
      obtain ⟨s, d', x, dd, hop, h1, h2, h3⟩ := okK_convi hok
      have r1 := arg h1
      cases hy : argv e S.ρ y <;> rw [hy] at hv r1 <;> simp only [convV, Option.some.injEq, reduceCtorEq] at hv
      rename_i k1 n
      subst hv
      have hrun := conv_int (P := P) (w := w) (n := n) (k' := k1) h2 h3
      rw [← rel_int r1] at hrun
      exact .value (by simp only [execOp, hop]) hrun (.pure h (RelD.int _ _))
    | same =>
      obtain ⟨s, d', x, hop, h1, h2, h3⟩ := okK_convs hok
      have r1 := arg h1
      cases hy : argv e S.ρ y <;> rw [hy] at hv r1 <;> simp only [convV, Option.some.injEq, reduceCtorEq] at hv
      rename_i l
      subst hv
      obtain ⟨b, hb, rfl⟩ := rel_str r1
      have hrun := conv_str (P := P) (w := w) (n := b) h2 h3
      rw [← hb] at hrun
      exact .value (by simp only [execOp, hop]) hrun (.pure h (by rw [hb]; exact RelD.str _))
  | fn f asx sites =>
    obtain ⟨cap, hop, h1⟩ := okK_fn hok
    have := fn_ok h hg hl h1 (by simpa only [ev] using hev)
    refine .inl ⟨_, w, ?_, this⟩
    have e1 : (cap.toList.map a.eval).toArray = cap.map a.eval := by apply Array.ext'; simp
    simp [execOp, hop, Instr.makeFunc, e1]
  | sl st z y lo hi =>
    obtain ⟨t, x, lo', hi', hop, h1, h2, h3, h4⟩ := okK_sl hok
    simp only [ev, Option.bind_eq_some_iff, Option.some.injEq, Prod.mk.injEq] at hev
    obtain ⟨v, hv, rfl, rfl⟩ := hev
    have opt : ∀ {o : Option Operand} {y : Option Arg}, okOpt cx ds o y = true → (o.map a.eval = none ∧ y.map (argv e S.ρ) = none) ∨ ∃ p q, o.map a.eval = some p ∧ y.map (argv e S.ρ) = some q ∧ RelT cx w (orP X M) S β α p q := by
      intro o y hoy
      unfold okOpt at hoy
      split at hoy
      · exact .inl ⟨rfl, rfl⟩
      · exact .inr ⟨_, _, rfl, rfl, arg hoy⟩
      · simp at hoy
    obtain ⟨q, hrun, hq⟩ := sl_ok (P := P) h4 (arg h1) (opt h2) (opt h3) hv
    exact .value (by simp only [execOp, hop, Option.map_none]) hrun (.pure h (.of_data hq))
  | fad y off =>
    obtain ⟨s, x, i, hop, h1, h2⟩ := okK_fad hok
    simp only [ev, Option.bind_eq_some_iff, Option.some.injEq, Prod.mk.injEq] at hev
    obtain ⟨v, hv, rfl, rfl⟩ := hev
    obtain ⟨q, hrun, hq⟩ := fad_ok (P := P) (arg h1) h2 hv
    exact .value (by simp only [execOp, hop]) hrun (.pure h hq)
  | iad z y i =>
    obtain ⟨t, x, x', el, hop, h1, h2, h3, h4⟩ := okK_iad hok
    simp only [ev, Option.bind_eq_some_iff, Option.some.injEq, Prod.mk.injEq] at hev
    obtain ⟨v, hv, rfl, rfl⟩ := hev
    obtain ⟨q, hrun, hq⟩ := iad_ok (P := P) h3 h4 (arg h1) (arg h2) hv
    exact .value (by simp only [execOp, hop]) hrun (.pure h hq)
  | iada z n y i =>
    obtain ⟨t, x, x', el, hop, h1, h2, h3, h4⟩ := okK_iada hok
    simp only [ev, Option.bind_eq_some_iff, Option.some.injEq, Prod.mk.injEq] at hev
    obtain ⟨v, hv, rfl, rfl⟩ := hev
    obtain ⟨q, hrun, hq⟩ := iada_ok (P := P) h3 h4 (arg h1) (arg h2) hv
    exact .value (by simp only [execOp, hop]) hrun (.pure h hq)
  | idx y i =>
    obtain ⟨t, x, x', hop, h1, h2, h3⟩ := okK_idx hok
    simp only [ev, Option.bind_eq_some_iff, Option.some.injEq, Prod.mk.injEq] at hev
    obtain ⟨v, hv, rfl, rfl⟩ := hev
    obtain ⟨q, hrun, hq⟩ := idx_ok (P := P) h3 (arg h1) (arg h2) hv
    exact .value (by simp only [execOp, hop]) hrun (.pure h (.of_data hq))
  | ext y i =>
    obtain ⟨x, hop, h1⟩ := okK_ext hok
    simp only [ev, Option.bind_eq_some_iff, Option.some.injEq, Prod.mk.injEq] at hev
    obtain ⟨v, hv, rfl, rfl⟩ := hev
    obtain ⟨q, hrun, hq⟩ := ext_ok (P := P) (arg h1) hv
    exact .value (by simp only [execOp, hop]) hrun (.pure h hq)
  | len st y =>
    obtain ⟨x, t, hop, h1, h2⟩ := okK_len hok
    simp only [ev, Option.bind_eq_some_iff, Option.some.injEq, Prod.mk.injEq] at hev
    obtain ⟨v, hv, rfl, rfl⟩ := hev
    obtain ⟨q, hrun, hq⟩ := len_ok (P := P) (ty := o.type) h2 (arg h1) hv
    refine .inl ⟨q, w, ?_, .pure h (.of_data hq)⟩
    simp [execOp, hop, resolve, invoke, builtin, hrun, Result.andThen]
  | app s z y y' =>
    obtain ⟨x, x', t, t', el, ie, zv, hop, h1, h2, h3, h4, h5, h6, h7, h8, h9, h10, hz0⟩ := okK_app hok
    simp only [ev] at hev
    have r1 := arg h1
    have r2 := arg h2
    have hx : ∃ n, argv e S.ρ y = .own s z n := by
      unfold appV at hev
      split at hev
      · split at hev
        · rename_i hc; obtain ⟨rfl, rfl⟩ := hc; rename_i n hy; exact ⟨n, hy⟩
        · simp at hev
      · simp at hev
    obtain ⟨n, hx⟩ := hx
    rw [hx] at r1 hev
    obtain ⟨q, w', hrun, hpost⟩ := app_ok (ty := o.type) h r1 r2 h3 h4 h5 h7 h8 h9 hz0 h10 hev
    exact .inl ⟨q, w', by simp [execOp, hop, resolve, invoke, builtin, hrun, Result.andThen], hpost⟩
  | ins f s z x i y =>
    obtain ⟨c, hop, hc, hargs⟩ := okK_ins hok
    simp only [okOwn, Bool.and_eq_true, decide_eq_true_eq, beq_iff_eq] at hown
    obtain ⟨tS, el, hI⟩ := hκ.ins f z hown.1 hown.2
    obtain ⟨u1, u2, u3, hu, r1, r2, r3⟩ := three_args hg hl hargs
    have hrun := run_enter (a := a) (w := w) hop hc hI.ent
    rw [hu] at hrun
    refine .inr (.inr ⟨_, _, _, hrun, ?_⟩)
    simp only [ev] at hev
    split at hev <;> try (simp at hev; done)
    rename_i s' z' n k z'' ys hx hi hy
    split at hev <;> try (simp at hev; done)
    rename_i hsz
    obtain ⟨rfl, rfl, rfl⟩ := hsz
    split at hev <;> try (simp at hev; done)
    rename_i z3 rows hA
    split at hev <;> try (simp at hev; done)
    rename_i hcond
    obtain ⟨rfl, hn, hk0, hkn, hlim⟩ := hcond
    simp only [Option.some.injEq, Prod.mk.injEq] at hev
    obtain ⟨rfl, rfl⟩ := hev
    rw [hx] at r1
    rw [hi] at r2
    rw [hy] at r3
    have hk : k = ((k.toNat : Nat) : Int) := by omega
    rw [rel_i64 r2, hk]
    have := ins_ok hI h hA hn (k := k.toNat) (by omega) hlim r1 r3
    exact this
  | del f s z x i j =>
    obtain ⟨c, hop, hc, hargs⟩ := okK_del hok
    simp only [okOwn, beq_iff_eq] at hown
    have hI := hκ.del f z hown
    obtain ⟨u1, u2, u3, hu, r1, r2, r3⟩ := three_args hg hl hargs
    have hrun := run_enter (a := a) (w := w) hop hc hI.ent
    rw [hu] at hrun
    refine .inr (.inr ⟨_, _, _, hrun, ?_⟩)
    simp only [ev] at hev
    split at hev <;> try (simp at hev; done)
    rename_i s' z' n k m hx hi hy
    split at hev <;> try (simp at hev; done)
    rename_i hsz
    obtain ⟨rfl, rfl⟩ := hsz
    split at hev <;> try (simp at hev; done)
    rename_i z3 rows hA hd
    split at hev <;> try (simp at hev; done)
    rename_i hcond
    obtain ⟨rfl, hn, hk0, hkm, hmn, hlim⟩ := hcond
    simp only [Option.some.injEq, Prod.mk.injEq] at hev
    obtain ⟨rfl, rfl⟩ := hev
    rw [hx] at r1
    rw [hi] at r2
    rw [hy] at r3
    have hk : k = ((k.toNat : Nat) : Int) := by omega
    have hm : m = ((m.toNat : Nat) : Int) := by omega
    rw [rel_i64 r2, rel_i64 r3, hk, hm]
    have := del_ok hI h hA hd hn (k := k.toNat) (m := m.toNat) (by omega) (by omega) hlim r1
    exact this
  | bad => simp [ev] at hev
  | call f cv own asx =>
    obtain ⟨x, c, hop, hcx, hcal, hargs⟩ := okK_call hok
    refine call_ok h hg hl hκ.call ?_ hop hcx hcal hargs (by simpa only [ev] using hev)
    cases f with
    | k f => simp only [okOwn, Bool.or_eq_true, beq_iff_eq, Option.isNone_iff_eq_none] at hown; exact hown.imp id (fun h => ⟨f, rfl, h⟩)
    | v y => simp only [okOwn, Option.isNone_iff_eq_none] at hown; exact .inl hown
  | nilc y =>
    obtain ⟨x, hop, h1⟩ := okK_nilc hok
    have r1 := arg h1
    simp only [ev] at hev
    split at hev <;> simp only [Option.some.injEq, Prod.mk.injEq, reduceCtorEq] at hev
    · rename_i s' o' hy
      obtain ⟨rfl, rfl⟩ := hev
      rw [hy] at r1
      obtain ⟨q1, q2⟩ := r1
      exact .inl ⟨_, w, by simp [execOp, hop, q2], .pure h ⟨q1, rfl⟩⟩
    · rename_i s' i' o' n' hy
      obtain ⟨rfl, rfl⟩ := hev
      rw [hy] at r1
      have r2 := r1
      obtain ⟨_, _, _, _, _, _, _, q2, _⟩ := r1
      exact .inl ⟨a.eval x, w, by simp [execOp, hop, q2], .pure h r2⟩
    · rename_i cs o' hy
      obtain ⟨rfl, rfl⟩ := hev
      rw [hy] at r1
      have r2 := r1
      simp only [RelT] at r1
      obtain ⟨b, o'', c, el, fr, q2, _⟩ := cptr_inv r1
      exact .inl ⟨a.eval x, w, by simp [execOp, hop, q2], .pure h r2⟩

end
end Sg
