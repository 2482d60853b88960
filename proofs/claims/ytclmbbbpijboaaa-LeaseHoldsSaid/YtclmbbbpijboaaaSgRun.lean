/- Regions and code run by rewriting. -/
import Derived.Test.YtclmbbbpijboaaaSgEval
import Derived.Attr
import Derived.IntWalk
namespace Sg

def Wr (κ : Nat → List V → Option V) (ops : List Op) (i : Nat) (e : Nat → V) (S : St) (Q : St → Prop) : Prop := ∃ S', runOps κ ops i e S = some S' ∧ Q S'

def putS (gl : Bool) (dst : Option Nat) (S : St) (v : V) : St :=
  match gl, dst with
  | true, some d => ⟨upd S.ρ d v, S.μ, S.A⟩
  | _, _ => S

def WrO (κ : Nat → List V → Option V) (dst : Option Nat) (gl : Bool) (ops : List Op) (i : Nat) (e : Nat → V) (Q : St → Prop) : Option (V × St) → Prop
  | none => False
  | some (v, S) => Wr κ ops (i + 1) (upd e i v) (putS gl dst S v) Q

/-- a guarded operation -/
def WrG (κ : Nat → List V → Option V) (o : Op) (ops : List Op) (i : Nat) (e : Nat → V) (S : St) (Q : St → Prop) (b : Bool) : V → Prop
  | .tuple [] => Wr κ ops (i + 1) (upd e i .un) (putS o.gl o.dst S .un) Q
  | .bool t => (t = b → Wr κ ({ o with gd := none } :: ops) i e S Q) ∧ (t = !b → Wr κ ops (i + 1) (upd e i .un) (putS o.gl o.dst S .un) Q)
  | _ => False

/-- a condition -/
def WpC (κ : Nat → List V → Option V) (a b : C) (S : St) (Q : Ex → St → Prop) : V → Prop
  | .bool t => (t = true → Wp κ a S Q) ∧ (t = false → Wp κ b S Q)
  | _ => False

section
variable {κ : Nat → List V → Option V} {S : St} {Q : St → Prop} {R : Ex → St → Prop} {e : Nat → V} {i : Nat} {ops : List Op}

theorem put_eq {dst : Option Nat} {gl : Bool} {k : K} {gd} {v : V} : S.put ⟨dst, gl, k, gd⟩ v = putS gl dst S v := by
  cases gl <;> cases dst <;> rfl
theorem putS_t {d : Nat} {v : V} {ρ μ A} : putS true (some d) ⟨ρ, μ, A⟩ v = ⟨upd ρ d v, μ, A⟩ := rfl
theorem putS_t' {d : Nat} {v : V} : putS true (some d) S v = ⟨upd S.ρ d v, S.μ, S.A⟩ := rfl
theorem putS_f {d : Option Nat} {v : V} : putS false d S v = S := rfl
theorem putS_n {gl : Bool} {v : V} : putS gl none S v = S := by cases gl <;> rfl

theorem wp_reg {d : Bool} : Wp κ (.region d ops) S R = Wr κ ops 0 (fun _ => .undef) S (R .norm) := by
  refine propext ⟨fun h => ?_, fun h => wp_region h⟩
  obtain ⟨m, ex, S', h1, h2⟩ := h
  cases m with
  | zero => simp [exec] at h1
  | succ m =>
    simp only [exec, Option.bind_eq_some_iff, Option.some.injEq, Prod.mk.injEq] at h1
    obtain ⟨x, h1, rfl, rfl⟩ := h1
    exact ⟨x, h1, h2⟩

theorem wp_seq' {a b : C} : Wp κ (.seq a b) S R = Wp κ a S (Cont κ b R) := by
  refine propext ⟨fun h => ?_, wp_seq⟩
  obtain ⟨m, ex, S', h1, h2⟩ := h
  cases m with
  | zero => simp [exec] at h1
  | succ m =>
    simp only [exec, Option.bind_eq_some_iff] at h1
    obtain ⟨⟨x, S1⟩, h1, h3⟩ := h1
    refine ⟨m, x, S1, h1, ?_⟩
    cases x with
    | norm => exact ⟨m, ex, S', h3, h2⟩
    | ret => simp only [Option.some.injEq, Prod.mk.injEq] at h3; obtain ⟨rfl, rfl⟩ := h3; exact h2
    | exit id => simp only [Option.some.injEq, Prod.mk.injEq] at h3; obtain ⟨rfl, rfl⟩ := h3; exact h2

theorem wp_block' {id : Nat} {c : C} : Wp κ (.block id c) S R = Wp κ c S (Blk id R) := by
  refine propext ⟨fun h => ?_, wp_block⟩
  obtain ⟨m, ex, S', h1, h2⟩ := h
  cases m with
  | zero => simp [exec] at h1
  | succ m =>
    simp only [exec, Option.bind_eq_some_iff] at h1
    obtain ⟨⟨x, S1⟩, h1, h3⟩ := h1
    refine ⟨m, x, S1, h1, ?_⟩
    cases x with
    | norm => simp only [Option.some.injEq, Prod.mk.injEq] at h3; obtain ⟨rfl, rfl⟩ := h3; exact h2
    | ret => simp only [Option.some.injEq, Prod.mk.injEq] at h3; obtain ⟨rfl, rfl⟩ := h3; exact h2
    | exit id =>
      simp only at h3
      simp only [Blk]
      split at h3 <;> simp only [Option.some.injEq, Prod.mk.injEq] at h3 <;> obtain ⟨rfl, rfl⟩ := h3
      · rename_i e; rw [if_pos e]; exact h2
      · rename_i e; rw [if_neg e]; exact h2

theorem wp_ret' : Wp κ .ret S R = R .ret S := propext ⟨fun ⟨m, ex, S', h1, h2⟩ => by
  cases m <;> simp [exec] at h1
  obtain ⟨rfl, rfl⟩ := h1; exact h2, wp_ret⟩
theorem wp_exit' {id : Nat} : Wp κ (.exit id) S R = R (.exit id) S := propext ⟨fun ⟨m, ex, S', h1, h2⟩ => by
  cases m <;> simp [exec] at h1
  obtain ⟨rfl, rfl⟩ := h1; exact h2, wp_exit⟩
theorem wp_skip' : Wp κ .skip S R = R .norm S := propext ⟨fun ⟨m, ex, S', h1, h2⟩ => by
  cases m <;> simp [exec] at h1
  obtain ⟨rfl, rfl⟩ := h1; exact h2, wp_skip⟩

theorem cont_norm {b : C} : Cont κ b R .norm S = Wp κ b S R := rfl
theorem cont_ret {b : C} : Cont κ b R .ret S = R .ret S := rfl
theorem cont_exit {b : C} {id : Nat} : Cont κ b R (.exit id) S = R (.exit id) S := rfl
theorem blk_norm {id : Nat} : Blk id R .norm S = R .norm S := rfl
theorem blk_ret {id : Nat} : Blk id R .ret S = R .ret S := rfl
theorem blk_exit {id id' : Nat} : Blk id R (.exit id') S = if id' = id then R .norm S else R (.exit id') S := rfl

theorem wp_cond' {x : Arg} {a b : C} : Wp κ (.cond x a b) S R = WpC κ a b S R (argv (fun _ => .undef) S.ρ x) := by
  refine propext ⟨fun h => ?_, fun h => ?_⟩
  · obtain ⟨m, ex, S', h1, h2⟩ := h
    cases m with
    | zero => simp [exec] at h1
    | succ m =>
      simp only [exec] at h1
      split at h1
      · rename_i t ht
        rw [ht]
        refine ⟨fun e => ?_, fun e => ?_⟩ <;> subst e
        · exact ⟨m, ex, S', h1, h2⟩
        · exact ⟨m, ex, S', h1, h2⟩
      · simp at h1
  · unfold WpC at h
    split at h
    · rename_i t ht; exact wp_cond t ht h.1 h.2
    · exact h.elim

theorem wpc_bool {a b : C} {t : Bool} : WpC κ a b S R (.bool t) = ((t = true → Wp κ a S R) ∧ (t = false → Wp κ b S R)) := rfl
theorem wpc_t {a b : C} : WpC κ a b S R (.bool true) = Wp κ a S R := by simp [WpC]
theorem wpc_f {a b : C} : WpC κ a b S R (.bool false) = Wp κ b S R := by simp [WpC]

theorem wr_nil : Wr κ [] i e S Q = Q S := by simp [Wr, runOps]

theorem wr_op {dst : Option Nat} {gl : Bool} {k : K} : Wr κ (⟨dst, gl, k, none⟩ :: ops) i e S Q = WrO κ dst gl ops i e Q (ev κ (dst.getD 0) e S k) := by
  unfold Wr WrO
  simp only [runOps, step, wantedV, Option.bind_assoc]
  cases ev κ (dst.getD 0) e S k with
  | none => simp
  | some r =>
    obtain ⟨v, S1⟩ := r
    simp only [Option.bind_some, put_eq, Wr]

theorem wro_some {dst : Option Nat} {gl : Bool} {v : V} : WrO κ dst gl ops i e Q (some (v, S)) = Wr κ ops (i + 1) (upd e i v) (putS gl dst S v) Q := rfl

theorem wr_skip {o : Op} (h : wantedV e o.gd = some false) : Wr κ (o :: ops) i e S Q = Wr κ ops (i + 1) (upd e i .un) (putS o.gl o.dst S .un) Q := by
  obtain ⟨dst, gl, k, gd⟩ := o
  unfold Wr
  simp only [runOps, step, h, put_eq, Option.bind_some]
theorem wr_go {o : Op} (h : wantedV e o.gd = some true) : Wr κ (o :: ops) i e S Q = Wr κ ({ o with gd := none } :: ops) i e S Q := by
  obtain ⟨dst, gl, k, gd⟩ := o
  have h0 : wantedV e (Op.mk dst gl k none).gd = some true := rfl
  unfold Wr
  simp only [runOps, step, h, h0, put_eq]

theorem wr_gd {dst : Option Nat} {gl : Bool} {k : K} {j : Nat} {b : Bool} : Wr κ (⟨dst, gl, k, some (j, b)⟩ :: ops) i e S Q = WrG κ ⟨dst, gl, k, some (j, b)⟩ ops i e S Q b (e j) := by
  have hb : ∀ t b' : Bool, t ≠ b' → t = !b' := by decide
  unfold WrG
  split
  · rename_i he
    exact wr_skip (by simp [wantedV, he])
  · rename_i t ht
    refine propext ⟨fun h => ⟨fun e' => ?_, fun e' => ?_⟩, fun ⟨h1, h2⟩ => ?_⟩
    · rwa [wr_go (by simp [wantedV, ht, e'])] at h
    · rwa [wr_skip (by simp [wantedV, ht, e'])] at h
    · by_cases hb' : t = b
      · rw [wr_go (by simp [wantedV, ht, hb'])]; exact h1 hb'
      · rw [wr_skip (by simp [wantedV, ht, hb'])]; exact h2 (hb _ _ hb')
  · rename_i h1 h2
    refine propext ⟨fun h => ?_, fun h => h.elim⟩
    obtain ⟨S', h, -⟩ := h
    simp only [runOps, step] at h
    have : wantedV e (some (j, b)) = none := by
      unfold wantedV
      simp only
    rw [this] at h
    simp at h

theorem wrg_bool {o : Op} {b t : Bool} : WrG κ o ops i e S Q b (.bool t) = ((t = b → Wr κ ({ o with gd := none } :: ops) i e S Q) ∧ (t = !b → Wr κ ops (i + 1) (upd e i .un) (putS o.gl o.dst S .un) Q)) := rfl
theorem wrg_un {dst : Option Nat} {gl : Bool} {k : K} {gd} {b} : WrG κ ⟨dst, gl, k, gd⟩ ops i e S Q b (.tuple []) = Wr κ ops (i + 1) (upd e i .un) (putS gl dst S .un) Q := rfl
theorem wrg_tt {dst : Option Nat} {gl : Bool} {k : K} {gd} : WrG κ ⟨dst, gl, k, gd⟩ ops i e S Q true (.bool true) = Wr κ (⟨dst, gl, k, none⟩ :: ops) i e S Q := by simp [WrG]
theorem wrg_ff {dst : Option Nat} {gl : Bool} {k : K} {gd} : WrG κ ⟨dst, gl, k, gd⟩ ops i e S Q false (.bool false) = Wr κ (⟨dst, gl, k, none⟩ :: ops) i e S Q := by simp [WrG]
theorem wrg_tf {dst : Option Nat} {gl : Bool} {k : K} {gd} : WrG κ ⟨dst, gl, k, gd⟩ ops i e S Q true (.bool false) = Wr κ ops (i + 1) (upd e i .un) (putS gl dst S .un) Q := by simp [WrG]
theorem wrg_ft {dst : Option Nat} {gl : Bool} {k : K} {gd} : WrG κ ⟨dst, gl, k, gd⟩ ops i e S Q false (.bool true) = Wr κ ops (i + 1) (upd e i .un) (putS gl dst S .un) Q := by simp [WrG]

theorem upd_eq_ {α : Type} {f : Nat → α} {k : Nat} {v : α} : upd f k v k = v := by simp [upd]
theorem upd_ne_ {α : Type} {f : Nat → α} {k i : Nat} {v : α} (h : (i == k) = false) : upd f k v i = f i := by
  have : i ≠ k := by simpa using h
  simp [upd, this]

theorem wrg_it {o : Op} {t : Bool} (h1 : t = true → Wr κ ({ o with gd := none } :: ops) i e S Q) (h2 : t = false → Wr κ ops (i + 1) (upd e i .un) (putS o.gl o.dst S .un) Q) : WrG κ o ops i e S Q true (.bool t) := ⟨h1, h2⟩
theorem wrg_if {o : Op} {t : Bool} (h1 : t = false → Wr κ ({ o with gd := none } :: ops) i e S Q) (h2 : t = true → Wr κ ops (i + 1) (upd e i .un) (putS o.gl o.dst S .un) Q) : WrG κ o ops i e S Q false (.bool t) := ⟨h1, h2⟩
theorem wpc_i {a b : C} {t : Bool} (h1 : t = true → Wp κ a S R) (h2 : t = false → Wp κ b S R) : WpC κ a b S R (.bool t) := ⟨h1, h2⟩

theorem start_ρ {l : List V} {t : Nat} : (start l).ρ t = (l[t]?).getD .undef := rfl
theorem start_μ {l : List V} : (start l).μ = fun _ => none := rfl
theorem start_A {l : List V} : (start l).A = fun _ => none := rfl
/-- what a loop's turn is to show -/
def LQ {σ : Type} (I : σ → St → Prop) (m : σ → Nat) (s : σ) (W L Wv Wa : List Nat) (Q : Ex → St → Prop) : Ex → St → Prop
  | .norm, S' => ∃ s', m s' < m s ∧ I s' (S'.head W L Wv Wa)
  | x, S' => Q x S'

theorem lq_norm {σ : Type} {I : σ → St → Prop} {m : σ → Nat} {s : σ} {W L Wv Wa : List Nat} : LQ I m s W L Wv Wa R .norm S = ∃ s', m s' < m s ∧ I s' (S.head W L Wv Wa) := rfl
theorem lq_ret {σ : Type} {I : σ → St → Prop} {m : σ → Nat} {s : σ} {W L Wv Wa : List Nat} : LQ I m s W L Wv Wa R .ret S = R .ret S := rfl
theorem lq_exit {σ : Type} {I : σ → St → Prop} {m : σ → Nat} {s : σ} {W L Wv Wa : List Nat} {id : Nat} : LQ I m s W L Wv Wa R (.exit id) S = R (.exit id) S := rfl

theorem wp_lp {W L Wv Wa : List Nat} {c : C} {σ : Type} (I : σ → St → Prop) (m : σ → Nat) (s : σ) (h0 : I s (S.head W L Wv Wa))
    (hstep : ∀ s S, I s S → Wp κ c S (LQ I m s W L Wv Wa R)) : Wp κ (.loop W L Wv Wa c) S R :=
  wp_inv I m s h0 fun s S hI => (hstep s S hI).mono fun ex S' h => by cases ex <;> exact h

theorem head_ρ {Wv Wa : List Nat} {t : Nat} : (S.head [] [] Wv Wa).ρ t = scrubV Wv Wa (S.ρ t) := rfl
theorem head_μ {Wv Wa : List Nat} {t : Nat} : (S.head [] [] Wv Wa).μ t = if Wv.contains t then none else (S.μ t).map fun m => (bif Wa.isEmpty then m.1 else m.1.map (scrubC Wa), m.2) := rfl
theorem head_Aq {Wv Wa : List Nat} {t : Nat} : (S.head [] [] Wv Wa).A t = if Wa.contains t then none else S.A t := rfl
theorem scrub_int {Wv Wa : List Nat} {k n} : scrubV Wv Wa (.int k n) = .int k n := rfl
theorem scrub_bool {Wv Wa : List Nat} {n} : scrubV Wv Wa (.bool n) = .bool n := rfl
theorem scrub_str {Wv Wa : List Nat} {n} : scrubV Wv Wa (.str n) = .str n := rfl
theorem scrub_slice {Wv Wa : List Nat} {z n} : scrubV Wv Wa (.slice z n) = .slice z n := rfl
theorem scrub_func {Wv Wa : List Nat} {z n} : scrubV Wv Wa (.func z n) = .func z n := rfl
theorem scrub_undef {Wv Wa : List Nat} : scrubV Wv Wa .undef = .undef := rfl
theorem scrub_lref {Wv Wa : List Nat} {s o} : scrubV Wv Wa (.lref s o) = if Wv.contains s then .undef else .lref s o := rfl
theorem scrub_own {Wv Wa : List Nat} {s z n} : scrubV Wv Wa (.own s z n) = if Wa.contains s then .undef else .own s z n := rfl
theorem scrub_agg {Wv : List Nat} {cs} : scrubV Wv [] (.agg cs) = .agg cs := rfl
theorem scrub_tuple {Wv : List Nat} {cs} : scrubV Wv [] (.tuple cs) = .tuple cs := rfl
theorem contains_cons {a b : Nat} {l : List Nat} : (a :: l).contains b = ((b == a) || l.contains b) := rfl
theorem contains_nil {b : Nat} : ([] : List Nat).contains b = false := rfl

theorem shut1 {v : V} : shut [v] = v := rfl
theorem shut2 {v v' : V} {l : List V} : shut (v :: v' :: l) = .tuple (v :: v' :: l) := rfl
theorem outn {A j v} : outV A none j v = toD A v := rfl
theorem get_z {α : Type} {a : α} {l : List α} : (a :: l)[0]? = some a := rfl
theorem get_s {α : Type} {a : α} {l : List α} {n : Nat} : (a :: l)[n + 1]? = l[n]? := rfl

end

section
open _root_.Go (IntKind BinOp UnOp)
variable {S : St} {A : Nat → Option (Nat × List (List V) × Fz)}
theorem bin_i {o : BinOp} {k : IntKind} {a b : Int} : binV o (.int k a) (.int k b) = intBin o k a b := by simp [binV]
theorem bin_s {o : BinOp} {a b : List UInt8} : binV o (.str a) (.str b) = strBin o a b := rfl
theorem sh_i {o : BinOp} {k k' : IntKind} {a b : Int} : shV o (.int k a) (.int k' b) = if b < 0 then none else match o with
    | .shl => some (.int k (k.wrap (a * 2 ^ (min b.toNat k.bits))))
    | .shr => some (.int k (a.fdiv (2 ^ (min b.toNat k.bits))))
    | _ => none := rfl
theorem sh_r1 {k k' : IntKind} {a : Int} : shV .shr (.int k a) (.int k' 1) = some (.int k (a.fdiv 2)) := by cases k <;> simp [shV, IntKind.bits]
theorem eqv_i {k : IntKind} {a b : Int} : eqV .i (.int k a) (.int k b) = some (decide (a = b)) := by simp [eqV]
theorem eqv_b {a b : Bool} : eqV .b (.bool a) (.bool b) = some (a == b) := rfl
theorem eqv_s {a b : List UInt8} : eqV .s (.str a) (.str b) = some (decide (a = b)) := rfl
theorem un_b {b : Bool} : unV .not (.bool b) = some (.bool !b) := rfl
theorem un_i {k n} : unV .neg (.int k n) = some (.int k (k.wrap (0 - n))) := rfl
theorem sl_s {z lo hi s} : slV true z (.str s) lo hi = (bound hi s.length).bind fun h => (bound lo 0).bind fun l =>
      if l ≤ h ∧ h ≤ s.length then some (.str ((s.take h).drop l)) else none := rfl
theorem sl_r {z lo hi rows} : slV false z (.slice z rows) lo hi = (bound hi rows.length).bind fun h => (bound lo 0).bind fun l =>
      if l ≤ h ∧ h ≤ rows.length then some (.slice z ((rows.take h).drop l)) else none := by simp [slV]
theorem bound_n {d} : bound none d = some d := rfl
theorem bound_i {k d} {n : Nat} : bound (some (.int k n)) d = some n := by simp [bound]
theorem len_r {z rows} : lenV false (.slice z rows) = some (.int .i64 rows.length) := rfl
theorem len_s {s} : lenV true (.str s) = some (.int .i64 s.length) := rfl
theorem len_o {s z n} : lenV false (.own s z n) = some (.int .i64 n) := rfl
theorem iad_r {z rows k} {n : Nat} : iadV z (.slice z rows) (.int k n) = (rows[n]?).map fun r => .cptr r 0 := by simp [iadV]
theorem iad_o {s z m k} {n : Nat} : iadV z (.own s z m) (.int k n) = if n < m then some (.eref s n 0 m) else none := by simp [iadV]
theorem iada_l {z n s off k} {i : Nat} : iadaV z n (.lref s off) (.int k i) = if i < n then some (.lref s (off + i * z)) else none := by simp [iadaV]
theorem iada_c {z n cs off k} {i : Nat} : iadaV z n (.cptr cs off) (.int k i) = if i < n then some (.cptr cs (off + i * z)) else none := by simp [iadaV]
theorem fad_l {off s o} : fadV off (.lref s o) = some (.lref s (o + off)) := rfl
theorem fad_e {off s i o n} : fadV off (.eref s i o n) = some (.eref s i (o + off) n) := rfl
theorem fad_c {off cs o} : fadV off (.cptr cs o) = some (.cptr cs (o + off)) := rfl
theorem idx_s {s k} {n : Nat} : idxV (.str s) (.int k n) = (s[n]?).map fun b => .int .u8 b.toNat := by simp [idxV]
theorem ext_t {i vs} : extV i (.tuple vs) = vs[i]? := rfl
theorem conv_i {k k' n} : convV (.int k) (.int k' n) = some (.int k (k.wrap n)) := rfl
theorem conv_s {s} : convV .same (.str s) = some (.str s) := rfl
theorem ld_v {s n off} : loadV S (.v s) n (.lref s off) = (S.μ s).bind fun m => ldAt m.1 off n := by simp [loadV]
theorem ld_c {n cs off} : loadV S .c n (.cptr cs off) = ldAt cs off n := rfl
def ldE (n : Option Nat) (i off m : Nat) : Option (Nat × List (List V) × Fz) → Option V
  | some (_, rows, f) => if rows.length = m ∧ f ≠ .dead then (rows[i]?).bind fun r => ldAt r off n else none
  | none => none
theorem lde_s {n i off m z rows f} : ldE n i off m (some (z, rows, f)) = if rows.length = m ∧ f ≠ .dead then (rows[i]?).bind fun r => ldAt r off n else none := rfl
theorem ld_e {s n i off m} : loadV S (.e s) n (.eref s i off m) = ldE n i off m (S.A s) := by
  unfold loadV ldE
  simp only [if_true]
  rfl
def stV (S : St) (s off : Nat) (xs : List V) : Option (List V × Bool) → Option St
  | some (cs, false) => (setAt cs off xs).bind fun cs' => some { S with μ := upd S.μ s (some (cs', false)) }
  | _ => none
theorem stv_s {s off xs cs} : stV S s off xs (some (cs, false)) = (setAt cs off xs).bind fun cs' => some ⟨S.ρ, upd S.μ s (some (cs', false)), S.A⟩ := rfl
theorem st_v {s n off x} : storeV S (.v s) n (.lref s off) x = x.cells.bind fun xs => if xs.length = n then stV S s off xs (S.μ s) else none := by
  unfold storeV
  congr 1; funext xs
  split
  · simp only [if_true]
    split
    · rename_i h; rw [h]; rfl
    · rename_i h
      unfold stV
      split
      · rename_i cs h'; exact absurd h' (h cs)
      · rfl
  · rfl
theorem cells_i {k n} : (V.int k n).cells = some [.int k n] := rfl
theorem cells_b {n} : (V.bool n).cells = some [.bool n] := rfl
theorem cells_s {n} : (V.str n).cells = some [.str n] := rfl
theorem cells_r {z n} : (V.slice z n).cells = some [.slice z n] := rfl
theorem cells_a {n} : (V.agg n).cells = some n := rfl
theorem cells_u : V.undef.cells = none := rfl
theorem cells_f {f n} : (V.func f n).cells = some [.func f n] := rfl
theorem cells_n : V.niface.cells = some [.niface] := rfl
theorem cells_o {s z n} : (V.own s z n).cells = some [.own s z n] := rfl
theorem rows_r {z rows} : V.rowsOf z (.slice z rows) = some rows := by simp [V.rowsOf]
theorem rows_s {s} : V.rowsOf 1 (.str s) = some (s.map fun b => [.int .u8 b.toNat]) := rfl
theorem toD_i {k n} : toD A (.int k n) = some (.int k n) := rfl
theorem toD_b {n} : toD A (.bool n) = some (.bool n) := rfl
theorem toD_s {n} : toD A (.str n) = some (.str n) := rfl
theorem toD_r {z n} : toD A (.slice z n) = some (.slice z n) := rfl
theorem toD_f {z n} : toD A (.func z n) = some (.func z n) := rfl
theorem toD_a {n} : toD A (.agg n) = (mapO (toDC A) n).map .agg := rfl
theorem toD_o {s z n} : toD A (.own s z n) = toDC A (.own s z n) := rfl
theorem toD_t {vs} : toD A (.tuple vs) = none := rfl
theorem toDC_i {k n} : toDC A (.int k n) = some (.int k n) := rfl
theorem toDC_b {n} : toDC A (.bool n) = some (.bool n) := rfl
theorem toDC_s {n} : toDC A (.str n) = some (.str n) := rfl
theorem toDC_r {z n} : toDC A (.slice z n) = some (.slice z n) := rfl
theorem toDC_u : toDC A .undef = some .undef := rfl
theorem toDC_n : toDC A .niface = some .niface := rfl
def ownD (z n : Nat) : Option (Nat × List (List V) × Fz) → Option V
  | some (z', rows, f) => if z' = z ∧ rows.length = n ∧ f ≠ .dead then some (.slice z rows) else none
  | none => none
theorem ownd_s {z n : Nat} {rows f} : ownD z n (some (z, rows, f)) = if rows.length = n ∧ f ≠ .dead then some (.slice z rows) else none := by simp [ownD]
theorem toDC_o {s z n} : toDC A (.own s z n) = ownD z n (A s) := by unfold toDC ownD; rfl
def resC (n : Option Nat) : Option (List V × Bool) → Option V
  | some (cs, _) => ldAt cs 0 n
  | none => none
theorem resc_s {n cs f} : resC n (some (cs, f)) = ldAt cs 0 n := rfl
def resL (S : St) (n : Option Nat) : V → Option V
  | .lref s 0 => resC n (S.μ s)
  | _ => none
theorem resl_l {n s} : resL S n (.lref s 0) = resC n (S.μ s) := rfl
theorem resV_t {t} : resV S (.t t) = some (S.ρ t) := rfl
theorem resV_c {a n} : resV S (.cell a n) = resL S n (S.ρ a) := by
  simp only [resV, resL]
  generalize S.ρ a = x
  cases x with
  | lref s o => cases o with
    | zero => rfl
    | succ o => rfl
  | _ => rfl
theorem ldAt_n {cs : List V} {off} : ldAt cs off none = cs[off]? := rfl
theorem ldAt_s {cs : List V} {off n} : ldAt cs off (some n) = if off + n ≤ cs.length then some (.agg ((cs.drop off).take n)) else none := rfl
theorem call_no {κ d own fc as} : callV κ d S .no own fc as = if as.all V.dat then (κ fc.1 (as ++ fc.2)).bind fun r => adopt d S own r else none := rfl
theorem call_bo {κ d own fc as} : callV κ d S .borrow own fc as = (mapO (toD S.A) as).bind fun bs => (κ fc.1 (bs ++ fc.2)).bind fun r => if r.scalar then some (r, S) else none := rfl
theorem call_fr {κ d own fc as} : callV κ d S .freeze own fc as = (mapO (toD S.A) as).bind fun bs => (κ fc.1 (bs ++ fc.2)).bind fun r => adopt d { S with A := frzA S.A (as.flatMap sitesV) } own r := rfl
theorem adopt_n {d r} : adopt d S none r = some (r, S) := rfl
def adA (d : Nat) (S : St) (z : Nat) (rows : List (List V)) : Option (Nat × List (List V) × Fz) → Option (V × St)
  | none => some (.own d z rows.length, ⟨S.ρ, S.μ, upd S.A d (some (z, rows, .live))⟩)
  | some _ => none
theorem ada_n {d z rows} : adA d S z rows none = some (.own d z rows.length, ⟨S.ρ, S.μ, upd S.A d (some (z, rows, .live))⟩) := rfl
theorem adopt_s {d j z rows} : adopt d S (some j) (.slice z rows) = adA d S z rows (S.A d) := by
  simp only [adopt, adA]
  cases S.A d <;> rfl
def apA (S : St) (s z n : Nat) (y : V) : Option (Nat × List (List V) × Fz) → Option (V × St)
  | some (z'', rows, .live) => if z'' = z ∧ rows.length = n then (V.rowsOf z y).bind fun ys =>
          if rows.length + ys.length ≤ lim then some (.own s z (rows.length + ys.length), { S with A := upd S.A s (some (z, rows ++ ys, .live)) }) else none
        else none
  | _ => none
theorem app_o {s z n y} : appV S s z (.own s z n) y = apA S s z n y (S.A s) := by
  simp only [appV, apA, and_self, if_true]
  rfl
theorem apa_s {s z n y rows} : apA S s z n y (some (z, rows, .live)) = if rows.length = n then (V.rowsOf z y).bind fun ys =>
          if rows.length + ys.length ≤ lim then some (.own s z (rows.length + ys.length), ⟨S.ρ, S.μ, upd S.A s (some (z, rows ++ ys, .live))⟩) else none
        else none := by simp [apA]
def mkA (d : Nat) (S : St) (z : Nat) : Option (Nat × List (List V) × Fz) → Option (V × St)
  | none => some (.own d z 0, ⟨S.ρ, S.μ, upd S.A d (some (z, [], .live))⟩)
  | some _ => none
theorem frz_nil : frzA A [] = A := rfl
theorem sites_i {k n} : sitesV (.int k n) = [] := rfl
theorem sites_b {n} : sitesV (.bool n) = [] := rfl
theorem sites_s {n} : sitesV (.str n) = [] := rfl
theorem sites_r {z n} : sitesV (.slice z n) = [] := rfl
theorem sites_a {n} : sitesV (.agg n) = n.flatMap sitesC := rfl
theorem sites_o {s z n} : sitesV (.own s z n) = [s] := rfl
theorem sitesC_i {k n} : sitesC (.int k n) = [] := rfl
theorem sitesC_b {n} : sitesC (.bool n) = [] := rfl
theorem sitesC_s {n} : sitesC (.str n) = [] := rfl
theorem sitesC_r {z n} : sitesC (.slice z n) = [] := rfl
theorem sitesC_o {s z n} : sitesC (.own s z n) = [s] := rfl
theorem flat_nil {f : V → List Nat} : [].flatMap f = [] := rfl
theorem flat_cons {f : V → List Nat} {a l} : (a :: l).flatMap f = f a ++ l.flatMap f := rfl
theorem frz_cons {s l} : frzA A (s :: l) = frzA (upd A s ((A s).map fun (z, rows, f) => (z, rows, if f = .live then .frz else f))) l := rfl
theorem scal_i {k n} : (V.int k n).scalar = true := rfl
theorem scal_b {n} : (V.bool n).scalar = true := rfl
theorem scal_s {n} : (V.str n).scalar = true := rfl
theorem dat_i {k n} : (V.int k n).dat = true := rfl
theorem dat_b {n} : (V.bool n).dat = true := rfl
theorem dat_s {n} : (V.str n).dat = true := rfl
theorem dat_r {z n} : (V.slice z n).dat = true := rfl
theorem dat_f {z n} : (V.func z n).dat = true := rfl
theorem dat_c {z n} : (V.cptr z n).dat = true := rfl
theorem dat_a {n} : (V.agg n).dat = n.all V.datC := rfl
theorem datC_i {k n} : (V.int k n).datC = true := rfl
theorem datC_b {n} : (V.bool n).datC = true := rfl
theorem datC_s {n} : (V.str n).datC = true := rfl
theorem datC_r {z n} : (V.slice z n).datC = true := rfl
theorem datC_f {z n} : (V.func z n).datC = true := rfl
theorem datC_u : V.undef.datC = true := rfl
theorem datC_n : V.niface.datC = true := rfl
end

attribute [go_sem] wp_reg wp_seq' wp_block' wp_ret' wp_exit' wp_skip' cont_norm cont_ret cont_exit blk_norm blk_ret blk_exit wp_cond' wpc_t wpc_f wr_nil wr_op wro_some wr_gd wrg_un wrg_tt wrg_ff wrg_tf wrg_ft upd_eq_ upd_ne_ putS_t putS_t' putS_f putS_n start_ρ start_μ start_A get_z get_s
attribute [go_sem] lq_norm lq_ret lq_exit head_ρ head_μ head_Aq scrub_int scrub_bool scrub_str scrub_slice scrub_func scrub_undef scrub_lref scrub_own scrub_agg scrub_tuple contains_cons contains_nil List.isEmpty_nil List.isEmpty_cons Bool.or_false Bool.false_or Bool.or_true Bool.true_or Bool.false_eq_true
attribute [go_sem] ev argv intBin strBin callee mapO mapIdxO fillAt eqVs finish outn shut1 shut2
attribute [go_sem] bin_i bin_s sh_r1 eqv_i eqv_b eqv_s un_b un_i sl_s sl_r bound_n bound_i len_r len_s len_o iad_r iad_o iada_l iada_c fad_l fad_e fad_c idx_s ext_t conv_i conv_s ld_v ld_c ld_e st_v cells_i cells_b cells_s cells_r cells_a cells_u cells_f cells_n cells_o rows_r rows_s toD_i toD_b toD_s toD_r toD_a toD_f toD_o toD_t toDC_i toDC_b toDC_s toDC_r toDC_n toDC_o toDC_u resV_t resV_c ldAt_n ldAt_s call_no call_bo call_fr adopt_n scal_i scal_b scal_s dat_i dat_b dat_s dat_r dat_a dat_f dat_c datC_i datC_b datC_s datC_r datC_f datC_u datC_n fillRows List.reduceReplicate List.set_cons_zero List.set_cons_succ Nat.reduceLT Nat.reduceEqDiff and_self frz_nil frz_cons sites_i sites_b sites_s sites_r sites_a sites_o sitesC_i sitesC_b sitesC_s sitesC_r sitesC_o flat_nil flat_cons adopt_s ada_n app_o apa_s ne_eq not_false_eq_true stv_s lde_s ownd_s resc_s resl_l setAt List.length_map List.getElem?_map List.drop_zero List.drop_succ_cons List.take_succ_cons List.take_zero List.drop_nil List.take_nil Nat.reduceLeDiff Nat.zero_add Nat.add_zero
attribute [go_sem] Option.bind_some Option.bind_none Option.getD_some Option.getD_none Nat.reduceBEq Nat.reduceAdd reduceIte List.length_cons List.length_nil List.map_cons List.map_nil List.all_cons List.all_nil Option.map_some Option.map_none cond_true cond_false Bool.and_true Bool.true_and Bool.and_false Bool.false_and Bool.false_xor Bool.true_xor Nat.zero_le Nat.le_add_right Nat.le_refl beq_self_eq_true Int.ofNat_zero Int.cast_ofNat_Int decide_true decide_false Int.reduceEq Int.reduceLT Int.reduceLE Bool.not_true Bool.not_false List.length_append List.append_nil List.nil_append List.cons_append reduceCtorEq or_true true_or true_and and_true false_or or_false ite_true ite_false eq_self List.getElem?_nil
abbrev iz (n : Int) : V := .int .i64 n
theorem wrap64 {n : Int} (h1 : -9223372036854775808 ≤ n) (h2 : n ≤ 9223372036854775807) : _root_.Go.IntKind.i64.wrap n = n := _root_.Go.IntWalk.i64_in n ⟨h1, h2⟩
theorem drop_at {α : Type} {l : List α} {i : Nat} (h : i < l.length) : ∃ x, l[i]? = some x ∧ l.drop i = x :: l.drop (i + 1) :=
  ⟨l[i], by simp [h], List.drop_eq_getElem_cons h⟩
end Sg
