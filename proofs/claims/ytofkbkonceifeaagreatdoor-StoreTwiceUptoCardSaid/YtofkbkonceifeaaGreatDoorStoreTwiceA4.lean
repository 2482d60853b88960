/- StoreTwice, wherever what it reads is of bulk at most 1048576: proved over a checked abstract run of the translated code; no condition but that. A part. -/
import Derived.Test.YtofkbkonceifeaaGreatDoorChecked
import Derived.Lib.LaidU8
import Derived.Lib.OthersKept
import Derived.Laws.RangeAny
import Derived.WalkKit
import Derived.BigCall
import Derived.Test.YtofkbkonceifeaaGreatDoorG3
namespace Sg
def look {α : Type} : List (Nat × α) → Nat → Option α
  | [], _ => none
  | (k, a) :: l, n => if k = n then some a else look l n
def cxOf (l : List (Nat × Nat)) : Cx where
  fm := fun n => (look l n).getD 0
  tm := fun n => n
def plQ : Option Nat → Bool
  | some j => decide (j < 3000)
  | none => true
def rfQ (F : F) (j : Nat) : Bool := F.own.isNone && nsC j F.body && decide (j < 1000)
def okTab (P : Go.Program) (cx : Cx) (tab : List (Nat × Fn)) : List (Nat × Fn) → Bool
  | [] => true
  | (k, .code F) :: l => okF P cx (look tab) (cx.fm k) F && okTab P cx tab l
  | (k, .codeR F j) :: l => okF P cx (look tab) (cx.fm k) F && rfQ F j && okTab P cx tab l
  | (_, .prim o _) :: l => plQ o && okTab P cx tab l
theorem look_mem {α : Type} : ∀ {l : List (Nat × α)} {n : Nat} {a : α}, look l n = some a → (n, a) ∈ l
  | (k, b) :: l, n, a, h => by
    simp only [look] at h
    split at h
    · rename_i e; subst e; simp only [Option.some.injEq] at h; subst h; exact List.mem_cons_self
    · exact List.mem_cons_of_mem _ (look_mem h)
  | [], n, a, h => by simp [look] at h
def fnQ (P : Go.Program) (cx : Cx) (tab : List (Nat × Fn)) (k : Nat) : Fn → Prop
  | .code F => okF P cx (look tab) (cx.fm k) F = true
  | .codeR F j => okF P cx (look tab) (cx.fm k) F = true ∧ rfQ F j = true
  | .prim o _ => plQ o = true
theorem okTab_spec {P : Go.Program} {cx : Cx} {tab : List (Nat × Fn)} : ∀ {l : List (Nat × Fn)}, okTab P cx tab l = true → ∀ k f, (k, f) ∈ l → fnQ P cx tab k f
  | (k', g) :: l, h, k, f, hm => by
    have h2 : fnQ P cx tab k' g ∧ okTab P cx tab l = true := by
      cases g <;> simp only [okTab, Bool.and_eq_true] at h
      · exact h
      · exact h
      · exact ⟨h.1, h.2⟩
    simp only [List.mem_cons, Prod.mk.injEq] at hm
    rcases hm with ⟨rfl, rfl⟩ | hm
    · exact h2.1
    · exact okTab_spec h2.2 k f hm
  | [], h, k, f, hm => by simp at hm
theorem tab_sound {P : Go.Program} {cx : Cx} {tab : List (Nat × Fn)} (hm : P.follows .mixedOrders = true) (hok : okTab P cx tab tab = true)
    (hprim : ∀ f own p, look tab f = some (.prim own p) → ∀ args r, p args = some r → Ctr P cx own f args r)
    (hins : ∀ f z p, z < 1000 → look tab f = some (.prim (some (1000 + z)) p) → ∃ tS el, InsC P (cx.fm f) z tS el) (hdel : ∀ f z p, look tab f = some (.prim (some (2000 + z)) p) → DelC P (cx.fm f) z)
    (n f : Nat) (args : List V) (r : V) (h : callN (look tab) n f args = some r) : Ctr P cx (ownOf (look tab) f) f args r :=
  (callN_soundR hm (fun f F hf => okTab_spec hok f _ (look_mem hf)) hprim hins hdel (fun f F k hf => by
    have h1 : fnQ P cx tab f (.codeR F k) := okTab_spec hok f _ (look_mem hf)
    have h2 := h1.2
    simp only [rfQ, Bool.and_eq_true, Option.isNone_iff_eq_none] at h2
    exact ⟨h1.1, h2.1.1, h2.1.2⟩) (fun f own p hf k hk ho => by
    have h1 : fnQ P cx tab f (.prim own p) := okTab_spec hok f _ (look_mem hf)
    subst ho
    simp only [fnQ, plQ, decide_eq_true_eq] at h1
    omega) n f args r h).1
end Sg
namespace Sg
open _root_.Go (IntKind BinOp UnOp)
def r153_0 : List Op := [t_ 4 <|.mov (cb false)]
def r153_1 : List Op := [f_ 6 <|.mov (.g 0),f_ 7 <|.len false (.l 0),f_ 8 <|.mov (.g 1),f_ 9 <|.len false (.l 2),t_ 10 <|.bin .neq (.l 1) (.l 3)]
def r153_2 : List Op := [t_ 4 <|.mov (cb false)]
def r153_3 : List Op := [t_ 5 <|.mov (ci 0)]
def r153_4 : List Op := [f_ 11 <|.mov (.g 5),f_ 12 <|.mov (.g 0),f_ 13 <|.len false (.l 1),t_ 14 <|.bin .lss (.l 0) (.l 2)]
def r153_5 : List Op := [f_ 17 <|.mov (.g 0),f_ 18 <|.mov (.g 5),f_ 19 <|.iad 5 (.l 0) (.l 1),f_ 20 <|.load (.c) (some 5) (.l 2),f_ 21 <|.mov (.g 1),f_ 22 <|.mov (.g 5),f_ 23 <|.iad 5 (.l 4) (.l 5),f_ 24 <|.load (.c) (some 5) (.l 6),t_ 25 <|.eqa true [.s, .s, .i, .i, .i] (.l 3) (.l 7)]
def r153_6 : List Op := [t_ 4 <|.mov (cb false)]
def r153_7 : List Op := [f_ 15 <|.mov (.g 5),f_ 16 <|.bin .add (.l 0) (ci 1),t_ 5 <|.mov (.l 1)]
def b153_0 : C := .seq (.seq (.region false r153_4) (.cond (.g 14) (.skip) (.exit 0))) (.seq (.block 1 (.seq (.region true r153_5) (.cond (.g 25) (.seq (.region false r153_6) (.ret)) (.skip)))) (.region false r153_7))
def l153_0 : C := .loop [] [] [] [] b153_0
def r153_8 : List Op := [t_ 4 <|.mov (cb true)]
def c153 : C := .seq (.region false r153_0) (.seq (.seq (.region false r153_1) (.cond (.g 10) (.seq (.region false r153_2) (.ret)) (.skip))) (.seq (.seq (.region false r153_3) (.block 0 (l153_0))) (.seq (.region false r153_8) (.ret))))
def F153 : F := ⟨2, [0, 1, 4, 5, 10, 14, 25], [.t 4], none, c153⟩
attribute [go_sem] r153_0 r153_1 r153_2 r153_3 r153_4 r153_5 r153_6 r153_7 b153_0 r153_8 c153 F153
def r168_0 : List Op := [t_ 2 <|.mov (cb false)]
def r168_1 : List Op := [f_ 5 <|.mov (.g 0),f_ 6 <|.len true (.l 0),f_ 7 <|.bin .eql (.l 1) (ci 0),f_ 8 <|.mov (.l 2),n_ 9 3 <|.mov (.g 0),n_ 10 3 <|.len true (.l 4),n_ 11 3 <|.bin .gtr (.l 5) (ci 16),t_ 12 <|.pick (.l 3) (cb true) (.l 6)]
def r168_2 : List Op := [t_ 2 <|.mov (cb false)]
def r168_3 : List Op := [f_ 13 <|.mov (.g 0),f_ 14 <|.len true (.l 0),t_ 15 <|.bin .gtr (.l 1) (ci 0)]
def r168_4 : List Op := [f_ 17 <|.mov (.g 0),f_ 18 <|.call (.k 188) .no none [.l 0],f_ 16 <|.mov (.l 1),f_ 19 <|.ext (.l 2) 0,f_ 20 <|.ext (.l 2) 1,t_ 3 <|.mov (.l 3),t_ 4 <|.mov (.l 4)]
def r168_5 : List Op := [f_ 21 <|.mov (.g 3),f_ 22 <|.call (.k 189) .no none [.l 0],t_ 23 <|.un .not (.l 1)]
def r168_6 : List Op := [t_ 2 <|.mov (cb false)]
def r168_7 : List Op := [f_ 24 <|.mov (.g 0),f_ 25 <|.mov (.g 4),f_ 26 <|.sl true 0 (.l 0) (some (.l 1)) none,t_ 0 <|.mov (.l 2)]
def b168_0 : C := .seq (.seq (.region false r168_3) (.cond (.g 15) (.skip) (.exit 0))) (.block 1 (.seq (.region false r168_4) (.seq (.seq (.region false r168_5) (.cond (.g 23) (.seq (.region false r168_6) (.ret)) (.skip))) (.region false r168_7))))
def l168_0 : C := .loop [] [] [] [] b168_0
def r168_8 : List Op := [t_ 2 <|.mov (cb true)]
def c168 : C := .seq (.region false r168_0) (.seq (.seq (.region false r168_1) (.cond (.g 12) (.seq (.region false r168_2) (.ret)) (.skip))) (.seq (.block 0 (l168_0)) (.seq (.region false r168_8) (.ret))))
def F168 : F := ⟨1, [0, 2, 3, 4, 12, 15, 23], [.t 2], none, c168⟩
attribute [go_sem] r168_0 r168_1 r168_2 r168_3 r168_4 r168_5 r168_6 r168_7 b168_0 r168_8 c168 F168
def r171_0 : List Op := [t_ 2 <|.box (.g 0),t_ 4 <|.mov (cb false)]
def r171_1 : List Op := [f_ 5 <|.load (.v 2) (some 2) (.g 2),f_ 6 <|.call (.k 186) .no none [.l 0],f_ 7 <|.mov (.l 1),y_ 8 2 <|.mov (.g 1),y_ 9 2 <|.call (.k 170) .no none [.l 3],f_ 10 <|.pick (.l 2) (.l 4) (cb false),f_ 11 <|.mov (.l 5),y_ 12 6 <|.fad (.g 2) 0,y_ 13 6 <|.load (.v 2) none (.l 7),y_ 14 6 <|.mov (.g 1),y_ 15 6 <|.call (.k 192) .no none [.l 8, .l 9],y_ 16 6 <|.bin .leq (.l 10) (ci 0),f_ 17 <|.pick (.l 6) (.l 11) (cb false),f_ 18 <|.mov (.l 12),y_ 19 13 <|.fad (.g 2) 1,y_ 20 13 <|.load (.v 2) none (.l 14),y_ 21 13 <|.bin .eql (.l 15) (.c (.str [])),y_ 22 13 <|.mov (.l 16),n_ 23 17 <|.mov (.g 1),n_ 24 17 <|.fad (.g 2) 1,n_ 25 17 <|.load (.v 2) none (.l 19),n_ 26 17 <|.call (.k 192) .no none [.l 18, .l 20],n_ 27 17 <|.bin .lss (.l 21) (ci 0),y_ 28 13 <|.pick (.l 17) (cb true) (.l 22),f_ 29 <|.pick (.l 13) (.l 23) (cb false),t_ 4 <|.mov (.l 24)]
def c171 : C := .seq (.region false r171_0) (.seq (.region false r171_1) (.ret))
def F171 : F := ⟨2, [0, 1, 2, 4], [.t 4], none, c171⟩
attribute [go_sem] r171_0 r171_1 c171 F171
def r186_0 : List Op := [t_ 1 <|.box (.g 0),t_ 2 <|.mov (cb false)]
def r186_1 : List Op := [f_ 3 <|.fad (.g 1) 0,f_ 4 <|.load (.v 1) none (.l 0),f_ 5 <|.bin .neq (.l 1) (.c (.str [])),f_ 6 <|.mov (.l 2),y_ 7 3 <|.fad (.g 1) 0,y_ 8 3 <|.load (.v 1) none (.l 4),y_ 9 3 <|.call (.k 170) .no none [.l 5],y_ 10 3 <|.un .not (.l 6),t_ 11 <|.pick (.l 3) (.l 7) (cb false)]
def r186_2 : List Op := [t_ 2 <|.mov (cb false)]
def r186_3 : List Op := [f_ 12 <|.fad (.g 1) 1,f_ 13 <|.load (.v 1) none (.l 0),f_ 14 <|.bin .eql (.l 1) (.c (.str [])),f_ 15 <|.mov (.l 2),n_ 16 3 <|.fad (.g 1) 1,n_ 17 3 <|.load (.v 1) none (.l 4),n_ 18 3 <|.call (.k 170) .no none [.l 5],n_ 19 3 <|.mov (.l 6),y_ 20 7 <|.fad (.g 1) 0,y_ 21 7 <|.load (.v 1) none (.l 8),y_ 22 7 <|.fad (.g 1) 1,y_ 23 7 <|.load (.v 1) none (.l 10),y_ 24 7 <|.call (.k 192) .no none [.l 9, .l 11],y_ 25 7 <|.bin .lss (.l 12) (ci 0),n_ 26 3 <|.pick (.l 7) (.l 13) (cb false),f_ 27 <|.pick (.l 3) (cb true) (.l 14),t_ 2 <|.mov (.l 15)]
def c186 : C := .seq (.region false r186_0) (.seq (.seq (.region false r186_1) (.cond (.g 11) (.seq (.region false r186_2) (.ret)) (.skip))) (.seq (.region false r186_3) (.ret)))
def F186 : F := ⟨1, [0, 1, 2, 11], [.t 2], none, c186⟩
attribute [go_sem] r186_0 r186_1 r186_2 r186_3 c186 F186
def r187_0 : List Op := [t_ 4 <|.mov (ci 0)]
def r187_1 : List Op := [f_ 8 <|.mov (.g 0),f_ 9 <|.call (.k 195) .no none [.l 0],f_ 10 <|.mov (.g 1),f_ 11 <|.call (.k 195) .no none [.l 2],t_ 5 <|.mov (.l 1),t_ 6 <|.mov (.l 3)]
def r187_2 : List Op := [t_ 7 <|.mov (ci 0)]
def r187_3 : List Op := [f_ 12 <|.mov (.g 7),f_ 13 <|.mov (.g 5),f_ 14 <|.len false (.l 1),f_ 15 <|.bin .lss (.l 0) (.l 2),f_ 16 <|.mov (.l 3),y_ 17 4 <|.mov (.g 7),y_ 18 4 <|.mov (.g 6),y_ 19 4 <|.len false (.l 6),y_ 20 4 <|.bin .lss (.l 5) (.l 7),t_ 21 <|.pick (.l 4) (.l 8) (cb false)]
def r187_4 : List Op := [f_ 24 <|.mov (.g 5),f_ 25 <|.mov (.g 7),f_ 26 <|.iad 1 (.l 0) (.l 1),f_ 27 <|.load (.c) none (.l 2),f_ 28 <|.mov (.g 6),f_ 29 <|.mov (.g 7),f_ 30 <|.iad 1 (.l 4) (.l 5),f_ 31 <|.load (.c) none (.l 6),t_ 32 <|.bin .lss (.l 3) (.l 7)]
def r187_5 : List Op := [t_ 4 <|.mov (ci (-1))]
def r187_6 : List Op := [f_ 33 <|.mov (.g 5),f_ 34 <|.mov (.g 7),f_ 35 <|.iad 1 (.l 0) (.l 1),f_ 36 <|.load (.c) none (.l 2),f_ 37 <|.mov (.g 6),f_ 38 <|.mov (.g 7),f_ 39 <|.iad 1 (.l 4) (.l 5),f_ 40 <|.load (.c) none (.l 6),t_ 41 <|.bin .gtr (.l 3) (.l 7)]
def r187_7 : List Op := [t_ 4 <|.mov (ci 1)]
def r187_8 : List Op := [f_ 22 <|.mov (.g 7),f_ 23 <|.bin .add (.l 0) (ci 1),t_ 7 <|.mov (.l 1)]
def b187_0 : C := .seq (.seq (.region false r187_3) (.cond (.g 21) (.skip) (.exit 0))) (.seq (.block 1 (.seq (.seq (.region true r187_4) (.cond (.g 32) (.seq (.region false r187_5) (.ret)) (.skip))) (.seq (.region true r187_6) (.cond (.g 41) (.seq (.region false r187_7) (.ret)) (.skip))))) (.region false r187_8))
def l187_0 : C := .loop [] [] [] [] b187_0
def r187_9 : List Op := [f_ 42 <|.mov (.g 5),f_ 43 <|.len false (.l 0),f_ 44 <|.mov (.g 6),f_ 45 <|.len false (.l 2),t_ 46 <|.bin .lss (.l 1) (.l 3)]
def r187_10 : List Op := [t_ 4 <|.mov (ci (-1))]
def r187_11 : List Op := [f_ 47 <|.mov (.g 5),f_ 48 <|.len false (.l 0),f_ 49 <|.mov (.g 6),f_ 50 <|.len false (.l 2),t_ 51 <|.bin .gtr (.l 1) (.l 3)]
def r187_12 : List Op := [t_ 4 <|.mov (ci 1)]
def r187_13 : List Op := [t_ 4 <|.mov (ci 0)]
def c187 : C := .seq (.region false r187_0) (.seq (.region false r187_1) (.seq (.seq (.region false r187_2) (.block 0 (l187_0))) (.seq (.seq (.region false r187_9) (.cond (.g 46) (.seq (.region false r187_10) (.ret)) (.skip))) (.seq (.seq (.region false r187_11) (.cond (.g 51) (.seq (.region false r187_12) (.ret)) (.skip))) (.seq (.region false r187_13) (.ret))))))
def F187 : F := ⟨2, [0, 1, 4, 5, 6, 7, 21, 32, 41, 46, 51], [.t 4], none, c187⟩
attribute [go_sem] r187_0 r187_1 r187_2 r187_3 r187_4 r187_5 r187_6 r187_7 r187_8 b187_0 r187_9 r187_10 r187_11 r187_12 r187_13 c187 F187
def r188_0 : List Op := [t_ 2 <|.mov (ci 0),t_ 3 <|.mov (ci 0)]
def r188_1 : List Op := [f_ 8 <|.mov (.g 0),f_ 9 <|.idx (.l 0) (ci 0),f_ 10 <|.conv (.int .i64) (.l 1),t_ 4 <|.mov (.l 2)]
def r188_2 : List Op := [f_ 11 <|.mov (.g 4),t_ 12 <|.bin .lss (.l 0) (ci 128)]
def r188_3 : List Op := [f_ 13 <|.mov (.g 4),t_ 2 <|.mov (.l 0),t_ 3 <|.mov (ci 1)]
def r188_4 : List Op := [t_ 5 <|.mov (ci 0),t_ 6 <|.mov (ci 0)]
def r188_5 : List Op := [f_ 14 <|.mov (.g 4),f_ 15 <|.bin .geq (.l 0) (ci 194),f_ 16 <|.mov (.l 1),y_ 17 2 <|.mov (.g 4),y_ 18 2 <|.bin .lss (.l 3) (ci 224),t_ 19 <|.pick (.l 2) (.l 4) (cb false)]
def r188_6 : List Op := [f_ 20 <|.mov (.g 4),f_ 21 <|.bin .sub (.l 0) (ci 192),t_ 5 <|.mov (ci 2),t_ 6 <|.mov (ci 128),t_ 4 <|.mov (.l 1)]
def r188_7 : List Op := [f_ 22 <|.mov (.g 4),f_ 23 <|.bin .geq (.l 0) (ci 224),f_ 24 <|.mov (.l 1),y_ 25 2 <|.mov (.g 4),y_ 26 2 <|.bin .lss (.l 3) (ci 240),t_ 27 <|.pick (.l 2) (.l 4) (cb false)]
def r188_8 : List Op := [f_ 28 <|.mov (.g 4),f_ 29 <|.bin .sub (.l 0) (ci 224),t_ 5 <|.mov (ci 3),t_ 6 <|.mov (ci 2048),t_ 4 <|.mov (.l 1)]
def r188_9 : List Op := [f_ 30 <|.mov (.g 4),f_ 31 <|.bin .geq (.l 0) (ci 240),f_ 32 <|.mov (.l 1),y_ 33 2 <|.mov (.g 4),y_ 34 2 <|.bin .lss (.l 3) (ci 245),t_ 35 <|.pick (.l 2) (.l 4) (cb false)]
def r188_10 : List Op := [f_ 36 <|.mov (.g 4),f_ 37 <|.bin .sub (.l 0) (ci 240),t_ 5 <|.mov (ci 4),t_ 6 <|.mov (ci 65536),t_ 4 <|.mov (.l 1)]
def r188_11 : List Op := [f_ 38 <|.mov (.g 5),f_ 39 <|.bin .eql (.l 0) (ci 0),f_ 40 <|.mov (.l 1),n_ 41 2 <|.mov (.g 0),n_ 42 2 <|.len true (.l 3),n_ 43 2 <|.mov (.g 5),n_ 44 2 <|.bin .lss (.l 4) (.l 5),t_ 45 <|.pick (.l 2) (cb true) (.l 6)]
def r188_12 : List Op := [t_ 2 <|.mov (ci (-1)),t_ 3 <|.mov (ci 1)]
def r188_13 : List Op := [t_ 7 <|.mov (ci 1)]
def r188_14 : List Op := [f_ 46 <|.mov (.g 7),f_ 47 <|.mov (.g 5),t_ 48 <|.bin .lss (.l 0) (.l 1)]
def r188_15 : List Op := [f_ 51 <|.mov (.g 0),f_ 52 <|.mov (.g 7),f_ 53 <|.idx (.l 0) (.l 1),f_ 54 <|.bin .lss (.l 2) (.c (.int .u8 128)),f_ 55 <|.mov (.l 3),n_ 56 4 <|.mov (.g 0),n_ 57 4 <|.mov (.g 7),n_ 58 4 <|.idx (.l 5) (.l 6),n_ 59 4 <|.bin .gtr (.l 7) (.c (.int .u8 191)),t_ 60 <|.pick (.l 4) (cb true) (.l 8)]
def r188_16 : List Op := [t_ 2 <|.mov (ci (-1)),t_ 3 <|.mov (ci 1)]
def r188_17 : List Op := [f_ 61 <|.mov (.g 4),f_ 62 <|.bin .mul (ci 64) (.l 0),f_ 63 <|.mov (.g 0),f_ 64 <|.mov (.g 7),f_ 65 <|.idx (.l 2) (.l 3),f_ 66 <|.conv (.int .i64) (.l 4),f_ 67 <|.bin .add (.l 1) (.l 5),f_ 68 <|.bin .sub (.l 6) (ci 128),t_ 4 <|.mov (.l 7)]
def r188_18 : List Op := [f_ 49 <|.mov (.g 7),f_ 50 <|.bin .add (.l 0) (ci 1),t_ 7 <|.mov (.l 1)]
def b188_0 : C := .seq (.seq (.region false r188_14) (.cond (.g 48) (.skip) (.exit 0))) (.seq (.block 1 (.seq (.seq (.region false r188_15) (.cond (.g 60) (.seq (.region false r188_16) (.ret)) (.skip))) (.region false r188_17))) (.region false r188_18))
def l188_0 : C := .loop [] [] [] [] b188_0
def r188_19 : List Op := [f_ 69 <|.mov (.g 4),f_ 70 <|.mov (.g 6),f_ 71 <|.bin .lss (.l 0) (.l 1),f_ 72 <|.mov (.l 2),n_ 73 3 <|.mov (.g 4),n_ 74 3 <|.bin .gtr (.l 4) (ci 1114111),f_ 75 <|.pick (.l 3) (cb true) (.l 5),f_ 76 <|.mov (.l 6),n_ 77 7 <|.mov (.g 4),n_ 78 7 <|.bin .geq (.l 8) (ci 55296),n_ 79 7 <|.mov (.l 9),y_ 80 10 <|.mov (.g 4),y_ 81 10 <|.bin .lss (.l 11) (ci 57344),n_ 82 7 <|.pick (.l 10) (.l 12) (cb false),t_ 83 <|.pick (.l 7) (cb true) (.l 13)]
def r188_20 : List Op := [t_ 2 <|.mov (ci (-1)),t_ 3 <|.mov (ci 1)]
def r188_21 : List Op := [f_ 84 <|.mov (.g 4),f_ 85 <|.mov (.g 5),t_ 2 <|.mov (.l 0),t_ 3 <|.mov (.l 1)]
def c188 : C := .seq (.region false r188_0) (.seq (.region false r188_1) (.seq (.seq (.region false r188_2) (.cond (.g 12) (.seq (.region false r188_3) (.ret)) (.skip))) (.seq (.region false r188_4) (.seq (.seq (.region false r188_5) (.cond (.g 19) (.region false r188_6) (.seq (.region false r188_7) (.cond (.g 27) (.region false r188_8) (.seq (.region false r188_9) (.cond (.g 35) (.region false r188_10) (.skip))))))) (.seq (.seq (.region false r188_11) (.cond (.g 45) (.seq (.region false r188_12) (.ret)) (.skip))) (.seq (.seq (.region false r188_13) (.block 0 (l188_0))) (.seq (.seq (.region false r188_19) (.cond (.g 83) (.seq (.region false r188_20) (.ret)) (.skip))) (.seq (.region false r188_21) (.ret)))))))))
def F188 : F := ⟨1, [0, 2, 3, 4, 5, 6, 7, 12, 19, 27, 35, 45, 48, 60, 83], [.t 2, .t 3], none, c188⟩
attribute [go_sem] r188_0 r188_1 r188_2 r188_3 r188_4 r188_5 r188_6 r188_7 r188_8 r188_9 r188_10 r188_11 r188_12 r188_13 r188_14 r188_15 r188_16 r188_17 r188_18 b188_0 r188_19 r188_20 r188_21 c188 F188
def r189_0 : List Op := [t_ 2 <|.mov (cb false)]
def r189_1 : List Op := [f_ 3 <|.mov (.g 0),f_ 4 <|.bin .gtr (.l 0) (ci 32),f_ 5 <|.mov (.l 1),y_ 6 2 <|.mov (.g 0),y_ 7 2 <|.bin .neq (.l 3) (ci 127),f_ 8 <|.pick (.l 2) (.l 4) (cb false),f_ 9 <|.mov (.l 5),y_ 10 6 <|.mov (.g 0),y_ 11 6 <|.bin .lss (.l 7) (ci 128),y_ 12 6 <|.mov (.l 8),n_ 13 9 <|.mov (.g 0),n_ 14 9 <|.bin .gtr (.l 10) (ci 159),y_ 15 6 <|.pick (.l 9) (cb true) (.l 11),f_ 16 <|.pick (.l 6) (.l 12) (cb false),t_ 2 <|.mov (.l 13)]
def c189 : C := .seq (.region false r189_0) (.seq (.region false r189_1) (.ret))
def F189 : F := ⟨1, [0, 2], [.t 2], none, c189⟩
attribute [go_sem] r189_0 r189_1 c189 F189
def r191_0 : List Op := [t_ 4 <|.mov (cb false)]
def r191_1 : List Op := [f_ 5 <|.mov (.g 0),f_ 6 <|.bin .geq (.l 0) (.c (.int .i32 33)),f_ 7 <|.mov (.l 1),y_ 8 2 <|.mov (.g 0),y_ 9 2 <|.bin .lss (.l 3) (.c (.int .i32 127)),y_ 10 2 <|.mov (.l 4),n_ 11 5 <|.mov (.g 0),n_ 12 5 <|.bin .gtr (.l 6) (.c (.int .i32 159)),y_ 13 2 <|.pick (.l 5) (cb true) (.l 7),f_ 14 <|.pick (.l 2) (.l 8) (cb false),f_ 15 <|.mov (.l 9),y_ 16 10 <|.mov (.g 0),y_ 17 10 <|.bin .neq (.l 11) (.c (.int .i32 65533)),y_ 18 10 <|.mov (.l 12),n_ 19 13 <|.mov (.g 1),n_ 20 13 <|.bin .eql (.l 14) (ci 3),y_ 21 10 <|.pick (.l 13) (cb true) (.l 15),f_ 22 <|.pick (.l 10) (.l 16) (cb false),t_ 4 <|.mov (.l 17)]
def c191 : C := .seq (.region false r191_0) (.seq (.region false r191_1) (.ret))
def F191 : F := ⟨2, [0, 1, 4], [.t 4], none, c191⟩
attribute [go_sem] r191_0 r191_1 c191 F191
def r192_0 : List Op := [t_ 4 <|.mov (ci 0)]
def r192_1 : List Op := [f_ 9 <|.mov (.g 0),f_ 10 <|.bin .neq (.l 0) (.c (.str [])),f_ 11 <|.mov (.l 1),y_ 12 2 <|.mov (.g 1),y_ 13 2 <|.bin .neq (.l 3) (.c (.str [])),t_ 14 <|.pick (.l 2) (.l 4) (cb false)]
def r192_2 : List Op := [f_ 16 <|.mov (.g 0),f_ 17 <|.call (.k 190) .no none [.l 0],f_ 15 <|.mov (.l 1),f_ 18 <|.ext (.l 2) 0,f_ 19 <|.ext (.l 2) 1,t_ 5 <|.mov (.l 3),t_ 6 <|.mov (.l 4)]
def r192_3 : List Op := [f_ 21 <|.mov (.g 1),f_ 22 <|.call (.k 190) .no none [.l 0],f_ 20 <|.mov (.l 1),f_ 23 <|.ext (.l 2) 0,f_ 24 <|.ext (.l 2) 1,t_ 7 <|.mov (.l 3),t_ 8 <|.mov (.l 4)]
def r192_4 : List Op := [f_ 26 <|.mov (.g 5),f_ 27 <|.mov (.g 7),f_ 28 <|.bin .lss (.l 0) (.l 1),t_ 25 <|.mov (.l 2)]
def r192_5 : List Op := [t_ 4 <|.mov (ci (-1))]
def r192_6 : List Op := [f_ 30 <|.mov (.g 5),f_ 31 <|.mov (.g 7),f_ 32 <|.bin .gtr (.l 0) (.l 1),t_ 29 <|.mov (.l 2)]
def r192_7 : List Op := [t_ 4 <|.mov (ci 1)]
def r192_8 : List Op := [f_ 33 <|.mov (.g 0),f_ 34 <|.mov (.g 6),f_ 35 <|.sl true 0 (.l 0) (some (.l 1)) none,f_ 36 <|.mov (.g 1),f_ 37 <|.mov (.g 8),f_ 38 <|.sl true 0 (.l 3) (some (.l 4)) none,t_ 0 <|.mov (.l 2),t_ 1 <|.mov (.l 5)]
def b192_0 : C := .seq (.seq (.region false r192_1) (.cond (.g 14) (.skip) (.exit 0))) (.block 1 (.seq (.region false r192_2) (.seq (.region false r192_3) (.seq (.block 2 (.seq (.region false r192_4) (.cond (.g 25) (.seq (.region false r192_5) (.ret)) (.seq (.region false r192_6) (.cond (.g 29) (.seq (.region false r192_7) (.ret)) (.skip)))))) (.region true r192_8)))))
def l192_0 : C := .loop [] [] [] [] b192_0
def r192_9 : List Op := [f_ 40 <|.mov (.g 0),f_ 41 <|.bin .neq (.l 0) (.c (.str [])),t_ 39 <|.mov (.l 1)]
def r192_10 : List Op := [t_ 4 <|.mov (ci 1)]
def r192_11 : List Op := [f_ 43 <|.mov (.g 1),f_ 44 <|.bin .neq (.l 0) (.c (.str [])),t_ 42 <|.mov (.l 1)]
def r192_12 : List Op := [t_ 4 <|.mov (ci (-1))]
def r192_13 : List Op := [t_ 4 <|.mov (ci 0)]
def c192 : C := .seq (.region false r192_0) (.seq (.block 0 (l192_0)) (.seq (.block 3 (.seq (.region false r192_9) (.cond (.g 39) (.seq (.region false r192_10) (.ret)) (.seq (.region false r192_11) (.cond (.g 42) (.seq (.region false r192_12) (.ret)) (.skip)))))) (.seq (.region false r192_13) (.ret))))
def F192 : F := ⟨2, [0, 1, 4, 5, 6, 7, 8, 14, 25, 29, 39, 42], [.t 4], none, c192⟩
attribute [go_sem] r192_0 r192_1 r192_2 r192_3 r192_4 r192_5 r192_6 r192_7 r192_8 b192_0 r192_9 r192_10 r192_11 r192_12 r192_13 c192 F192
def r195_0 : List Op := [t_ 2 <|.mov (.c (.slice 1 []))]
def r195_1 : List Op := [t_ 3 <|.mko 1]
def r195_2 : List Op := [f_ 6 <|.mov (.g 0),f_ 7 <|.len true (.l 0),t_ 8 <|.bin .gtr (.l 1) (ci 0)]
def r195_3 : List Op := [f_ 10 <|.mov (.g 0),f_ 11 <|.call (.k 188) .no none [.l 0],f_ 9 <|.mov (.l 1),f_ 12 <|.ext (.l 2) 0,f_ 13 <|.ext (.l 2) 1,t_ 4 <|.mov (.l 3),t_ 5 <|.mov (.l 4)]
def r195_4 : List Op := [f_ 14 <|.mov (.g 4),t_ 15 <|.bin .lss (.l 0) (ci 0)]
def r195_5 : List Op := [t_ 4 <|.mov (ci 65533)]
def r195_6 : List Op := [f_ 16 <|.mov (.g 3),f_ 17 <|.mov (.g 4),f_ 18 <|.mks 1 1 [.int .i64 0] [(0, .l 1)],f_ 19 <|.app 3 1 (.l 0) (.l 2),t_ 3 <|.mov (.l 3)]
def r195_7 : List Op := [f_ 20 <|.mov (.g 0),f_ 21 <|.mov (.g 5),f_ 22 <|.sl true 0 (.l 0) (some (.l 1)) none,t_ 0 <|.mov (.l 2)]
def b195_0 : C := .seq (.seq (.region false r195_2) (.cond (.g 8) (.skip) (.exit 0))) (.block 1 (.seq (.region false r195_3) (.seq (.seq (.region false r195_4) (.cond (.g 15) (.region false r195_5) (.skip))) (.seq (.region false r195_6) (.region false r195_7)))))
def l195_0 : C := .loop [] [] [] [] b195_0
def r195_8 : List Op := [f_ 23 <|.mov (.g 3),t_ 2 <|.mov (.l 0)]
def c195 : C := .seq (.region false r195_0) (.seq (.region false r195_1) (.seq (.block 0 (l195_0)) (.seq (.region false r195_8) (.ret))))
def F195 : F := ⟨1, [0, 2, 3, 4, 5, 8, 15], [.t 2], none, c195⟩
attribute [go_sem] r195_0 r195_1 r195_2 r195_3 r195_4 r195_5 r195_6 r195_7 b195_0 r195_8 c195 F195
end Sg
namespace Sg
open _root_.Go (IntKind BinOp UnOp)
def r3_0 : List Op := [t_ 3 <|.box (.g 1),t_ 4 <|.mov (.c (.slice 5 [])),t_ 5 <|.mov (ci 0)]
def r3_1 : List Op := [f_ 7 <|.mov (.g 0),f_ 8 <|.call (.k 7) .no none [.l 0],f_ 9 <|.un .not (.l 1),f_ 10 <|.mov (.l 2),n_ 11 3 <|.load (.v 3) (some 5) (.g 3),n_ 12 3 <|.call (.k 22) .no none [.l 4],n_ 13 3 <|.un .not (.l 5),f_ 14 <|.pick (.l 3) (cb true) (.l 6),t_ 6 <|.mov (.l 7)]
def r3_2 : List Op := [t_ 4 <|.mov (.c (.slice 5 [])),t_ 5 <|.mov (ci 1)]
def r3_3 : List Op := [f_ 16 <|.mov (.g 0),f_ 17 <|.len false (.l 0),f_ 18 <|.bin .gtr (.l 1) (ci 0),f_ 19 <|.mov (.l 2),y_ 20 3 <|.mov (.g 0),y_ 21 3 <|.mov (.g 0),y_ 22 3 <|.len false (.l 5),y_ 23 3 <|.bin .sub (.l 6) (ci 1),y_ 24 3 <|.iad 5 (.l 4) (.l 7),y_ 25 3 <|.fad (.l 8) 0,y_ 26 3 <|.load (.c) (some 3) (.l 9),y_ 27 3 <|.fad (.g 3) 0,y_ 28 3 <|.load (.v 3) (some 3) (.l 11),y_ 29 3 <|.call (.k 15) .no none [.l 10, .l 12],y_ 30 3 <|.bin .geq (.l 13) (ci 0),f_ 31 <|.pick (.l 3) (.l 14) (cb false),t_ 15 <|.mov (.l 15)]
def r3_4 : List Op := [t_ 4 <|.mov (.c (.slice 5 [])),t_ 5 <|.mov (ci 9)]
def r3_5 : List Op := [f_ 33 <|.mov (.g 0),f_ 34 <|.len false (.l 0),f_ 35 <|.bin .eql (.l 1) (ci 64),t_ 32 <|.mov (.l 2)]
def r3_6 : List Op := [t_ 4 <|.mov (.c (.slice 5 [])),t_ 5 <|.mov (ci 6)]
def r3_7 : List Op := [f_ 36 <|.mov (.g 0),f_ 37 <|.call (.k 23) .no (some 0) [.l 0],f_ 38 <|.load (.v 3) (some 5) (.g 3),f_ 39 <|.mks 5 1 [.int .i64 0, .int .i64 0, .int .i64 0, .bool false, .str []] [(0, .l 2)],f_ 40 <|.app 37 5 (.l 1) (.l 3),t_ 4 <|.mov (.l 4),t_ 5 <|.mov (ci 0)]
def c3 : C := .seq (.region false r3_0) (.seq (.block 0 (.seq (.region false r3_1) (.cond (.g 6) (.seq (.region false r3_2) (.ret)) (.seq (.region true r3_3) (.cond (.g 15) (.seq (.region false r3_4) (.ret)) (.seq (.region false r3_5) (.cond (.g 32) (.seq (.region false r3_6) (.ret)) (.skip)))))))) (.seq (.region true r3_7) (.ret)))
def F3 : F := ⟨2, [0, 1, 3, 4, 5, 6, 15, 32], [.t 4, .t 5], none, c3⟩
attribute [go_sem] r3_0 r3_1 r3_2 r3_3 r3_4 r3_5 r3_6 r3_7 c3 F3
def r7_0 : List Op := [t_ 2 <|.mov (cb false)]
def r7_1 : List Op := [t_ 5 <|.mov (.g 0),t_ 6 <|.len false (.l 0),t_ 7 <|.mov (ci 0)]
def r7_2 : List Op := [t_ 8 <|.bin .lss (.g 7) (.g 6)]
def r7_3 : List Op := [f_ 9 <|.mov (.g 7),f_ 10 <|.iad 5 (.g 5) (.g 7),f_ 11 <|.load (.c) (some 5) (.l 1),t_ 4 <|.alloc [.int .i64 0, .int .i64 0, .int .i64 0, .bool false, .str []],t_ 3 <|.mov (.l 0),u_ <|.store (.v 4) 5 (.l 3) (.l 2)]
def r7_4 : List Op := [f_ 12 <|.load (.v 4) (some 5) (.g 4),f_ 13 <|.call (.k 22) .no none [.l 0],f_ 14 <|.un .not (.l 1),f_ 15 <|.mov (.l 2),n_ 16 3 <|.mov (.g 3),n_ 17 3 <|.bin .gtr (.l 4) (ci 0),n_ 18 3 <|.mov (.l 5),y_ 19 6 <|.mov (.g 0),y_ 20 6 <|.mov (.g 3),y_ 21 6 <|.bin .sub (.l 8) (ci 1),y_ 22 6 <|.iad 5 (.l 7) (.l 9),y_ 23 6 <|.fad (.l 10) 0,y_ 24 6 <|.load (.c) (some 3) (.l 11),y_ 25 6 <|.fad (.g 4) 0,y_ 26 6 <|.load (.v 4) (some 3) (.l 13),y_ 27 6 <|.call (.k 15) .no none [.l 12, .l 14],y_ 28 6 <|.bin .geq (.l 15) (ci 0),n_ 29 3 <|.pick (.l 6) (.l 16) (cb false),t_ 30 <|.pick (.l 3) (cb true) (.l 17)]
def r7_5 : List Op := [t_ 2 <|.mov (cb false)]
def r7_6 : List Op := [f_ 31 <|.bin .add (.g 7) (ci 1),t_ 7 <|.mov (.l 0)]
def b7_0 : C := .seq (.region false r7_2) (.seq (.cond (.g 8) (.skip) (.exit 0)) (.seq (.block 1 (.seq (.region false r7_3) (.seq (.region true r7_4) (.cond (.g 30) (.seq (.region false r7_5) (.ret)) (.skip))))) (.region false r7_6)))
def l7_0 : C := .loop [] [] [4] [] b7_0
def r7_7 : List Op := [f_ 32 <|.mov (.g 0),f_ 33 <|.len false (.l 0),f_ 34 <|.bin .leq (.l 1) (ci 64),t_ 2 <|.mov (.l 2)]
def c7 : C := .seq (.region false r7_0) (.seq (.seq (.region false r7_1) (.block 0 (l7_0))) (.seq (.region false r7_7) (.ret)))
def F7 : F := ⟨1, [0, 2, 3, 4, 5, 6, 7, 8, 30], [.t 2], none, c7⟩
attribute [go_sem] r7_0 r7_1 r7_2 r7_3 r7_4 r7_5 r7_6 b7_0 r7_7 c7 F7
def r15_0 : List Op := [t_ 2 <|.box (.g 0),t_ 3 <|.box (.g 1),t_ 4 <|.mov (ci 0)]
def r15_1 : List Op := [f_ 5 <|.fad (.g 2) 0,f_ 6 <|.load (.v 2) none (.l 0),f_ 7 <|.fad (.g 3) 0,f_ 8 <|.load (.v 3) none (.l 2),f_ 9 <|.call (.k 26) .no none [.l 1, .l 3],f_ 10 <|.fad (.g 2) 1,f_ 11 <|.load (.v 2) none (.l 5),f_ 12 <|.fad (.g 3) 1,f_ 13 <|.load (.v 3) none (.l 7),f_ 14 <|.call (.k 26) .no none [.l 6, .l 8],f_ 15 <|.fad (.g 2) 2,f_ 16 <|.load (.v 2) none (.l 10),f_ 17 <|.fad (.g 3) 2,f_ 18 <|.load (.v 3) none (.l 12),f_ 19 <|.call (.k 26) .no none [.l 11, .l 13],f_ 20 <|.mks 1 3 [.int .i64 0] [(0, .l 4), (1, .l 9), (2, .l 14)],f_ 21 <|.call (.k 27) .no none [.l 15],t_ 4 <|.mov (.l 16)]
def c15 : C := .seq (.region false r15_0) (.seq (.region true r15_1) (.ret))
def F15 : F := ⟨2, [0, 1, 2, 3, 4], [.t 4], none, c15⟩
attribute [go_sem] r15_0 r15_1 c15 F15
def r22_0 : List Op := [t_ 1 <|.box (.g 0),t_ 2 <|.mov (cb false)]
def r22_1 : List Op := [f_ 3 <|.fad (.g 1) 0,f_ 4 <|.load (.v 1) (some 3) (.l 0),f_ 5 <|.call (.k 28) .no none [.l 1],f_ 6 <|.mov (.l 2),y_ 7 3 <|.fad (.g 1) 4,y_ 8 3 <|.load (.v 1) none (.l 4),y_ 9 3 <|.len true (.l 5),y_ 10 3 <|.bin .leq (.l 6) (ci 16),f_ 11 <|.pick (.l 3) (.l 7) (cb false),f_ 12 <|.mov (.l 8),y_ 13 9 <|.fad (.g 1) 3,y_ 14 9 <|.load (.v 1) none (.l 10),y_ 15 9 <|.un .not (.l 11),y_ 16 9 <|.mov (.l 12),n_ 17 13 <|.fad (.g 1) 4,n_ 18 13 <|.load (.v 1) none (.l 14),n_ 19 13 <|.bin .eql (.l 15) (.c (.str [])),y_ 20 9 <|.pick (.l 13) (cb true) (.l 16),f_ 21 <|.pick (.l 9) (.l 17) (cb false),t_ 2 <|.mov (.l 18)]
def c22 : C := .seq (.region false r22_0) (.seq (.region false r22_1) (.ret))
def F22 : F := ⟨1, [0, 1, 2], [.t 2], none, c22⟩
attribute [go_sem] r22_0 r22_1 c22 F22
def r26_0 : List Op := [t_ 4 <|.mov (ci 0)]
def r26_1 : List Op := [f_ 7 <|.mov (.g 0),f_ 8 <|.call (.k 31) .no none [.l 0],t_ 5 <|.mov (.l 1)]
def r26_2 : List Op := [f_ 9 <|.mov (.g 1),f_ 10 <|.call (.k 31) .no none [.l 0],t_ 6 <|.mov (.l 1)]
def r26_3 : List Op := [t_ 11 <|.mov (.g 5)]
def r26_4 : List Op := [t_ 12 <|.mov (.g 6)]
def r26_5 : List Op := [t_ 4 <|.mov (ci 0)]
def r26_6 : List Op := [t_ 4 <|.mov (ci (-1))]
def r26_7 : List Op := [t_ 13 <|.mov (.g 6)]
def r26_8 : List Op := [t_ 4 <|.mov (ci 1)]
def r26_9 : List Op := [f_ 14 <|.mov (.g 0),f_ 15 <|.mov (.g 1),t_ 16 <|.bin .lss (.l 0) (.l 1)]
def r26_10 : List Op := [t_ 4 <|.mov (ci (-1))]
def r26_11 : List Op := [f_ 17 <|.mov (.g 0),f_ 18 <|.mov (.g 1),t_ 19 <|.bin .gtr (.l 0) (.l 1)]
def r26_12 : List Op := [t_ 4 <|.mov (ci 1)]
def r26_13 : List Op := [t_ 4 <|.mov (ci 0)]
def c26 : C := .seq (.region false r26_0) (.seq (.region false r26_1) (.seq (.region false r26_2) (.seq (.seq (.region false r26_3) (.cond (.g 11) (.seq (.seq (.region false r26_4) (.cond (.g 12) (.seq (.region false r26_5) (.ret)) (.skip))) (.seq (.region false r26_6) (.ret))) (.skip))) (.seq (.seq (.region false r26_7) (.cond (.g 13) (.seq (.region false r26_8) (.ret)) (.skip))) (.seq (.seq (.region false r26_9) (.cond (.g 16) (.seq (.region false r26_10) (.ret)) (.skip))) (.seq (.seq (.region false r26_11) (.cond (.g 19) (.seq (.region false r26_12) (.ret)) (.skip))) (.seq (.region false r26_13) (.ret))))))))
def F26 : F := ⟨2, [0, 1, 4, 5, 6, 11, 12, 13, 16, 19], [.t 4], none, c26⟩
attribute [go_sem] r26_0 r26_1 r26_2 r26_3 r26_4 r26_5 r26_6 r26_7 r26_8 r26_9 r26_10 r26_11 r26_12 r26_13 c26 F26
def r27_0 : List Op := [t_ 2 <|.mov (ci 0)]
def r27_1 : List Op := [t_ 3 <|.mov (ci 0)]
def r27_2 : List Op := [t_ 6 <|.mov (.g 0),t_ 7 <|.len false (.l 0),t_ 8 <|.mov (ci 0)]
def r27_3 : List Op := [t_ 9 <|.bin .lss (.g 8) (.g 7)]
def r27_4 : List Op := [f_ 10 <|.iad 1 (.g 6) (.g 8),f_ 11 <|.load (.c) none (.l 0),t_ 5 <|.mov (.l 1)]
def r27_5 : List Op := [f_ 12 <|.mov (.g 5),f_ 13 <|.mov (.g 3),t_ 14 <|.bin .neq (.l 0) (.l 1)]
def r27_6 : List Op := [f_ 15 <|.mov (.g 5),t_ 2 <|.mov (.l 0)]
def r27_7 : List Op := [f_ 16 <|.bin .add (.g 8) (ci 1),t_ 8 <|.mov (.l 0)]
def b27_0 : C := .seq (.region false r27_3) (.seq (.cond (.g 9) (.skip) (.exit 0)) (.seq (.block 1 (.seq (.region false r27_4) (.seq (.region false r27_5) (.cond (.g 14) (.seq (.region false r27_6) (.ret)) (.skip))))) (.region false r27_7)))
def l27_0 : C := .loop [] [] [] [] b27_0
def r27_8 : List Op := [f_ 17 <|.mov (.g 3),t_ 2 <|.mov (.l 0)]
def c27 : C := .seq (.region false r27_0) (.seq (.region false r27_1) (.seq (.seq (.region false r27_2) (.block 0 (l27_0))) (.seq (.region false r27_8) (.ret))))
def F27 : F := ⟨1, [0, 2, 3, 5, 6, 7, 8, 9, 14], [.t 2], none, c27⟩
attribute [go_sem] r27_0 r27_1 r27_2 r27_3 r27_4 r27_5 r27_6 r27_7 b27_0 r27_8 c27 F27
def r28_0 : List Op := [t_ 1 <|.box (.g 0),t_ 2 <|.mov (cb false)]
def r28_1 : List Op := [f_ 3 <|.fad (.g 1) 0,f_ 4 <|.load (.v 1) none (.l 0),f_ 5 <|.call (.k 32) .no none [.l 1, .c (.int .i64 1099511627776)],f_ 6 <|.mov (.l 2),y_ 7 3 <|.fad (.g 1) 1,y_ 8 3 <|.load (.v 1) none (.l 4),y_ 9 3 <|.call (.k 32) .no none [.l 5, .c (.int .i64 1048576)],f_ 10 <|.pick (.l 3) (.l 6) (cb false),f_ 11 <|.mov (.l 7),y_ 12 8 <|.fad (.g 1) 2,y_ 13 8 <|.load (.v 1) none (.l 9),y_ 14 8 <|.call (.k 32) .no none [.l 10, .c (.int .i64 255)],f_ 15 <|.pick (.l 8) (.l 11) (cb false),t_ 2 <|.mov (.l 12)]
def c28 : C := .seq (.region false r28_0) (.seq (.region false r28_1) (.ret))
def F28 : F := ⟨1, [0, 1, 2], [.t 2], none, c28⟩
attribute [go_sem] r28_0 r28_1 c28 F28
def r31_0 : List Op := [t_ 2 <|.mov (cb false)]
def r31_1 : List Op := [f_ 3 <|.mov (.g 0),f_ 4 <|.mov (.g 0),f_ 5 <|.bin .neq (.l 0) (.l 1),t_ 2 <|.mov (.l 2)]
def c31 : C := .seq (.region false r31_0) (.seq (.region false r31_1) (.ret))
def F31 : F := ⟨1, [0, 2], [.t 2], none, c31⟩
attribute [go_sem] r31_0 r31_1 c31 F31
def r32_0 : List Op := [t_ 4 <|.mov (cb false)]
def r32_1 : List Op := [f_ 5 <|.mov (.g 0),f_ 6 <|.bin .geq (.l 0) (ci 0),f_ 7 <|.mov (.l 1),y_ 8 2 <|.mov (.g 0),y_ 9 2 <|.mov (.g 1),y_ 10 2 <|.bin .leq (.l 3) (.l 4),f_ 11 <|.pick (.l 2) (.l 5) (cb false),t_ 4 <|.mov (.l 6)]
def c32 : C := .seq (.region false r32_0) (.seq (.region false r32_1) (.ret))
def F32 : F := ⟨2, [0, 1, 4], [.t 4], none, c32⟩
attribute [go_sem] r32_0 r32_1 c32 F32
end Sg
namespace Sg
open _root_.Go (IntKind BinOp UnOp)
def r81_0 : List Op := [t_ 2 <|.mov (cb false)]
def r81_1 : List Op := [t_ 3 <|.mov (ci 0)]
def r81_2 : List Op := [t_ 6 <|.mov (.g 0),t_ 7 <|.len false (.l 0),t_ 8 <|.mov (ci 0)]
def r81_3 : List Op := [t_ 9 <|.bin .lss (.g 8) (.g 7)]
def r81_4 : List Op := [f_ 10 <|.iad 11 (.g 6) (.g 8),f_ 11 <|.load (.c) (some 11) (.l 0),t_ 5 <|.alloc [.int .i64 0, .int .i64 0, .int .i64 0, .int .i64 0, .int .i64 0, .int .i64 0, .bool false, .str [], .slice 2 [], .str [], .bool false],u_ <|.store (.v 5) 11 (.l 2) (.l 1)]
def r81_5 : List Op := [f_ 12 <|.fad (.g 5) 0,f_ 13 <|.load (.v 5) none (.l 0),f_ 14 <|.mov (.g 3),f_ 15 <|.bin .leq (.l 1) (.l 2),f_ 16 <|.mov (.l 3),n_ 17 4 <|.fad (.g 5) 0,n_ 18 4 <|.load (.v 5) none (.l 5),n_ 19 4 <|.call (.k 97) .no none [.l 6],n_ 20 4 <|.un .not (.l 7),f_ 21 <|.pick (.l 4) (cb true) (.l 8),f_ 22 <|.mov (.l 9),n_ 23 10 <|.fad (.g 5) 1,n_ 24 10 <|.load (.v 5) none (.l 11),n_ 25 10 <|.call (.k 97) .no none [.l 12],n_ 26 10 <|.un .not (.l 13),f_ 27 <|.pick (.l 10) (cb true) (.l 14),f_ 28 <|.mov (.l 15),n_ 29 16 <|.fad (.g 5) 2,n_ 30 16 <|.load (.v 5) (some 9) (.l 17),n_ 31 16 <|.call (.k 98) .no none [.l 18],n_ 32 16 <|.un .not (.l 19),t_ 33 <|.pick (.l 16) (cb true) (.l 20)]
def r81_6 : List Op := [t_ 2 <|.mov (cb false)]
def r81_7 : List Op := [f_ 34 <|.fad (.g 5) 0,f_ 35 <|.load (.v 5) none (.l 0),t_ 3 <|.mov (.l 1)]
def r81_8 : List Op := [f_ 36 <|.bin .add (.g 8) (ci 1),t_ 8 <|.mov (.l 0)]
def b81_0 : C := .seq (.region false r81_3) (.seq (.cond (.g 9) (.skip) (.exit 0)) (.seq (.block 1 (.seq (.region false r81_4) (.seq (.seq (.region false r81_5) (.cond (.g 33) (.seq (.region false r81_6) (.ret)) (.skip))) (.region false r81_7)))) (.region false r81_8)))
def l81_0 : C := .loop [] [] [5] [] b81_0
def r81_9 : List Op := [f_ 37 <|.mov (.g 0),f_ 38 <|.len false (.l 0),f_ 39 <|.bin .leq (.l 1) (ci 8),t_ 2 <|.mov (.l 2)]
def c81 : C := .seq (.region false r81_0) (.seq (.region false r81_1) (.seq (.seq (.region false r81_2) (.block 0 (l81_0))) (.seq (.region false r81_9) (.ret))))
def F81 : F := ⟨1, [0, 2, 3, 5, 6, 7, 8, 9, 33], [.t 2], none, c81⟩
attribute [go_sem] r81_0 r81_1 r81_2 r81_3 r81_4 r81_5 r81_6 r81_7 r81_8 b81_0 r81_9 c81 F81
def r82_0 : List Op := [t_ 6 <|.mov (ci 0)]
def r82_1 : List Op := [f_ 9 <|.mov (.g 0),f_ 10 <|.call (.k 81) .no none [.l 0],f_ 11 <|.un .not (.l 1),f_ 12 <|.mov (.l 2),n_ 13 3 <|.mov (.g 1),n_ 14 3 <|.call (.k 97) .no none [.l 4],n_ 15 3 <|.un .not (.l 5),f_ 16 <|.pick (.l 3) (cb true) (.l 6),f_ 17 <|.mov (.l 7),n_ 18 8 <|.mov (.g 2),n_ 19 8 <|.call (.k 97) .no none [.l 9],n_ 20 8 <|.un .not (.l 10),t_ 21 <|.pick (.l 8) (cb true) (.l 11)]
def r82_2 : List Op := [t_ 6 <|.mov (ci 0)]
def r82_3 : List Op := [f_ 23 <|.mov (.g 0),f_ 24 <|.mov (.g 1),f_ 25 <|.call (.k 84) .no none [.l 0, .l 1],f_ 22 <|.mov (.l 2),f_ 26 <|.ext (.l 3) 0,f_ 27 <|.ext (.l 3) 1,t_ 7 <|.alloc [.int .i64 0, .int .i64 0, .int .i64 0, .int .i64 0, .int .i64 0, .int .i64 0, .bool false, .str [], .slice 2 [], .str [], .bool false],u_ <|.store (.v 7) 11 (.l 6) (.l 4),t_ 8 <|.mov (.l 5)]
def r82_4 : List Op := [f_ 29 <|.mov (.g 8),f_ 30 <|.un .not (.l 0),f_ 31 <|.mov (.l 1),n_ 32 2 <|.mov (.g 2),n_ 33 2 <|.fad (.g 7) 1,n_ 34 2 <|.load (.v 7) none (.l 4),n_ 35 2 <|.bin .gtr (.l 3) (.l 5),f_ 36 <|.pick (.l 2) (cb true) (.l 6),t_ 28 <|.mov (.l 7)]
def r82_5 : List Op := [t_ 6 <|.mov (ci 1)]
def r82_6 : List Op := [f_ 38 <|.mov (.g 2),f_ 39 <|.fad (.g 7) 1,f_ 40 <|.load (.v 7) none (.l 1),f_ 41 <|.bin .eql (.l 0) (.l 2),t_ 37 <|.mov (.l 3)]
def r82_7 : List Op := [t_ 6 <|.mov (ci 2)]
def r82_8 : List Op := [t_ 6 <|.mov (ci 3)]
def c82 : C := .seq (.region false r82_0) (.seq (.seq (.region false r82_1) (.cond (.g 21) (.seq (.region false r82_2) (.ret)) (.skip))) (.seq (.region false r82_3) (.seq (.block 0 (.seq (.region false r82_4) (.cond (.g 28) (.seq (.region false r82_5) (.ret)) (.seq (.region false r82_6) (.cond (.g 37) (.seq (.region false r82_7) (.ret)) (.skip)))))) (.seq (.region false r82_8) (.ret)))))
def F82 : F := ⟨3, [0, 1, 2, 6, 7, 8, 21, 28, 37], [.t 6], none, c82⟩
attribute [go_sem] r82_0 r82_1 r82_2 r82_3 r82_4 r82_5 r82_6 r82_7 r82_8 c82 F82
def r84_0 : List Op := [t_ 4 <|.alloc [.int .i64 0, .int .i64 0, .int .i64 0, .int .i64 0, .int .i64 0, .int .i64 0, .bool false, .str [], .slice 2 [], .str [], .bool false],t_ 5 <|.mov (cb false)]
def r84_1 : List Op := [f_ 8 <|.mov (.g 0),f_ 9 <|.call (.k 81) .no none [.l 0],t_ 10 <|.un .not (.l 1)]
def r84_2 : List Op := [f_ 11 <|.build [.int .i64 0, .int .i64 0, .int .i64 0, .int .i64 0, .int .i64 0, .int .i64 0, .bool false, .str [], .slice 2 [], .str [], .bool false] [],u_ <|.store (.v 4) 11 (.g 4) (.l 0),t_ 5 <|.mov (cb false)]
def r84_3 : List Op := [f_ 13 <|.mov (.g 0),f_ 14 <|.mov (.g 1),f_ 15 <|.call (.k 100) .no none [.l 0, .l 1],f_ 12 <|.mov (.l 2),f_ 16 <|.ext (.l 3) 0,f_ 17 <|.ext (.l 3) 1,t_ 6 <|.mov (.l 4),t_ 7 <|.mov (.l 5)]
def r84_4 : List Op := [f_ 18 <|.mov (.g 7),t_ 19 <|.un .not (.l 0)]
def r84_5 : List Op := [f_ 20 <|.build [.int .i64 0, .int .i64 0, .int .i64 0, .int .i64 0, .int .i64 0, .int .i64 0, .bool false, .str [], .slice 2 [], .str [], .bool false] [],u_ <|.store (.v 4) 11 (.g 4) (.l 0),t_ 5 <|.mov (cb false)]
def r84_6 : List Op := [f_ 21 <|.mov (.g 0),f_ 22 <|.mov (.g 6),f_ 23 <|.iad 11 (.l 0) (.l 1),f_ 24 <|.load (.c) (some 11) (.l 2),u_ <|.store (.v 4) 11 (.g 4) (.l 3),t_ 5 <|.mov (cb true)]
def c84 : C := .seq (.region false r84_0) (.seq (.seq (.region false r84_1) (.cond (.g 10) (.seq (.region false r84_2) (.ret)) (.skip))) (.seq (.region false r84_3) (.seq (.seq (.region false r84_4) (.cond (.g 19) (.seq (.region false r84_5) (.ret)) (.skip))) (.seq (.region false r84_6) (.ret)))))
def F84 : F := ⟨2, [0, 1, 4, 5, 6, 7, 10, 19], [.cell 4 (some 11), .t 5], none, c84⟩
attribute [go_sem] r84_0 r84_1 r84_2 r84_3 r84_4 r84_5 r84_6 c84 F84
def r88_0 : List Op := [t_ 3 <|.box (.g 1),t_ 4 <|.mov (.c (.slice 11 [])),t_ 5 <|.mov (ci 0)]
def r88_1 : List Op := [f_ 9 <|.mov (.g 0),f_ 10 <|.call (.k 81) .no none [.l 0],f_ 11 <|.un .not (.l 1),f_ 12 <|.mov (.l 2),n_ 13 3 <|.load (.v 3) (some 11) (.g 3),n_ 14 3 <|.mks 11 1 [.int .i64 0, .int .i64 0, .int .i64 0, .int .i64 0, .int .i64 0, .int .i64 0, .bool false, .str [], .slice 2 [], .str [], .bool false] [(0, .l 4)],n_ 15 3 <|.call (.k 81) .no none [.l 5],n_ 16 3 <|.un .not (.l 6),t_ 17 <|.pick (.l 3) (cb true) (.l 7)]
def r88_2 : List Op := [t_ 4 <|.mov (.c (.slice 11 [])),t_ 5 <|.mov (ci 1)]
def r88_3 : List Op := [f_ 19 <|.mov (.g 0),f_ 20 <|.fad (.g 3) 0,f_ 21 <|.load (.v 3) none (.l 1),f_ 22 <|.call (.k 100) .no none [.l 0, .l 2],f_ 18 <|.mov (.l 3),f_ 23 <|.ext (.l 4) 0,f_ 24 <|.ext (.l 4) 1,t_ 6 <|.mov (.l 5),t_ 7 <|.mov (.l 6)]
def r88_4 : List Op := [f_ 26 <|.mov (.g 7),f_ 27 <|.mov (.l 0),y_ 28 1 <|.mov (.g 0),y_ 29 1 <|.mov (.g 6),y_ 30 1 <|.iad 11 (.l 2) (.l 3),y_ 31 1 <|.fad (.l 4) 1,y_ 32 1 <|.load (.c) none (.l 5),y_ 33 1 <|.fad (.g 3) 1,y_ 34 1 <|.load (.v 3) none (.l 7),y_ 35 1 <|.bin .geq (.l 6) (.l 8),f_ 36 <|.pick (.l 1) (.l 9) (cb false),t_ 25 <|.mov (.l 10)]
def r88_5 : List Op := [t_ 4 <|.mov (.c (.slice 11 [])),t_ 5 <|.mov (ci 9)]
def r88_6 : List Op := [f_ 38 <|.mov (.g 7),f_ 39 <|.un .not (.l 0),f_ 40 <|.mov (.l 1),y_ 41 2 <|.mov (.g 0),y_ 42 2 <|.len false (.l 3),y_ 43 2 <|.bin .eql (.l 4) (ci 8),f_ 44 <|.pick (.l 2) (.l 5) (cb false),t_ 37 <|.mov (.l 6)]
def r88_7 : List Op := [t_ 4 <|.mov (.c (.slice 11 [])),t_ 5 <|.mov (ci 6)]
def r88_8 : List Op := [f_ 45 <|.mov (.g 0),f_ 46 <|.call (.k 102) .no (some 0) [.l 0],t_ 8 <|.mov (.l 1)]
def r88_9 : List Op := [t_ 47 <|.mov (.g 7)]
def r88_10 : List Op := [f_ 48 <|.mov (.g 8),f_ 49 <|.mov (.g 6),f_ 50 <|.load (.v 3) (some 11) (.g 3),f_ 51 <|.iad 11 (.l 0) (.l 1),u_ <|.store (.e 46) 11 (.l 3) (.l 2)]
def r88_11 : List Op := [f_ 52 <|.mov (.g 8),t_ 4 <|.mov (.l 0),t_ 5 <|.mov (ci 0)]
def r88_12 : List Op := [f_ 53 <|.mov (.g 8),f_ 54 <|.mov (.g 6),f_ 55 <|.load (.v 3) (some 11) (.g 3),f_ 56 <|.mks 11 1 [.int .i64 0, .int .i64 0, .int .i64 0, .int .i64 0, .int .i64 0, .int .i64 0, .bool false, .str [], .slice 2 [], .str [], .bool false] [(0, .l 2)],f_ 57 <|.ins 103 46 11 (.l 0) (.l 1) (.l 3),t_ 4 <|.mov (.l 4),t_ 5 <|.mov (ci 0)]
def c88 : C := .seq (.region false r88_0) (.seq (.seq (.region false r88_1) (.cond (.g 17) (.seq (.region false r88_2) (.ret)) (.skip))) (.seq (.region false r88_3) (.seq (.block 0 (.seq (.region true r88_4) (.cond (.g 25) (.seq (.region false r88_5) (.ret)) (.seq (.region false r88_6) (.cond (.g 37) (.seq (.region false r88_7) (.ret)) (.skip)))))) (.seq (.region false r88_8) (.seq (.seq (.region false r88_9) (.cond (.g 47) (.seq (.region false r88_10) (.seq (.region false r88_11) (.ret))) (.skip))) (.seq (.region false r88_12) (.ret)))))))
def F88 : F := ⟨2, [0, 1, 3, 4, 5, 6, 7, 8, 17, 25, 37, 47], [.t 4, .t 5], none, c88⟩
attribute [go_sem] r88_0 r88_1 r88_2 r88_3 r88_4 r88_5 r88_6 r88_7 r88_8 r88_9 r88_10 r88_11 r88_12 c88 F88
def r97_0 : List Op := [t_ 2 <|.mov (cb false)]
def r97_1 : List Op := [f_ 3 <|.mov (.g 0),f_ 4 <|.bin .geq (.l 0) (ci 1),f_ 5 <|.mov (.l 1),y_ 6 2 <|.mov (.g 0),y_ 7 2 <|.bin .leq (.l 3) (ci 1099511627776),f_ 8 <|.pick (.l 2) (.l 4) (cb false),t_ 2 <|.mov (.l 5)]
def c97 : C := .seq (.region false r97_0) (.seq (.region false r97_1) (.ret))
def F97 : F := ⟨1, [0, 2], [.t 2], none, c97⟩
attribute [go_sem] r97_0 r97_1 c97 F97
def r98_0 : List Op := [t_ 1 <|.box (.g 0),t_ 2 <|.mov (cb false)]
def r98_1 : List Op := [f_ 3 <|.fad (.g 1) 0,f_ 4 <|.load (.v 1) none (.l 0),f_ 5 <|.bin .geq (.l 1) (ci 0),f_ 6 <|.mov (.l 2),y_ 7 3 <|.fad (.g 1) 0,y_ 8 3 <|.load (.v 1) none (.l 4),y_ 9 3 <|.bin .leq (.l 5) (ci 16),f_ 10 <|.pick (.l 3) (.l 6) (cb false),f_ 11 <|.mov (.l 7),y_ 12 8 <|.fad (.g 1) 1,y_ 13 8 <|.load (.v 1) (some 3) (.l 9),y_ 14 8 <|.call (.k 28) .no none [.l 10],f_ 15 <|.pick (.l 8) (.l 11) (cb false),f_ 16 <|.mov (.l 12),y_ 17 13 <|.fad (.g 1) 5,y_ 18 13 <|.load (.v 1) none (.l 14),y_ 19 13 <|.len true (.l 15),y_ 20 13 <|.bin .leq (.l 16) (ci 16),f_ 21 <|.pick (.l 13) (.l 17) (cb false),f_ 22 <|.mov (.l 18),y_ 23 19 <|.fad (.g 1) 6,y_ 24 19 <|.load (.v 1) none (.l 20),y_ 25 19 <|.len false (.l 21),y_ 26 19 <|.bin .eql (.l 22) (ci 0),f_ 27 <|.pick (.l 19) (.l 23) (cb false),f_ 28 <|.mov (.l 24),y_ 29 25 <|.fad (.g 1) 7,y_ 30 25 <|.load (.v 1) none (.l 26),y_ 31 25 <|.bin .eql (.l 27) (.c (.str [])),f_ 32 <|.pick (.l 25) (.l 28) (cb false),f_ 33 <|.mov (.l 29),y_ 34 30 <|.fad (.g 1) 8,y_ 35 30 <|.load (.v 1) none (.l 31),y_ 36 30 <|.un .not (.l 32),f_ 37 <|.pick (.l 30) (.l 33) (cb false),t_ 2 <|.mov (.l 34)]
def c98 : C := .seq (.region false r98_0) (.seq (.region false r98_1) (.ret))
def F98 : F := ⟨1, [0, 1, 2], [.t 2], none, c98⟩
attribute [go_sem] r98_0 r98_1 c98 F98
def r100_0 : List Op := [t_ 3 <|.box (.g 1),t_ 4 <|.mov (ci 0),t_ 5 <|.mov (cb false)]
def r100_1 : List Op := [f_ 7 <|.mov (.g 0),f_ 8 <|.fn 105 [.g 3] [3],f_ 9 <|.call (.k 106) .no none [.l 0, .l 1],t_ 6 <|.mov (.l 2)]
def r100_2 : List Op := [f_ 10 <|.mov (.g 6),t_ 11 <|.bin .lss (.l 0) (ci 0)]
def r100_3 : List Op := [f_ 12 <|.mov (.g 0),f_ 13 <|.len false (.l 0),t_ 4 <|.mov (.l 1),t_ 5 <|.mov (cb false)]
def r100_4 : List Op := [f_ 14 <|.mov (.g 6),f_ 15 <|.mov (.g 0),f_ 16 <|.mov (.g 6),f_ 17 <|.iad 11 (.l 1) (.l 2),f_ 18 <|.fad (.l 3) 0,f_ 19 <|.load (.c) none (.l 4),f_ 20 <|.load (.v 3) none (.g 3),f_ 21 <|.bin .eql (.l 5) (.l 6),t_ 4 <|.mov (.l 0),t_ 5 <|.mov (.l 7)]
def c100 : C := .seq (.region false r100_0) (.seq (.region false r100_1) (.seq (.seq (.region false r100_2) (.cond (.g 11) (.seq (.region false r100_3) (.ret)) (.skip))) (.seq (.region true r100_4) (.ret))))
def F100 : F := ⟨2, [0, 1, 3, 4, 5, 6, 11], [.t 4, .t 5], none, c100⟩
attribute [go_sem] r100_0 r100_1 r100_2 r100_3 r100_4 c100 F100
def r101_0 : List Op := [t_ 2 <|.box (.g 0),t_ 3 <|.box (.g 1),t_ 4 <|.mov (cb false)]
def r101_1 : List Op := [f_ 6 <|.fad (.g 2) 6,f_ 7 <|.load (.v 2) none (.l 0),f_ 8 <|.len false (.l 1),f_ 9 <|.fad (.g 3) 6,f_ 10 <|.load (.v 3) none (.l 3),f_ 11 <|.len false (.l 4),t_ 12 <|.bin .neq (.l 2) (.l 5)]
def r101_2 : List Op := [t_ 4 <|.mov (cb false)]
def r101_3 : List Op := [t_ 5 <|.mov (ci 0)]
def r101_4 : List Op := [f_ 13 <|.mov (.g 5),f_ 14 <|.fad (.g 2) 6,f_ 15 <|.load (.v 2) none (.l 1),f_ 16 <|.len false (.l 2),t_ 17 <|.bin .lss (.l 0) (.l 3)]
def r101_5 : List Op := [f_ 20 <|.fad (.g 2) 6,f_ 21 <|.load (.v 2) none (.l 0),f_ 22 <|.mov (.g 5),f_ 23 <|.iad 2 (.l 1) (.l 2),f_ 24 <|.load (.c) (some 2) (.l 3),f_ 25 <|.fad (.g 3) 6,f_ 26 <|.load (.v 3) none (.l 5),f_ 27 <|.mov (.g 5),f_ 28 <|.iad 2 (.l 6) (.l 7),f_ 29 <|.load (.c) (some 2) (.l 8),t_ 30 <|.eqa true [.s, .s] (.l 4) (.l 9)]
def r101_6 : List Op := [t_ 4 <|.mov (cb false)]
def r101_7 : List Op := [f_ 18 <|.mov (.g 5),f_ 19 <|.bin .add (.l 0) (ci 1),t_ 5 <|.mov (.l 1)]
def b101_0 : C := .seq (.seq (.region false r101_4) (.cond (.g 17) (.skip) (.exit 0))) (.seq (.block 1 (.seq (.region true r101_5) (.cond (.g 30) (.seq (.region false r101_6) (.ret)) (.skip)))) (.region false r101_7))
def l101_0 : C := .loop [] [] [] [] b101_0
def r101_8 : List Op := [f_ 31 <|.fad (.g 2) 0,f_ 32 <|.load (.v 2) none (.l 0),f_ 33 <|.fad (.g 3) 0,f_ 34 <|.load (.v 3) none (.l 2),f_ 35 <|.bin .eql (.l 1) (.l 3),f_ 36 <|.mov (.l 4),y_ 37 5 <|.fad (.g 2) 1,y_ 38 5 <|.load (.v 2) (some 3) (.l 6),y_ 39 5 <|.fad (.g 3) 1,y_ 40 5 <|.load (.v 3) (some 3) (.l 8),y_ 41 5 <|.eqa false [.i, .i, .i] (.l 7) (.l 9),f_ 42 <|.pick (.l 5) (.l 10) (cb false),f_ 43 <|.mov (.l 11),y_ 44 12 <|.fad (.g 2) 4,y_ 45 12 <|.load (.v 2) none (.l 13),y_ 46 12 <|.fad (.g 3) 4,y_ 47 12 <|.load (.v 3) none (.l 15),y_ 48 12 <|.eqb false (.l 14) (.l 16),f_ 49 <|.pick (.l 12) (.l 17) (cb false),f_ 50 <|.mov (.l 18),y_ 51 19 <|.fad (.g 2) 5,y_ 52 19 <|.load (.v 2) none (.l 20),y_ 53 19 <|.fad (.g 3) 5,y_ 54 19 <|.load (.v 3) none (.l 22),y_ 55 19 <|.bin .eql (.l 21) (.l 23),f_ 56 <|.pick (.l 19) (.l 24) (cb false),f_ 57 <|.mov (.l 25),y_ 58 26 <|.fad (.g 2) 7,y_ 59 26 <|.load (.v 2) none (.l 27),y_ 60 26 <|.fad (.g 3) 7,y_ 61 26 <|.load (.v 3) none (.l 29),y_ 62 26 <|.bin .eql (.l 28) (.l 30),f_ 63 <|.pick (.l 26) (.l 31) (cb false),f_ 64 <|.mov (.l 32),y_ 65 33 <|.fad (.g 2) 8,y_ 66 33 <|.load (.v 2) none (.l 34),y_ 67 33 <|.fad (.g 3) 8,y_ 68 33 <|.load (.v 3) none (.l 36),y_ 69 33 <|.eqb false (.l 35) (.l 37),f_ 70 <|.pick (.l 33) (.l 38) (cb false),t_ 4 <|.mov (.l 39)]
def c101 : C := .seq (.region false r101_0) (.seq (.seq (.region false r101_1) (.cond (.g 12) (.seq (.region false r101_2) (.ret)) (.skip))) (.seq (.seq (.region false r101_3) (.block 0 (l101_0))) (.seq (.region false r101_8) (.ret))))
def F101 : F := ⟨2, [0, 1, 2, 3, 4, 5, 12, 17, 30], [.t 4], none, c101⟩
attribute [go_sem] r101_0 r101_1 r101_2 r101_3 r101_4 r101_5 r101_6 r101_7 b101_0 r101_8 c101 F101
def r106_0 : List Op := [t_ 4 <|.mov (ci 0)]
def r106_1 : List Op := [f_ 6 <|.mov (.g 0),t_ 7 <|.len false (.l 0),t_ 8 <|.mov (ci 0)]
def r106_2 : List Op := [t_ 9 <|.bin .lss (.g 8) (.g 7)]
def r106_3 : List Op := [f_ 10 <|.mov (.g 8),t_ 5 <|.mov (.l 0)]
def r106_4 : List Op := [f_ 11 <|.mov (.g 1),f_ 12 <|.mov (.g 0),f_ 13 <|.mov (.g 5),f_ 14 <|.iad 11 (.l 1) (.l 2),f_ 15 <|.load (.c) (some 11) (.l 3),t_ 16 <|.call (.v (.l 0)) .no none [.l 4]]
def r106_5 : List Op := [f_ 17 <|.mov (.g 5),t_ 4 <|.mov (.l 0)]
def r106_6 : List Op := [f_ 18 <|.bin .add (.g 8) (ci 1),t_ 8 <|.mov (.l 0)]
def b106_0 : C := .seq (.region false r106_2) (.seq (.cond (.g 9) (.skip) (.exit 0)) (.seq (.block 1 (.seq (.region false r106_3) (.seq (.region false r106_4) (.cond (.g 16) (.seq (.region false r106_5) (.ret)) (.skip))))) (.region false r106_6)))
def l106_0 : C := .loop [] [] [] [] b106_0
def r106_7 : List Op := [t_ 4 <|.mov (ci (-1))]
def c106 : C := .seq (.region false r106_0) (.seq (.seq (.region false r106_1) (.block 0 (l106_0))) (.seq (.region false r106_7) (.ret)))
def F106 : F := ⟨2, [0, 1, 4, 5, 7, 8, 9, 16], [.t 4], none, c106⟩
attribute [go_sem] r106_0 r106_1 r106_2 r106_3 r106_4 r106_5 r106_6 b106_0 r106_7 c106 F106
end Sg
namespace Sg
open _root_.Go (IntKind BinOp UnOp)
def r39_0 : List Op := [t_ 1 <|.box (.g 0),t_ 2 <|.mov (cb false)]
def r39_1 : List Op := [f_ 3 <|.fad (.g 1) 0,f_ 4 <|.load (.v 1) none (.l 0),f_ 5 <|.bin .lss (.l 1) (ci 1),f_ 6 <|.mov (.l 2),n_ 7 3 <|.fad (.g 1) 0,n_ 8 3 <|.load (.v 1) none (.l 4),n_ 9 3 <|.bin .gtr (.l 5) (ci 255),f_ 10 <|.pick (.l 3) (cb true) (.l 6),f_ 11 <|.mov (.l 7),n_ 12 8 <|.fad (.g 1) 1,n_ 13 8 <|.load (.v 1) none (.l 9),n_ 14 8 <|.call (.k 63) .no none [.l 10, .c (.int .i64 0)],n_ 15 8 <|.un .not (.l 11),f_ 16 <|.pick (.l 8) (cb true) (.l 12),f_ 17 <|.mov (.l 13),n_ 18 14 <|.fad (.g 1) 3,n_ 19 14 <|.load (.v 1) none (.l 15),n_ 20 14 <|.call (.k 63) .no none [.l 16, .c (.int .i64 0)],n_ 21 14 <|.un .not (.l 17),f_ 22 <|.pick (.l 14) (cb true) (.l 18),f_ 23 <|.mov (.l 19),n_ 24 20 <|.fad (.g 1) 2,n_ 25 20 <|.load (.v 1) none (.l 21),n_ 26 20 <|.call (.k 64) .no none [.l 22],n_ 27 20 <|.un .not (.l 23),f_ 28 <|.pick (.l 20) (cb true) (.l 24),f_ 29 <|.mov (.l 25),n_ 30 26 <|.fad (.g 1) 6,n_ 31 26 <|.load (.v 1) none (.l 27),n_ 32 26 <|.call (.k 64) .no none [.l 28],n_ 33 26 <|.un .not (.l 29),t_ 34 <|.pick (.l 26) (cb true) (.l 30)]
def r39_2 : List Op := [t_ 2 <|.mov (cb false)]
def r39_3 : List Op := [f_ 35 <|.fad (.g 1) 2,f_ 36 <|.load (.v 1) none (.l 0),f_ 37 <|.len false (.l 1),f_ 38 <|.bin .gtr (.l 2) (ci 0),f_ 39 <|.mov (.l 3),y_ 40 4 <|.fad (.g 1) 2,y_ 41 4 <|.load (.v 1) none (.l 5),y_ 42 4 <|.fad (.g 1) 0,y_ 43 4 <|.load (.v 1) none (.l 7),y_ 44 4 <|.call (.k 65) .no none [.l 6, .l 8],y_ 45 4 <|.un .not (.l 9),t_ 46 <|.pick (.l 4) (.l 10) (cb false)]
def r39_4 : List Op := [t_ 2 <|.mov (cb false)]
def r39_5 : List Op := [f_ 47 <|.fad (.g 1) 6,f_ 48 <|.load (.v 1) none (.l 0),f_ 49 <|.fn 66 [.g 1] [1],t_ 50 <|.call (.k 67) .no none [.l 1, .l 2]]
def r39_6 : List Op := [t_ 2 <|.mov (cb false)]
def r39_7 : List Op := [f_ 51 <|.load (.v 1) (some 7) (.g 1),f_ 52 <|.call (.k 68) .no none [.l 0],t_ 53 <|.un .not (.l 1)]
def r39_8 : List Op := [f_ 54 <|.fad (.g 1) 6,f_ 55 <|.load (.v 1) none (.l 0),f_ 56 <|.len false (.l 1),f_ 57 <|.bin .eql (.l 2) (ci 0),f_ 58 <|.mov (.l 3),y_ 59 4 <|.fad (.g 1) 4,y_ 60 4 <|.load (.v 1) none (.l 5),y_ 61 4 <|.fad (.g 1) 5,y_ 62 4 <|.load (.v 1) none (.l 7),y_ 63 4 <|.bin .eql (.l 6) (.l 8),f_ 64 <|.pick (.l 4) (.l 9) (cb false),t_ 2 <|.mov (.l 10)]
def r39_9 : List Op := [f_ 65 <|.fad (.g 1) 6,f_ 66 <|.load (.v 1) none (.l 0),f_ 67 <|.fad (.g 1) 0,f_ 68 <|.load (.v 1) none (.l 2),f_ 69 <|.call (.k 65) .no none [.l 1, .l 3],f_ 70 <|.mov (.l 4),y_ 71 5 <|.fad (.g 1) 6,y_ 72 5 <|.load (.v 1) none (.l 6),y_ 73 5 <|.len false (.l 7),y_ 74 5 <|.fad (.g 1) 2,y_ 75 5 <|.load (.v 1) none (.l 9),y_ 76 5 <|.len false (.l 10),y_ 77 5 <|.bin .lss (.l 8) (.l 11),y_ 78 5 <|.mov (.l 12),n_ 79 13 <|.fad (.g 1) 4,n_ 80 13 <|.load (.v 1) none (.l 14),n_ 81 13 <|.fad (.g 1) 5,n_ 82 13 <|.load (.v 1) none (.l 16),n_ 83 13 <|.bin .eql (.l 15) (.l 17),y_ 84 5 <|.pick (.l 13) (cb true) (.l 18),f_ 85 <|.pick (.l 5) (.l 19) (cb false),t_ 2 <|.mov (.l 20)]
def c39 : C := .seq (.region false r39_0) (.seq (.seq (.region false r39_1) (.cond (.g 34) (.seq (.region false r39_2) (.ret)) (.skip))) (.seq (.seq (.region false r39_3) (.cond (.g 46) (.seq (.region false r39_4) (.ret)) (.skip))) (.seq (.seq (.region false r39_5) (.cond (.g 50) (.seq (.region false r39_6) (.ret)) (.skip))) (.seq (.seq (.region false r39_7) (.cond (.g 53) (.seq (.region false r39_8) (.ret)) (.skip))) (.seq (.region false r39_9) (.ret))))))
def F39 : F := ⟨1, [0, 1, 2, 34, 46, 50, 53], [.t 2], none, c39⟩
attribute [go_sem] r39_0 r39_1 r39_2 r39_3 r39_4 r39_5 r39_6 r39_7 r39_8 r39_9 c39 F39
def r40_0 : List Op := [t_ 1 <|.box (.g 0),t_ 2 <|.mov (cb false)]
def r40_1 : List Op := [f_ 3 <|.load (.v 1) (some 7) (.g 1),f_ 4 <|.call (.k 39) .no none [.l 0],f_ 5 <|.mov (.l 1),y_ 6 2 <|.load (.v 1) (some 7) (.g 1),y_ 7 2 <|.call (.k 68) .no none [.l 3],f_ 8 <|.pick (.l 2) (.l 4) (cb false),t_ 2 <|.mov (.l 5)]
def c40 : C := .seq (.region false r40_0) (.seq (.region false r40_1) (.ret))
def F40 : F := ⟨1, [0, 1, 2], [.t 2], none, c40⟩
attribute [go_sem] r40_0 r40_1 c40 F40
def r41_0 : List Op := [t_ 1 <|.box (.g 0),t_ 2 <|.mov (cb false)]
def r41_1 : List Op := [f_ 3 <|.load (.v 1) (some 7) (.g 1),f_ 4 <|.call (.k 40) .no none [.l 0],f_ 5 <|.mov (.l 1),y_ 6 2 <|.fad (.g 1) 6,y_ 7 2 <|.load (.v 1) none (.l 3),y_ 8 2 <|.len false (.l 4),y_ 9 2 <|.fad (.g 1) 2,y_ 10 2 <|.load (.v 1) none (.l 6),y_ 11 2 <|.len false (.l 7),y_ 12 2 <|.bin .lss (.l 5) (.l 8),f_ 13 <|.pick (.l 2) (.l 9) (cb false),t_ 2 <|.mov (.l 10)]
def c41 : C := .seq (.region false r41_0) (.seq (.region false r41_1) (.ret))
def F41 : F := ⟨1, [0, 1, 2], [.t 2], none, c41⟩
attribute [go_sem] r41_0 r41_1 c41 F41
def r43_0 : List Op := [t_ 6 <|.alloc [.int .i64 0, .int .i64 0, .slice 1 [], .int .i64 0, .str [], .str [], .slice 1 []],t_ 7 <|.mov (ci 0)]
def r43_1 : List Op := [f_ 9 <|.mov (.g 0),f_ 10 <|.mov (.g 1),f_ 11 <|.call (.k 69) .no none [.l 1],f_ 12 <|.mov (.g 2),f_ 13 <|.mov (.g 2),f_ 14 <|.build [.int .i64 0, .int .i64 0, .slice 1 [], .int .i64 0, .str [], .str [], .slice 1 []] [(0, 1, .l 0), (1, 1, .c (.int .i64 1)), (2, 1, .l 2), (3, 1, .c (.int .i64 1)), (4, 1, .l 3), (5, 1, .l 4)],t_ 8 <|.alloc [.int .i64 0, .int .i64 0, .slice 1 [], .int .i64 0, .str [], .str [], .slice 1 []],u_ <|.store (.v 8) 7 (.l 6) (.l 5)]
def r43_2 : List Op := [f_ 15 <|.load (.v 8) (some 7) (.g 8),t_ 16 <|.call (.k 68) .no none [.l 0]]
def r43_3 : List Op := [f_ 17 <|.mov (.g 1),f_ 18 <|.call (.k 69) .no none [.l 0],f_ 19 <|.fad (.g 8) 6,u_ <|.store (.v 8) 1 (.l 2) (.l 1)]
def r43_4 : List Op := [f_ 20 <|.mov (.g 1),f_ 21 <|.len false (.l 0),f_ 22 <|.bin .eql (.l 1) (ci 0),f_ 23 <|.mov (.l 2),n_ 24 3 <|.load (.v 8) (some 7) (.g 8),n_ 25 3 <|.call (.k 39) .no none [.l 4],n_ 26 3 <|.un .not (.l 5),t_ 27 <|.pick (.l 3) (cb true) (.l 6)]
def r43_5 : List Op := [f_ 28 <|.build [.int .i64 0, .int .i64 0, .slice 1 [], .int .i64 0, .str [], .str [], .slice 1 []] [],u_ <|.store (.v 6) 7 (.g 6) (.l 0),t_ 7 <|.mov (ci 1)]
def r43_6 : List Op := [f_ 29 <|.load (.v 8) (some 7) (.g 8),u_ <|.store (.v 6) 7 (.g 6) (.l 0),t_ 7 <|.mov (ci 0)]
def c43 : C := .seq (.region false r43_0) (.seq (.region false r43_1) (.seq (.seq (.region false r43_2) (.cond (.g 16) (.region false r43_3) (.skip))) (.seq (.seq (.region false r43_4) (.cond (.g 27) (.seq (.region false r43_5) (.ret)) (.skip))) (.seq (.region false r43_6) (.ret)))))
def F43 : F := ⟨3, [0, 1, 2, 6, 7, 8, 16, 27], [.cell 6 (some 7), .t 7], none, c43⟩
attribute [go_sem] r43_0 r43_1 r43_2 r43_3 r43_4 r43_5 r43_6 c43 F43
def r45_0 : List Op := [t_ 2 <|.box (.g 0),t_ 3 <|.box (.g 1),t_ 4 <|.mov (cb false)]
def r45_1 : List Op := [f_ 5 <|.fad (.g 2) 0,f_ 6 <|.load (.v 2) none (.l 0),f_ 7 <|.fad (.g 3) 0,f_ 8 <|.load (.v 3) none (.l 2),f_ 9 <|.bin .eql (.l 1) (.l 3),f_ 10 <|.mov (.l 4),y_ 11 5 <|.fad (.g 2) 1,y_ 12 5 <|.load (.v 2) none (.l 6),y_ 13 5 <|.fad (.g 3) 1,y_ 14 5 <|.load (.v 3) none (.l 8),y_ 15 5 <|.bin .eql (.l 7) (.l 9),f_ 16 <|.pick (.l 5) (.l 10) (cb false),f_ 17 <|.mov (.l 11),y_ 18 12 <|.fad (.g 2) 2,y_ 19 12 <|.load (.v 2) none (.l 13),y_ 20 12 <|.fad (.g 3) 2,y_ 21 12 <|.load (.v 3) none (.l 15),y_ 22 12 <|.call (.k 70) .no none [.l 14, .l 16],f_ 23 <|.pick (.l 12) (.l 17) (cb false),f_ 24 <|.mov (.l 18),y_ 25 19 <|.fad (.g 2) 3,y_ 26 19 <|.load (.v 2) none (.l 20),y_ 27 19 <|.fad (.g 3) 3,y_ 28 19 <|.load (.v 3) none (.l 22),y_ 29 19 <|.bin .eql (.l 21) (.l 23),f_ 30 <|.pick (.l 19) (.l 24) (cb false),f_ 31 <|.mov (.l 25),y_ 32 26 <|.fad (.g 2) 4,y_ 33 26 <|.load (.v 2) none (.l 27),y_ 34 26 <|.fad (.g 3) 4,y_ 35 26 <|.load (.v 3) none (.l 29),y_ 36 26 <|.bin .eql (.l 28) (.l 30),f_ 37 <|.pick (.l 26) (.l 31) (cb false),f_ 38 <|.mov (.l 32),y_ 39 33 <|.fad (.g 2) 5,y_ 40 33 <|.load (.v 2) none (.l 34),y_ 41 33 <|.fad (.g 3) 5,y_ 42 33 <|.load (.v 3) none (.l 36),y_ 43 33 <|.bin .eql (.l 35) (.l 37),f_ 44 <|.pick (.l 33) (.l 38) (cb false),f_ 45 <|.mov (.l 39),y_ 46 40 <|.fad (.g 2) 6,y_ 47 40 <|.load (.v 2) none (.l 41),y_ 48 40 <|.fad (.g 3) 6,y_ 49 40 <|.load (.v 3) none (.l 43),y_ 50 40 <|.call (.k 70) .no none [.l 42, .l 44],f_ 51 <|.pick (.l 40) (.l 45) (cb false),t_ 4 <|.mov (.l 46)]
def c45 : C := .seq (.region false r45_0) (.seq (.region false r45_1) (.ret))
def F45 : F := ⟨2, [0, 1, 2, 3, 4], [.t 4], none, c45⟩
attribute [go_sem] r45_0 r45_1 c45 F45
def r47_0 : List Op := [t_ 2 <|.box (.g 0),t_ 4 <|.alloc [.int .i64 0, .int .i64 0, .slice 1 [], .int .i64 0, .str [], .str [], .slice 1 []],t_ 5 <|.mov (.c (.slice 7 [])),t_ 6 <|.mov (ci 0)]
def r47_1 : List Op := [f_ 8 <|.load (.v 2) (some 7) (.g 2),f_ 9 <|.call (.k 39) .no none [.l 0],f_ 10 <|.un .not (.l 1),t_ 7 <|.mov (.l 2)]
def r47_2 : List Op := [f_ 11 <|.build [.int .i64 0, .int .i64 0, .slice 1 [], .int .i64 0, .str [], .str [], .slice 1 []] [],u_ <|.store (.v 4) 7 (.g 4) (.l 0),t_ 5 <|.mov (.c (.slice 7 [])),t_ 6 <|.mov (ci 1)]
def r47_3 : List Op := [f_ 13 <|.load (.v 2) (some 7) (.g 2),f_ 14 <|.call (.k 68) .no none [.l 0],f_ 15 <|.un .not (.l 1),t_ 12 <|.mov (.l 2)]
def r47_4 : List Op := [f_ 16 <|.build [.int .i64 0, .int .i64 0, .slice 1 [], .int .i64 0, .str [], .str [], .slice 1 []] [],u_ <|.store (.v 4) 7 (.g 4) (.l 0),t_ 5 <|.mov (.c (.slice 7 [])),t_ 6 <|.mov (ci 10)]
def r47_5 : List Op := [f_ 18 <|.load (.v 2) (some 7) (.g 2),f_ 19 <|.call (.k 41) .no none [.l 0],t_ 17 <|.mov (.l 1)]
def r47_6 : List Op := [f_ 20 <|.build [.int .i64 0, .int .i64 0, .slice 1 [], .int .i64 0, .str [], .str [], .slice 1 []] [],u_ <|.store (.v 4) 7 (.g 4) (.l 0),t_ 5 <|.mov (.c (.slice 7 [])),t_ 6 <|.mov (ci 11)]
def r47_7 : List Op := [f_ 22 <|.fad (.g 2) 3,f_ 23 <|.load (.v 2) none (.l 0),f_ 24 <|.bin .eql (.l 1) (ci 1099511627776),t_ 21 <|.mov (.l 2)]
def r47_8 : List Op := [f_ 25 <|.build [.int .i64 0, .int .i64 0, .slice 1 [], .int .i64 0, .str [], .str [], .slice 1 []] [],u_ <|.store (.v 4) 7 (.g 4) (.l 0),t_ 5 <|.mov (.c (.slice 7 [])),t_ 6 <|.mov (ci 6)]
def r47_9 : List Op := [f_ 26 <|.fad (.g 2) 3,f_ 27 <|.load (.v 2) none (.l 0),f_ 28 <|.bin .add (.l 1) (ci 1),f_ 29 <|.fad (.g 2) 3,u_ <|.store (.v 2) 1 (.l 3) (.l 2)]
def r47_10 : List Op := [f_ 30 <|.mov (.g 1),f_ 31 <|.fad (.g 2) 0,f_ 32 <|.load (.v 2) none (.l 1),f_ 33 <|.mks 1 1 [.int .i64 0] [(0, .l 2)],f_ 34 <|.fad (.g 2) 5,u_ <|.store (.v 2) 1 (.l 4) (.l 0),f_ 35 <|.fad (.g 2) 6,u_ <|.store (.v 2) 1 (.l 6) (.l 3)]
def r47_11 : List Op := [f_ 36 <|.load (.v 2) (some 7) (.g 2),f_ 37 <|.call (.k 71) .no none [.l 0],f_ 38 <|.load (.v 2) (some 7) (.g 2),f_ 39 <|.call (.k 72) .no none [.l 2],u_ <|.store (.v 4) 7 (.g 4) (.l 1),t_ 5 <|.mov (.l 3),t_ 6 <|.mov (ci 0)]
def c47 : C := .seq (.region false r47_0) (.seq (.block 0 (.seq (.region false r47_1) (.cond (.g 7) (.seq (.region false r47_2) (.ret)) (.seq (.region false r47_3) (.cond (.g 12) (.seq (.region false r47_4) (.ret)) (.seq (.region false r47_5) (.cond (.g 17) (.seq (.region false r47_6) (.ret)) (.seq (.region false r47_7) (.cond (.g 21) (.seq (.region false r47_8) (.ret)) (.skip)))))))))) (.seq (.region false r47_9) (.seq (.region false r47_10) (.seq (.region true r47_11) (.ret)))))
def F47 : F := ⟨2, [0, 1, 2, 4, 5, 6, 7, 12, 17, 21], [.cell 4 (some 7), .t 5, .t 6], none, c47⟩
attribute [go_sem] r47_0 r47_1 r47_2 r47_3 r47_4 r47_5 r47_6 r47_7 r47_8 r47_9 r47_10 r47_11 c47 F47
def r51_0 : List Op := [t_ 1 <|.box (.g 0),t_ 2 <|.mov (.c (.slice 7 []))]
def r51_1 : List Op := [f_ 3 <|.load (.v 1) (some 7) (.g 1),f_ 4 <|.call (.k 41) .no none [.l 0],t_ 5 <|.un .not (.l 1)]
def r51_2 : List Op := [t_ 2 <|.mov (.c (.slice 7 []))]
def r51_3 : List Op := [f_ 6 <|.load (.v 1) (some 7) (.g 1),f_ 7 <|.call (.k 72) .no none [.l 0],t_ 2 <|.mov (.l 1)]
def c51 : C := .seq (.region false r51_0) (.seq (.seq (.region false r51_1) (.cond (.g 5) (.seq (.region false r51_2) (.ret)) (.skip))) (.seq (.region false r51_3) (.ret)))
def F51 : F := ⟨1, [0, 1, 2, 5], [.t 2], none, c51⟩
attribute [go_sem] r51_0 r51_1 r51_2 r51_3 c51 F51
def r57_0 : List Op := [t_ 2 <|.box (.g 0),t_ 3 <|.box (.g 1),t_ 4 <|.alloc [.int .i64 0, .int .i64 0, .slice 1 [], .int .i64 0, .str [], .str [], .slice 1 []],t_ 5 <|.mov (.c (.slice 7 []))]
def r57_1 : List Op := [f_ 6 <|.load (.v 2) (some 7) (.g 2),f_ 7 <|.call (.k 39) .borrow none [.l 0],f_ 8 <|.un .not (.l 1),f_ 9 <|.mov (.l 2),n_ 10 3 <|.fad (.g 3) 2,n_ 11 3 <|.load (.v 3) none (.l 4),n_ 12 3 <|.fad (.g 2) 0,n_ 13 3 <|.load (.v 2) none (.l 6),n_ 14 3 <|.bin .neq (.l 5) (.l 7),t_ 15 <|.pick (.l 3) (cb true) (.l 8)]
def r57_2 : List Op := [f_ 16 <|.load (.v 2) (some 7) (.g 2),u_ <|.store (.v 4) 7 (.g 4) (.l 0),t_ 5 <|.mov (.c (.slice 7 []))]
def r57_3 : List Op := [f_ 17 <|.fad (.g 3) 0,t_ 18 <|.load (.v 3) none (.l 0)]
def r57_4 : List Op := [f_ 20 <|.bin .eql (.g 18) (ci 1),t_ 19 <|.mov (.l 0)]
def r57_5 : List Op := [f_ 21 <|.load (.v 2) (some 7) (.g 2),f_ 22 <|.load (.v 3) (some 7) (.g 3),f_ 23 <|.call (.k 74) .freeze none [.l 0, .l 1],f_ 24 <|.ext (.l 2) 0,f_ 25 <|.ext (.l 2) 1,u_ <|.store (.v 4) 7 (.g 4) (.l 3),t_ 5 <|.mov (.l 4)]
def r57_6 : List Op := [f_ 27 <|.bin .eql (.g 18) (ci 2),t_ 26 <|.mov (.l 0)]
def r57_7 : List Op := [f_ 28 <|.load (.v 2) (some 7) (.g 2),f_ 29 <|.call (.k 68) .borrow none [.l 0],f_ 30 <|.mov (.l 1),y_ 31 2 <|.fad (.g 3) 3,y_ 32 2 <|.load (.v 3) none (.l 3),y_ 33 2 <|.fad (.g 2) 1,y_ 34 2 <|.load (.v 2) none (.l 5),y_ 35 2 <|.bin .eql (.l 4) (.l 6),f_ 36 <|.pick (.l 2) (.l 7) (cb false),f_ 37 <|.mov (.l 8),y_ 38 9 <|.fad (.g 3) 4,y_ 39 9 <|.load (.v 3) none (.l 10),y_ 40 9 <|.fad (.g 2) 3,y_ 41 9 <|.load (.v 2) none (.l 12),y_ 42 9 <|.bin .eql (.l 11) (.l 13),f_ 43 <|.pick (.l 9) (.l 14) (cb false),f_ 44 <|.mov (.l 15),y_ 45 16 <|.fad (.g 2) 2,y_ 46 16 <|.load (.v 2) none (.l 17),y_ 47 16 <|.fad (.g 3) 1,y_ 48 16 <|.load (.v 3) none (.l 19),y_ 49 16 <|.call (.k 65) .borrow none [.l 18, .l 20],f_ 50 <|.pick (.l 16) (.l 21) (cb false),f_ 51 <|.mov (.l 22),y_ 52 23 <|.fad (.g 2) 6,y_ 53 23 <|.load (.v 2) none (.l 24),y_ 54 23 <|.fad (.g 3) 1,y_ 55 23 <|.load (.v 3) none (.l 26),y_ 56 23 <|.call (.k 65) .borrow none [.l 25, .l 27],y_ 57 23 <|.un .not (.l 28),t_ 58 <|.pick (.l 23) (.l 29) (cb false)]
def r57_8 : List Op := [f_ 59 <|.fad (.g 2) 6,f_ 60 <|.load (.v 2) none (.l 0),f_ 61 <|.call (.k 69) .freeze (some 0) [.l 1],f_ 62 <|.fad (.g 3) 1,f_ 63 <|.load (.v 3) none (.l 3),f_ 64 <|.mks 1 1 [.int .i64 0] [(0, .l 4)],f_ 65 <|.app 61 1 (.l 2) (.l 5),f_ 66 <|.fad (.g 2) 6,u_ <|.store (.v 2) 1 (.l 7) (.l 6)]
def r57_9 : List Op := [f_ 67 <|.load (.v 2) (some 7) (.g 2),f_ 68 <|.call (.k 71) .freeze none [.l 0],u_ <|.store (.v 2) 7 (.g 2) (.l 1)]
def r57_10 : List Op := [f_ 70 <|.bin .eql (.g 18) (ci 3),t_ 69 <|.mov (.l 0)]
def r57_11 : List Op := [f_ 71 <|.fad (.g 3) 3,f_ 72 <|.load (.v 3) none (.l 0),f_ 73 <|.fad (.g 2) 1,f_ 74 <|.load (.v 2) none (.l 2),t_ 75 <|.bin .gtr (.l 1) (.l 3)]
def r57_12 : List Op := [f_ 76 <|.fad (.g 2) 5,f_ 77 <|.load (.v 2) none (.l 0),f_ 78 <|.fad (.g 2) 2,u_ <|.store (.v 2) 1 (.l 2) (.c (.slice 1 [])),f_ 79 <|.fad (.g 2) 6,u_ <|.store (.v 2) 1 (.l 4) (.c (.slice 1 [])),f_ 80 <|.fad (.g 2) 4,u_ <|.store (.v 2) 1 (.l 6) (.l 1)]
def r57_13 : List Op := [f_ 81 <|.load (.v 2) (some 7) (.g 2),u_ <|.store (.v 4) 7 (.g 4) (.l 0),t_ 5 <|.mov (.c (.slice 7 []))]
def c57 : C := .seq (.region false r57_0) (.seq (.seq (.region false r57_1) (.cond (.g 15) (.seq (.region false r57_2) (.ret)) (.skip))) (.seq (.seq (.region false r57_3) (.block 0 (.seq (.region false r57_4) (.cond (.g 19) (.seq (.region false r57_5) (.ret)) (.seq (.region false r57_6) (.cond (.g 26) (.seq (.region false r57_7) (.cond (.g 58) (.seq (.region true r57_8) (.region false r57_9)) (.skip))) (.seq (.region false r57_10) (.cond (.g 69) (.seq (.region false r57_11) (.cond (.g 75) (.region false r57_12) (.skip))) (.skip))))))))) (.seq (.region false r57_13) (.ret))))
def F57 : F := ⟨2, [0, 1, 2, 3, 4, 5, 15, 18, 19, 26, 58, 69, 75], [.cell 4 (some 7), .t 5], none, c57⟩
attribute [go_sem] r57_0 r57_1 r57_2 r57_3 r57_4 r57_5 r57_6 r57_7 r57_8 r57_9 r57_10 r57_11 r57_12 r57_13 c57 F57
def r63_0 : List Op := [t_ 4 <|.mov (cb false)]
def r63_1 : List Op := [f_ 5 <|.mov (.g 0),f_ 6 <|.mov (.g 1),f_ 7 <|.bin .geq (.l 0) (.l 1),f_ 8 <|.mov (.l 2),y_ 9 3 <|.mov (.g 0),y_ 10 3 <|.bin .leq (.l 4) (ci 1099511627776),f_ 11 <|.pick (.l 3) (.l 5) (cb false),t_ 4 <|.mov (.l 6)]
def c63 : C := .seq (.region false r63_0) (.seq (.region false r63_1) (.ret))
def F63 : F := ⟨2, [0, 1, 4], [.t 4], none, c63⟩
attribute [go_sem] r63_0 r63_1 c63 F63
def r64_0 : List Op := [t_ 2 <|.mov (cb false)]
def r64_1 : List Op := [t_ 5 <|.mov (.g 0),t_ 6 <|.len false (.l 0),t_ 7 <|.mov (ci 0)]
def r64_2 : List Op := [t_ 8 <|.bin .lss (.g 7) (.g 6)]
def r64_3 : List Op := [f_ 9 <|.mov (.g 7),f_ 10 <|.iad 1 (.g 5) (.g 7),f_ 11 <|.load (.c) none (.l 1),t_ 3 <|.mov (.l 0),t_ 4 <|.mov (.l 2)]
def r64_4 : List Op := [f_ 12 <|.mov (.g 4),f_ 13 <|.bin .lss (.l 0) (ci 1),f_ 14 <|.mov (.l 1),n_ 15 2 <|.mov (.g 4),n_ 16 2 <|.bin .gtr (.l 3) (ci 255),f_ 17 <|.pick (.l 2) (cb true) (.l 4),f_ 18 <|.mov (.l 5),n_ 19 6 <|.mov (.g 0),n_ 20 6 <|.mov (.g 3),n_ 21 6 <|.sl false 1 (.l 7) none (some (.l 8)),n_ 22 6 <|.mov (.g 4),n_ 23 6 <|.call (.k 65) .no none [.l 9, .l 10],t_ 24 <|.pick (.l 6) (cb true) (.l 11)]
def r64_5 : List Op := [t_ 2 <|.mov (cb false)]
def r64_6 : List Op := [f_ 25 <|.bin .add (.g 7) (ci 1),t_ 7 <|.mov (.l 0)]
def b64_0 : C := .seq (.region false r64_2) (.seq (.cond (.g 8) (.skip) (.exit 0)) (.seq (.block 1 (.seq (.region false r64_3) (.seq (.region false r64_4) (.cond (.g 24) (.seq (.region false r64_5) (.ret)) (.skip))))) (.region false r64_6)))
def l64_0 : C := .loop [] [] [] [] b64_0
def r64_7 : List Op := [f_ 26 <|.mov (.g 0),f_ 27 <|.len false (.l 0),f_ 28 <|.bin .leq (.l 1) (ci 8),t_ 2 <|.mov (.l 2)]
def c64 : C := .seq (.region false r64_0) (.seq (.seq (.region false r64_1) (.block 0 (l64_0))) (.seq (.region false r64_7) (.ret)))
def F64 : F := ⟨1, [0, 2, 3, 4, 5, 6, 7, 8, 24], [.t 2], none, c64⟩
attribute [go_sem] r64_0 r64_1 r64_2 r64_3 r64_4 r64_5 r64_6 b64_0 r64_7 c64 F64
def r65_0 : List Op := [t_ 4 <|.mov (cb false)]
def r65_1 : List Op := [f_ 5 <|.mov (.g 0),f_ 6 <|.mov (.g 1),f_ 7 <|.call (.k 75) .no none [.l 0, .l 1],f_ 8 <|.bin .geq (.l 2) (ci 0),t_ 4 <|.mov (.l 3)]
def c65 : C := .seq (.region false r65_0) (.seq (.region false r65_1) (.ret))
def F65 : F := ⟨2, [0, 1, 4], [.t 4], none, c65⟩
attribute [go_sem] r65_0 r65_1 c65 F65
def r66_0 : List Op := [t_ 3 <|.mov (cb false)]
def r66_1 : List Op := [f_ 4 <|.fad (.g 1) 2,f_ 5 <|.load (.c) none (.l 0),f_ 6 <|.mov (.g 0),f_ 7 <|.call (.k 65) .no none [.l 1, .l 2],f_ 8 <|.un .not (.l 3),t_ 3 <|.mov (.l 4)]
def c66 : C := .seq (.region false r66_0) (.seq (.region false r66_1) (.ret))
def F66 : F := ⟨2, [0, 1, 3], [.t 3], none, c66⟩
attribute [go_sem] r66_0 r66_1 c66 F66
def r67_0 : List Op := [t_ 4 <|.mov (cb false)]
def r67_1 : List Op := [f_ 5 <|.mov (.g 0),f_ 6 <|.mov (.g 1),f_ 7 <|.call (.k 76) .no none [.l 0, .l 1],f_ 8 <|.bin .geq (.l 2) (ci 0),t_ 4 <|.mov (.l 3)]
def c67 : C := .seq (.region false r67_0) (.seq (.region false r67_1) (.ret))
def F67 : F := ⟨2, [0, 1, 4], [.t 4], none, c67⟩
attribute [go_sem] r67_0 r67_1 c67 F67
def r68_0 : List Op := [t_ 1 <|.box (.g 0),t_ 2 <|.mov (cb false)]
def r68_1 : List Op := [f_ 3 <|.fad (.g 1) 2,f_ 4 <|.load (.v 1) none (.l 0),f_ 5 <|.len false (.l 1),f_ 6 <|.bin .gtr (.l 2) (ci 0),f_ 7 <|.mov (.l 3),y_ 8 4 <|.fad (.g 1) 2,y_ 9 4 <|.load (.v 1) none (.l 5),y_ 10 4 <|.iad 1 (.l 6) (ci 0),y_ 11 4 <|.load (.c) none (.l 7),y_ 12 4 <|.fad (.g 1) 0,y_ 13 4 <|.load (.v 1) none (.l 9),y_ 14 4 <|.bin .eql (.l 8) (.l 10),f_ 15 <|.pick (.l 4) (.l 11) (cb false),t_ 2 <|.mov (.l 12)]
def c68 : C := .seq (.region false r68_0) (.seq (.region true r68_1) (.ret))
def F68 : F := ⟨1, [0, 1, 2], [.t 2], none, c68⟩
attribute [go_sem] r68_0 r68_1 c68 F68
def r70_0 : List Op := [t_ 4 <|.mov (cb false)]
def r70_1 : List Op := [f_ 6 <|.mov (.g 0),f_ 7 <|.len false (.l 0),f_ 8 <|.mov (.g 1),f_ 9 <|.len false (.l 2),t_ 10 <|.bin .neq (.l 1) (.l 3)]
def r70_2 : List Op := [t_ 4 <|.mov (cb false)]
def r70_3 : List Op := [t_ 5 <|.mov (ci 0)]
def r70_4 : List Op := [f_ 11 <|.mov (.g 5),f_ 12 <|.mov (.g 0),f_ 13 <|.len false (.l 1),t_ 14 <|.bin .lss (.l 0) (.l 2)]
def r70_5 : List Op := [f_ 17 <|.mov (.g 0),f_ 18 <|.mov (.g 5),f_ 19 <|.iad 1 (.l 0) (.l 1),f_ 20 <|.load (.c) none (.l 2),f_ 21 <|.mov (.g 1),f_ 22 <|.mov (.g 5),f_ 23 <|.iad 1 (.l 4) (.l 5),f_ 24 <|.load (.c) none (.l 6),t_ 25 <|.bin .neq (.l 3) (.l 7)]
def r70_6 : List Op := [t_ 4 <|.mov (cb false)]
def r70_7 : List Op := [f_ 15 <|.mov (.g 5),f_ 16 <|.bin .add (.l 0) (ci 1),t_ 5 <|.mov (.l 1)]
def b70_0 : C := .seq (.seq (.region false r70_4) (.cond (.g 14) (.skip) (.exit 0))) (.seq (.block 1 (.seq (.region true r70_5) (.cond (.g 25) (.seq (.region false r70_6) (.ret)) (.skip)))) (.region false r70_7))
def l70_0 : C := .loop [] [] [] [] b70_0
def r70_8 : List Op := [t_ 4 <|.mov (cb true)]
def c70 : C := .seq (.region false r70_0) (.seq (.seq (.region false r70_1) (.cond (.g 10) (.seq (.region false r70_2) (.ret)) (.skip))) (.seq (.seq (.region false r70_3) (.block 0 (l70_0))) (.seq (.region false r70_8) (.ret))))
def F70 : F := ⟨2, [0, 1, 4, 5, 10, 14, 25], [.t 4], none, c70⟩
attribute [go_sem] r70_0 r70_1 r70_2 r70_3 r70_4 r70_5 r70_6 r70_7 b70_0 r70_8 c70 F70
def r71_0 : List Op := [t_ 1 <|.box (.g 0),t_ 2 <|.alloc [.int .i64 0, .int .i64 0, .slice 1 [], .int .i64 0, .str [], .str [], .slice 1 []]]
def r71_1 : List Op := [f_ 3 <|.fad (.g 1) 6,f_ 4 <|.load (.v 1) none (.l 0),f_ 5 <|.len false (.l 1),f_ 6 <|.fad (.g 1) 2,f_ 7 <|.load (.v 1) none (.l 3),f_ 8 <|.len false (.l 4),t_ 9 <|.bin .eql (.l 2) (.l 5)]
def r71_2 : List Op := [f_ 10 <|.fad (.g 1) 5,f_ 11 <|.load (.v 1) none (.l 0),f_ 12 <|.fad (.g 1) 4,u_ <|.store (.v 1) 1 (.l 2) (.l 1)]
def r71_3 : List Op := [f_ 13 <|.load (.v 1) (some 7) (.g 1),u_ <|.store (.v 2) 7 (.g 2) (.l 0)]
def c71 : C := .seq (.region false r71_0) (.seq (.seq (.region false r71_1) (.cond (.g 9) (.region false r71_2) (.skip))) (.seq (.region false r71_3) (.ret)))
def F71 : F := ⟨1, [0, 1, 2, 9], [.cell 2 (some 7)], none, c71⟩
attribute [go_sem] r71_0 r71_1 r71_2 r71_3 c71 F71
def r72_0 : List Op := [t_ 1 <|.box (.g 0),t_ 2 <|.mov (.c (.slice 7 []))]
def r72_1 : List Op := [t_ 3 <|.mko 7]
def r72_2 : List Op := [f_ 6 <|.fad (.g 1) 2,t_ 7 <|.load (.v 1) none (.l 0),t_ 8 <|.len false (.l 1),t_ 9 <|.mov (ci 0)]
def r72_3 : List Op := [t_ 10 <|.bin .lss (.g 9) (.g 8)]
def r72_4 : List Op := [f_ 11 <|.iad 1 (.g 7) (.g 9),f_ 12 <|.load (.c) none (.l 0),t_ 5 <|.mov (.l 1)]
def r72_5 : List Op := [f_ 13 <|.fad (.g 1) 6,f_ 14 <|.load (.v 1) none (.l 0),f_ 15 <|.mov (.g 5),f_ 16 <|.call (.k 65) .no none [.l 1, .l 2],t_ 17 <|.un .not (.l 3)]
def r72_6 : List Op := [f_ 18 <|.mov (.g 3),f_ 19 <|.fad (.g 1) 0,f_ 20 <|.load (.v 1) none (.l 1),f_ 21 <|.mov (.g 5),f_ 22 <|.fad (.g 1) 1,f_ 23 <|.load (.v 1) none (.l 4),f_ 24 <|.fad (.g 1) 3,f_ 25 <|.load (.v 1) none (.l 6),f_ 26 <|.fad (.g 1) 2,f_ 27 <|.load (.v 1) none (.l 8),f_ 28 <|.call (.k 69) .no none [.l 9],f_ 29 <|.fad (.g 1) 5,f_ 30 <|.load (.v 1) none (.l 11),f_ 31 <|.build [.int .i64 0, .int .i64 0, .int .i64 0, .int .i64 0, .int .i64 0, .slice 1 [], .str []] [(0, 1, .c (.int .i64 1)), (1, 1, .l 2), (2, 1, .l 3), (3, 1, .l 5), (4, 1, .l 7), (5, 1, .l 10), (6, 1, .l 12)],f_ 32 <|.mks 7 1 [.int .i64 0, .int .i64 0, .int .i64 0, .int .i64 0, .int .i64 0, .slice 1 [], .str []] [(0, .l 13)],f_ 33 <|.app 3 7 (.l 0) (.l 14),t_ 3 <|.mov (.l 15)]
def r72_7 : List Op := [f_ 34 <|.bin .add (.g 9) (ci 1),t_ 9 <|.mov (.l 0)]
def b72_0 : C := .seq (.region false r72_3) (.seq (.cond (.g 10) (.skip) (.exit 0)) (.seq (.block 1 (.seq (.region false r72_4) (.seq (.region false r72_5) (.cond (.g 17) (.region true r72_6) (.skip))))) (.region false r72_7)))
def l72_0 : C := .loop [] [] [] [] b72_0
def r72_8 : List Op := [f_ 35 <|.mov (.g 3),t_ 2 <|.mov (.l 0)]
def c72 : C := .seq (.region false r72_0) (.seq (.region false r72_1) (.seq (.seq (.region false r72_2) (.block 0 (l72_0))) (.seq (.region false r72_8) (.ret))))
def F72 : F := ⟨1, [0, 1, 2, 3, 5, 7, 8, 9, 10, 17], [.t 2], none, c72⟩
attribute [go_sem] r72_0 r72_1 r72_2 r72_3 r72_4 r72_5 r72_6 r72_7 b72_0 r72_8 c72 F72
def r73_0 : List Op := [t_ 6 <|.mov (cb false)]
def r73_1 : List Op := [f_ 7 <|.mov (.g 0),f_ 8 <|.len false (.l 0),f_ 9 <|.bin .gtr (.l 1) (ci 0),f_ 10 <|.mov (.l 2),y_ 11 3 <|.mov (.g 0),y_ 12 3 <|.call (.k 64) .no none [.l 4],f_ 13 <|.pick (.l 3) (.l 5) (cb false),f_ 14 <|.mov (.l 6),y_ 15 7 <|.mov (.g 0),y_ 16 7 <|.mov (.g 1),y_ 17 7 <|.call (.k 65) .no none [.l 8, .l 9],f_ 18 <|.pick (.l 7) (.l 10) (cb false),f_ 19 <|.mov (.l 11),y_ 20 12 <|.mov (.g 0),y_ 21 12 <|.iad 1 (.l 13) (ci 0),y_ 22 12 <|.load (.c) none (.l 14),y_ 23 12 <|.mov (.g 2),y_ 24 12 <|.bin .eql (.l 15) (.l 16),f_ 25 <|.pick (.l 12) (.l 17) (cb false),t_ 6 <|.mov (.l 18)]
def c73 : C := .seq (.region false r73_0) (.seq (.region false r73_1) (.ret))
def F73 : F := ⟨3, [0, 1, 2, 6], [.t 6], none, c73⟩
attribute [go_sem] r73_0 r73_1 c73 F73
def r74_0 : List Op := [t_ 2 <|.box (.g 0),t_ 3 <|.box (.g 1),t_ 4 <|.alloc [.int .i64 0, .int .i64 0, .slice 1 [], .int .i64 0, .str [], .str [], .slice 1 []],t_ 5 <|.mov (.c (.slice 7 []))]
def r74_1 : List Op := [f_ 7 <|.fad (.g 3) 1,f_ 8 <|.load (.v 3) none (.l 0),f_ 9 <|.fad (.g 2) 0,f_ 10 <|.load (.v 2) none (.l 2),f_ 11 <|.bin .eql (.l 1) (.l 3),f_ 12 <|.mov (.l 4),n_ 13 5 <|.fad (.g 3) 5,n_ 14 5 <|.load (.v 3) none (.l 6),n_ 15 5 <|.fad (.g 2) 0,n_ 16 5 <|.load (.v 2) none (.l 8),n_ 17 5 <|.fad (.g 3) 1,n_ 18 5 <|.load (.v 3) none (.l 10),n_ 19 5 <|.call (.k 73) .no none [.l 7, .l 9, .l 11],n_ 20 5 <|.un .not (.l 12),f_ 21 <|.pick (.l 5) (cb true) (.l 13),f_ 22 <|.mov (.l 14),n_ 23 15 <|.fad (.g 3) 3,n_ 24 15 <|.load (.v 3) none (.l 16),n_ 25 15 <|.call (.k 63) .no none [.l 17, .c (.int .i64 1)],n_ 26 15 <|.un .not (.l 18),f_ 27 <|.pick (.l 15) (cb true) (.l 19),f_ 28 <|.mov (.l 20),n_ 29 21 <|.fad (.g 3) 4,n_ 30 21 <|.load (.v 3) none (.l 22),n_ 31 21 <|.call (.k 63) .no none [.l 23, .c (.int .i64 1)],n_ 32 21 <|.un .not (.l 24),t_ 33 <|.pick (.l 21) (cb true) (.l 25)]
def r74_2 : List Op := [f_ 34 <|.load (.v 2) (some 7) (.g 2),u_ <|.store (.v 4) 7 (.g 4) (.l 0),t_ 5 <|.mov (.c (.slice 7 []))]
def r74_3 : List Op := [f_ 35 <|.fad (.g 3) 3,f_ 36 <|.load (.v 3) none (.l 0),f_ 37 <|.fad (.g 2) 1,f_ 38 <|.load (.v 2) none (.l 2),t_ 39 <|.bin .lss (.l 1) (.l 3)]
def r74_4 : List Op := [f_ 40 <|.load (.v 2) (some 7) (.g 2),f_ 41 <|.fad (.g 2) 0,f_ 42 <|.load (.v 2) none (.l 1),f_ 43 <|.fad (.g 3) 1,f_ 44 <|.load (.v 3) none (.l 3),f_ 45 <|.fad (.g 2) 1,f_ 46 <|.load (.v 2) none (.l 5),f_ 47 <|.build [.int .i64 0, .int .i64 0, .int .i64 0, .int .i64 0, .int .i64 0, .slice 1 [], .str []] [(0, 1, .c (.int .i64 3)), (1, 1, .l 2), (2, 1, .l 4), (3, 1, .l 6)],f_ 48 <|.mks 7 1 [.int .i64 0, .int .i64 0, .int .i64 0, .int .i64 0, .int .i64 0, .slice 1 [], .str []] [(0, .l 7)],u_ <|.store (.v 4) 7 (.g 4) (.l 0),t_ 5 <|.mov (.l 8)]
def r74_5 : List Op := [f_ 49 <|.fad (.g 3) 3,f_ 50 <|.load (.v 3) none (.l 0),f_ 51 <|.fad (.g 2) 1,f_ 52 <|.load (.v 2) none (.l 2),f_ 53 <|.bin .eql (.l 1) (.l 3),t_ 6 <|.mov (.l 4)]
def r74_6 : List Op := [f_ 55 <|.mov (.g 6),f_ 56 <|.mov (.l 0),y_ 57 1 <|.load (.v 2) (some 7) (.g 2),y_ 58 1 <|.call (.k 68) .no none [.l 2],y_ 59 1 <|.mov (.l 3),n_ 60 4 <|.fad (.g 3) 4,n_ 61 4 <|.load (.v 3) none (.l 5),n_ 62 4 <|.fad (.g 2) 3,n_ 63 4 <|.load (.v 2) none (.l 7),n_ 64 4 <|.bin .lss (.l 6) (.l 8),y_ 65 1 <|.pick (.l 4) (cb true) (.l 9),f_ 66 <|.pick (.l 1) (.l 10) (cb false),t_ 54 <|.mov (.l 11)]
def r74_7 : List Op := [f_ 67 <|.load (.v 2) (some 7) (.g 2),u_ <|.store (.v 4) 7 (.g 4) (.l 0),t_ 5 <|.mov (.c (.slice 7 []))]
def r74_8 : List Op := [f_ 69 <|.mov (.g 6),f_ 70 <|.un .not (.l 0),f_ 71 <|.mov (.l 1),n_ 72 2 <|.fad (.g 3) 4,n_ 73 2 <|.load (.v 3) none (.l 3),n_ 74 2 <|.fad (.g 2) 3,n_ 75 2 <|.load (.v 2) none (.l 5),n_ 76 2 <|.bin .gtr (.l 4) (.l 6),f_ 77 <|.pick (.l 2) (cb true) (.l 7),t_ 68 <|.mov (.l 8)]
def r74_9 : List Op := [f_ 78 <|.fad (.g 3) 3,f_ 79 <|.load (.v 3) none (.l 0),f_ 80 <|.fad (.g 3) 5,f_ 81 <|.load (.v 3) none (.l 2),f_ 82 <|.call (.k 69) .no none [.l 3],f_ 83 <|.fad (.g 3) 4,f_ 84 <|.load (.v 3) none (.l 5),f_ 85 <|.fad (.g 2) 1,u_ <|.store (.v 2) 1 (.l 7) (.l 1),f_ 86 <|.fad (.g 2) 2,u_ <|.store (.v 2) 1 (.l 9) (.l 4),f_ 87 <|.fad (.g 2) 3,u_ <|.store (.v 2) 1 (.l 11) (.l 6)]
def r74_10 : List Op := [f_ 88 <|.fad (.g 3) 6,f_ 89 <|.load (.v 3) none (.l 0),f_ 90 <|.fad (.g 3) 6,f_ 91 <|.load (.v 3) none (.l 2),f_ 92 <|.fad (.g 2) 4,u_ <|.store (.v 2) 1 (.l 4) (.l 1),f_ 93 <|.fad (.g 2) 5,u_ <|.store (.v 2) 1 (.l 6) (.l 3),f_ 94 <|.fad (.g 2) 6,u_ <|.store (.v 2) 1 (.l 8) (.c (.slice 1 []))]
def r74_11 : List Op := [f_ 95 <|.load (.v 2) (some 7) (.g 2),f_ 96 <|.fad (.g 2) 0,f_ 97 <|.load (.v 2) none (.l 1),f_ 98 <|.fad (.g 3) 1,f_ 99 <|.load (.v 3) none (.l 3),f_ 100 <|.fad (.g 2) 1,f_ 101 <|.load (.v 2) none (.l 5),f_ 102 <|.fad (.g 2) 3,f_ 103 <|.load (.v 2) none (.l 7),f_ 104 <|.build [.int .i64 0, .int .i64 0, .int .i64 0, .int .i64 0, .int .i64 0, .slice 1 [], .str []] [(0, 1, .c (.int .i64 2)), (1, 1, .l 2), (2, 1, .l 4), (3, 1, .l 6), (4, 1, .l 8)],f_ 105 <|.mks 7 1 [.int .i64 0, .int .i64 0, .int .i64 0, .int .i64 0, .int .i64 0, .slice 1 [], .str []] [(0, .l 9)],u_ <|.store (.v 4) 7 (.g 4) (.l 0),t_ 5 <|.mov (.l 10)]
def c74 : C := .seq (.region false r74_0) (.seq (.seq (.region false r74_1) (.cond (.g 33) (.seq (.region false r74_2) (.ret)) (.skip))) (.seq (.seq (.region false r74_3) (.cond (.g 39) (.seq (.region true r74_4) (.ret)) (.skip))) (.seq (.region false r74_5) (.seq (.block 0 (.seq (.region false r74_6) (.cond (.g 54) (.seq (.region false r74_7) (.ret)) (.seq (.region false r74_8) (.cond (.g 68) (.seq (.region true r74_9) (.region true r74_10)) (.skip)))))) (.seq (.region true r74_11) (.ret))))))
def F74 : F := ⟨2, [0, 1, 2, 3, 4, 5, 6, 33, 39, 54, 68], [.cell 4 (some 7), .t 5], none, c74⟩
attribute [go_sem] r74_0 r74_1 r74_2 r74_3 r74_4 r74_5 r74_6 r74_7 r74_8 r74_9 r74_10 r74_11 c74 F74
def r75_0 : List Op := [t_ 4 <|.mov (ci 0)]
def r75_1 : List Op := [f_ 6 <|.mov (.g 0),t_ 7 <|.len false (.l 0),t_ 8 <|.mov (ci 0)]
def r75_2 : List Op := [t_ 9 <|.bin .lss (.g 8) (.g 7)]
def r75_3 : List Op := [f_ 10 <|.mov (.g 8),t_ 5 <|.mov (.l 0)]
def r75_4 : List Op := [f_ 11 <|.mov (.g 1),f_ 12 <|.mov (.g 0),f_ 13 <|.mov (.g 5),f_ 14 <|.iad 1 (.l 1) (.l 2),f_ 15 <|.load (.c) none (.l 3),t_ 16 <|.bin .eql (.l 0) (.l 4)]
def r75_5 : List Op := [f_ 17 <|.mov (.g 5),t_ 4 <|.mov (.l 0)]
def r75_6 : List Op := [f_ 18 <|.bin .add (.g 8) (ci 1),t_ 8 <|.mov (.l 0)]
def b75_0 : C := .seq (.region false r75_2) (.seq (.cond (.g 9) (.skip) (.exit 0)) (.seq (.block 1 (.seq (.region false r75_3) (.seq (.region false r75_4) (.cond (.g 16) (.seq (.region false r75_5) (.ret)) (.skip))))) (.region false r75_6)))
def l75_0 : C := .loop [] [] [] [] b75_0
def r75_7 : List Op := [t_ 4 <|.mov (ci (-1))]
def c75 : C := .seq (.region false r75_0) (.seq (.seq (.region false r75_1) (.block 0 (l75_0))) (.seq (.region false r75_7) (.ret)))
def F75 : F := ⟨2, [0, 1, 4, 5, 7, 8, 9, 16], [.t 4], none, c75⟩
attribute [go_sem] r75_0 r75_1 r75_2 r75_3 r75_4 r75_5 r75_6 b75_0 r75_7 c75 F75
def r76_0 : List Op := [t_ 4 <|.mov (ci 0)]
def r76_1 : List Op := [f_ 6 <|.mov (.g 0),t_ 7 <|.len false (.l 0),t_ 8 <|.mov (ci 0)]
def r76_2 : List Op := [t_ 9 <|.bin .lss (.g 8) (.g 7)]
def r76_3 : List Op := [f_ 10 <|.mov (.g 8),t_ 5 <|.mov (.l 0)]
def r76_4 : List Op := [f_ 11 <|.mov (.g 1),f_ 12 <|.mov (.g 0),f_ 13 <|.mov (.g 5),f_ 14 <|.iad 1 (.l 1) (.l 2),f_ 15 <|.load (.c) none (.l 3),t_ 16 <|.call (.v (.l 0)) .no none [.l 4]]
def r76_5 : List Op := [f_ 17 <|.mov (.g 5),t_ 4 <|.mov (.l 0)]
def r76_6 : List Op := [f_ 18 <|.bin .add (.g 8) (ci 1),t_ 8 <|.mov (.l 0)]
def b76_0 : C := .seq (.region false r76_2) (.seq (.cond (.g 9) (.skip) (.exit 0)) (.seq (.block 1 (.seq (.region false r76_3) (.seq (.region false r76_4) (.cond (.g 16) (.seq (.region false r76_5) (.ret)) (.skip))))) (.region false r76_6)))
def l76_0 : C := .loop [] [] [] [] b76_0
def r76_7 : List Op := [t_ 4 <|.mov (ci (-1))]
def c76 : C := .seq (.region false r76_0) (.seq (.seq (.region false r76_1) (.block 0 (l76_0))) (.seq (.region false r76_7) (.ret)))
def F76 : F := ⟨2, [0, 1, 4, 5, 7, 8, 9, 16], [.t 4], none, c76⟩
attribute [go_sem] r76_0 r76_1 r76_2 r76_3 r76_4 r76_5 r76_6 b76_0 r76_7 c76 F76
end Sg
namespace Sg
open _root_.Go (IntKind BinOp UnOp)
def r200_0 : List Op := [t_ 5 <|.box (.g 2),t_ 6 <|.mov (.c (.slice 2 [])),t_ 7 <|.mov (ci 0)]
def r200_1 : List Op := [f_ 14 <|.mov (.g 0),f_ 15 <|.call (.k 203) .no none [.l 0],f_ 16 <|.un .not (.l 1),f_ 17 <|.mov (.l 2),n_ 18 3 <|.mov (.g 1),n_ 19 3 <|.call (.k 170) .no none [.l 4],n_ 20 3 <|.un .not (.l 5),t_ 21 <|.pick (.l 3) (cb true) (.l 6)]
def r200_2 : List Op := [t_ 6 <|.mov (.c (.slice 2 [])),t_ 7 <|.mov (ci 1)]
def r200_3 : List Op := [f_ 23 <|.mov (.g 0),f_ 24 <|.mov (.g 1),f_ 25 <|.call (.k 220) .no none [.l 0, .l 1],f_ 22 <|.mov (.l 2),f_ 26 <|.ext (.l 3) 0,f_ 27 <|.ext (.l 3) 1,t_ 8 <|.mov (.l 4),t_ 9 <|.mov (.l 5)]
def r200_4 : List Op := [t_ 10 <|.mov (.c (.slice 5 []))]
def r200_5 : List Op := [t_ 28 <|.mov (.g 9)]
def r200_6 : List Op := [f_ 29 <|.mov (.g 0),f_ 30 <|.mov (.g 8),f_ 31 <|.iad 2 (.l 0) (.l 1),f_ 32 <|.fad (.l 2) 1,f_ 33 <|.load (.c) none (.l 3),t_ 10 <|.mov (.l 4)]
def r200_7 : List Op := [f_ 35 <|.mov (.g 10),f_ 36 <|.load (.v 5) (some 5) (.g 5),f_ 37 <|.call (.k 3) .no none [.l 0, .l 1],f_ 34 <|.mov (.l 2),f_ 38 <|.ext (.l 3) 0,f_ 39 <|.ext (.l 3) 1,t_ 11 <|.mov (.l 4),t_ 12 <|.mov (.l 5)]
def r200_8 : List Op := [f_ 41 <|.mov (.g 12),f_ 42 <|.bin .neq (.l 0) (ci 0),t_ 40 <|.mov (.l 1)]
def r200_9 : List Op := [f_ 43 <|.mov (.g 12),t_ 6 <|.mov (.c (.slice 2 [])),t_ 7 <|.mov (.l 0)]
def r200_10 : List Op := [f_ 45 <|.mov (.g 9),f_ 46 <|.un .not (.l 0),f_ 47 <|.mov (.l 1),y_ 48 2 <|.mov (.g 0),y_ 49 2 <|.len false (.l 3),y_ 50 2 <|.bin .eql (.l 4) (ci 64),f_ 51 <|.pick (.l 2) (.l 5) (cb false),t_ 44 <|.mov (.l 6)]
def r200_11 : List Op := [t_ 6 <|.mov (.c (.slice 2 [])),t_ 7 <|.mov (ci 6)]
def r200_12 : List Op := [f_ 52 <|.mov (.g 0),f_ 53 <|.call (.k 221) .no (some 0) [.l 0],t_ 13 <|.mov (.l 1)]
def r200_13 : List Op := [f_ 54 <|.mov (.g 9),t_ 55 <|.un .not (.l 0)]
def r200_14 : List Op := [f_ 56 <|.mov (.g 13),f_ 57 <|.mov (.g 8),f_ 58 <|.mov (.g 1),f_ 59 <|.build [.str [], .slice 5 []] [(0, 1, .l 2)],f_ 60 <|.mks 2 1 [.str [], .slice 5 []] [(0, .l 3)],f_ 61 <|.ins 222 53 2 (.l 0) (.l 1) (.l 4),t_ 13 <|.mov (.l 5)]
def r200_15 : List Op := [f_ 62 <|.mov (.g 13),f_ 63 <|.mov (.g 8),f_ 64 <|.mov (.g 11),f_ 65 <|.iad 2 (.l 0) (.l 1),f_ 66 <|.fad (.l 3) 1,u_ <|.store (.e 53) 1 (.l 4) (.l 2)]
def r200_16 : List Op := [f_ 67 <|.mov (.g 13),t_ 6 <|.mov (.l 0),t_ 7 <|.mov (ci 0)]
def c200 : C := .seq (.region false r200_0) (.seq (.seq (.region false r200_1) (.cond (.g 21) (.seq (.region false r200_2) (.ret)) (.skip))) (.seq (.region false r200_3) (.seq (.region false r200_4) (.seq (.seq (.region false r200_5) (.cond (.g 28) (.region false r200_6) (.skip))) (.seq (.region false r200_7) (.seq (.block 0 (.seq (.region false r200_8) (.cond (.g 40) (.seq (.region false r200_9) (.ret)) (.seq (.region false r200_10) (.cond (.g 44) (.seq (.region false r200_11) (.ret)) (.skip)))))) (.seq (.region false r200_12) (.seq (.seq (.region false r200_13) (.cond (.g 55) (.region false r200_14) (.skip))) (.seq (.region false r200_15) (.seq (.region false r200_16) (.ret)))))))))))
def F200 : F := ⟨3, [0, 1, 2, 5, 6, 7, 8, 9, 10, 11, 12, 13, 21, 28, 40, 44, 55], [.t 6, .t 7], none, c200⟩
attribute [go_sem] r200_0 r200_1 r200_2 r200_3 r200_4 r200_5 r200_6 r200_7 r200_8 r200_9 r200_10 r200_11 r200_12 r200_13 r200_14 r200_15 r200_16 c200 F200
def r203_0 : List Op := [t_ 2 <|.mov (cb false)]
def r203_1 : List Op := [t_ 5 <|.mov (.g 0),t_ 6 <|.len false (.l 0),t_ 7 <|.mov (ci 0)]
def r203_2 : List Op := [t_ 8 <|.bin .lss (.g 7) (.g 6)]
def r203_3 : List Op := [f_ 9 <|.mov (.g 7),f_ 10 <|.iad 2 (.g 5) (.g 7),f_ 11 <|.load (.c) (some 2) (.l 1),t_ 4 <|.alloc [.str [], .slice 5 []],t_ 3 <|.mov (.l 0),u_ <|.store (.v 4) 2 (.l 3) (.l 2)]
def r203_4 : List Op := [f_ 12 <|.fad (.g 4) 0,f_ 13 <|.load (.v 4) none (.l 0),f_ 14 <|.call (.k 170) .no none [.l 1],f_ 15 <|.un .not (.l 2),f_ 16 <|.mov (.l 3),n_ 17 4 <|.fad (.g 4) 1,n_ 18 4 <|.load (.v 4) none (.l 5),n_ 19 4 <|.call (.k 7) .no none [.l 6],n_ 20 4 <|.un .not (.l 7),f_ 21 <|.pick (.l 4) (cb true) (.l 8),f_ 22 <|.mov (.l 9),n_ 23 10 <|.fad (.g 4) 1,n_ 24 10 <|.load (.v 4) none (.l 11),n_ 25 10 <|.len false (.l 12),n_ 26 10 <|.bin .eql (.l 13) (ci 0),f_ 27 <|.pick (.l 10) (cb true) (.l 14),f_ 28 <|.mov (.l 15),n_ 29 16 <|.mov (.g 3),n_ 30 16 <|.bin .gtr (.l 17) (ci 0),n_ 31 16 <|.mov (.l 18),y_ 32 19 <|.mov (.g 0),y_ 33 19 <|.mov (.g 3),y_ 34 19 <|.bin .sub (.l 21) (ci 1),y_ 35 19 <|.iad 2 (.l 20) (.l 22),y_ 36 19 <|.fad (.l 23) 0,y_ 37 19 <|.load (.c) none (.l 24),y_ 38 19 <|.fad (.g 4) 0,y_ 39 19 <|.load (.v 4) none (.l 26),y_ 40 19 <|.call (.k 192) .no none [.l 25, .l 27],y_ 41 19 <|.bin .geq (.l 28) (ci 0),n_ 42 16 <|.pick (.l 19) (.l 29) (cb false),t_ 43 <|.pick (.l 16) (cb true) (.l 30)]
def r203_5 : List Op := [t_ 2 <|.mov (cb false)]
def r203_6 : List Op := [f_ 44 <|.bin .add (.g 7) (ci 1),t_ 7 <|.mov (.l 0)]
def b203_0 : C := .seq (.region false r203_2) (.seq (.cond (.g 8) (.skip) (.exit 0)) (.seq (.block 1 (.seq (.region false r203_3) (.seq (.region true r203_4) (.cond (.g 43) (.seq (.region false r203_5) (.ret)) (.skip))))) (.region false r203_6)))
def l203_0 : C := .loop [] [] [4] [] b203_0
def r203_7 : List Op := [f_ 45 <|.mov (.g 0),f_ 46 <|.len false (.l 0),f_ 47 <|.bin .leq (.l 1) (ci 64),t_ 2 <|.mov (.l 2)]
def c203 : C := .seq (.region false r203_0) (.seq (.seq (.region false r203_1) (.block 0 (l203_0))) (.seq (.region false r203_7) (.ret)))
def F203 : F := ⟨1, [0, 2, 3, 4, 5, 6, 7, 8, 43], [.t 2], none, c203⟩
attribute [go_sem] r203_0 r203_1 r203_2 r203_3 r203_4 r203_5 r203_6 b203_0 r203_7 c203 F203
def r220_0 : List Op := [t_ 4 <|.mov (ci 0),t_ 5 <|.mov (cb false)]
def r220_1 : List Op := [f_ 6 <|.mov (.g 0),f_ 7 <|.mov (.g 1),f_ 8 <|.call (.k 225) .no none [.l 0, .l 1, .f 226],f_ 9 <|.ext (.l 2) 0,f_ 10 <|.ext (.l 2) 1,t_ 4 <|.mov (.l 3),t_ 5 <|.mov (.l 4)]
def c220 : C := .seq (.region false r220_0) (.seq (.region false r220_1) (.ret))
def F220 : F := ⟨2, [0, 1, 4, 5], [.t 4, .t 5], none, c220⟩
attribute [go_sem] r220_0 r220_1 c220 F220
def r221_0 : List Op := [t_ 2 <|.mov (.c (.slice 2 []))]
def r221_1 : List Op := [f_ 5 <|.mov (.g 0),f_ 6 <|.call (.k 227) .no (some 0) [.l 0],t_ 3 <|.mov (.l 1)]
def r221_2 : List Op := [f_ 7 <|.mov (.g 3),t_ 8 <|.len false (.l 0),t_ 9 <|.mov (ci 0)]
def r221_3 : List Op := [t_ 10 <|.bin .lss (.g 9) (.g 8)]
def r221_4 : List Op := [f_ 11 <|.mov (.g 9),t_ 4 <|.mov (.l 0)]
def r221_5 : List Op := [f_ 12 <|.mov (.g 3),f_ 13 <|.mov (.g 4),f_ 14 <|.mov (.g 3),f_ 15 <|.mov (.g 4),f_ 16 <|.iad 2 (.l 2) (.l 3),f_ 17 <|.fad (.l 4) 1,f_ 18 <|.load (.e 6) none (.l 5),f_ 19 <|.call (.k 23) .no none [.l 6],f_ 20 <|.iad 2 (.l 0) (.l 1),f_ 21 <|.fad (.l 8) 1,u_ <|.store (.e 6) 1 (.l 9) (.l 7)]
def r221_6 : List Op := [f_ 22 <|.bin .add (.g 9) (ci 1),t_ 9 <|.mov (.l 0)]
def b221_0 : C := .seq (.region false r221_3) (.seq (.cond (.g 10) (.skip) (.exit 0)) (.seq (.block 1 (.seq (.region false r221_4) (.region false r221_5))) (.region false r221_6)))
def l221_0 : C := .loop [] [] [] [] b221_0
def r221_7 : List Op := [f_ 23 <|.mov (.g 3),t_ 2 <|.mov (.l 0)]
def c221 : C := .seq (.region false r221_0) (.seq (.region false r221_1) (.seq (.seq (.region false r221_2) (.block 0 (l221_0))) (.seq (.region false r221_7) (.ret))))
def F221 : F := ⟨1, [0, 2, 3, 4, 8, 9, 10], [.t 2], some 0, c221⟩
attribute [go_sem] r221_0 r221_1 r221_2 r221_3 r221_4 r221_5 r221_6 b221_0 r221_7 c221 F221
def r225_0 : List Op := [t_ 6 <|.mov (ci 0),t_ 7 <|.mov (cb false)]
def r225_1 : List Op := [f_ 12 <|.mov (.g 0),f_ 13 <|.len false (.l 0),t_ 8 <|.mov (.l 1)]
def r225_2 : List Op := [f_ 14 <|.mov (.g 8),t_ 9 <|.mov (ci 0),t_ 10 <|.mov (.l 0)]
def r225_3 : List Op := [f_ 15 <|.mov (.g 9),f_ 16 <|.mov (.g 10),t_ 17 <|.bin .lss (.l 0) (.l 1)]
def r225_4 : List Op := [f_ 18 <|.mov (.g 9),f_ 19 <|.mov (.g 10),f_ 20 <|.bin .add (.l 0) (.l 1),f_ 21 <|.conv (.int .u64) (.l 2),f_ 22 <|.sh .shr (.l 3) (.c (.int .u64 1)),f_ 23 <|.conv (.int .i64) (.l 4),t_ 11 <|.mov (.l 5)]
def r225_5 : List Op := [f_ 24 <|.mov (.g 2),f_ 25 <|.mov (.g 0),f_ 26 <|.mov (.g 11),f_ 27 <|.iad 2 (.l 1) (.l 2),f_ 28 <|.load (.c) (some 2) (.l 3),f_ 29 <|.mov (.g 1),f_ 30 <|.call (.v (.l 0)) .no none [.l 4, .l 5],t_ 31 <|.bin .lss (.l 6) (ci 0)]
def r225_6 : List Op := [f_ 32 <|.mov (.g 11),f_ 33 <|.bin .add (.l 0) (ci 1),t_ 9 <|.mov (.l 1)]
def r225_7 : List Op := [f_ 34 <|.mov (.g 11),t_ 10 <|.mov (.l 0)]
def b225_0 : C := .seq (.seq (.region false r225_3) (.cond (.g 17) (.skip) (.exit 0))) (.block 1 (.seq (.region false r225_4) (.seq (.region false r225_5) (.cond (.g 31) (.region false r225_6) (.region false r225_7)))))
def l225_0 : C := .loop [] [] [] [] b225_0
def r225_8 : List Op := [f_ 35 <|.mov (.g 9),f_ 36 <|.mov (.g 9),f_ 37 <|.mov (.g 8),f_ 38 <|.bin .lss (.l 1) (.l 2),f_ 39 <|.mov (.l 3),y_ 40 4 <|.mov (.g 2),y_ 41 4 <|.mov (.g 0),y_ 42 4 <|.mov (.g 9),y_ 43 4 <|.iad 2 (.l 6) (.l 7),y_ 44 4 <|.load (.c) (some 2) (.l 8),y_ 45 4 <|.mov (.g 1),y_ 46 4 <|.call (.v (.l 5)) .no none [.l 9, .l 10],y_ 47 4 <|.bin .eql (.l 11) (ci 0),f_ 48 <|.pick (.l 4) (.l 12) (cb false),t_ 6 <|.mov (.l 0),t_ 7 <|.mov (.l 13)]
def c225 : C := .seq (.region false r225_0) (.seq (.region false r225_1) (.seq (.region false r225_2) (.seq (.block 0 (l225_0)) (.seq (.region false r225_8) (.ret)))))
def F225 : F := ⟨3, [0, 1, 2, 6, 7, 8, 9, 10, 11, 17, 31], [.t 6, .t 7], none, c225⟩
attribute [go_sem] r225_0 r225_1 r225_2 r225_3 r225_4 r225_5 r225_6 r225_7 b225_0 r225_8 c225 F225
end Sg
namespace Sg
open _root_.Go (IntKind BinOp UnOp)
def r240_0 : List Op := [t_ 6 <|.box (.g 0),t_ 9 <|.box (.g 3),t_ 10 <|.box (.g 4),t_ 12 <|.alloc [.slice 17 [], .int .i64 0, .int .i64 0, .int .i64 0, .int .i64 0],t_ 13 <|.alloc [.int .i64 0, .int .i64 0, .int .i64 0, .int .i64 0, .bool false, .str [], .slice 2 [], .str [], .bool false]]
def r240_1 : List Op := [f_ 16 <|.load (.v 6) (some 5) (.g 6),f_ 17 <|.call (.k 249) .no none [.l 0],f_ 18 <|.un .not (.l 1),f_ 19 <|.mov (.l 2),n_ 20 3 <|.mov (.g 1),n_ 21 3 <|.mov (.g 2),n_ 22 3 <|.mks 1 2 [.int .i64 0] [(0, .l 4), (1, .l 5)],n_ 23 3 <|.call (.k 284) .no none [.c (.int .i64 1), .l 6],n_ 24 3 <|.un .not (.l 7),f_ 25 <|.pick (.l 3) (cb true) (.l 8),f_ 26 <|.mov (.l 9),n_ 27 10 <|.mov (.g 5),n_ 28 10 <|.mks 1 1 [.int .i64 0] [(0, .l 11)],n_ 29 10 <|.call (.k 284) .no none [.c (.int .i64 0), .l 12],n_ 30 10 <|.un .not (.l 13),f_ 31 <|.pick (.l 10) (cb true) (.l 14),f_ 32 <|.mov (.l 15),n_ 33 16 <|.load (.v 10) (some 3) (.g 10),n_ 34 16 <|.call (.k 28) .no none [.l 17],n_ 35 16 <|.un .not (.l 18),f_ 36 <|.pick (.l 16) (cb true) (.l 19),f_ 37 <|.mov (.l 20),n_ 38 21 <|.load (.v 9) (some 12) (.g 9),n_ 39 21 <|.call (.k 285) .no none [.l 22],n_ 40 21 <|.un .not (.l 23),t_ 41 <|.pick (.l 21) (cb true) (.l 24)]
def r240_2 : List Op := [f_ 42 <|.load (.v 6) (some 5) (.g 6),f_ 43 <|.call (.k 286) .no none [.c (.int .i64 1)],u_ <|.store (.v 12) 5 (.g 12) (.l 0),u_ <|.store (.v 13) 9 (.g 13) (.l 1)]
def r240_3 : List Op := [f_ 44 <|.load (.v 6) (some 5) (.g 6),f_ 45 <|.mov (.g 1),f_ 46 <|.call (.k 287) .no none [.l 0, .l 1],t_ 14 <|.alloc [.int .i64 0, .int .i64 0, .str [], .str [], .int .i64 0, .slice 2 [], .int .i64 0, .int .i64 0, .int .i64 0, .int .i64 0, .int .i64 0, .int .i64 0, .slice 11 [], .int .i64 0, .int .i64 0, .int .i64 0, .int .i64 0],u_ <|.store (.v 14) 17 (.l 3) (.l 2)]
def r240_4 : List Op := [f_ 47 <|.fad (.g 9) 3,f_ 48 <|.load (.v 9) none (.l 0),f_ 49 <|.bin .eql (.l 1) (.c (.str [])),f_ 50 <|.mov (.l 2),y_ 51 3 <|.fad (.g 14) 2,y_ 52 3 <|.fad (.l 4) 0,y_ 53 3 <|.load (.v 14) none (.l 5),y_ 54 3 <|.bin .eql (.l 6) (.c (.str [])),f_ 55 <|.pick (.l 3) (.l 7) (cb false),f_ 56 <|.mov (.l 8),n_ 57 9 <|.fad (.g 14) 2,n_ 58 9 <|.load (.v 14) (some 2) (.l 10),n_ 59 9 <|.fad (.g 9) 3,n_ 60 9 <|.load (.v 9) none (.l 12),n_ 61 9 <|.call (.k 171) .no none [.l 11, .l 13],f_ 62 <|.pick (.l 9) (cb true) (.l 14),t_ 15 <|.mov (.l 15)]
def r240_5 : List Op := [f_ 64 <|.fad (.g 14) 0,f_ 65 <|.load (.v 14) none (.l 0),f_ 66 <|.bin .eql (.l 1) (ci 0),f_ 67 <|.mov (.l 2),n_ 68 3 <|.fad (.g 14) 1,n_ 69 3 <|.load (.v 14) none (.l 4),n_ 70 3 <|.mov (.g 2),n_ 71 3 <|.bin .neq (.l 5) (.l 6),f_ 72 <|.pick (.l 3) (cb true) (.l 7),f_ 73 <|.mov (.l 8),n_ 74 9 <|.mov (.g 15),n_ 75 9 <|.un .not (.l 10),f_ 76 <|.pick (.l 9) (cb true) (.l 11),t_ 63 <|.mov (.l 12)]
def r240_6 : List Op := [f_ 77 <|.load (.v 6) (some 5) (.g 6),f_ 78 <|.call (.k 286) .no none [.c (.int .i64 10)],u_ <|.store (.v 12) 5 (.g 12) (.l 0),u_ <|.store (.v 13) 9 (.g 13) (.l 1)]
def r240_7 : List Op := [f_ 80 <|.fad (.g 14) 4,f_ 81 <|.load (.v 14) none (.l 0),f_ 82 <|.bin .neq (.l 1) (ci 1),f_ 83 <|.mov (.l 2),n_ 84 3 <|.load (.v 9) (some 12) (.g 9),n_ 85 3 <|.call (.k 288) .no none [.l 4],n_ 86 3 <|.mov (.l 5),y_ 87 6 <|.fad (.g 14) 13,y_ 88 6 <|.load (.v 14) none (.l 7),y_ 89 6 <|.bin .neq (.l 8) (ci 0),n_ 90 3 <|.pick (.l 6) (.l 9) (cb false),f_ 91 <|.pick (.l 3) (cb true) (.l 10),t_ 79 <|.mov (.l 11)]
def r240_8 : List Op := [f_ 92 <|.load (.v 6) (some 5) (.g 6),f_ 93 <|.call (.k 286) .no none [.c (.int .i64 11)],u_ <|.store (.v 12) 5 (.g 12) (.l 0),u_ <|.store (.v 13) 9 (.g 13) (.l 1)]
def r240_9 : List Op := [f_ 95 <|.load (.v 9) (some 12) (.g 9),f_ 96 <|.call (.k 288) .no none [.l 0],t_ 94 <|.mov (.l 1)]
def r240_10 : List Op := [f_ 97 <|.load (.v 6) (some 5) (.g 6),f_ 98 <|.load (.v 14) (some 17) (.g 14),f_ 99 <|.load (.v 9) (some 12) (.g 9),f_ 100 <|.load (.v 10) (some 3) (.g 10),f_ 101 <|.call (.k 289) .no none [.l 0, .l 1, .l 2, .l 3],f_ 102 <|.ext (.l 4) 0,f_ 103 <|.ext (.l 4) 1,u_ <|.store (.v 12) 5 (.g 12) (.l 5),u_ <|.store (.v 13) 9 (.g 13) (.l 6)]
def r240_11 : List Op := [f_ 105 <|.fad (.g 9) 2,f_ 106 <|.load (.v 9) none (.l 0),f_ 107 <|.bin .eql (.l 1) (ci 4),t_ 104 <|.mov (.l 2)]
def r240_12 : List Op := [f_ 108 <|.load (.v 6) (some 5) (.g 6),f_ 109 <|.load (.v 6) (some 5) (.g 6),f_ 110 <|.load (.v 14) (some 17) (.g 14),f_ 111 <|.fad (.g 9) 3,f_ 112 <|.load (.v 9) none (.l 3),f_ 113 <|.call (.k 290) .no none [.l 1, .l 2, .l 4],u_ <|.store (.v 12) 5 (.g 12) (.l 0),u_ <|.store (.v 13) 9 (.g 13) (.l 5)]
def r240_13 : List Op := [f_ 114 <|.load (.v 6) (some 5) (.g 6),f_ 115 <|.load (.v 14) (some 17) (.g 14),f_ 116 <|.load (.v 9) (some 12) (.g 9),f_ 117 <|.mov (.g 5),f_ 118 <|.call (.k 291) .no none [.l 0, .l 1, .l 2, .l 3],f_ 119 <|.ext (.l 4) 0,f_ 120 <|.ext (.l 4) 1,u_ <|.store (.v 12) 5 (.g 12) (.l 5),u_ <|.store (.v 13) 9 (.g 13) (.l 6)]
def c240 : C := .seq (.region false r240_0) (.seq (.seq (.region false r240_1) (.cond (.g 41) (.seq (.region true r240_2) (.ret)) (.skip))) (.seq (.region false r240_3) (.seq (.region false r240_4) (.seq (.block 0 (.seq (.region false r240_5) (.cond (.g 63) (.seq (.region true r240_6) (.ret)) (.seq (.region false r240_7) (.cond (.g 79) (.seq (.region true r240_8) (.ret)) (.seq (.region false r240_9) (.cond (.g 94) (.seq (.region false r240_10) (.ret)) (.seq (.region false r240_11) (.cond (.g 104) (.seq (.region true r240_12) (.ret)) (.skip)))))))))) (.seq (.region false r240_13) (.ret))))))
def F240 : F := ⟨6, [0, 1, 2, 3, 4, 5, 6, 9, 10, 12, 13, 14, 15, 41, 63, 79, 94, 104], [.cell 12 (some 5), .cell 13 (some 9)], none, c240⟩
attribute [go_sem] r240_0 r240_1 r240_2 r240_3 r240_4 r240_5 r240_6 r240_7 r240_8 r240_9 r240_10 r240_11 r240_12 r240_13 c240 F240
def r244_0 : List Op := [t_ 1 <|.box (.g 0),t_ 2 <|.mov (cb false)]
def r244_1 : List Op := [f_ 3 <|.fad (.g 1) 0,f_ 4 <|.load (.v 1) none (.l 0),f_ 5 <|.fad (.g 1) 1,f_ 6 <|.load (.v 1) none (.l 2),f_ 7 <|.mks 1 2 [.int .i64 0] [(0, .l 1), (1, .l 3)],f_ 8 <|.call (.k 284) .no none [.c (.int .i64 1), .l 4],f_ 9 <|.un .not (.l 5),f_ 10 <|.mov (.l 6),n_ 11 7 <|.fad (.g 1) 13,n_ 12 7 <|.load (.v 1) none (.l 8),n_ 13 7 <|.fad (.g 1) 14,n_ 14 7 <|.load (.v 1) none (.l 10),n_ 15 7 <|.fad (.g 1) 15,n_ 16 7 <|.load (.v 1) none (.l 12),n_ 17 7 <|.fad (.g 1) 16,n_ 18 7 <|.load (.v 1) none (.l 14),n_ 19 7 <|.mks 1 4 [.int .i64 0] [(0, .l 9), (1, .l 11), (2, .l 13), (3, .l 15)],n_ 20 7 <|.call (.k 284) .no none [.c (.int .i64 0), .l 16],n_ 21 7 <|.un .not (.l 17),f_ 22 <|.pick (.l 7) (cb true) (.l 18),f_ 23 <|.mov (.l 19),n_ 24 20 <|.fad (.g 1) 4,n_ 25 20 <|.load (.v 1) none (.l 21),n_ 26 20 <|.bin .lss (.l 22) (ci 1),f_ 27 <|.pick (.l 20) (cb true) (.l 23),f_ 28 <|.mov (.l 24),n_ 29 25 <|.fad (.g 1) 4,n_ 30 25 <|.load (.v 1) none (.l 26),n_ 31 25 <|.bin .gtr (.l 27) (ci 3),t_ 32 <|.pick (.l 25) (cb true) (.l 28)]
def r244_2 : List Op := [t_ 2 <|.mov (cb false)]
def r244_3 : List Op := [f_ 33 <|.fad (.g 1) 2,f_ 34 <|.load (.v 1) (some 2) (.l 0),f_ 35 <|.call (.k 186) .no none [.l 1],f_ 36 <|.un .not (.l 2),f_ 37 <|.mov (.l 3),n_ 38 4 <|.fad (.g 1) 5,n_ 39 4 <|.load (.v 1) none (.l 5),n_ 40 4 <|.call (.k 203) .no none [.l 6],n_ 41 4 <|.un .not (.l 7),f_ 42 <|.pick (.l 4) (cb true) (.l 8),f_ 43 <|.mov (.l 9),n_ 44 10 <|.fad (.g 1) 6,n_ 45 10 <|.load (.v 1) (some 3) (.l 11),n_ 46 10 <|.call (.k 28) .no none [.l 12],n_ 47 10 <|.un .not (.l 13),f_ 48 <|.pick (.l 10) (cb true) (.l 14),f_ 49 <|.mov (.l 15),n_ 50 16 <|.fad (.g 1) 9,n_ 51 16 <|.load (.v 1) (some 3) (.l 17),n_ 52 16 <|.call (.k 28) .no none [.l 18],n_ 53 16 <|.un .not (.l 19),f_ 54 <|.pick (.l 16) (cb true) (.l 20),f_ 55 <|.mov (.l 21),n_ 56 22 <|.fad (.g 1) 12,n_ 57 22 <|.load (.v 1) none (.l 23),n_ 58 22 <|.call (.k 81) .no none [.l 24],n_ 59 22 <|.un .not (.l 25),t_ 60 <|.pick (.l 22) (cb true) (.l 26)]
def r244_4 : List Op := [t_ 2 <|.mov (cb false)]
def r244_5 : List Op := [f_ 61 <|.fad (.g 1) 5,f_ 62 <|.load (.v 1) none (.l 0),f_ 63 <|.fn 298 [.g 1] [1],f_ 64 <|.call (.k 299) .no none [.l 1, .l 2],f_ 65 <|.un .not (.l 3),t_ 2 <|.mov (.l 4)]
def c244 : C := .seq (.region false r244_0) (.seq (.seq (.region false r244_1) (.cond (.g 32) (.seq (.region false r244_2) (.ret)) (.skip))) (.seq (.seq (.region false r244_3) (.cond (.g 60) (.seq (.region false r244_4) (.ret)) (.skip))) (.seq (.region false r244_5) (.ret))))
def F244 : F := ⟨1, [0, 1, 2, 32, 60], [.t 2], none, c244⟩
attribute [go_sem] r244_0 r244_1 r244_2 r244_3 r244_4 r244_5 c244 F244
def r249_0 : List Op := [t_ 1 <|.box (.g 0),t_ 2 <|.mov (cb false)]
def r249_1 : List Op := [t_ 3 <|.mov (ci 0)]
def r249_2 : List Op := [f_ 6 <|.fad (.g 1) 0,t_ 7 <|.load (.v 1) none (.l 0),t_ 8 <|.len false (.l 1),t_ 9 <|.mov (ci 0)]
def r249_3 : List Op := [t_ 10 <|.bin .lss (.g 9) (.g 8)]
def r249_4 : List Op := [f_ 11 <|.iad 17 (.g 7) (.g 9),f_ 12 <|.load (.c) (some 17) (.l 0),t_ 5 <|.alloc [.int .i64 0, .int .i64 0, .str [], .str [], .int .i64 0, .slice 2 [], .int .i64 0, .int .i64 0, .int .i64 0, .int .i64 0, .int .i64 0, .int .i64 0, .slice 11 [], .int .i64 0, .int .i64 0, .int .i64 0, .int .i64 0],u_ <|.store (.v 5) 17 (.l 2) (.l 1)]
def r249_5 : List Op := [f_ 13 <|.fad (.g 5) 0,f_ 14 <|.load (.v 5) none (.l 0),f_ 15 <|.mov (.g 3),f_ 16 <|.bin .leq (.l 1) (.l 2),f_ 17 <|.mov (.l 3),n_ 18 4 <|.load (.v 5) (some 17) (.g 5),n_ 19 4 <|.call (.k 244) .no none [.l 5],n_ 20 4 <|.un .not (.l 6),f_ 21 <|.pick (.l 4) (cb true) (.l 7),f_ 22 <|.mov (.l 8),n_ 23 9 <|.load (.v 5) (some 17) (.g 5),n_ 24 9 <|.fad (.g 1) 1,n_ 25 9 <|.load (.v 1) (some 3) (.l 11),n_ 26 9 <|.call (.k 301) .no none [.l 10, .l 12],n_ 27 9 <|.un .not (.l 13),t_ 28 <|.pick (.l 9) (cb true) (.l 14)]
def r249_6 : List Op := [t_ 2 <|.mov (cb false)]
def r249_7 : List Op := [f_ 29 <|.fad (.g 5) 0,f_ 30 <|.load (.v 5) none (.l 0),t_ 3 <|.mov (.l 1)]
def r249_8 : List Op := [f_ 31 <|.bin .add (.g 9) (ci 1),t_ 9 <|.mov (.l 0)]
def b249_0 : C := .seq (.region false r249_3) (.seq (.cond (.g 10) (.skip) (.exit 0)) (.seq (.block 1 (.seq (.region false r249_4) (.seq (.seq (.region false r249_5) (.cond (.g 28) (.seq (.region false r249_6) (.ret)) (.skip))) (.region false r249_7)))) (.region false r249_8)))
def l249_0 : C := .loop [] [] [5] [] b249_0
def r249_9 : List Op := [f_ 32 <|.fad (.g 1) 0,f_ 33 <|.load (.v 1) none (.l 0),f_ 34 <|.len false (.l 1),f_ 35 <|.bin .leq (.l 2) (ci 8),f_ 36 <|.mov (.l 3),y_ 37 4 <|.fad (.g 1) 1,y_ 38 4 <|.load (.v 1) (some 3) (.l 5),y_ 39 4 <|.call (.k 28) .no none [.l 6],f_ 40 <|.pick (.l 4) (.l 7) (cb false),f_ 41 <|.mov (.l 8),y_ 42 9 <|.fad (.g 1) 4,y_ 43 9 <|.load (.v 1) none (.l 10),y_ 44 9 <|.mks 1 1 [.int .i64 0] [(0, .l 11)],y_ 45 9 <|.call (.k 284) .no none [.c (.int .i64 0), .l 12],f_ 46 <|.pick (.l 9) (.l 13) (cb false),t_ 2 <|.mov (.l 14)]
def c249 : C := .seq (.region false r249_0) (.seq (.region false r249_1) (.seq (.seq (.region false r249_2) (.block 0 (l249_0))) (.seq (.region false r249_9) (.ret))))
def F249 : F := ⟨1, [0, 1, 2, 3, 5, 7, 8, 9, 10, 28], [.t 2], none, c249⟩
attribute [go_sem] r249_0 r249_1 r249_2 r249_3 r249_4 r249_5 r249_6 r249_7 r249_8 b249_0 r249_9 c249 F249
def r284_0 : List Op := [t_ 2 <|.box (.g 0),t_ 4 <|.mov (cb false)]
def r284_1 : List Op := [f_ 5 <|.mov (.g 1),f_ 6 <|.fn 313 [.g 2] [2],f_ 7 <|.call (.k 67) .no none [.l 0, .l 1],f_ 8 <|.un .not (.l 2),t_ 4 <|.mov (.l 3)]
def c284 : C := .seq (.region false r284_0) (.seq (.region false r284_1) (.ret))
def F284 : F := ⟨2, [0, 1, 2, 4], [.t 4], none, c284⟩
attribute [go_sem] r284_0 r284_1 c284 F284
def r285_0 : List Op := [t_ 1 <|.box (.g 0),t_ 2 <|.mov (cb false)]
def r285_1 : List Op := [f_ 3 <|.fad (.g 1) 0,f_ 4 <|.load (.v 1) none (.l 0),f_ 5 <|.fad (.g 1) 1,f_ 6 <|.load (.v 1) none (.l 2),f_ 7 <|.mks 1 2 [.int .i64 0] [(0, .l 1), (1, .l 3)],f_ 8 <|.call (.k 284) .no none [.c (.int .i64 1), .l 4],f_ 9 <|.un .not (.l 5),f_ 10 <|.mov (.l 6),n_ 11 7 <|.fad (.g 1) 2,n_ 12 7 <|.load (.v 1) none (.l 8),n_ 13 7 <|.bin .lss (.l 9) (ci 1),f_ 14 <|.pick (.l 7) (cb true) (.l 10),f_ 15 <|.mov (.l 11),n_ 16 12 <|.fad (.g 1) 2,n_ 17 12 <|.load (.v 1) none (.l 13),n_ 18 12 <|.bin .gtr (.l 14) (ci 6),f_ 19 <|.pick (.l 12) (cb true) (.l 15),f_ 20 <|.mov (.l 16),n_ 21 17 <|.fad (.g 1) 4,n_ 22 17 <|.load (.v 1) none (.l 18),n_ 23 17 <|.len true (.l 19),n_ 24 17 <|.bin .gtr (.l 20) (ci 16),f_ 25 <|.pick (.l 17) (cb true) (.l 21),f_ 26 <|.mov (.l 22),n_ 27 23 <|.fad (.g 1) 6,n_ 28 23 <|.load (.v 1) none (.l 24),n_ 29 23 <|.len true (.l 25),n_ 30 23 <|.bin .gtr (.l 26) (ci 16),f_ 31 <|.pick (.l 23) (cb true) (.l 27),f_ 32 <|.mov (.l 28),n_ 33 29 <|.fad (.g 1) 11,n_ 34 29 <|.load (.v 1) none (.l 30),n_ 35 29 <|.bin .lss (.l 31) (ci 0),f_ 36 <|.pick (.l 29) (cb true) (.l 32),f_ 37 <|.mov (.l 33),n_ 38 34 <|.fad (.g 1) 11,n_ 39 34 <|.load (.v 1) none (.l 35),n_ 40 34 <|.bin .gtr (.l 36) (ci 8),f_ 41 <|.pick (.l 34) (cb true) (.l 37),f_ 42 <|.mov (.l 38),n_ 43 39 <|.fad (.g 1) 7,n_ 44 39 <|.load (.v 1) (some 3) (.l 40),n_ 45 39 <|.call (.k 28) .no none [.l 41],n_ 46 39 <|.un .not (.l 42),f_ 47 <|.pick (.l 39) (cb true) (.l 43),f_ 48 <|.mov (.l 44),n_ 49 45 <|.fad (.g 1) 10,n_ 50 45 <|.load (.v 1) none (.l 46),n_ 51 45 <|.bin .neq (.l 47) (.c (.str [])),n_ 52 45 <|.mov (.l 48),y_ 53 49 <|.fad (.g 1) 10,y_ 54 49 <|.load (.v 1) none (.l 50),y_ 55 49 <|.call (.k 170) .no none [.l 51],y_ 56 49 <|.un .not (.l 52),n_ 57 45 <|.pick (.l 49) (.l 53) (cb false),t_ 58 <|.pick (.l 45) (cb true) (.l 54)]
def r285_2 : List Op := [t_ 2 <|.mov (cb false)]
def r285_3 : List Op := [f_ 59 <|.fad (.g 1) 2,f_ 60 <|.load (.v 1) none (.l 0),t_ 61 <|.bin .eql (.l 1) (ci 6)]
def r285_4 : List Op := [f_ 62 <|.fad (.g 1) 3,f_ 63 <|.load (.v 1) none (.l 0),f_ 64 <|.bin .eql (.l 1) (.c (.str [])),f_ 65 <|.mov (.l 2),n_ 66 3 <|.fad (.g 1) 3,n_ 67 3 <|.load (.v 1) none (.l 4),n_ 68 3 <|.call (.k 170) .no none [.l 5],f_ 69 <|.pick (.l 3) (cb true) (.l 6),f_ 70 <|.mov (.l 7),y_ 71 8 <|.fad (.g 1) 11,y_ 72 8 <|.load (.v 1) none (.l 9),y_ 73 8 <|.bin .geq (.l 10) (ci 1),f_ 74 <|.pick (.l 8) (.l 11) (cb false),t_ 2 <|.mov (.l 12)]
def r285_5 : List Op := [f_ 75 <|.fad (.g 1) 3,f_ 76 <|.load (.v 1) none (.l 0),f_ 77 <|.call (.k 170) .no none [.l 1],t_ 2 <|.mov (.l 2)]
def c285 : C := .seq (.region false r285_0) (.seq (.seq (.region false r285_1) (.cond (.g 58) (.seq (.region false r285_2) (.ret)) (.skip))) (.seq (.seq (.region false r285_3) (.cond (.g 61) (.seq (.region false r285_4) (.ret)) (.skip))) (.seq (.region false r285_5) (.ret))))
def F285 : F := ⟨1, [0, 1, 2, 58, 61], [.t 2], none, c285⟩
attribute [go_sem] r285_0 r285_1 r285_2 r285_3 r285_4 r285_5 c285 F285
def r287_0 : List Op := [t_ 2 <|.box (.g 0),t_ 4 <|.alloc [.int .i64 0, .int .i64 0, .str [], .str [], .int .i64 0, .slice 2 [], .int .i64 0, .int .i64 0, .int .i64 0, .int .i64 0, .int .i64 0, .int .i64 0, .slice 11 [], .int .i64 0, .int .i64 0, .int .i64 0, .int .i64 0]]
def r287_1 : List Op := [f_ 8 <|.load (.v 2) (some 5) (.g 2),f_ 9 <|.mov (.g 1),f_ 10 <|.call (.k 314) .no none [.l 0, .l 1],f_ 7 <|.mov (.l 2),f_ 11 <|.ext (.l 3) 0,f_ 12 <|.ext (.l 3) 1,t_ 5 <|.mov (.l 4),t_ 6 <|.mov (.l 5)]
def r287_2 : List Op := [t_ 13 <|.mov (.g 6)]
def r287_3 : List Op := [f_ 14 <|.fad (.g 2) 0,f_ 15 <|.load (.v 2) none (.l 0),f_ 16 <|.mov (.g 5),f_ 17 <|.iad 17 (.l 1) (.l 2),f_ 18 <|.load (.c) (some 17) (.l 3),u_ <|.store (.v 4) 17 (.g 4) (.l 4)]
def r287_4 : List Op := [f_ 19 <|.build [.int .i64 0, .int .i64 0, .str [], .str [], .int .i64 0, .slice 2 [], .int .i64 0, .int .i64 0, .int .i64 0, .int .i64 0, .int .i64 0, .int .i64 0, .slice 11 [], .int .i64 0, .int .i64 0, .int .i64 0, .int .i64 0] [],u_ <|.store (.v 4) 17 (.g 4) (.l 0)]
def c287 : C := .seq (.region false r287_0) (.seq (.seq (.region false r287_1) (.seq (.region false r287_2) (.cond (.g 13) (.seq (.region false r287_3) (.ret)) (.skip)))) (.seq (.region false r287_4) (.ret)))
def F287 : F := ⟨2, [0, 1, 2, 4, 5, 6, 13], [.cell 4 (some 17)], none, c287⟩
attribute [go_sem] r287_0 r287_1 r287_2 r287_3 r287_4 c287 F287
def r288_0 : List Op := [t_ 1 <|.box (.g 0),t_ 2 <|.mov (cb false)]
def r288_1 : List Op := [f_ 3 <|.fad (.g 1) 2,f_ 4 <|.load (.v 1) none (.l 0),f_ 5 <|.bin .eql (.l 1) (ci 1),f_ 6 <|.mov (.l 2),n_ 7 3 <|.fad (.g 1) 2,n_ 8 3 <|.load (.v 1) none (.l 4),n_ 9 3 <|.bin .eql (.l 5) (ci 2),f_ 10 <|.pick (.l 3) (cb true) (.l 6),f_ 11 <|.mov (.l 7),n_ 12 8 <|.fad (.g 1) 2,n_ 13 8 <|.load (.v 1) none (.l 9),n_ 14 8 <|.bin .eql (.l 10) (ci 3),f_ 15 <|.pick (.l 8) (cb true) (.l 11),t_ 2 <|.mov (.l 12)]
def c288 : C := .seq (.region false r288_0) (.seq (.region false r288_1) (.ret))
def F288 : F := ⟨1, [0, 1, 2], [.t 2], none, c288⟩
attribute [go_sem] r288_0 r288_1 c288 F288
def r289_0 : List Op := [t_ 4 <|.box (.g 0),t_ 5 <|.box (.g 1),t_ 6 <|.box (.g 2),t_ 7 <|.box (.g 3),t_ 8 <|.alloc [.slice 17 [], .int .i64 0, .int .i64 0, .int .i64 0, .int .i64 0],t_ 9 <|.alloc [.int .i64 0, .int .i64 0, .int .i64 0, .int .i64 0, .bool false, .str [], .slice 2 [], .str [], .bool false]]
def r289_1 : List Op := [f_ 15 <|.fad (.g 5) 12,f_ 16 <|.load (.v 5) none (.l 0),f_ 17 <|.fad (.g 6) 0,f_ 18 <|.load (.v 6) none (.l 2),f_ 19 <|.fad (.g 6) 1,f_ 20 <|.load (.v 6) none (.l 4),t_ 21 <|.call (.k 82) .no none [.l 1, .l 3, .l 5]]
def r289_2 : List Op := [f_ 23 <|.bin .eql (.g 21) (ci 2),t_ 22 <|.mov (.l 0)]
def r289_3 : List Op := [f_ 25 <|.fad (.g 5) 12,f_ 26 <|.load (.v 5) none (.l 0),f_ 27 <|.fad (.g 6) 0,f_ 28 <|.load (.v 6) none (.l 2),f_ 29 <|.call (.k 84) .no none [.l 1, .l 3],f_ 24 <|.mov (.l 4),f_ 30 <|.ext (.l 5) 0,f_ 31 <|.ext (.l 5) 1,t_ 10 <|.alloc [.int .i64 0, .int .i64 0, .int .i64 0, .int .i64 0, .int .i64 0, .int .i64 0, .bool false, .str [], .slice 2 [], .str [], .bool false],u_ <|.store (.v 10) 11 (.l 8) (.l 6),f_ 11 <|.mov (.l 7)]
def r289_4 : List Op := [f_ 32 <|.load (.v 4) (some 5) (.g 4),f_ 33 <|.fad (.g 10) 2,f_ 34 <|.load (.v 10) (some 9) (.l 1),u_ <|.store (.v 8) 5 (.g 8) (.l 0),u_ <|.store (.v 9) 9 (.g 9) (.l 2)]
def r289_5 : List Op := [f_ 36 <|.bin .eql (.g 21) (ci 3),t_ 35 <|.mov (.l 0)]
def r289_6 : List Op := [f_ 37 <|.load (.v 4) (some 5) (.g 4),f_ 38 <|.call (.k 286) .no none [.c (.int .i64 10)],u_ <|.store (.v 8) 5 (.g 8) (.l 0),u_ <|.store (.v 9) 9 (.g 9) (.l 1)]
def r289_7 : List Op := [f_ 39 <|.load (.v 7) (some 3) (.g 7),f_ 40 <|.fad (.g 4) 1,f_ 41 <|.load (.v 4) (some 3) (.l 1),f_ 42 <|.call (.k 15) .no none [.l 0, .l 2],t_ 43 <|.bin .leq (.l 3) (ci 0)]
def r289_8 : List Op := [f_ 44 <|.load (.v 4) (some 5) (.g 4),f_ 45 <|.call (.k 286) .no none [.c (.int .i64 1)],u_ <|.store (.v 8) 5 (.g 8) (.l 0),u_ <|.store (.v 9) 9 (.g 9) (.l 1)]
def r289_9 : List Op := [f_ 46 <|.load (.v 4) (some 5) (.g 4),f_ 47 <|.load (.v 5) (some 17) (.g 5),f_ 48 <|.fad (.g 6) 3,f_ 49 <|.load (.v 6) none (.l 2),f_ 50 <|.call (.k 290) .no none [.l 0, .l 1, .l 3],t_ 12 <|.alloc [.int .i64 0, .int .i64 0, .int .i64 0, .int .i64 0, .bool false, .str [], .slice 2 [], .str [], .bool false],u_ <|.store (.v 12) 9 (.l 5) (.l 4)]
def r289_10 : List Op := [f_ 51 <|.load (.v 7) (some 3) (.g 7),f_ 52 <|.fad (.g 12) 4,f_ 53 <|.load (.v 12) none (.l 1),f_ 54 <|.build [.int .i64 0, .int .i64 0, .int .i64 0, .int .i64 0, .bool false, .str [], .slice 2 [], .str [], .bool false] [(1, 3, .l 0), (4, 1, .l 2)],t_ 13 <|.alloc [.int .i64 0, .int .i64 0, .int .i64 0, .int .i64 0, .bool false, .str [], .slice 2 [], .str [], .bool false],u_ <|.store (.v 13) 9 (.l 4) (.l 3)]
def r289_11 : List Op := [t_ 14 <|.mov (ci 0)]
def r289_12 : List Op := [f_ 56 <|.fad (.g 6) 2,f_ 57 <|.load (.v 6) none (.l 0),f_ 58 <|.bin .eql (.l 1) (ci 3),f_ 59 <|.mov (.l 2),y_ 60 3 <|.fad (.g 12) 4,y_ 61 3 <|.load (.v 12) none (.l 4),y_ 62 3 <|.fad (.g 6) 5,y_ 63 3 <|.load (.v 6) none (.l 6),y_ 64 3 <|.eqb true (.l 5) (.l 7),y_ 65 3 <|.mov (.l 8),n_ 66 9 <|.fad (.g 12) 4,n_ 67 9 <|.load (.v 12) none (.l 10),n_ 68 9 <|.mov (.l 11),y_ 69 12 <|.fad (.g 12) 5,y_ 70 12 <|.load (.v 12) none (.l 13),y_ 71 12 <|.fad (.g 6) 6,y_ 72 12 <|.load (.v 6) none (.l 15),y_ 73 12 <|.bin .neq (.l 14) (.l 16),n_ 74 9 <|.pick (.l 12) (.l 17) (cb false),y_ 75 3 <|.pick (.l 9) (cb true) (.l 18),f_ 76 <|.pick (.l 3) (.l 19) (cb false),t_ 55 <|.mov (.l 20)]
def r289_13 : List Op := [f_ 77 <|.fad (.g 12) 5,f_ 78 <|.load (.v 12) none (.l 0),f_ 79 <|.fad (.g 13) 0,u_ <|.store (.v 13) 1 (.l 2) (ci 15),f_ 80 <|.fad (.g 13) 5,u_ <|.store (.v 13) 1 (.l 4) (.l 1)]
def r289_14 : List Op := [f_ 82 <|.fad (.g 6) 2,f_ 83 <|.load (.v 6) none (.l 0),f_ 84 <|.bin .neq (.l 1) (ci 2),t_ 81 <|.mov (.l 2)]
def r289_15 : List Op := [f_ 86 <|.fad (.g 5) 5,f_ 87 <|.load (.v 5) none (.l 0),f_ 88 <|.fad (.g 6) 3,f_ 89 <|.load (.v 6) none (.l 2),f_ 90 <|.load (.v 7) (some 3) (.g 7),f_ 91 <|.fad (.g 6) 4,f_ 92 <|.load (.v 6) none (.l 5),f_ 93 <|.build [.int .i64 0, .int .i64 0, .int .i64 0, .bool false, .str []] [(0, 3, .l 4), (4, 1, .l 6)],f_ 94 <|.call (.k 200) .no none [.l 1, .l 3, .l 7],f_ 85 <|.mov (.l 8),f_ 95 <|.ext (.l 9) 0,f_ 96 <|.ext (.l 9) 1,f_ 97 <|.fad (.g 5) 5,u_ <|.store (.v 5) 1 (.l 12) (.l 10),t_ 14 <|.mov (.l 11)]
def r289_16 : List Op := [f_ 99 <|.fad (.g 12) 4,f_ 100 <|.load (.v 12) none (.l 0),t_ 98 <|.mov (.l 1)]
def r289_17 : List Op := [f_ 102 <|.fad (.g 5) 5,f_ 103 <|.load (.v 5) none (.l 0),f_ 104 <|.fad (.g 6) 3,f_ 105 <|.load (.v 6) none (.l 2),f_ 106 <|.load (.v 7) (some 3) (.g 7),f_ 107 <|.build [.int .i64 0, .int .i64 0, .int .i64 0, .bool false, .str []] [(0, 3, .l 4), (3, 1, .c (.bool true))],f_ 108 <|.call (.k 200) .no none [.l 1, .l 3, .l 5],f_ 101 <|.mov (.l 6),f_ 109 <|.ext (.l 7) 0,f_ 110 <|.ext (.l 7) 1,f_ 111 <|.fad (.g 5) 5,u_ <|.store (.v 5) 1 (.l 10) (.l 8),t_ 14 <|.mov (.l 9)]
def r289_18 : List Op := [f_ 112 <|.mov (.g 14),t_ 113 <|.bin .neq (.l 0) (ci 0)]
def r289_19 : List Op := [f_ 114 <|.load (.v 4) (some 5) (.g 4),f_ 115 <|.mov (.g 14),f_ 116 <|.call (.k 286) .no none [.l 1],u_ <|.store (.v 8) 5 (.g 8) (.l 0),u_ <|.store (.v 9) 9 (.g 9) (.l 2)]
def r289_20 : List Op := [f_ 118 <|.fad (.g 5) 12,f_ 119 <|.load (.v 5) none (.l 0),f_ 120 <|.fad (.g 6) 0,f_ 121 <|.load (.v 6) none (.l 2),f_ 122 <|.fad (.g 6) 1,f_ 123 <|.load (.v 6) none (.l 4),f_ 124 <|.load (.v 13) (some 9) (.g 13),f_ 125 <|.build [.int .i64 0, .int .i64 0, .int .i64 0, .int .i64 0, .int .i64 0, .int .i64 0, .bool false, .str [], .slice 2 [], .str [], .bool false] [(0, 1, .l 3), (1, 1, .l 5), (2, 9, .l 6)],f_ 126 <|.call (.k 88) .no none [.l 1, .l 7],f_ 117 <|.mov (.l 8),f_ 127 <|.ext (.l 9) 0,f_ 128 <|.ext (.l 9) 1,f_ 129 <|.fad (.g 5) 12,u_ <|.store (.v 5) 1 (.l 12) (.l 10),t_ 14 <|.mov (.l 11)]
def r289_21 : List Op := [f_ 130 <|.mov (.g 14),t_ 131 <|.bin .neq (.l 0) (ci 0)]
def r289_22 : List Op := [f_ 132 <|.load (.v 4) (some 5) (.g 4),f_ 133 <|.mov (.g 14),f_ 134 <|.call (.k 286) .no none [.l 1],u_ <|.store (.v 8) 5 (.g 8) (.l 0),u_ <|.store (.v 9) 9 (.g 9) (.l 2)]
def r289_23 : List Op := [f_ 135 <|.load (.v 4) (some 5) (.g 4),f_ 136 <|.load (.v 5) (some 17) (.g 5),f_ 137 <|.call (.k 304) .no none [.l 0, .l 1],u_ <|.store (.v 4) 5 (.g 4) (.l 2)]
def r289_24 : List Op := [f_ 138 <|.load (.v 7) (some 3) (.g 7),f_ 139 <|.fad (.g 4) 1,u_ <|.store (.v 4) 3 (.l 1) (.l 0)]
def r289_25 : List Op := [f_ 140 <|.load (.v 4) (some 5) (.g 4),f_ 141 <|.load (.v 13) (some 9) (.g 13),u_ <|.store (.v 8) 5 (.g 8) (.l 0),u_ <|.store (.v 9) 9 (.g 9) (.l 1)]
def c289 : C := .seq (.region false r289_0) (.seq (.seq (.region false r289_1) (.block 0 (.seq (.region false r289_2) (.cond (.g 22) (.seq (.region false r289_3) (.seq (.region true r289_4) (.ret))) (.seq (.region false r289_5) (.cond (.g 35) (.seq (.region true r289_6) (.ret)) (.skip))))))) (.seq (.seq (.region false r289_7) (.cond (.g 43) (.seq (.region true r289_8) (.ret)) (.skip))) (.seq (.region false r289_9) (.seq (.region false r289_10) (.seq (.region false r289_11) (.seq (.block 1 (.seq (.region false r289_12) (.cond (.g 55) (.region true r289_13) (.seq (.region false r289_14) (.cond (.g 81) (.region false r289_15) (.seq (.region false r289_16) (.cond (.g 98) (.region false r289_17) (.skip)))))))) (.seq (.seq (.region false r289_18) (.cond (.g 113) (.seq (.region true r289_19) (.ret)) (.skip))) (.seq (.seq (.region false r289_20) (.seq (.region false r289_21) (.cond (.g 131) (.seq (.region true r289_22) (.ret)) (.skip)))) (.seq (.region false r289_23) (.seq (.region false r289_24) (.seq (.region true r289_25) (.ret))))))))))))
def F289 : F := ⟨4, [0, 1, 2, 3, 4, 5, 6, 7, 8, 9, 10, 12, 13, 14, 21, 22, 35, 43, 55, 81, 98, 113, 131], [.cell 8 (some 5), .cell 9 (some 9)], none, c289⟩
attribute [go_sem] r289_0 r289_1 r289_2 r289_3 r289_4 r289_5 r289_6 r289_7 r289_8 r289_9 r289_10 r289_11 r289_12 r289_13 r289_14 r289_15 r289_16 r289_17 r289_18 r289_19 r289_20 r289_21 r289_22 r289_23 r289_24 r289_25 c289 F289
def r290_0 : List Op := [t_ 3 <|.box (.g 0),t_ 4 <|.box (.g 1),t_ 6 <|.alloc [.int .i64 0, .int .i64 0, .int .i64 0, .int .i64 0, .bool false, .str [], .slice 2 [], .str [], .bool false]]
def r290_1 : List Op := [f_ 10 <|.fad (.g 4) 5,f_ 11 <|.load (.v 4) none (.l 0),f_ 12 <|.mov (.g 2),f_ 13 <|.fad (.g 3) 1,f_ 14 <|.load (.v 3) (some 3) (.l 3),f_ 15 <|.call (.k 312) .no none [.l 1, .l 2, .l 4],f_ 9 <|.mov (.l 5),f_ 16 <|.ext (.l 6) 0,f_ 17 <|.ext (.l 6) 1,t_ 7 <|.alloc [.int .i64 0, .int .i64 0, .int .i64 0, .bool false, .str []],u_ <|.store (.v 7) 5 (.l 9) (.l 7),t_ 8 <|.mov (.l 8)]
def r290_2 : List Op := [f_ 18 <|.fad (.g 7) 0,f_ 19 <|.load (.v 7) (some 3) (.l 0),f_ 20 <|.mov (.g 8),f_ 21 <|.mov (.l 2),y_ 22 3 <|.fad (.g 7) 3,y_ 23 3 <|.load (.v 7) none (.l 4),y_ 24 3 <|.un .not (.l 5),f_ 25 <|.pick (.l 3) (.l 6) (cb false),f_ 26 <|.fad (.g 7) 4,f_ 27 <|.load (.v 7) none (.l 8),f_ 28 <|.build [.int .i64 0, .int .i64 0, .int .i64 0, .int .i64 0, .bool false, .str [], .slice 2 [], .str [], .bool false] [(1, 3, .l 1), (4, 1, .l 7), (5, 1, .l 9)],u_ <|.store (.v 6) 9 (.g 6) (.l 10)]
def c290 : C := .seq (.region false r290_0) (.seq (.region false r290_1) (.seq (.region false r290_2) (.ret)))
def F290 : F := ⟨3, [0, 1, 2, 3, 4, 6, 7, 8], [.cell 6 (some 9)], none, c290⟩
attribute [go_sem] r290_0 r290_1 r290_2 c290 F290
def r298_0 : List Op := [t_ 2 <|.box (.g 0),t_ 3 <|.mov (cb false)]
def r298_1 : List Op := [f_ 4 <|.fad (.g 1) 2,f_ 5 <|.load (.c) (some 2) (.l 0),f_ 6 <|.fad (.g 2) 0,f_ 7 <|.load (.v 2) none (.l 2),f_ 8 <|.call (.k 171) .no none [.l 1, .l 3],f_ 9 <|.un .not (.l 4),t_ 3 <|.mov (.l 5)]
def c298 : C := .seq (.region false r298_0) (.seq (.region false r298_1) (.ret))
def F298 : F := ⟨2, [0, 1, 2, 3], [.t 3], none, c298⟩
attribute [go_sem] r298_0 r298_1 c298 F298
def r299_0 : List Op := [t_ 4 <|.mov (cb false)]
def r299_1 : List Op := [f_ 5 <|.mov (.g 0),f_ 6 <|.mov (.g 1),f_ 7 <|.call (.k 315) .no none [.l 0, .l 1],f_ 8 <|.bin .geq (.l 2) (ci 0),t_ 4 <|.mov (.l 3)]
def c299 : C := .seq (.region false r299_0) (.seq (.region false r299_1) (.ret))
def F299 : F := ⟨2, [0, 1, 4], [.t 4], none, c299⟩
attribute [go_sem] r299_0 r299_1 c299 F299
def r301_0 : List Op := [t_ 2 <|.box (.g 0),t_ 3 <|.box (.g 1),t_ 4 <|.mov (cb false)]
def r301_1 : List Op := [f_ 5 <|.fad (.g 2) 5,f_ 6 <|.load (.v 2) none (.l 0),f_ 7 <|.fn 316 [.g 3] [3],f_ 8 <|.call (.k 299) .no none [.l 1, .l 2],f_ 9 <|.un .not (.l 3),t_ 4 <|.mov (.l 4)]
def c301 : C := .seq (.region false r301_0) (.seq (.region false r301_1) (.ret))
def F301 : F := ⟨2, [0, 1, 2, 3, 4], [.t 4], none, c301⟩
attribute [go_sem] r301_0 r301_1 c301 F301
def r304_0 : List Op := [t_ 2 <|.box (.g 0),t_ 3 <|.box (.g 1),t_ 4 <|.alloc [.slice 17 [], .int .i64 0, .int .i64 0, .int .i64 0, .int .i64 0]]
def r304_1 : List Op := [f_ 8 <|.load (.v 2) (some 5) (.g 2),f_ 9 <|.fad (.g 3) 0,f_ 10 <|.load (.v 3) none (.l 1),f_ 11 <|.call (.k 314) .borrow none [.l 0, .l 2],f_ 7 <|.mov (.l 3),f_ 12 <|.ext (.l 4) 0,f_ 13 <|.ext (.l 4) 1,t_ 5 <|.mov (.l 5),t_ 6 <|.mov (.l 6)]
def r304_2 : List Op := [f_ 14 <|.fad (.g 2) 0,f_ 15 <|.load (.v 2) none (.l 0),f_ 16 <|.call (.k 307) .freeze (some 0) [.l 1],f_ 17 <|.fad (.g 2) 0,u_ <|.store (.v 2) 1 (.l 3) (.l 2)]
def r304_3 : List Op := [t_ 18 <|.mov (.g 6)]
def r304_4 : List Op := [f_ 19 <|.fad (.g 2) 0,f_ 20 <|.load (.v 2) none (.l 0),f_ 21 <|.mov (.g 5),f_ 22 <|.load (.v 3) (some 17) (.g 3),f_ 23 <|.iad 17 (.l 1) (.l 2),u_ <|.store (.e 16) 17 (.l 4) (.l 3)]
def r304_5 : List Op := [f_ 24 <|.fad (.g 2) 0,f_ 25 <|.load (.v 2) none (.l 0),f_ 26 <|.mov (.g 5),f_ 27 <|.load (.v 3) (some 17) (.g 3),f_ 28 <|.mks 17 1 [.int .i64 0, .int .i64 0, .str [], .str [], .int .i64 0, .slice 2 [], .int .i64 0, .int .i64 0, .int .i64 0, .int .i64 0, .int .i64 0, .int .i64 0, .slice 11 [], .int .i64 0, .int .i64 0, .int .i64 0, .int .i64 0] [(0, .l 3)],f_ 29 <|.ins 317 16 17 (.l 1) (.l 2) (.l 4),f_ 30 <|.fad (.g 2) 0,u_ <|.store (.v 2) 1 (.l 6) (.l 5)]
def r304_6 : List Op := [f_ 31 <|.load (.v 2) (some 5) (.g 2),u_ <|.store (.v 4) 5 (.g 4) (.l 0)]
def c304 : C := .seq (.region false r304_0) (.seq (.region false r304_1) (.seq (.region false r304_2) (.seq (.seq (.region false r304_3) (.cond (.g 18) (.region false r304_4) (.region false r304_5))) (.seq (.region false r304_6) (.ret)))))
def F304 : F := ⟨2, [0, 1, 2, 3, 4, 5, 6, 18], [.cell 4 (some 5)], none, c304⟩
attribute [go_sem] r304_0 r304_1 r304_2 r304_3 r304_4 r304_5 r304_6 c304 F304
def r312_0 : List Op := [t_ 5 <|.box (.g 2),t_ 6 <|.alloc [.int .i64 0, .int .i64 0, .int .i64 0, .bool false, .str []],t_ 7 <|.mov (cb false)]
def r312_1 : List Op := [f_ 10 <|.mov (.g 0),f_ 11 <|.call (.k 203) .no none [.l 0],t_ 12 <|.un .not (.l 1)]
def r312_2 : List Op := [f_ 13 <|.build [.int .i64 0, .int .i64 0, .int .i64 0, .bool false, .str []] [],u_ <|.store (.v 6) 5 (.g 6) (.l 0),t_ 7 <|.mov (cb false)]
def r312_3 : List Op := [f_ 15 <|.mov (.g 0),f_ 16 <|.mov (.g 1),f_ 17 <|.call (.k 220) .no none [.l 0, .l 1],f_ 14 <|.mov (.l 2),f_ 18 <|.ext (.l 3) 0,f_ 19 <|.ext (.l 3) 1,t_ 8 <|.mov (.l 4),t_ 9 <|.mov (.l 5)]
def r312_4 : List Op := [f_ 20 <|.mov (.g 9),t_ 21 <|.un .not (.l 0)]
def r312_5 : List Op := [f_ 22 <|.build [.int .i64 0, .int .i64 0, .int .i64 0, .bool false, .str []] [],u_ <|.store (.v 6) 5 (.g 6) (.l 0),t_ 7 <|.mov (cb false)]
def r312_6 : List Op := [f_ 23 <|.mov (.g 0),f_ 24 <|.mov (.g 8),f_ 25 <|.iad 2 (.l 0) (.l 1),f_ 26 <|.fad (.l 2) 1,f_ 27 <|.load (.c) none (.l 3),f_ 28 <|.load (.v 5) (some 3) (.g 5),f_ 29 <|.call (.k 10) .no none [.l 4, .l 5],f_ 30 <|.ext (.l 6) 0,f_ 31 <|.ext (.l 6) 1,u_ <|.store (.v 6) 5 (.g 6) (.l 7),t_ 7 <|.mov (.l 8)]
def c312 : C := .seq (.region false r312_0) (.seq (.seq (.region false r312_1) (.cond (.g 12) (.seq (.region false r312_2) (.ret)) (.skip))) (.seq (.region false r312_3) (.seq (.seq (.region false r312_4) (.cond (.g 21) (.seq (.region false r312_5) (.ret)) (.skip))) (.seq (.region true r312_6) (.ret)))))
def F312 : F := ⟨3, [0, 1, 2, 5, 6, 7, 8, 9, 12, 21], [.cell 6 (some 5), .t 7], none, c312⟩
attribute [go_sem] r312_0 r312_1 r312_2 r312_3 r312_4 r312_5 r312_6 c312 F312
def r313_0 : List Op := [t_ 3 <|.mov (cb false)]
def r313_1 : List Op := [f_ 4 <|.mov (.g 0),f_ 5 <|.load (.c) none (.g 1),f_ 6 <|.bin .lss (.l 0) (.l 1),f_ 7 <|.mov (.l 2),n_ 8 3 <|.mov (.g 0),n_ 9 3 <|.bin .gtr (.l 4) (ci 1099511627776),f_ 10 <|.pick (.l 3) (cb true) (.l 5),t_ 3 <|.mov (.l 6)]
def c313 : C := .seq (.region false r313_0) (.seq (.region false r313_1) (.ret))
def F313 : F := ⟨2, [0, 1, 3], [.t 3], none, c313⟩
attribute [go_sem] r313_0 r313_1 c313 F313
def r314_0 : List Op := [t_ 2 <|.box (.g 0),t_ 4 <|.mov (ci 0),t_ 5 <|.mov (cb false)]
def r314_1 : List Op := [f_ 6 <|.fad (.g 2) 0,f_ 7 <|.load (.v 2) none (.l 0),f_ 8 <|.mov (.g 1),f_ 9 <|.call (.k 319) .no none [.l 1, .l 2, .f 320],f_ 10 <|.ext (.l 3) 0,f_ 11 <|.ext (.l 3) 1,t_ 4 <|.mov (.l 4),t_ 5 <|.mov (.l 5)]
def c314 : C := .seq (.region false r314_0) (.seq (.region false r314_1) (.ret))
def F314 : F := ⟨2, [0, 1, 2, 4, 5], [.t 4, .t 5], none, c314⟩
attribute [go_sem] r314_0 r314_1 c314 F314
def r315_0 : List Op := [t_ 4 <|.mov (ci 0)]
def r315_1 : List Op := [f_ 6 <|.mov (.g 0),t_ 7 <|.len false (.l 0),t_ 8 <|.mov (ci 0)]
def r315_2 : List Op := [t_ 9 <|.bin .lss (.g 8) (.g 7)]
def r315_3 : List Op := [f_ 10 <|.mov (.g 8),t_ 5 <|.mov (.l 0)]
def r315_4 : List Op := [f_ 11 <|.mov (.g 1),f_ 12 <|.mov (.g 0),f_ 13 <|.mov (.g 5),f_ 14 <|.iad 2 (.l 1) (.l 2),f_ 15 <|.load (.c) (some 2) (.l 3),t_ 16 <|.call (.v (.l 0)) .no none [.l 4]]
def r315_5 : List Op := [f_ 17 <|.mov (.g 5),t_ 4 <|.mov (.l 0)]
def r315_6 : List Op := [f_ 18 <|.bin .add (.g 8) (ci 1),t_ 8 <|.mov (.l 0)]
def b315_0 : C := .seq (.region false r315_2) (.seq (.cond (.g 9) (.skip) (.exit 0)) (.seq (.block 1 (.seq (.region false r315_3) (.seq (.region false r315_4) (.cond (.g 16) (.seq (.region false r315_5) (.ret)) (.skip))))) (.region false r315_6)))
def l315_0 : C := .loop [] [] [] [] b315_0
def r315_7 : List Op := [t_ 4 <|.mov (ci (-1))]
def c315 : C := .seq (.region false r315_0) (.seq (.seq (.region false r315_1) (.block 0 (l315_0))) (.seq (.region false r315_7) (.ret)))
def F315 : F := ⟨2, [0, 1, 4, 5, 7, 8, 9, 16], [.t 4], none, c315⟩
attribute [go_sem] r315_0 r315_1 r315_2 r315_3 r315_4 r315_5 r315_6 b315_0 r315_7 c315 F315
def r316_0 : List Op := [t_ 2 <|.box (.g 0),t_ 3 <|.mov (cb false)]
def r316_1 : List Op := [f_ 4 <|.fad (.g 2) 1,f_ 5 <|.load (.v 2) none (.l 0),f_ 6 <|.fad (.g 2) 1,f_ 7 <|.load (.v 2) none (.l 2),f_ 8 <|.len false (.l 3),f_ 9 <|.bin .sub (.l 4) (ci 1),f_ 10 <|.iad 5 (.l 1) (.l 5),f_ 11 <|.fad (.l 6) 0,f_ 12 <|.load (.c) (some 3) (.l 7),f_ 13 <|.load (.c) (some 3) (.g 1),f_ 14 <|.call (.k 15) .no none [.l 8, .l 9],f_ 15 <|.bin .gtr (.l 10) (ci 0),t_ 3 <|.mov (.l 11)]
def c316 : C := .seq (.region false r316_0) (.seq (.region true r316_1) (.ret))
def F316 : F := ⟨2, [0, 1, 2, 3], [.t 3], none, c316⟩
attribute [go_sem] r316_0 r316_1 c316 F316
def r319_0 : List Op := [t_ 6 <|.mov (ci 0),t_ 7 <|.mov (cb false)]
def r319_1 : List Op := [f_ 12 <|.mov (.g 0),f_ 13 <|.len false (.l 0),t_ 8 <|.mov (.l 1)]
def r319_2 : List Op := [f_ 14 <|.mov (.g 8),t_ 9 <|.mov (ci 0),t_ 10 <|.mov (.l 0)]
def r319_3 : List Op := [f_ 15 <|.mov (.g 9),f_ 16 <|.mov (.g 10),t_ 17 <|.bin .lss (.l 0) (.l 1)]
def r319_4 : List Op := [f_ 18 <|.mov (.g 9),f_ 19 <|.mov (.g 10),f_ 20 <|.bin .add (.l 0) (.l 1),f_ 21 <|.conv (.int .u64) (.l 2),f_ 22 <|.sh .shr (.l 3) (.c (.int .u64 1)),f_ 23 <|.conv (.int .i64) (.l 4),t_ 11 <|.mov (.l 5)]
def r319_5 : List Op := [f_ 24 <|.mov (.g 2),f_ 25 <|.mov (.g 0),f_ 26 <|.mov (.g 11),f_ 27 <|.iad 17 (.l 1) (.l 2),f_ 28 <|.load (.c) (some 17) (.l 3),f_ 29 <|.mov (.g 1),f_ 30 <|.call (.v (.l 0)) .no none [.l 4, .l 5],t_ 31 <|.bin .lss (.l 6) (ci 0)]
def r319_6 : List Op := [f_ 32 <|.mov (.g 11),f_ 33 <|.bin .add (.l 0) (ci 1),t_ 9 <|.mov (.l 1)]
def r319_7 : List Op := [f_ 34 <|.mov (.g 11),t_ 10 <|.mov (.l 0)]
def b319_0 : C := .seq (.seq (.region false r319_3) (.cond (.g 17) (.skip) (.exit 0))) (.block 1 (.seq (.region false r319_4) (.seq (.region false r319_5) (.cond (.g 31) (.region false r319_6) (.region false r319_7)))))
def l319_0 : C := .loop [] [] [] [] b319_0
def r319_8 : List Op := [f_ 35 <|.mov (.g 9),f_ 36 <|.mov (.g 9),f_ 37 <|.mov (.g 8),f_ 38 <|.bin .lss (.l 1) (.l 2),f_ 39 <|.mov (.l 3),y_ 40 4 <|.mov (.g 2),y_ 41 4 <|.mov (.g 0),y_ 42 4 <|.mov (.g 9),y_ 43 4 <|.iad 17 (.l 6) (.l 7),y_ 44 4 <|.load (.c) (some 17) (.l 8),y_ 45 4 <|.mov (.g 1),y_ 46 4 <|.call (.v (.l 5)) .no none [.l 9, .l 10],y_ 47 4 <|.bin .eql (.l 11) (ci 0),f_ 48 <|.pick (.l 4) (.l 12) (cb false),t_ 6 <|.mov (.l 0),t_ 7 <|.mov (.l 13)]
def c319 : C := .seq (.region false r319_0) (.seq (.region false r319_1) (.seq (.region false r319_2) (.seq (.block 0 (l319_0)) (.seq (.region false r319_8) (.ret)))))
def F319 : F := ⟨3, [0, 1, 2, 6, 7, 8, 9, 10, 11, 17, 31], [.t 6, .t 7], none, c319⟩
attribute [go_sem] r319_0 r319_1 r319_2 r319_3 r319_4 r319_5 r319_6 r319_7 b319_0 r319_8 c319 F319
def r320_0 : List Op := [t_ 2 <|.box (.g 0),t_ 4 <|.mov (ci 0)]
def r320_1 : List Op := [f_ 5 <|.fad (.g 2) 0,f_ 6 <|.load (.v 2) none (.l 0),f_ 7 <|.mov (.g 1),f_ 8 <|.bin .sub (.l 1) (.l 2),t_ 4 <|.mov (.l 3)]
def c320 : C := .seq (.region false r320_0) (.seq (.region false r320_1) (.ret))
def F320 : F := ⟨2, [0, 1, 2, 4], [.t 4], none, c320⟩
attribute [go_sem] r320_0 r320_1 c320 F320
end Sg
namespace Sg
open _root_.Go (IntKind BinOp UnOp)
end Sg
namespace Sg
open _root_.Go (IntKind BinOp UnOp)
def r339_0 : List Op := [t_ 1 <|.box (.g 0),t_ 2 <|.mov (cb false)]
def r339_1 : List Op := [f_ 3 <|.fad (.g 1) 25,f_ 4 <|.fad (.l 0) 6,f_ 5 <|.load (.v 1) none (.l 1),f_ 6 <|.len false (.l 2),f_ 7 <|.bin .leq (.l 3) (ci 40),f_ 8 <|.mov (.l 4),y_ 9 5 <|.fad (.g 1) 34,y_ 10 5 <|.load (.v 1) none (.l 6),y_ 11 5 <|.len false (.l 7),y_ 12 5 <|.bin .leq (.l 8) (ci 40),f_ 13 <|.pick (.l 5) (.l 9) (cb false),f_ 14 <|.mov (.l 10),y_ 15 11 <|.fad (.g 1) 35,y_ 16 11 <|.load (.v 1) none (.l 12),y_ 17 11 <|.len false (.l 13),y_ 18 11 <|.bin .leq (.l 14) (ci 40),f_ 19 <|.pick (.l 11) (.l 15) (cb false),f_ 20 <|.mov (.l 16),y_ 21 17 <|.fad (.g 1) 12,y_ 22 17 <|.load (.v 1) none (.l 18),y_ 23 17 <|.len true (.l 19),y_ 24 17 <|.bin .leq (.l 20) (ci 8192),f_ 25 <|.pick (.l 17) (.l 21) (cb false),t_ 2 <|.mov (.l 22)]
def c339 : C := .seq (.region false r339_0) (.seq (.region false r339_1) (.ret))
def F339 : F := ⟨1, [0, 1, 2], [.t 2], none, c339⟩
attribute [go_sem] r339_0 r339_1 c339 F339
def r341_0 : List Op := [t_ 1 <|.box (.g 0),t_ 2 <|.mov (cb false)]
def r341_1 : List Op := [f_ 3 <|.fad (.g 1) 0,f_ 4 <|.load (.v 1) none (.l 0),f_ 5 <|.bin .lss (.l 1) (ci 1),f_ 6 <|.mov (.l 2),n_ 7 3 <|.fad (.g 1) 0,n_ 8 3 <|.load (.v 1) none (.l 4),n_ 9 3 <|.bin .gtr (.l 5) (ci 37),f_ 10 <|.pick (.l 3) (cb true) (.l 6),f_ 11 <|.mov (.l 7),n_ 12 8 <|.fad (.g 1) 25,n_ 13 8 <|.fad (.l 9) 0,n_ 14 8 <|.load (.v 1) none (.l 10),n_ 15 8 <|.bin .lss (.l 11) (ci 0),f_ 16 <|.pick (.l 8) (cb true) (.l 12),f_ 17 <|.mov (.l 13),n_ 18 14 <|.fad (.g 1) 25,n_ 19 14 <|.fad (.l 15) 0,n_ 20 14 <|.load (.v 1) none (.l 16),n_ 21 14 <|.bin .gtr (.l 17) (ci 16),f_ 22 <|.pick (.l 14) (cb true) (.l 18),f_ 23 <|.mov (.l 19),n_ 24 20 <|.fad (.g 1) 25,n_ 25 20 <|.fad (.l 21) 6,n_ 26 20 <|.load (.v 1) none (.l 22),n_ 27 20 <|.len false (.l 23),n_ 28 20 <|.bin .gtr (.l 24) (ci 8),f_ 29 <|.pick (.l 20) (cb true) (.l 25),f_ 30 <|.mov (.l 26),n_ 31 27 <|.fad (.g 1) 34,n_ 32 27 <|.load (.v 1) none (.l 28),n_ 33 27 <|.len false (.l 29),n_ 34 27 <|.bin .gtr (.l 30) (ci 8),f_ 35 <|.pick (.l 27) (cb true) (.l 31),f_ 36 <|.mov (.l 32),n_ 37 33 <|.fad (.g 1) 35,n_ 38 33 <|.load (.v 1) none (.l 34),n_ 39 33 <|.len false (.l 35),n_ 40 33 <|.bin .gtr (.l 36) (ci 8),t_ 41 <|.pick (.l 33) (cb true) (.l 37)]
def r341_2 : List Op := [t_ 2 <|.mov (cb false)]
def r341_3 : List Op := [f_ 42 <|.load (.v 1) (some 36) (.g 1),f_ 43 <|.call (.k 366) .no none [.l 0],t_ 44 <|.call (.k 67) .no none [.l 1, .f 367]]
def r341_4 : List Op := [t_ 2 <|.mov (cb false)]
def r341_5 : List Op := [f_ 45 <|.fad (.g 1) 9,f_ 46 <|.load (.v 1) (some 3) (.l 0),f_ 47 <|.call (.k 28) .no none [.l 1],f_ 48 <|.mov (.l 2),y_ 49 3 <|.fad (.g 1) 13,y_ 50 3 <|.fad (.l 4) 7,y_ 51 3 <|.load (.v 1) (some 3) (.l 5),y_ 52 3 <|.call (.k 28) .no none [.l 6],f_ 53 <|.pick (.l 3) (.l 7) (cb false),f_ 54 <|.mov (.l 8),y_ 55 9 <|.fad (.g 1) 25,y_ 56 9 <|.fad (.l 10) 1,y_ 57 9 <|.load (.v 1) (some 3) (.l 11),y_ 58 9 <|.call (.k 28) .no none [.l 12],f_ 59 <|.pick (.l 9) (.l 13) (cb false),t_ 2 <|.mov (.l 14)]
def c341 : C := .seq (.region false r341_0) (.seq (.seq (.region false r341_1) (.cond (.g 41) (.seq (.region false r341_2) (.ret)) (.skip))) (.seq (.seq (.region false r341_3) (.cond (.g 44) (.seq (.region false r341_4) (.ret)) (.skip))) (.seq (.region false r341_5) (.ret))))
def F341 : F := ⟨1, [0, 1, 2, 41, 44], [.t 2], none, c341⟩
attribute [go_sem] r341_0 r341_1 r341_2 r341_3 r341_4 r341_5 c341 F341
def r345_0 : List Op := [t_ 2 <|.mov (.c (.slice 1 []))]
def r345_1 : List Op := [f_ 3 <|.mov (.g 0),f_ 4 <|.call (.k 368) .no none [.l 0],t_ 5 <|.un .not (.l 1)]
def r345_2 : List Op := [t_ 2 <|.mov (.c (.slice 1 []))]
def r345_3 : List Op := [f_ 6 <|.mov (.g 0),f_ 7 <|.mov (.g 0),f_ 8 <|.bin .rem (.l 1) (ci 3),f_ 9 <|.bin .add (.l 2) (ci 1),f_ 10 <|.mks 1 2 [.int .i64 0] [(0, .l 0), (1, .l 3)],t_ 2 <|.mov (.l 4)]
def c345 : C := .seq (.region false r345_0) (.seq (.seq (.region false r345_1) (.cond (.g 5) (.seq (.region false r345_2) (.ret)) (.skip))) (.seq (.region false r345_3) (.ret)))
def F345 : F := ⟨1, [0, 2, 5], [.t 2], none, c345⟩
attribute [go_sem] r345_0 r345_1 r345_2 r345_3 c345 F345
def r360_0 : List Op := [t_ 4 <|.mov (cb false)]
def r360_1 : List Op := [f_ 6 <|.mov (.g 0),f_ 7 <|.len false (.l 0),f_ 8 <|.mov (.g 1),f_ 9 <|.len false (.l 2),t_ 10 <|.bin .neq (.l 1) (.l 3)]
def r360_2 : List Op := [t_ 4 <|.mov (cb false)]
def r360_3 : List Op := [t_ 5 <|.mov (ci 0)]
def r360_4 : List Op := [f_ 11 <|.mov (.g 5),f_ 12 <|.mov (.g 0),f_ 13 <|.len false (.l 1),t_ 14 <|.bin .lss (.l 0) (.l 2)]
def r360_5 : List Op := [f_ 17 <|.mov (.g 0),f_ 18 <|.mov (.g 5),f_ 19 <|.iad 36 (.l 0) (.l 1),f_ 20 <|.load (.c) (some 36) (.l 2),f_ 21 <|.mov (.g 1),f_ 22 <|.mov (.g 5),f_ 23 <|.iad 36 (.l 4) (.l 5),f_ 24 <|.load (.c) (some 36) (.l 6),f_ 25 <|.call (.k 372) .no none [.l 3, .l 7],t_ 26 <|.un .not (.l 8)]
def r360_6 : List Op := [t_ 4 <|.mov (cb false)]
def r360_7 : List Op := [f_ 15 <|.mov (.g 5),f_ 16 <|.bin .add (.l 0) (ci 1),t_ 5 <|.mov (.l 1)]
def b360_0 : C := .seq (.seq (.region false r360_4) (.cond (.g 14) (.skip) (.exit 0))) (.seq (.block 1 (.seq (.region true r360_5) (.cond (.g 26) (.seq (.region false r360_6) (.ret)) (.skip)))) (.region false r360_7))
def l360_0 : C := .loop [] [] [] [] b360_0
def r360_8 : List Op := [t_ 4 <|.mov (cb true)]
def c360 : C := .seq (.region false r360_0) (.seq (.seq (.region false r360_1) (.cond (.g 10) (.seq (.region false r360_2) (.ret)) (.skip))) (.seq (.seq (.region false r360_3) (.block 0 (l360_0))) (.seq (.region false r360_8) (.ret))))
def F360 : F := ⟨2, [0, 1, 4, 5, 10, 14, 26], [.t 4], none, c360⟩
attribute [go_sem] r360_0 r360_1 r360_2 r360_3 r360_4 r360_5 r360_6 r360_7 b360_0 r360_8 c360 F360
def r366_0 : List Op := [t_ 1 <|.box (.g 0),t_ 2 <|.mov (.c (.slice 1 []))]
def r366_1 : List Op := [f_ 6 <|.fad (.g 1) 0,f_ 7 <|.load (.v 1) none (.l 0),f_ 8 <|.fad (.g 1) 1,f_ 9 <|.load (.v 1) none (.l 2),f_ 10 <|.fad (.g 1) 2,f_ 11 <|.load (.v 1) none (.l 4),f_ 12 <|.fad (.g 1) 3,f_ 13 <|.load (.v 1) none (.l 6),f_ 14 <|.fad (.g 1) 4,f_ 15 <|.load (.v 1) none (.l 8),f_ 16 <|.fad (.g 1) 5,f_ 17 <|.load (.v 1) none (.l 10),f_ 18 <|.fad (.g 1) 6,f_ 19 <|.load (.v 1) none (.l 12),f_ 20 <|.fad (.g 1) 7,f_ 21 <|.load (.v 1) none (.l 14),f_ 22 <|.fad (.g 1) 8,f_ 23 <|.load (.v 1) none (.l 16),f_ 24 <|.fad (.g 1) 13,f_ 25 <|.fad (.l 18) 0,f_ 26 <|.load (.v 1) none (.l 19),f_ 27 <|.fad (.g 1) 13,f_ 28 <|.fad (.l 21) 1,f_ 29 <|.load (.v 1) none (.l 22),f_ 30 <|.fad (.g 1) 13,f_ 31 <|.fad (.l 24) 2,f_ 32 <|.load (.v 1) none (.l 25),f_ 33 <|.fad (.g 1) 13,f_ 34 <|.fad (.l 27) 11,f_ 35 <|.load (.v 1) none (.l 28),f_ 36 <|.mkb 1 13 [.int .i64 0] [(0, .l 1), (1, .l 3), (2, .l 5), (3, .l 7), (4, .l 9), (5, .l 11), (6, .l 13), (7, .l 15), (8, .l 17), (9, .l 20), (10, .l 23), (11, .l 26), (12, .l 29)],t_ 3 <|.mov (.l 30)]
def r366_2 : List Op := [f_ 37 <|.fad (.g 1) 34,t_ 38 <|.load (.v 1) none (.l 0),t_ 39 <|.len false (.l 1),t_ 40 <|.mov (ci 0)]
def r366_3 : List Op := [t_ 41 <|.bin .lss (.g 40) (.g 39)]
def r366_4 : List Op := [f_ 42 <|.iad 5 (.g 38) (.g 40),f_ 43 <|.load (.c) (some 5) (.l 0),t_ 5 <|.alloc [.str [], .str [], .int .i64 0, .int .i64 0, .int .i64 0],u_ <|.store (.v 5) 5 (.l 2) (.l 1)]
def r366_5 : List Op := [f_ 44 <|.mov (.g 3),f_ 45 <|.fad (.g 5) 2,f_ 46 <|.load (.v 5) none (.l 1),f_ 47 <|.fad (.g 5) 3,f_ 48 <|.load (.v 5) none (.l 3),f_ 49 <|.fad (.g 5) 4,f_ 50 <|.load (.v 5) none (.l 5),f_ 51 <|.mks 1 3 [.int .i64 0] [(0, .l 2), (1, .l 4), (2, .l 6)],f_ 52 <|.app 36 1 (.l 0) (.l 7),t_ 3 <|.mov (.l 8)]
def r366_6 : List Op := [f_ 53 <|.bin .add (.g 40) (ci 1),t_ 40 <|.mov (.l 0)]
def b366_0 : C := .seq (.region false r366_3) (.seq (.cond (.g 41) (.skip) (.exit 0)) (.seq (.block 1 (.seq (.region false r366_4) (.region false r366_5))) (.region false r366_6)))
def l366_0 : C := .loop [] [] [5] [] b366_0
def r366_7 : List Op := [f_ 54 <|.mov (.g 3),f_ 55 <|.fad (.g 1) 35,f_ 56 <|.load (.v 1) none (.l 1),f_ 57 <|.app 36 1 (.l 0) (.l 2),t_ 2 <|.mov (.l 3)]
def c366 : C := .seq (.region false r366_0) (.seq (.region false r366_1) (.seq (.seq (.region false r366_2) (.block 0 (l366_0))) (.seq (.region false r366_7) (.ret))))
def F366 : F := ⟨1, [0, 1, 2, 3, 5, 38, 39, 40, 41], [.t 2], none, c366⟩
attribute [go_sem] r366_0 r366_1 r366_2 r366_3 r366_4 r366_5 r366_6 b366_0 r366_7 c366 F366
def r367_0 : List Op := [t_ 2 <|.mov (cb false)]
def r367_1 : List Op := [f_ 3 <|.mov (.g 0),f_ 4 <|.bin .lss (.l 0) (ci 0),f_ 5 <|.mov (.l 1),n_ 6 2 <|.mov (.g 0),n_ 7 2 <|.bin .gtr (.l 3) (ci 1099511627776),f_ 8 <|.pick (.l 2) (cb true) (.l 4),t_ 2 <|.mov (.l 5)]
def c367 : C := .seq (.region false r367_0) (.seq (.region false r367_1) (.ret))
def F367 : F := ⟨1, [0, 2], [.t 2], none, c367⟩
attribute [go_sem] r367_0 r367_1 c367 F367
def r368_0 : List Op := [t_ 2 <|.mov (cb false)]
def r368_1 : List Op := [f_ 3 <|.mov (.g 0),f_ 4 <|.bin .geq (.l 0) (ci 1),f_ 5 <|.mov (.l 1),y_ 6 2 <|.mov (.g 0),y_ 7 2 <|.bin .leq (.l 3) (ci 3),f_ 8 <|.pick (.l 2) (.l 4) (cb false),t_ 2 <|.mov (.l 5)]
def c368 : C := .seq (.region false r368_0) (.seq (.region false r368_1) (.ret))
def F368 : F := ⟨1, [0, 2], [.t 2], none, c368⟩
attribute [go_sem] r368_0 r368_1 c368 F368
def r372_0 : List Op := [t_ 2 <|.box (.g 0),t_ 3 <|.box (.g 1),t_ 4 <|.mov (cb false)]
def r372_1 : List Op := [f_ 6 <|.fad (.g 2) 35,f_ 7 <|.load (.v 2) none (.l 0),f_ 8 <|.len false (.l 1),f_ 9 <|.fad (.g 3) 35,f_ 10 <|.load (.v 3) none (.l 3),f_ 11 <|.len false (.l 4),t_ 12 <|.bin .neq (.l 2) (.l 5)]
def r372_2 : List Op := [t_ 4 <|.mov (cb false)]
def r372_3 : List Op := [t_ 5 <|.mov (ci 0)]
def r372_4 : List Op := [f_ 13 <|.mov (.g 5),f_ 14 <|.fad (.g 2) 35,f_ 15 <|.load (.v 2) none (.l 1),f_ 16 <|.len false (.l 2),t_ 17 <|.bin .lss (.l 0) (.l 3)]
def r372_5 : List Op := [f_ 20 <|.fad (.g 2) 35,f_ 21 <|.load (.v 2) none (.l 0),f_ 22 <|.mov (.g 5),f_ 23 <|.iad 1 (.l 1) (.l 2),f_ 24 <|.load (.c) none (.l 3),f_ 25 <|.fad (.g 3) 35,f_ 26 <|.load (.v 3) none (.l 5),f_ 27 <|.mov (.g 5),f_ 28 <|.iad 1 (.l 6) (.l 7),f_ 29 <|.load (.c) none (.l 8),t_ 30 <|.bin .neq (.l 4) (.l 9)]
def r372_6 : List Op := [t_ 4 <|.mov (cb false)]
def r372_7 : List Op := [f_ 18 <|.mov (.g 5),f_ 19 <|.bin .add (.l 0) (ci 1),t_ 5 <|.mov (.l 1)]
def b372_0 : C := .seq (.seq (.region false r372_4) (.cond (.g 17) (.skip) (.exit 0))) (.seq (.block 1 (.seq (.region true r372_5) (.cond (.g 30) (.seq (.region false r372_6) (.ret)) (.skip)))) (.region false r372_7))
def l372_0 : C := .loop [] [] [] [] b372_0
def r372_8 : List Op := [f_ 31 <|.fad (.g 2) 0,f_ 32 <|.load (.v 2) none (.l 0),f_ 33 <|.fad (.g 3) 0,f_ 34 <|.load (.v 3) none (.l 2),f_ 35 <|.bin .eql (.l 1) (.l 3),f_ 36 <|.mov (.l 4),y_ 37 5 <|.fad (.g 2) 1,y_ 38 5 <|.load (.v 2) none (.l 6),y_ 39 5 <|.fad (.g 3) 1,y_ 40 5 <|.load (.v 3) none (.l 8),y_ 41 5 <|.bin .eql (.l 7) (.l 9),f_ 42 <|.pick (.l 5) (.l 10) (cb false),f_ 43 <|.mov (.l 11),y_ 44 12 <|.fad (.g 2) 2,y_ 45 12 <|.load (.v 2) none (.l 13),y_ 46 12 <|.fad (.g 3) 2,y_ 47 12 <|.load (.v 3) none (.l 15),y_ 48 12 <|.bin .eql (.l 14) (.l 16),f_ 49 <|.pick (.l 12) (.l 17) (cb false),f_ 50 <|.mov (.l 18),y_ 51 19 <|.fad (.g 2) 3,y_ 52 19 <|.load (.v 2) none (.l 20),y_ 53 19 <|.fad (.g 3) 3,y_ 54 19 <|.load (.v 3) none (.l 22),y_ 55 19 <|.bin .eql (.l 21) (.l 23),f_ 56 <|.pick (.l 19) (.l 24) (cb false),f_ 57 <|.mov (.l 25),y_ 58 26 <|.fad (.g 2) 4,y_ 59 26 <|.load (.v 2) none (.l 27),y_ 60 26 <|.fad (.g 3) 4,y_ 61 26 <|.load (.v 3) none (.l 29),y_ 62 26 <|.bin .eql (.l 28) (.l 30),f_ 63 <|.pick (.l 26) (.l 31) (cb false),f_ 64 <|.mov (.l 32),y_ 65 33 <|.fad (.g 2) 5,y_ 66 33 <|.load (.v 2) none (.l 34),y_ 67 33 <|.fad (.g 3) 5,y_ 68 33 <|.load (.v 3) none (.l 36),y_ 69 33 <|.bin .eql (.l 35) (.l 37),f_ 70 <|.pick (.l 33) (.l 38) (cb false),f_ 71 <|.mov (.l 39),y_ 72 40 <|.fad (.g 2) 6,y_ 73 40 <|.load (.v 2) none (.l 41),y_ 74 40 <|.fad (.g 3) 6,y_ 75 40 <|.load (.v 3) none (.l 43),y_ 76 40 <|.bin .eql (.l 42) (.l 44),f_ 77 <|.pick (.l 40) (.l 45) (cb false),f_ 78 <|.mov (.l 46),y_ 79 47 <|.fad (.g 2) 7,y_ 80 47 <|.load (.v 2) none (.l 48),y_ 81 47 <|.fad (.g 3) 7,y_ 82 47 <|.load (.v 3) none (.l 50),y_ 83 47 <|.bin .eql (.l 49) (.l 51),f_ 84 <|.pick (.l 47) (.l 52) (cb false),f_ 85 <|.mov (.l 53),y_ 86 54 <|.fad (.g 2) 8,y_ 87 54 <|.load (.v 2) none (.l 55),y_ 88 54 <|.fad (.g 3) 8,y_ 89 54 <|.load (.v 3) none (.l 57),y_ 90 54 <|.bin .eql (.l 56) (.l 58),f_ 91 <|.pick (.l 54) (.l 59) (cb false),f_ 92 <|.mov (.l 60),y_ 93 61 <|.fad (.g 2) 9,y_ 94 61 <|.load (.v 2) (some 3) (.l 62),y_ 95 61 <|.fad (.g 3) 9,y_ 96 61 <|.load (.v 3) (some 3) (.l 64),y_ 97 61 <|.eqa false [.i, .i, .i] (.l 63) (.l 65),f_ 98 <|.pick (.l 61) (.l 66) (cb false),f_ 99 <|.mov (.l 67),y_ 100 68 <|.fad (.g 2) 12,y_ 101 68 <|.load (.v 2) none (.l 69),y_ 102 68 <|.fad (.g 3) 12,y_ 103 68 <|.load (.v 3) none (.l 71),y_ 104 68 <|.bin .eql (.l 70) (.l 72),f_ 105 <|.pick (.l 68) (.l 73) (cb false),f_ 106 <|.mov (.l 74),y_ 107 75 <|.fad (.g 2) 13,y_ 108 75 <|.load (.v 2) (some 12) (.l 76),y_ 109 75 <|.fad (.g 3) 13,y_ 110 75 <|.load (.v 3) (some 12) (.l 78),y_ 111 75 <|.eqa false [.i, .i, .i, .s, .s, .b, .s, .i, .i, .i, .s, .i] (.l 77) (.l 79),f_ 112 <|.pick (.l 75) (.l 80) (cb false),f_ 113 <|.mov (.l 81),y_ 114 82 <|.fad (.g 2) 25,y_ 115 82 <|.load (.v 2) (some 9) (.l 83),y_ 116 82 <|.fad (.g 3) 25,y_ 117 82 <|.load (.v 3) (some 9) (.l 85),y_ 118 82 <|.call (.k 101) .no none [.l 84, .l 86],f_ 119 <|.pick (.l 82) (.l 87) (cb false),f_ 120 <|.mov (.l 88),y_ 121 89 <|.fad (.g 2) 34,y_ 122 89 <|.load (.v 2) none (.l 90),y_ 123 89 <|.fad (.g 3) 34,y_ 124 89 <|.load (.v 3) none (.l 92),y_ 125 89 <|.call (.k 153) .no none [.l 91, .l 93],f_ 126 <|.pick (.l 89) (.l 94) (cb false),t_ 4 <|.mov (.l 95)]
def c372 : C := .seq (.region false r372_0) (.seq (.seq (.region false r372_1) (.cond (.g 12) (.seq (.region false r372_2) (.ret)) (.skip))) (.seq (.seq (.region false r372_3) (.block 0 (l372_0))) (.seq (.region false r372_8) (.ret))))
def F372 : F := ⟨2, [0, 1, 2, 3, 4, 5, 12, 17, 30], [.t 4], none, c372⟩
attribute [go_sem] r372_0 r372_1 r372_2 r372_3 r372_4 r372_5 r372_6 r372_7 b372_0 r372_8 c372 F372
end Sg
namespace Sg
open _root_.Go (IntKind BinOp UnOp)
def r419_0 : List Op := [t_ 2 <|.box (.g 0),t_ 3 <|.box (.g 1),t_ 4 <|.mov (cb false)]
def r419_1 : List Op := [f_ 11 <|.load (.v 2) (some 2) (.g 2),f_ 12 <|.call (.k 398) .no none [.l 0],f_ 13 <|.call (.k 404) .no none [.l 1],f_ 14 <|.un .not (.l 2),f_ 15 <|.mov (.l 3),n_ 16 4 <|.load (.v 3) (some 36) (.g 3),n_ 17 4 <|.call (.k 339) .no none [.l 5],n_ 18 4 <|.un .not (.l 6),f_ 19 <|.pick (.l 4) (cb true) (.l 7),f_ 20 <|.mov (.l 8),n_ 21 9 <|.fad (.g 3) 0,n_ 22 9 <|.load (.v 3) none (.l 10),n_ 23 9 <|.bin .lss (.l 11) (ci 35),t_ 24 <|.pick (.l 9) (cb true) (.l 12)]
def r419_2 : List Op := [f_ 25 <|.call (.k 400) .no none [],t_ 4 <|.mov (.l 0)]
def r419_3 : List Op := [f_ 27 <|.load (.v 2) (some 2) (.g 2),f_ 28 <|.load (.v 3) (some 36) (.g 3),f_ 29 <|.call (.k 413) .no none [.l 0, .c (.int .i64 0), .l 1],f_ 26 <|.mov (.l 2),f_ 30 <|.ext (.l 3) 0,f_ 31 <|.ext (.l 3) 1,t_ 5 <|.alloc [.int .i64 0, .slice 9 []],u_ <|.store (.v 5) 2 (.l 6) (.l 4),f_ 6 <|.mov (.l 5)]
def r419_4 : List Op := [f_ 33 <|.load (.v 5) (some 2) (.g 5),f_ 34 <|.load (.v 3) (some 36) (.g 3),f_ 35 <|.call (.k 413) .no none [.l 0, .c (.int .i64 0), .l 1],f_ 32 <|.mov (.l 2),f_ 36 <|.ext (.l 3) 0,f_ 37 <|.ext (.l 3) 1,t_ 7 <|.alloc [.int .i64 0, .slice 9 []],u_ <|.store (.v 7) 2 (.l 6) (.l 4),t_ 8 <|.mov (.l 5)]
def r419_5 : List Op := [t_ 38 <|.mov (.g 8),t_ 39 <|.len false (.l 0),t_ 40 <|.mov (ci 0)]
def r419_6 : List Op := [t_ 41 <|.bin .lss (.g 40) (.g 39)]
def r419_7 : List Op := [f_ 42 <|.iad 36 (.g 38) (.g 40),f_ 43 <|.load (.c) (some 36) (.l 0),t_ 10 <|.alloc [.int .i64 0, .int .i64 0, .int .i64 0, .int .i64 0, .int .i64 0, .int .i64 0, .int .i64 0, .int .i64 0, .int .i64 0, .int .i64 0, .int .i64 0, .int .i64 0, .str [], .int .i64 0, .int .i64 0, .int .i64 0, .str [], .str [], .bool false, .str [], .int .i64 0, .int .i64 0, .int .i64 0, .str [], .int .i64 0, .int .i64 0, .int .i64 0, .int .i64 0, .int .i64 0, .bool false, .str [], .slice 2 [], .str [], .bool false, .slice 5 [], .slice 1 []],u_ <|.store (.v 10) 36 (.l 2) (.l 1)]
def r419_8 : List Op := [f_ 44 <|.fad (.g 10) 0,f_ 45 <|.load (.v 10) none (.l 0),f_ 46 <|.bin .neq (.l 1) (ci 36),f_ 47 <|.mov (.l 2),y_ 48 3 <|.fad (.g 10) 0,y_ 49 3 <|.load (.v 10) none (.l 4),y_ 50 3 <|.bin .neq (.l 5) (ci 37),t_ 51 <|.pick (.l 3) (.l 6) (cb false)]
def r419_9 : List Op := [t_ 4 <|.mov (cb false)]
def r419_10 : List Op := [f_ 52 <|.bin .add (.g 40) (ci 1),t_ 40 <|.mov (.l 0)]
def b419_0 : C := .seq (.region false r419_6) (.seq (.cond (.g 41) (.skip) (.exit 0)) (.seq (.block 1 (.seq (.region false r419_7) (.seq (.region false r419_8) (.cond (.g 51) (.seq (.region false r419_9) (.ret)) (.skip))))) (.region false r419_10)))
def l419_0 : C := .loop [] [] [10] [] b419_0
def r419_11 : List Op := [f_ 53 <|.load (.v 5) (some 2) (.g 5),f_ 54 <|.call (.k 398) .no none [.l 0],f_ 55 <|.load (.v 7) (some 2) (.g 7),f_ 56 <|.call (.k 398) .no none [.l 2],f_ 57 <|.call (.k 399) .no none [.l 1, .l 3],f_ 58 <|.mov (.l 4),y_ 59 5 <|.mov (.g 8),y_ 60 5 <|.len false (.l 6),y_ 61 5 <|.bin .leq (.l 7) (ci 1),f_ 62 <|.pick (.l 5) (.l 8) (cb false),f_ 63 <|.mov (.l 9),y_ 64 10 <|.call (.k 400) .no none [],f_ 65 <|.pick (.l 10) (.l 11) (cb false),t_ 4 <|.mov (.l 12)]
def c419 : C := .seq (.region false r419_0) (.seq (.seq (.region false r419_1) (.cond (.g 24) (.seq (.region false r419_2) (.ret)) (.skip))) (.seq (.region false r419_3) (.seq (.region false r419_4) (.seq (.seq (.region false r419_5) (.block 0 (l419_0))) (.seq (.region true r419_11) (.ret))))))
def F419 : F := ⟨2, [0, 1, 2, 3, 4, 5, 7, 8, 10, 24, 38, 39, 40, 41, 51], [.t 4], none, c419⟩
attribute [go_sem] r419_0 r419_1 r419_2 r419_3 r419_4 r419_5 r419_6 r419_7 r419_8 r419_9 r419_10 b419_0 r419_11 c419 F419
def r395_0 : List Op := [t_ 2 <|.alloc [.int .i64 0, .slice 9 []],t_ 3 <|.mov (ci 0)]
def r395_1 : List Op := [f_ 10 <|.mov (.g 0),f_ 11 <|.bin .lss (.l 0) (ci 1),f_ 12 <|.mov (.l 1),n_ 13 2 <|.mov (.g 0),n_ 14 2 <|.bin .gtr (.l 3) (ci 3),t_ 15 <|.pick (.l 2) (cb true) (.l 4)]
def r395_2 : List Op := [f_ 16 <|.build [.int .i64 0, .slice 9 []] [],u_ <|.store (.v 2) 2 (.g 2) (.l 0),t_ 3 <|.mov (ci 1)]
def r395_3 : List Op := [f_ 17 <|.mov (.g 0),f_ 18 <|.build [.int .i64 0, .nslice 9] [(0, 1, .l 0)],t_ 4 <|.alloc [.int .i64 0, .nslice 9],u_ <|.store (.v 4) 2 (.l 2) (.l 1)]
def r395_4 : List Op := [t_ 5 <|.mov (ci 1)]
def r395_5 : List Op := [f_ 19 <|.mov (.g 5),t_ 20 <|.bin .leq (.l 0) (ci 3)]
def r395_6 : List Op := [f_ 24 <|.mov (.g 5),f_ 25 <|.call (.k 397) .freeze none [.l 0],f_ 26 <|.call (.k 401) .borrow none [.l 1],f_ 23 <|.mov (.l 2),f_ 27 <|.ext (.l 3) 0,f_ 28 <|.ext (.l 3) 1,t_ 6 <|.mov (.l 4),f_ 7 <|.mov (.l 5)]
def r395_7 : List Op := [f_ 30 <|.mov (.g 0),f_ 31 <|.mov (.g 5),f_ 32 <|.call (.k 345) .freeze none [.l 1],f_ 33 <|.mov (.g 6),f_ 34 <|.call (.k 43) .freeze none [.l 0, .l 2, .l 3],f_ 29 <|.mov (.l 4),f_ 35 <|.ext (.l 5) 0,f_ 36 <|.ext (.l 5) 1,t_ 8 <|.alloc [.int .i64 0, .int .i64 0, .slice 1 [], .int .i64 0, .str [], .str [], .slice 1 []],u_ <|.store (.v 8) 7 (.l 8) (.l 6),t_ 9 <|.mov (.l 7)]
def r395_8 : List Op := [f_ 37 <|.mov (.g 9),t_ 38 <|.bin .eql (.l 0) (ci 0)]
def r395_9 : List Op := [f_ 39 <|.fad (.g 4) 1,f_ 40 <|.load (.v 4) none (.l 0),f_ 41 <|.mov (.g 5),f_ 42 <|.load (.v 8) (some 7) (.g 8),f_ 43 <|.build [.int .i64 0, .int .i64 0, .int .i64 0, .slice 1 [], .int .i64 0, .str [], .str [], .slice 1 [], .slice 36 []] [(0, 1, .l 2), (1, 7, .l 3)],f_ 44 <|.mks 9 1 [.int .i64 0, .int .i64 0, .int .i64 0, .slice 1 [], .int .i64 0, .str [], .str [], .slice 1 [], .slice 36 []] [(0, .l 4)],f_ 45 <|.app 45 9 (.l 1) (.l 5),f_ 46 <|.fad (.g 4) 1,u_ <|.store (.v 4) 1 (.l 7) (.l 6)]
def r395_10 : List Op := [f_ 21 <|.mov (.g 5),f_ 22 <|.bin .add (.l 0) (ci 1),t_ 5 <|.mov (.l 1)]
def b395_0 : C := .seq (.seq (.region false r395_5) (.cond (.g 20) (.skip) (.exit 0))) (.seq (.block 1 (.seq (.region false r395_6) (.seq (.region false r395_7) (.seq (.region false r395_8) (.cond (.g 38) (.region false r395_9) (.skip)))))) (.region false r395_10))
def l395_0 : C := .loop [] [] [8] [] b395_0
def r395_11 : List Op := [f_ 47 <|.load (.v 4) (some 2) (.g 4),u_ <|.store (.v 2) 2 (.g 2) (.l 0),t_ 3 <|.mov (ci 0)]
def c395 : C := .seq (.region false r395_0) (.seq (.seq (.region false r395_1) (.cond (.g 15) (.seq (.region false r395_2) (.ret)) (.skip))) (.seq (.region false r395_3) (.seq (.seq (.region false r395_4) (.block 0 (l395_0))) (.seq (.region false r395_11) (.ret)))))
def F395 : F := ⟨1, [0, 2, 3, 4, 5, 6, 8, 9, 15, 20, 38], [.cell 2 (some 2), .t 3], none, c395⟩
attribute [go_sem] r395_0 r395_1 r395_2 r395_3 r395_4 r395_5 r395_6 r395_7 r395_8 r395_9 r395_10 b395_0 r395_11 c395 F395
def r397_0 : List Op := [t_ 2 <|.alloc [.slice 17 [], .int .i64 0, .int .i64 0, .int .i64 0, .int .i64 0]]
def r397_1 : List Op := [f_ 3 <|.mov (.g 0),t_ 4 <|.bin .neq (.l 0) (ci 1)]
def r397_2 : List Op := [f_ 5 <|.build [.slice 17 [], .int .i64 0, .int .i64 0, .int .i64 0, .int .i64 0] [],u_ <|.store (.v 2) 5 (.g 2) (.l 0)]
def r397_3 : List Op := [f_ 6 <|.build [.int .i64 0, .int .i64 0, .str [], .str [], .int .i64 0, .slice 2 [], .int .i64 0, .int .i64 0, .int .i64 0, .int .i64 0, .int .i64 0, .int .i64 0, .slice 11 [], .int .i64 0, .int .i64 0, .int .i64 0, .int .i64 0] [(0, 1, .c (.int .i64 1)), (1, 1, .c (.int .i64 1)), (4, 1, .c (.int .i64 1))],f_ 7 <|.mks 17 1 [.int .i64 0, .int .i64 0, .str [], .str [], .int .i64 0, .slice 2 [], .int .i64 0, .int .i64 0, .int .i64 0, .int .i64 0, .int .i64 0, .int .i64 0, .slice 11 [], .int .i64 0, .int .i64 0, .int .i64 0, .int .i64 0] [(0, .l 0)],f_ 8 <|.build [.slice 17 [], .int .i64 0, .int .i64 0, .int .i64 0, .int .i64 0] [(0, 1, .l 1)],u_ <|.store (.v 2) 5 (.g 2) (.l 2)]
def c397 : C := .seq (.region false r397_0) (.seq (.seq (.region false r397_1) (.cond (.g 4) (.seq (.region false r397_2) (.ret)) (.skip))) (.seq (.region false r397_3) (.ret)))
def F397 : F := ⟨1, [0, 2, 4], [.cell 2 (some 5)], none, c397⟩
attribute [go_sem] r397_0 r397_1 r397_2 r397_3 c397 F397
def r398_0 : List Op := [t_ 1 <|.box (.g 0),t_ 2 <|.alloc [.int .i64 0, .slice 9 []]]
def r398_1 : List Op := [f_ 6 <|.fad (.g 1) 0,f_ 7 <|.load (.v 1) none (.l 0),f_ 8 <|.build [.int .i64 0, .nslice 9] [(0, 1, .l 1)],t_ 3 <|.alloc [.int .i64 0, .nslice 9],u_ <|.store (.v 3) 2 (.l 3) (.l 2)]
def r398_2 : List Op := [f_ 9 <|.fad (.g 1) 1,t_ 10 <|.load (.v 1) none (.l 0),t_ 11 <|.len false (.l 1),t_ 12 <|.mov (ci 0)]
def r398_3 : List Op := [t_ 13 <|.bin .lss (.g 12) (.g 11)]
def r398_4 : List Op := [f_ 14 <|.iad 9 (.g 10) (.g 12),f_ 15 <|.load (.c) (some 9) (.l 0),t_ 5 <|.alloc [.int .i64 0, .int .i64 0, .int .i64 0, .slice 1 [], .int .i64 0, .str [], .str [], .slice 1 [], .slice 36 []],u_ <|.store (.v 5) 9 (.l 2) (.l 1)]
def r398_5 : List Op := [f_ 16 <|.fad (.g 3) 1,f_ 17 <|.load (.v 3) none (.l 0),f_ 18 <|.fad (.g 5) 0,f_ 19 <|.load (.v 5) none (.l 2),f_ 20 <|.fad (.g 5) 1,f_ 21 <|.load (.v 5) (some 7) (.l 4),f_ 22 <|.fad (.g 5) 8,f_ 23 <|.load (.v 5) none (.l 6),f_ 24 <|.build [.int .i64 0, .int .i64 0, .int .i64 0, .slice 1 [], .int .i64 0, .str [], .str [], .slice 1 [], .slice 36 []] [(0, 1, .l 3), (1, 7, .l 5), (8, 1, .l 7)],f_ 25 <|.mks 9 1 [.int .i64 0, .int .i64 0, .int .i64 0, .slice 1 [], .int .i64 0, .str [], .str [], .slice 1 [], .slice 36 []] [(0, .l 8)],f_ 26 <|.app 26 9 (.l 1) (.l 9),f_ 27 <|.fad (.g 3) 1,u_ <|.store (.v 3) 1 (.l 11) (.l 10)]
def r398_6 : List Op := [f_ 28 <|.bin .add (.g 12) (ci 1),t_ 12 <|.mov (.l 0)]
def b398_0 : C := .seq (.region false r398_3) (.seq (.cond (.g 13) (.skip) (.exit 0)) (.seq (.block 1 (.seq (.region false r398_4) (.region false r398_5))) (.region false r398_6)))
def l398_0 : C := .loop [] [] [5] [] b398_0
def r398_7 : List Op := [f_ 29 <|.load (.v 3) (some 2) (.g 3),u_ <|.store (.v 2) 2 (.g 2) (.l 0)]
def c398 : C := .seq (.region false r398_0) (.seq (.region false r398_1) (.seq (.seq (.region false r398_2) (.block 0 (l398_0))) (.seq (.region false r398_7) (.ret))))
def F398 : F := ⟨1, [0, 1, 2, 3, 5, 10, 11, 12, 13], [.cell 2 (some 2)], none, c398⟩
attribute [go_sem] r398_0 r398_1 r398_2 r398_3 r398_4 r398_5 r398_6 b398_0 r398_7 c398 F398
def r399_0 : List Op := [t_ 2 <|.box (.g 0),t_ 3 <|.box (.g 1),t_ 4 <|.mov (cb false)]
def r399_1 : List Op := [f_ 6 <|.fad (.g 2) 0,f_ 7 <|.load (.v 2) none (.l 0),f_ 8 <|.fad (.g 3) 0,f_ 9 <|.load (.v 3) none (.l 2),f_ 10 <|.bin .neq (.l 1) (.l 3),f_ 11 <|.mov (.l 4),n_ 12 5 <|.fad (.g 2) 1,n_ 13 5 <|.load (.v 2) none (.l 6),n_ 14 5 <|.len false (.l 7),n_ 15 5 <|.fad (.g 3) 1,n_ 16 5 <|.load (.v 3) none (.l 9),n_ 17 5 <|.len false (.l 10),n_ 18 5 <|.bin .neq (.l 8) (.l 11),t_ 19 <|.pick (.l 5) (cb true) (.l 12)]
def r399_2 : List Op := [t_ 4 <|.mov (cb false)]
def r399_3 : List Op := [t_ 5 <|.mov (ci 0)]
def r399_4 : List Op := [f_ 20 <|.mov (.g 5),f_ 21 <|.fad (.g 2) 1,f_ 22 <|.load (.v 2) none (.l 1),f_ 23 <|.len false (.l 2),t_ 24 <|.bin .lss (.l 0) (.l 3)]
def r399_5 : List Op := [f_ 27 <|.fad (.g 2) 1,f_ 28 <|.load (.v 2) none (.l 0),f_ 29 <|.mov (.g 5),f_ 30 <|.iad 9 (.l 1) (.l 2),f_ 31 <|.fad (.l 3) 0,f_ 32 <|.load (.c) none (.l 4),f_ 33 <|.fad (.g 3) 1,f_ 34 <|.load (.v 3) none (.l 6),f_ 35 <|.mov (.g 5),f_ 36 <|.iad 9 (.l 7) (.l 8),f_ 37 <|.fad (.l 9) 0,f_ 38 <|.load (.c) none (.l 10),f_ 39 <|.bin .neq (.l 5) (.l 11),f_ 40 <|.mov (.l 12),n_ 41 13 <|.fad (.g 2) 1,n_ 42 13 <|.load (.v 2) none (.l 14),n_ 43 13 <|.mov (.g 5),n_ 44 13 <|.iad 9 (.l 15) (.l 16),n_ 45 13 <|.fad (.l 17) 1,n_ 46 13 <|.load (.c) (some 7) (.l 18),n_ 47 13 <|.fad (.g 3) 1,n_ 48 13 <|.load (.v 3) none (.l 20),n_ 49 13 <|.mov (.g 5),n_ 50 13 <|.iad 9 (.l 21) (.l 22),n_ 51 13 <|.fad (.l 23) 1,n_ 52 13 <|.load (.c) (some 7) (.l 24),n_ 53 13 <|.call (.k 45) .no none [.l 19, .l 25],n_ 54 13 <|.un .not (.l 26),f_ 55 <|.pick (.l 13) (cb true) (.l 27),f_ 56 <|.mov (.l 28),n_ 57 29 <|.fad (.g 2) 1,n_ 58 29 <|.load (.v 2) none (.l 30),n_ 59 29 <|.mov (.g 5),n_ 60 29 <|.iad 9 (.l 31) (.l 32),n_ 61 29 <|.fad (.l 33) 8,n_ 62 29 <|.load (.c) none (.l 34),n_ 63 29 <|.fad (.g 3) 1,n_ 64 29 <|.load (.v 3) none (.l 36),n_ 65 29 <|.mov (.g 5),n_ 66 29 <|.iad 9 (.l 37) (.l 38),n_ 67 29 <|.fad (.l 39) 8,n_ 68 29 <|.load (.c) none (.l 40),n_ 69 29 <|.call (.k 360) .no none [.l 35, .l 41],n_ 70 29 <|.un .not (.l 42),t_ 71 <|.pick (.l 29) (cb true) (.l 43)]
def r399_6 : List Op := [t_ 4 <|.mov (cb false)]
def r399_7 : List Op := [f_ 25 <|.mov (.g 5),f_ 26 <|.bin .add (.l 0) (ci 1),t_ 5 <|.mov (.l 1)]
def b399_0 : C := .seq (.seq (.region false r399_4) (.cond (.g 24) (.skip) (.exit 0))) (.seq (.block 1 (.seq (.region true r399_5) (.cond (.g 71) (.seq (.region false r399_6) (.ret)) (.skip)))) (.region false r399_7))
def l399_0 : C := .loop [] [] [] [] b399_0
def r399_8 : List Op := [t_ 4 <|.mov (cb true)]
def c399 : C := .seq (.region false r399_0) (.seq (.seq (.region false r399_1) (.cond (.g 19) (.seq (.region false r399_2) (.ret)) (.skip))) (.seq (.seq (.region false r399_3) (.block 0 (l399_0))) (.seq (.region false r399_8) (.ret))))
def F399 : F := ⟨2, [0, 1, 2, 3, 4, 5, 19, 24, 71], [.t 4], none, c399⟩
attribute [go_sem] r399_0 r399_1 r399_2 r399_3 r399_4 r399_5 r399_6 r399_7 b399_0 r399_8 c399 F399
def r400_0 : List Op := [t_ 0 <|.mov (cb false)]
def r400_1 : List Op := [f_ 10 <|.call (.k 395) .no none [.c (.int .i64 1)],f_ 9 <|.mov (.l 0),f_ 11 <|.ext (.l 1) 0,f_ 12 <|.ext (.l 1) 1,t_ 1 <|.alloc [.int .i64 0, .slice 9 []],u_ <|.store (.v 1) 2 (.l 4) (.l 2),t_ 2 <|.mov (.l 3)]
def r400_2 : List Op := [f_ 14 <|.load (.v 1) (some 2) (.g 1),f_ 15 <|.call (.k 420) .no none [.c (.int .i64 11), .c (.int .i64 1), .c (.int .i64 1)],f_ 16 <|.call (.k 413) .no none [.l 0, .c (.int .i64 5), .l 1],f_ 13 <|.mov (.l 2),f_ 17 <|.ext (.l 3) 0,f_ 18 <|.ext (.l 3) 1,t_ 3 <|.alloc [.int .i64 0, .slice 9 []],u_ <|.store (.v 3) 2 (.l 6) (.l 4),t_ 4 <|.mov (.l 5)]
def r400_3 : List Op := [f_ 20 <|.load (.v 3) (some 2) (.g 3),f_ 21 <|.call (.k 407) .no none [.l 0],f_ 19 <|.mov (.l 1),f_ 22 <|.ext (.l 2) 0,f_ 23 <|.ext (.l 2) 1,f_ 5 <|.alloc [.int .i64 0, .slice 9 []],u_ <|.store (.v 5) 2 (.l 5) (.l 3),t_ 6 <|.mov (.l 4)]
def r400_4 : List Op := [f_ 25 <|.load (.v 3) (some 2) (.g 3),f_ 26 <|.call (.k 406) .no none [.l 0, .c (.int .i64 1)],f_ 24 <|.mov (.l 1),f_ 27 <|.ext (.l 2) 0,f_ 28 <|.ext (.l 2) 1,t_ 7 <|.alloc [.slice 17 [], .int .i64 0, .int .i64 0, .int .i64 0, .int .i64 0],u_ <|.store (.v 7) 5 (.l 5) (.l 3),t_ 8 <|.mov (.l 4)]
def r400_5 : List Op := [f_ 29 <|.mov (.g 2),f_ 30 <|.bin .eql (.l 0) (ci 0),f_ 31 <|.mov (.l 1),y_ 32 2 <|.mov (.g 4),y_ 33 2 <|.len false (.l 3),y_ 34 2 <|.bin .eql (.l 4) (ci 1),f_ 35 <|.pick (.l 2) (.l 5) (cb false),f_ 36 <|.mov (.l 6),y_ 37 7 <|.mov (.g 4),y_ 38 7 <|.iad 36 (.l 8) (ci 0),y_ 39 7 <|.fad (.l 9) 0,y_ 40 7 <|.load (.c) none (.l 10),y_ 41 7 <|.bin .eql (.l 11) (ci 35),f_ 42 <|.pick (.l 7) (.l 12) (cb false),f_ 43 <|.mov (.l 13),y_ 44 14 <|.mov (.g 4),y_ 45 14 <|.iad 36 (.l 15) (ci 0),y_ 46 14 <|.fad (.l 16) 2,y_ 47 14 <|.load (.c) none (.l 17),y_ 48 14 <|.bin .eql (.l 18) (ci 2),f_ 49 <|.pick (.l 14) (.l 19) (cb false),f_ 50 <|.mov (.l 20),y_ 51 21 <|.mov (.g 6),y_ 52 21 <|.len false (.l 22),y_ 53 21 <|.bin .eql (.l 23) (ci 1),f_ 54 <|.pick (.l 21) (.l 24) (cb false),f_ 55 <|.mov (.l 25),y_ 56 26 <|.mov (.g 8),f_ 57 <|.pick (.l 26) (.l 27) (cb false),f_ 58 <|.mov (.l 28),y_ 59 29 <|.fad (.g 7) 0,y_ 60 29 <|.load (.v 7) none (.l 30),y_ 61 29 <|.len false (.l 31),y_ 62 29 <|.bin .eql (.l 32) (ci 1),f_ 63 <|.pick (.l 29) (.l 33) (cb false),t_ 0 <|.mov (.l 34)]
def c400 : C := .seq (.region false r400_0) (.seq (.region false r400_1) (.seq (.region true r400_2) (.seq (.region false r400_3) (.seq (.region false r400_4) (.seq (.region false r400_5) (.ret))))))
def F400 : F := ⟨0, [0, 1, 2, 3, 4, 6, 7, 8], [.t 0], none, c400⟩
attribute [go_sem] r400_0 r400_1 r400_2 r400_3 r400_4 r400_5 c400 F400
def r401_0 : List Op := [t_ 1 <|.box (.g 0),t_ 2 <|.mov (.c (.str [])),t_ 3 <|.mov (ci 0)]
def r401_1 : List Op := [f_ 7 <|.load (.v 1) (some 5) (.g 1),f_ 8 <|.call (.k 249) .no none [.l 0],t_ 9 <|.un .not (.l 1)]
def r401_2 : List Op := [t_ 2 <|.mov (.c (.str [])),t_ 3 <|.mov (ci 1)]
def r401_3 : List Op := [t_ 4 <|.allo [.nslice 1] 10400]
def r401_4 : List Op := [f_ 10 <|.fad (.g 1) 1,f_ 11 <|.load (.v 1) (some 3) (.l 0),f_ 12 <|.mks 3 1 [.int .i64 0, .int .i64 0, .int .i64 0] [(0, .l 1)],f_ 13 <|.rcall 421 [.g 4, .l 2] 0 4 20000]
def r401_5 : List Op := [f_ 14 <|.fad (.g 1) 4,f_ 15 <|.load (.v 1) none (.l 0),f_ 16 <|.fad (.g 1) 0,f_ 17 <|.load (.v 1) none (.l 2),f_ 18 <|.len false (.l 3),f_ 19 <|.mks 1 2 [.int .i64 0] [(0, .l 1), (1, .l 4)],f_ 20 <|.rcall 422 [.g 4, .l 5] 0 4 20100]
def r401_6 : List Op := [f_ 21 <|.fad (.g 1) 0,t_ 22 <|.load (.v 1) none (.l 0),t_ 23 <|.len false (.l 1),t_ 24 <|.mov (ci 0)]
def r401_7 : List Op := [t_ 25 <|.bin .lss (.g 24) (.g 23)]
def r401_8 : List Op := [f_ 26 <|.iad 17 (.g 22) (.g 24),f_ 27 <|.load (.c) (some 17) (.l 0),t_ 6 <|.alloc [.int .i64 0, .int .i64 0, .str [], .str [], .int .i64 0, .slice 2 [], .int .i64 0, .int .i64 0, .int .i64 0, .int .i64 0, .int .i64 0, .int .i64 0, .slice 11 [], .int .i64 0, .int .i64 0, .int .i64 0, .int .i64 0],u_ <|.store (.v 6) 17 (.l 2) (.l 1)]
def r401_9 : List Op := [f_ 28 <|.load (.v 6) (some 17) (.g 6),f_ 29 <|.rcall 423 [.g 4, .l 0] 0 4 20200]
def r401_10 : List Op := [f_ 30 <|.bin .add (.g 24) (ci 1),t_ 24 <|.mov (.l 0)]
def b401_0 : C := .seq (.region false r401_7) (.seq (.cond (.g 25) (.skip) (.exit 0)) (.seq (.block 1 (.seq (.region false r401_8) (.region false r401_9))) (.region false r401_10)))
def l401_0 : C := .loop [] [4, 0, 10400] [6] [20200] b401_0
def r401_11 : List Op := [f_ 31 <|.fad (.g 4) 0,f_ 32 <|.load (.v 4) none (.l 0),f_ 33 <|.b2s (.l 1),t_ 2 <|.mov (.l 2),t_ 3 <|.mov (ci 0)]
def c401 : C := .seq (.region false r401_0) (.seq (.seq (.region false r401_1) (.cond (.g 9) (.seq (.region false r401_2) (.ret)) (.skip))) (.seq (.region false r401_3) (.seq (.region false r401_4) (.seq (.region false r401_5) (.seq (.seq (.region false r401_6) (.block 0 (l401_0))) (.seq (.region false r401_11) (.ret)))))))
def F401 : F := ⟨1, [0, 1, 2, 3, 4, 6, 9, 22, 23, 24, 25], [.t 2, .t 3], none, c401⟩
attribute [go_sem] r401_0 r401_1 r401_2 r401_3 r401_4 r401_5 r401_6 r401_7 r401_8 r401_9 r401_10 b401_0 r401_11 c401 F401
def r404_0 : List Op := [t_ 1 <|.box (.g 0),t_ 2 <|.mov (cb false)]
def r404_1 : List Op := [f_ 6 <|.fad (.g 1) 1,f_ 7 <|.load (.v 1) none (.l 0),f_ 8 <|.len false (.l 1),t_ 9 <|.bin .gtr (.l 2) (ci 6)]
def r404_2 : List Op := [t_ 2 <|.mov (cb false)]
def r404_3 : List Op := [t_ 3 <|.mov (ci 0)]
def r404_4 : List Op := [f_ 10 <|.mov (.g 3),f_ 11 <|.fad (.g 1) 1,f_ 12 <|.load (.v 1) none (.l 1),f_ 13 <|.len false (.l 2),t_ 14 <|.bin .lss (.l 0) (.l 3)]
def r404_5 : List Op := [f_ 17 <|.fad (.g 1) 1,f_ 18 <|.load (.v 1) none (.l 0),f_ 19 <|.mov (.g 3),f_ 20 <|.iad 9 (.l 1) (.l 2),f_ 21 <|.load (.c) (some 9) (.l 3),t_ 4 <|.alloc [.int .i64 0, .int .i64 0, .int .i64 0, .slice 1 [], .int .i64 0, .str [], .str [], .slice 1 [], .slice 36 []],u_ <|.store (.v 4) 9 (.l 5) (.l 4)]
def r404_6 : List Op := [f_ 22 <|.fad (.g 4) 8,f_ 23 <|.load (.v 4) none (.l 0),f_ 24 <|.len false (.l 1),f_ 25 <|.bin .gtr (.l 2) (ci 10),f_ 26 <|.mov (.l 3),n_ 27 4 <|.fad (.g 4) 1,n_ 28 4 <|.fad (.l 5) 2,n_ 29 4 <|.load (.v 4) none (.l 6),n_ 30 4 <|.len false (.l 7),n_ 31 4 <|.bin .gtr (.l 8) (ci 40),f_ 32 <|.pick (.l 4) (cb true) (.l 9),f_ 33 <|.mov (.l 10),n_ 34 11 <|.fad (.g 4) 1,n_ 35 11 <|.fad (.l 12) 6,n_ 36 11 <|.load (.v 4) none (.l 13),n_ 37 11 <|.len false (.l 14),n_ 38 11 <|.bin .gtr (.l 15) (ci 40),f_ 39 <|.pick (.l 11) (cb true) (.l 16),f_ 40 <|.mov (.l 17),n_ 41 18 <|.fad (.g 4) 1,n_ 42 18 <|.fad (.l 19) 4,n_ 43 18 <|.load (.v 4) none (.l 20),n_ 44 18 <|.len true (.l 21),n_ 45 18 <|.bin .gtr (.l 22) (ci 8192),f_ 46 <|.pick (.l 18) (cb true) (.l 23),f_ 47 <|.mov (.l 24),n_ 48 25 <|.fad (.g 4) 1,n_ 49 25 <|.fad (.l 26) 5,n_ 50 25 <|.load (.v 4) none (.l 27),n_ 51 25 <|.len true (.l 28),n_ 52 25 <|.bin .gtr (.l 29) (ci 8192),t_ 53 <|.pick (.l 25) (cb true) (.l 30)]
def r404_7 : List Op := [t_ 2 <|.mov (cb false)]
def r404_8 : List Op := [t_ 5 <|.mov (ci 0)]
def r404_9 : List Op := [f_ 54 <|.mov (.g 5),f_ 55 <|.fad (.g 4) 8,f_ 56 <|.load (.v 4) none (.l 1),f_ 57 <|.len false (.l 2),t_ 58 <|.bin .lss (.l 0) (.l 3)]
def r404_10 : List Op := [f_ 61 <|.fad (.g 4) 8,f_ 62 <|.load (.v 4) none (.l 0),f_ 63 <|.mov (.g 5),f_ 64 <|.iad 36 (.l 1) (.l 2),f_ 65 <|.load (.c) (some 36) (.l 3),f_ 66 <|.call (.k 339) .no none [.l 4],t_ 67 <|.un .not (.l 5)]
def r404_11 : List Op := [t_ 2 <|.mov (cb false)]
def r404_12 : List Op := [f_ 59 <|.mov (.g 5),f_ 60 <|.bin .add (.l 0) (ci 1),t_ 5 <|.mov (.l 1)]
def b404_1 : C := .seq (.seq (.region false r404_9) (.cond (.g 58) (.skip) (.exit 2))) (.seq (.block 3 (.seq (.region false r404_10) (.cond (.g 67) (.seq (.region false r404_11) (.ret)) (.skip)))) (.region false r404_12))
def l404_1 : C := .loop [] [] [] [] b404_1
def r404_13 : List Op := [f_ 15 <|.mov (.g 3),f_ 16 <|.bin .add (.l 0) (ci 1),t_ 3 <|.mov (.l 1)]
def b404_0 : C := .seq (.seq (.region false r404_4) (.cond (.g 14) (.skip) (.exit 0))) (.seq (.block 1 (.seq (.region false r404_5) (.seq (.seq (.region false r404_6) (.cond (.g 53) (.seq (.region false r404_7) (.ret)) (.skip))) (.seq (.region false r404_8) (.block 2 (l404_1)))))) (.region false r404_13))
def l404_0 : C := .loop [] [] [4] [] b404_0
def r404_14 : List Op := [t_ 2 <|.mov (cb true)]
def c404 : C := .seq (.region false r404_0) (.seq (.seq (.region false r404_1) (.cond (.g 9) (.seq (.region false r404_2) (.ret)) (.skip))) (.seq (.seq (.region false r404_3) (.block 0 (l404_0))) (.seq (.region false r404_14) (.ret))))
def F404 : F := ⟨1, [0, 1, 2, 3, 4, 5, 9, 14, 53, 58, 67], [.t 2], none, c404⟩
attribute [go_sem] r404_0 r404_1 r404_2 r404_3 r404_4 r404_5 r404_6 r404_7 r404_8 r404_9 r404_10 r404_11 r404_12 b404_1 r404_13 b404_0 r404_14 c404 F404
def r406_0 : List Op := [t_ 2 <|.box (.g 0),t_ 4 <|.alloc [.slice 17 [], .int .i64 0, .int .i64 0, .int .i64 0, .int .i64 0],t_ 5 <|.mov (cb false)]
def r406_1 : List Op := [f_ 11 <|.load (.v 2) (some 2) (.g 2),f_ 12 <|.mov (.g 1),f_ 13 <|.call (.k 427) .no none [.l 0, .l 1],f_ 10 <|.mov (.l 2),f_ 14 <|.ext (.l 3) 0,f_ 15 <|.ext (.l 3) 1,t_ 6 <|.alloc [.int .i64 0, .int .i64 0, .int .i64 0, .slice 1 [], .int .i64 0, .str [], .str [], .slice 1 [], .slice 36 []],u_ <|.store (.v 6) 9 (.l 6) (.l 4),t_ 7 <|.mov (.l 5)]
def r406_2 : List Op := [f_ 16 <|.load (.v 2) (some 2) (.g 2),f_ 17 <|.call (.k 408) .no none [.l 0],f_ 18 <|.un .not (.l 1),f_ 19 <|.mov (.l 2),n_ 20 3 <|.mov (.g 7),n_ 21 3 <|.un .not (.l 4),f_ 22 <|.pick (.l 3) (cb true) (.l 5),f_ 23 <|.mov (.l 6),n_ 24 7 <|.fad (.g 6) 1,n_ 25 7 <|.load (.v 6) (some 7) (.l 8),n_ 26 7 <|.call (.k 40) .no none [.l 9],n_ 27 7 <|.un .not (.l 10),t_ 28 <|.pick (.l 7) (cb true) (.l 11)]
def r406_3 : List Op := [f_ 29 <|.build [.slice 17 [], .int .i64 0, .int .i64 0, .int .i64 0, .int .i64 0] [],u_ <|.store (.v 4) 5 (.g 4) (.l 0),t_ 5 <|.mov (cb false)]
def r406_4 : List Op := [f_ 31 <|.fad (.g 6) 1,f_ 32 <|.fad (.l 0) 4,f_ 33 <|.load (.v 6) none (.l 1),f_ 34 <|.call (.k 428) .no none [.l 2],f_ 30 <|.mov (.l 3),f_ 35 <|.ext (.l 4) 0,f_ 36 <|.ext (.l 4) 1,t_ 8 <|.alloc [.slice 17 [], .int .i64 0, .int .i64 0, .int .i64 0, .int .i64 0],u_ <|.store (.v 8) 5 (.l 7) (.l 5),f_ 9 <|.mov (.l 6)]
def r406_5 : List Op := [f_ 37 <|.load (.v 8) (some 5) (.g 8),u_ <|.store (.v 4) 5 (.g 4) (.l 0),t_ 5 <|.mov (cb true)]
def c406 : C := .seq (.region false r406_0) (.seq (.region false r406_1) (.seq (.seq (.region false r406_2) (.cond (.g 28) (.seq (.region false r406_3) (.ret)) (.skip))) (.seq (.region false r406_4) (.seq (.region false r406_5) (.ret)))))
def F406 : F := ⟨2, [0, 1, 2, 4, 5, 6, 7, 8, 28], [.cell 4 (some 5), .t 5], none, c406⟩
attribute [go_sem] r406_0 r406_1 r406_2 r406_3 r406_4 r406_5 c406 F406
def r407_0 : List Op := [t_ 1 <|.box (.g 0),t_ 2 <|.alloc [.int .i64 0, .slice 9 []],t_ 3 <|.mov (.c (.slice 36 []))]
def r407_1 : List Op := [t_ 4 <|.mko 36]
def r407_2 : List Op := [f_ 7 <|.load (.v 1) (some 2) (.g 1),f_ 8 <|.call (.k 408) .no none [.l 0],t_ 9 <|.un .not (.l 1)]
def r407_3 : List Op := [f_ 10 <|.load (.v 1) (some 2) (.g 1),u_ <|.store (.v 2) 2 (.g 2) (.l 0),t_ 3 <|.mov (.c (.slice 36 []))]
def r407_4 : List Op := [f_ 11 <|.fad (.g 1) 1,t_ 12 <|.load (.v 1) none (.l 0),t_ 13 <|.len false (.l 1),t_ 14 <|.mov (ci 0)]
def r407_5 : List Op := [t_ 15 <|.bin .lss (.g 14) (.g 13)]
def r407_6 : List Op := [f_ 16 <|.iad 9 (.g 12) (.g 14),f_ 17 <|.load (.c) (some 9) (.l 0),t_ 6 <|.alloc [.int .i64 0, .int .i64 0, .int .i64 0, .slice 1 [], .int .i64 0, .str [], .str [], .slice 1 [], .slice 36 []],u_ <|.store (.v 6) 9 (.l 2) (.l 1)]
def r407_7 : List Op := [f_ 18 <|.mov (.g 4),f_ 19 <|.fad (.g 6) 0,f_ 20 <|.load (.v 6) none (.l 1),f_ 21 <|.fad (.g 6) 1,f_ 22 <|.load (.v 6) (some 7) (.l 3),f_ 23 <|.call (.k 51) .no none [.l 4],f_ 24 <|.call (.k 429) .no none [.l 2, .l 5],f_ 25 <|.app 4 36 (.l 0) (.l 6),t_ 4 <|.mov (.l 7)]
def r407_8 : List Op := [f_ 26 <|.bin .add (.g 14) (ci 1),t_ 14 <|.mov (.l 0)]
def b407_0 : C := .seq (.region false r407_5) (.seq (.cond (.g 15) (.skip) (.exit 0)) (.seq (.block 1 (.seq (.region false r407_6) (.region true r407_7))) (.region false r407_8)))
def l407_0 : C := .loop [] [] [6] [] b407_0
def r407_9 : List Op := [f_ 27 <|.load (.v 1) (some 2) (.g 1),f_ 28 <|.mov (.g 4),u_ <|.store (.v 2) 2 (.g 2) (.l 0),t_ 3 <|.mov (.l 1)]
def c407 : C := .seq (.region false r407_0) (.seq (.region false r407_1) (.seq (.seq (.region false r407_2) (.cond (.g 9) (.seq (.region false r407_3) (.ret)) (.skip))) (.seq (.seq (.region false r407_4) (.block 0 (l407_0))) (.seq (.region false r407_9) (.ret)))))
def F407 : F := ⟨1, [0, 1, 2, 3, 4, 6, 9, 12, 13, 14, 15], [.cell 2 (some 2), .t 3], none, c407⟩
attribute [go_sem] r407_0 r407_1 r407_2 r407_3 r407_4 r407_5 r407_6 r407_7 r407_8 b407_0 r407_9 c407 F407
def r408_0 : List Op := [t_ 1 <|.box (.g 0),t_ 2 <|.mov (cb false)]
def r408_1 : List Op := [t_ 3 <|.mov (ci 0)]
def r408_2 : List Op := [f_ 6 <|.fad (.g 1) 1,t_ 7 <|.load (.v 1) none (.l 0),t_ 8 <|.len false (.l 1),t_ 9 <|.mov (ci 0)]
def r408_3 : List Op := [t_ 10 <|.bin .lss (.g 9) (.g 8)]
def r408_4 : List Op := [f_ 11 <|.iad 9 (.g 7) (.g 9),f_ 12 <|.load (.c) (some 9) (.l 0),t_ 5 <|.alloc [.int .i64 0, .int .i64 0, .int .i64 0, .slice 1 [], .int .i64 0, .str [], .str [], .slice 1 [], .slice 36 []],u_ <|.store (.v 5) 9 (.l 2) (.l 1)]
def r408_5 : List Op := [f_ 13 <|.fad (.g 5) 0,f_ 14 <|.load (.v 5) none (.l 0),f_ 15 <|.mov (.g 3),f_ 16 <|.bin .leq (.l 1) (.l 2),f_ 17 <|.mov (.l 3),n_ 18 4 <|.fad (.g 5) 0,n_ 19 4 <|.load (.v 5) none (.l 5),n_ 20 4 <|.call (.k 368) .no none [.l 6],n_ 21 4 <|.un .not (.l 7),f_ 22 <|.pick (.l 4) (cb true) (.l 8),f_ 23 <|.mov (.l 9),n_ 24 10 <|.fad (.g 5) 1,n_ 25 10 <|.fad (.l 11) 0,n_ 26 10 <|.load (.v 5) none (.l 12),n_ 27 10 <|.fad (.g 1) 0,n_ 28 10 <|.load (.v 1) none (.l 14),n_ 29 10 <|.bin .neq (.l 13) (.l 15),f_ 30 <|.pick (.l 10) (cb true) (.l 16),f_ 31 <|.mov (.l 17),n_ 32 18 <|.fad (.g 5) 1,n_ 33 18 <|.load (.v 5) (some 7) (.l 19),n_ 34 18 <|.call (.k 39) .no none [.l 20],n_ 35 18 <|.un .not (.l 21),f_ 36 <|.pick (.l 18) (cb true) (.l 22),f_ 37 <|.mov (.l 23),n_ 38 24 <|.fad (.g 5) 1,n_ 39 24 <|.fad (.l 25) 4,n_ 40 24 <|.load (.v 5) none (.l 26),n_ 41 24 <|.call (.k 430) .no none [.l 27],n_ 42 24 <|.un .not (.l 28),f_ 43 <|.pick (.l 24) (cb true) (.l 29),f_ 44 <|.mov (.l 30),n_ 45 31 <|.fad (.g 5) 1,n_ 46 31 <|.fad (.l 32) 5,n_ 47 31 <|.load (.v 5) none (.l 33),n_ 48 31 <|.call (.k 430) .no none [.l 34],n_ 49 31 <|.un .not (.l 35),t_ 50 <|.pick (.l 31) (cb true) (.l 36)]
def r408_6 : List Op := [t_ 2 <|.mov (cb false)]
def r408_7 : List Op := [f_ 51 <|.fad (.g 5) 8,f_ 52 <|.load (.v 5) none (.l 0),f_ 53 <|.len false (.l 1),f_ 54 <|.bin .gtr (.l 2) (ci 0),f_ 55 <|.mov (.l 3),y_ 56 4 <|.fad (.g 5) 1,y_ 57 4 <|.load (.v 5) (some 7) (.l 5),y_ 58 4 <|.call (.k 41) .no none [.l 6],y_ 59 4 <|.un .not (.l 7),f_ 60 <|.pick (.l 4) (.l 8) (cb false),f_ 61 <|.mov (.l 9),n_ 62 10 <|.fad (.g 5) 8,n_ 63 10 <|.load (.v 5) none (.l 11),n_ 64 10 <|.fn 431 [.g 1] [1],n_ 65 10 <|.call (.k 432) .no none [.l 12, .l 13],t_ 66 <|.pick (.l 10) (cb true) (.l 14)]
def r408_8 : List Op := [t_ 2 <|.mov (cb false)]
def r408_9 : List Op := [f_ 67 <|.fad (.g 5) 0,f_ 68 <|.load (.v 5) none (.l 0),t_ 3 <|.mov (.l 1)]
def r408_10 : List Op := [f_ 69 <|.bin .add (.g 9) (ci 1),t_ 9 <|.mov (.l 0)]
def b408_0 : C := .seq (.region false r408_3) (.seq (.cond (.g 10) (.skip) (.exit 0)) (.seq (.block 1 (.seq (.region false r408_4) (.seq (.seq (.region false r408_5) (.cond (.g 50) (.seq (.region false r408_6) (.ret)) (.skip))) (.seq (.seq (.region false r408_7) (.cond (.g 66) (.seq (.region false r408_8) (.ret)) (.skip))) (.region false r408_9))))) (.region false r408_10)))
def l408_0 : C := .loop [] [] [5] [] b408_0
def r408_11 : List Op := [f_ 70 <|.fad (.g 1) 0,f_ 71 <|.load (.v 1) none (.l 0),f_ 72 <|.bin .geq (.l 1) (ci 1),f_ 73 <|.mov (.l 2),y_ 74 3 <|.fad (.g 1) 0,y_ 75 3 <|.load (.v 1) none (.l 4),y_ 76 3 <|.bin .leq (.l 5) (ci 3),f_ 77 <|.pick (.l 3) (.l 6) (cb false),t_ 2 <|.mov (.l 7)]
def c408 : C := .seq (.region false r408_0) (.seq (.region false r408_1) (.seq (.seq (.region false r408_2) (.block 0 (l408_0))) (.seq (.region false r408_11) (.ret))))
def F408 : F := ⟨1, [0, 1, 2, 3, 5, 7, 8, 9, 10, 50, 66], [.t 2], none, c408⟩
attribute [go_sem] r408_0 r408_1 r408_2 r408_3 r408_4 r408_5 r408_6 r408_7 r408_8 r408_9 r408_10 b408_0 r408_11 c408 F408
def r413_0 : List Op := [t_ 3 <|.box (.g 0),t_ 5 <|.box (.g 2),t_ 6 <|.alloc [.int .i64 0, .slice 9 []],t_ 7 <|.mov (.c (.slice 36 []))]
def r413_1 : List Op := [f_ 14 <|.load (.v 3) (some 2) (.g 3),f_ 15 <|.call (.k 408) .no none [.l 0],f_ 16 <|.un .not (.l 1),f_ 17 <|.mov (.l 2),n_ 18 3 <|.load (.v 5) (some 36) (.g 5),n_ 19 3 <|.call (.k 341) .no none [.l 4],n_ 20 3 <|.un .not (.l 5),f_ 21 <|.pick (.l 3) (cb true) (.l 6),f_ 22 <|.mov (.l 7),n_ 23 8 <|.mov (.g 1),n_ 24 8 <|.bin .lss (.l 9) (ci 0),f_ 25 <|.pick (.l 8) (cb true) (.l 10),f_ 26 <|.mov (.l 11),n_ 27 12 <|.mov (.g 1),n_ 28 12 <|.bin .gtr (.l 13) (ci 1099511627776),f_ 29 <|.pick (.l 12) (cb true) (.l 14),f_ 30 <|.mov (.l 15),n_ 31 16 <|.fad (.g 5) 2,n_ 32 16 <|.load (.v 5) none (.l 17),n_ 33 16 <|.fad (.g 3) 0,n_ 34 16 <|.load (.v 3) none (.l 19),n_ 35 16 <|.bin .neq (.l 18) (.l 20),t_ 36 <|.pick (.l 16) (cb true) (.l 21)]
def r413_2 : List Op := [f_ 37 <|.load (.v 3) (some 2) (.g 3),u_ <|.store (.v 6) 2 (.g 6) (.l 0),t_ 7 <|.mov (.c (.slice 36 []))]
def r413_3 : List Op := [f_ 38 <|.fad (.g 5) 0,t_ 39 <|.load (.v 5) none (.l 0)]
def r413_4 : List Op := [f_ 41 <|.bin .eql (.g 39) (ci 35),t_ 40 <|.mov (.l 0)]
def r413_5 : List Op := [f_ 42 <|.bin .eql (.g 39) (ci 36),t_ 40 <|.mov (.l 0)]
def r413_6 : List Op := [f_ 43 <|.bin .eql (.g 39) (ci 37),t_ 40 <|.mov (.l 0)]
def r413_7 : List Op := [f_ 44 <|.load (.v 3) (some 2) (.g 3),f_ 45 <|.load (.v 5) (some 36) (.g 5),f_ 46 <|.call (.k 437) .no none [.l 0, .l 1],f_ 47 <|.ext (.l 2) 0,f_ 48 <|.ext (.l 2) 1,u_ <|.store (.v 6) 2 (.g 6) (.l 3),t_ 7 <|.mov (.l 4)]
def r413_8 : List Op := [f_ 50 <|.bin .eql (.g 39) (ci 33),t_ 49 <|.mov (.l 0)]
def r413_9 : List Op := [f_ 51 <|.load (.v 3) (some 2) (.g 3),f_ 52 <|.load (.v 5) (some 36) (.g 5),f_ 53 <|.call (.k 438) .no none [.l 0, .l 1],f_ 54 <|.ext (.l 2) 0,f_ 55 <|.ext (.l 2) 1,u_ <|.store (.v 6) 2 (.g 6) (.l 3),t_ 7 <|.mov (.l 4)]
def r413_10 : List Op := [f_ 57 <|.load (.v 3) (some 2) (.g 3),f_ 58 <|.fad (.g 5) 7,f_ 59 <|.load (.v 5) none (.l 1),f_ 60 <|.call (.k 427) .no none [.l 0, .l 2],f_ 56 <|.mov (.l 3),f_ 61 <|.ext (.l 4) 0,f_ 62 <|.ext (.l 4) 1,t_ 8 <|.alloc [.int .i64 0, .int .i64 0, .int .i64 0, .slice 1 [], .int .i64 0, .str [], .str [], .slice 1 [], .slice 36 []],u_ <|.store (.v 8) 9 (.l 7) (.l 5),t_ 9 <|.mov (.l 6)]
def r413_11 : List Op := [f_ 63 <|.mov (.g 9),f_ 64 <|.un .not (.l 0),f_ 65 <|.mov (.l 1),n_ 66 2 <|.fad (.g 8) 1,n_ 67 2 <|.load (.v 8) (some 7) (.l 3),n_ 68 2 <|.call (.k 40) .no none [.l 4],n_ 69 2 <|.un .not (.l 5),t_ 70 <|.pick (.l 2) (cb true) (.l 6)]
def r413_12 : List Op := [f_ 71 <|.fad (.g 5) 0,f_ 72 <|.load (.v 5) none (.l 0),t_ 73 <|.bin .eql (.l 1) (ci 1)]
def r413_13 : List Op := [f_ 74 <|.load (.v 3) (some 2) (.g 3),f_ 75 <|.load (.v 3) (some 2) (.g 3),f_ 76 <|.load (.v 5) (some 36) (.g 5),f_ 77 <|.build [.int .i64 0, .int .i64 0, .int .i64 0, .int .i64 0, .bool false, .str [], .slice 2 [], .str [], .bool false] [(0, 1, .c (.int .i64 10))],f_ 78 <|.call (.k 439) .no none [.l 1, .l 2, .l 3],f_ 79 <|.mks 36 1 [.int .i64 0, .int .i64 0, .int .i64 0, .int .i64 0, .int .i64 0, .int .i64 0, .int .i64 0, .int .i64 0, .int .i64 0, .int .i64 0, .int .i64 0, .int .i64 0, .str [], .int .i64 0, .int .i64 0, .int .i64 0, .str [], .str [], .bool false, .str [], .int .i64 0, .int .i64 0, .int .i64 0, .str [], .int .i64 0, .int .i64 0, .int .i64 0, .int .i64 0, .int .i64 0, .bool false, .str [], .slice 2 [], .str [], .bool false, .slice 5 [], .slice 1 []] [(0, .l 4)],u_ <|.store (.v 6) 2 (.g 6) (.l 0),t_ 7 <|.mov (.l 5)]
def r413_14 : List Op := [f_ 80 <|.load (.v 3) (some 2) (.g 3),u_ <|.store (.v 6) 2 (.g 6) (.l 0),t_ 7 <|.mov (.c (.slice 36 []))]
def r413_15 : List Op := [f_ 81 <|.fad (.g 8) 1,f_ 82 <|.load (.v 8) (some 7) (.l 0),t_ 83 <|.call (.k 41) .no none [.l 1]]
def r413_16 : List Op := [f_ 84 <|.load (.v 3) (some 2) (.g 3),u_ <|.store (.v 6) 2 (.g 6) (.l 0),t_ 7 <|.mov (.c (.slice 36 []))]
def r413_17 : List Op := [f_ 86 <|.fad (.g 8) 1,f_ 87 <|.fad (.l 0) 4,f_ 88 <|.load (.v 8) none (.l 1),f_ 89 <|.call (.k 428) .no none [.l 2],f_ 85 <|.mov (.l 3),f_ 90 <|.ext (.l 4) 0,f_ 91 <|.ext (.l 4) 1,t_ 10 <|.alloc [.slice 17 [], .int .i64 0, .int .i64 0, .int .i64 0, .int .i64 0],u_ <|.store (.v 10) 5 (.l 7) (.l 5),f_ 11 <|.mov (.l 6)]
def r413_18 : List Op := [f_ 92 <|.fad (.g 5) 0,t_ 93 <|.load (.v 5) none (.l 0)]
def r413_19 : List Op := [f_ 95 <|.bin .eql (.g 93) (ci 1),t_ 94 <|.mov (.l 0)]
def r413_20 : List Op := [f_ 96 <|.load (.v 3) (some 2) (.g 3),f_ 97 <|.load (.v 8) (some 9) (.g 8),f_ 98 <|.load (.v 10) (some 5) (.g 10),f_ 99 <|.mov (.g 1),f_ 100 <|.load (.v 5) (some 36) (.g 5),f_ 101 <|.call (.k 440) .no none [.l 0, .l 1, .l 2, .l 3, .l 4],f_ 102 <|.ext (.l 5) 0,f_ 103 <|.ext (.l 5) 1,u_ <|.store (.v 6) 2 (.g 6) (.l 6),t_ 7 <|.mov (.l 7)]
def r413_21 : List Op := [f_ 105 <|.bin .eql (.g 93) (ci 14),t_ 104 <|.mov (.l 0)]
def r413_22 : List Op := [f_ 106 <|.load (.v 3) (some 2) (.g 3),f_ 107 <|.load (.v 3) (some 2) (.g 3),f_ 108 <|.load (.v 10) (some 5) (.g 10),f_ 109 <|.load (.v 5) (some 36) (.g 5),f_ 110 <|.call (.k 441) .no none [.l 1, .l 2, .l 3],u_ <|.store (.v 6) 2 (.g 6) (.l 0),t_ 7 <|.mov (.l 4)]
def r413_23 : List Op := [f_ 112 <|.bin .eql (.g 93) (ci 30),t_ 111 <|.mov (.l 0)]
def r413_24 : List Op := [f_ 113 <|.fad (.g 5) 9,f_ 114 <|.load (.v 5) (some 3) (.l 0),f_ 115 <|.fad (.g 10) 1,f_ 116 <|.load (.v 10) (some 3) (.l 2),f_ 117 <|.call (.k 15) .no none [.l 1, .l 3],t_ 118 <|.bin .leq (.l 4) (ci 0)]
def r413_25 : List Op := [f_ 119 <|.load (.v 3) (some 2) (.g 3),f_ 120 <|.fad (.g 3) 0,f_ 121 <|.load (.v 3) none (.l 1),f_ 122 <|.fad (.g 5) 7,f_ 123 <|.load (.v 5) none (.l 3),f_ 124 <|.fad (.g 10) 1,f_ 125 <|.load (.v 10) (some 3) (.l 5),f_ 126 <|.build [.int .i64 0, .int .i64 0, .int .i64 0, .int .i64 0, .int .i64 0, .int .i64 0, .int .i64 0, .int .i64 0, .int .i64 0, .int .i64 0, .int .i64 0, .int .i64 0, .str [], .int .i64 0, .int .i64 0, .int .i64 0, .str [], .str [], .bool false, .str [], .int .i64 0, .int .i64 0, .int .i64 0, .str [], .int .i64 0, .int .i64 0, .int .i64 0, .int .i64 0, .int .i64 0, .bool false, .str [], .slice 2 [], .str [], .bool false, .slice 5 [], .slice 1 []] [(0, 1, .c (.int .i64 31)), (1, 1, .l 2), (7, 1, .l 4), (9, 3, .l 6)],f_ 127 <|.mks 36 1 [.int .i64 0, .int .i64 0, .int .i64 0, .int .i64 0, .int .i64 0, .int .i64 0, .int .i64 0, .int .i64 0, .int .i64 0, .int .i64 0, .int .i64 0, .int .i64 0, .str [], .int .i64 0, .int .i64 0, .int .i64 0, .str [], .str [], .bool false, .str [], .int .i64 0, .int .i64 0, .int .i64 0, .str [], .int .i64 0, .int .i64 0, .int .i64 0, .int .i64 0, .int .i64 0, .bool false, .str [], .slice 2 [], .str [], .bool false, .slice 5 [], .slice 1 []] [(0, .l 7)],u_ <|.store (.v 6) 2 (.g 6) (.l 0),t_ 7 <|.mov (.l 8)]
def r413_26 : List Op := [f_ 128 <|.load (.v 3) (some 2) (.g 3),f_ 129 <|.load (.v 8) (some 9) (.g 8),f_ 130 <|.load (.v 10) (some 5) (.g 10),f_ 131 <|.fad (.g 5) 9,f_ 132 <|.load (.v 5) (some 3) (.l 3),f_ 133 <|.call (.k 261) .no none [.l 2, .l 4],f_ 134 <|.fad (.g 3) 0,f_ 135 <|.load (.v 3) none (.l 6),f_ 136 <|.fad (.g 5) 7,f_ 137 <|.load (.v 5) none (.l 8),f_ 138 <|.fad (.g 5) 9,f_ 139 <|.load (.v 5) (some 3) (.l 10),f_ 140 <|.build [.int .i64 0, .int .i64 0, .int .i64 0, .int .i64 0, .int .i64 0, .int .i64 0, .int .i64 0, .int .i64 0, .int .i64 0, .int .i64 0, .int .i64 0, .int .i64 0, .str [], .int .i64 0, .int .i64 0, .int .i64 0, .str [], .str [], .bool false, .str [], .int .i64 0, .int .i64 0, .int .i64 0, .str [], .int .i64 0, .int .i64 0, .int .i64 0, .int .i64 0, .int .i64 0, .bool false, .str [], .slice 2 [], .str [], .bool false, .slice 5 [], .slice 1 []] [(0, 1, .c (.int .i64 31)), (1, 1, .l 7), (7, 1, .l 9), (9, 3, .l 11)],f_ 141 <|.mks 36 1 [.int .i64 0, .int .i64 0, .int .i64 0, .int .i64 0, .int .i64 0, .int .i64 0, .int .i64 0, .int .i64 0, .int .i64 0, .int .i64 0, .int .i64 0, .int .i64 0, .str [], .int .i64 0, .int .i64 0, .int .i64 0, .str [], .str [], .bool false, .str [], .int .i64 0, .int .i64 0, .int .i64 0, .str [], .int .i64 0, .int .i64 0, .int .i64 0, .int .i64 0, .int .i64 0, .bool false, .str [], .slice 2 [], .str [], .bool false, .slice 5 [], .slice 1 []] [(0, .l 12)],f_ 142 <|.call (.k 442) .no none [.l 0, .l 1, .l 5, .l 13],f_ 143 <|.ext (.l 14) 0,f_ 144 <|.ext (.l 14) 1,u_ <|.store (.v 6) 2 (.g 6) (.l 15),t_ 7 <|.mov (.l 16)]
def r413_27 : List Op := [f_ 146 <|.bin .eql (.g 93) (ci 32),t_ 145 <|.mov (.l 0)]
def r413_28 : List Op := [f_ 147 <|.load (.v 3) (some 2) (.g 3),f_ 148 <|.load (.v 8) (some 9) (.g 8),f_ 149 <|.load (.v 10) (some 5) (.g 10),f_ 150 <|.load (.v 5) (some 36) (.g 5),f_ 151 <|.call (.k 443) .no none [.l 0, .l 1, .l 2, .l 3],f_ 152 <|.ext (.l 4) 0,f_ 153 <|.ext (.l 4) 1,u_ <|.store (.v 6) 2 (.g 6) (.l 5),t_ 7 <|.mov (.l 6)]
def r413_29 : List Op := [f_ 155 <|.load (.v 3) (some 2) (.g 3),f_ 156 <|.load (.v 10) (some 5) (.g 10),f_ 157 <|.load (.v 5) (some 36) (.g 5),f_ 158 <|.call (.k 444) .no none [.l 0, .l 1, .l 2],f_ 154 <|.mov (.l 3),f_ 159 <|.ext (.l 4) 0,f_ 160 <|.ext (.l 4) 1,f_ 161 <|.ext (.l 4) 2,t_ 12 <|.alloc [.slice 17 [], .int .i64 0, .int .i64 0, .int .i64 0, .int .i64 0],t_ 13 <|.alloc [.int .i64 0, .int .i64 0, .int .i64 0, .int .i64 0, .int .i64 0, .int .i64 0, .int .i64 0, .int .i64 0, .int .i64 0, .int .i64 0, .int .i64 0, .int .i64 0, .str [], .int .i64 0, .int .i64 0, .int .i64 0, .str [], .str [], .bool false, .str [], .int .i64 0, .int .i64 0, .int .i64 0, .str [], .int .i64 0, .int .i64 0, .int .i64 0, .int .i64 0, .int .i64 0, .bool false, .str [], .slice 2 [], .str [], .bool false, .slice 5 [], .slice 1 []],u_ <|.store (.v 12) 5 (.l 8) (.l 5),u_ <|.store (.v 13) 36 (.l 9) (.l 6),t_ 9 <|.mov (.l 7)]
def r413_30 : List Op := [f_ 162 <|.mov (.g 9),t_ 163 <|.un .not (.l 0)]
def r413_31 : List Op := [f_ 164 <|.load (.v 3) (some 2) (.g 3),u_ <|.store (.v 6) 2 (.g 6) (.l 0),t_ 7 <|.mov (.c (.slice 36 []))]
def r413_32 : List Op := [f_ 165 <|.fad (.g 3) 0,f_ 166 <|.load (.v 3) none (.l 0),f_ 167 <|.fad (.g 5) 7,f_ 168 <|.load (.v 5) none (.l 2),f_ 169 <|.fad (.g 13) 1,u_ <|.store (.v 13) 1 (.l 4) (.l 1),f_ 170 <|.fad (.g 13) 7,u_ <|.store (.v 13) 1 (.l 6) (.l 3)]
def r413_33 : List Op := [f_ 171 <|.load (.v 3) (some 2) (.g 3),f_ 172 <|.load (.v 8) (some 9) (.g 8),f_ 173 <|.load (.v 12) (some 5) (.g 12),f_ 174 <|.load (.v 13) (some 36) (.g 13),f_ 175 <|.mks 36 1 [.int .i64 0, .int .i64 0, .int .i64 0, .int .i64 0, .int .i64 0, .int .i64 0, .int .i64 0, .int .i64 0, .int .i64 0, .int .i64 0, .int .i64 0, .int .i64 0, .str [], .int .i64 0, .int .i64 0, .int .i64 0, .str [], .str [], .bool false, .str [], .int .i64 0, .int .i64 0, .int .i64 0, .str [], .int .i64 0, .int .i64 0, .int .i64 0, .int .i64 0, .int .i64 0, .bool false, .str [], .slice 2 [], .str [], .bool false, .slice 5 [], .slice 1 []] [(0, .l 3)],f_ 176 <|.call (.k 442) .no none [.l 0, .l 1, .l 2, .l 4],f_ 177 <|.ext (.l 5) 0,f_ 178 <|.ext (.l 5) 1,u_ <|.store (.v 6) 2 (.g 6) (.l 6),t_ 7 <|.mov (.l 7)]
def c413 : C := .seq (.region false r413_0) (.seq (.seq (.region false r413_1) (.cond (.g 36) (.seq (.region false r413_2) (.ret)) (.skip))) (.seq (.seq (.region false r413_3) (.block 0 (.seq (.seq (.region false r413_4) (.cond (.g 40) (.skip) (.seq (.region false r413_5) (.cond (.g 40) (.skip) (.region false r413_6))))) (.cond (.g 40) (.seq (.region false r413_7) (.ret)) (.seq (.region false r413_8) (.cond (.g 49) (.seq (.region false r413_9) (.ret)) (.skip))))))) (.seq (.region false r413_10) (.seq (.seq (.region false r413_11) (.cond (.g 70) (.seq (.seq (.region false r413_12) (.cond (.g 73) (.seq (.region true r413_13) (.ret)) (.skip))) (.seq (.region false r413_14) (.ret))) (.skip))) (.seq (.seq (.region false r413_15) (.cond (.g 83) (.seq (.region false r413_16) (.ret)) (.skip))) (.seq (.region false r413_17) (.seq (.seq (.region false r413_18) (.block 1 (.seq (.region false r413_19) (.cond (.g 94) (.seq (.region false r413_20) (.ret)) (.seq (.region false r413_21) (.cond (.g 104) (.seq (.region true r413_22) (.ret)) (.seq (.region false r413_23) (.cond (.g 111) (.seq (.seq (.region false r413_24) (.cond (.g 118) (.seq (.region true r413_25) (.ret)) (.skip))) (.seq (.region true r413_26) (.ret))) (.seq (.region false r413_27) (.cond (.g 145) (.seq (.region false r413_28) (.ret)) (.skip))))))))))) (.seq (.region false r413_29) (.seq (.seq (.region false r413_30) (.cond (.g 163) (.seq (.region false r413_31) (.ret)) (.skip))) (.seq (.region true r413_32) (.seq (.region false r413_33) (.ret))))))))))))
def F413 : F := ⟨3, [0, 1, 2, 3, 5, 6, 7, 8, 9, 10, 12, 13, 36, 39, 40, 49, 70, 73, 83, 93, 94, 104, 111, 118, 145, 163], [.cell 6 (some 2), .t 7], none, c413⟩
attribute [go_sem] r413_0 r413_1 r413_2 r413_3 r413_4 r413_5 r413_6 r413_7 r413_8 r413_9 r413_10 r413_11 r413_12 r413_13 r413_14 r413_15 r413_16 r413_17 r413_18 r413_19 r413_20 r413_21 r413_22 r413_23 r413_24 r413_25 r413_26 r413_27 r413_28 r413_29 r413_30 r413_31 r413_32 r413_33 c413 F413
def r420_0 : List Op := [t_ 6 <|.alloc [.int .i64 0, .int .i64 0, .int .i64 0, .int .i64 0, .int .i64 0, .int .i64 0, .int .i64 0, .int .i64 0, .int .i64 0, .int .i64 0, .int .i64 0, .int .i64 0, .str [], .int .i64 0, .int .i64 0, .int .i64 0, .str [], .str [], .bool false, .str [], .int .i64 0, .int .i64 0, .int .i64 0, .str [], .int .i64 0, .int .i64 0, .int .i64 0, .int .i64 0, .int .i64 0, .bool false, .str [], .slice 2 [], .str [], .bool false, .slice 5 [], .slice 1 []]]
def r420_1 : List Op := [f_ 7 <|.mov (.g 0),f_ 8 <|.mov (.g 1),f_ 9 <|.mov (.g 2),f_ 10 <|.build [.int .i64 0, .int .i64 0, .int .i64 0, .str [], .str [], .bool false, .str [], .int .i64 0, .int .i64 0, .int .i64 0, .str [], .int .i64 0] [(0, 1, .c (.int .i64 1)), (1, 1, .l 2), (2, 1, .c (.int .i64 1)), (3, 1, .c (.str [97])), (4, 1, .c (.str [120]))],f_ 11 <|.build [.int .i64 0, .int .i64 0, .int .i64 0, .int .i64 0, .int .i64 0, .int .i64 0, .int .i64 0, .int .i64 0, .int .i64 0, .int .i64 0, .int .i64 0, .int .i64 0, .str [], .int .i64 0, .int .i64 0, .int .i64 0, .str [], .str [], .bool false, .str [], .int .i64 0, .int .i64 0, .int .i64 0, .str [], .int .i64 0, .int .i64 0, .int .i64 0, .int .i64 0, .int .i64 0, .bool false, .str [], .slice 2 [], .str [], .bool false, .slice 5 [], .slice 1 []] [(0, 1, .c (.int .i64 1)), (1, 1, .l 0), (2, 1, .l 1), (7, 1, .c (.int .i64 1)), (3, 1, .c (.int .i64 1)), (4, 1, .c (.int .i64 1)), (13, 12, .l 3)],u_ <|.store (.v 6) 36 (.g 6) (.l 4)]
def c420 : C := .seq (.region false r420_0) (.seq (.region false r420_1) (.ret))
def F420 : F := ⟨3, [0, 1, 2, 6], [.cell 6 (some 36)], none, c420⟩
attribute [go_sem] r420_0 r420_1 c420 F420
def r421_0 : List Op := [t_ 8 <|.mov (.g 1),t_ 9 <|.len false (.l 0),t_ 10 <|.mov (ci 0)]
def r421_1 : List Op := [t_ 11 <|.bin .lss (.g 10) (.g 9)]
def r421_2 : List Op := [f_ 12 <|.iad 3 (.g 8) (.g 10),f_ 13 <|.load (.c) (some 3) (.l 0),t_ 5 <|.alloc [.int .i64 0, .int .i64 0, .int .i64 0],u_ <|.store (.v 5) 3 (.l 2) (.l 1)]
def r421_3 : List Op := [f_ 15 <|.load (.v 5) (some 3) (.g 5),f_ 16 <|.call (.k 455) .no none [.l 0],f_ 14 <|.mov (.l 1),f_ 17 <|.ext (.l 2) 0,f_ 18 <|.ext (.l 2) 1,t_ 6 <|.mov (.l 3),f_ 7 <|.mov (.l 4)]
def r421_4 : List Op := [f_ 19 <|.mov (.g 0),f_ 20 <|.mov (.g 0),f_ 21 <|.nilc (.l 1),f_ 22 <|.fad (.l 2) 0,f_ 23 <|.load (.v 0) none (.l 3),f_ 24 <|.mov (.g 6),f_ 25 <|.appd 1 (.l 4) (.l 5),f_ 26 <|.nilc (.l 0),f_ 27 <|.fad (.l 7) 0,u_ <|.store (.v 0) 1 (.l 8) (.l 6)]
def r421_5 : List Op := [f_ 28 <|.bin .add (.g 10) (ci 1),t_ 10 <|.mov (.l 0)]
def b421_0 : C := .seq (.region false r421_1) (.seq (.cond (.g 11) (.skip) (.exit 0)) (.seq (.block 1 (.seq (.region false r421_2) (.seq (.region false r421_3) (.region false r421_4)))) (.region false r421_5)))
def l421_0 : C := .loop [] [0, 0, 9000] [5] [] b421_0
def c421 : C := .seq (.region false r421_0) (.block 0 (l421_0))
def F421 : F := ⟨2, [0, 1, 5, 6, 8, 9, 10, 11], [], none, c421⟩
attribute [go_sem] r421_0 r421_1 r421_2 r421_3 r421_4 r421_5 b421_0 c421 F421
def r422_0 : List Op := [t_ 8 <|.mov (.g 1),t_ 9 <|.len false (.l 0),t_ 10 <|.mov (ci 0)]
def r422_1 : List Op := [t_ 11 <|.bin .lss (.g 10) (.g 9)]
def r422_2 : List Op := [f_ 12 <|.iad 1 (.g 8) (.g 10),f_ 13 <|.load (.c) none (.l 0),t_ 5 <|.mov (.l 1)]
def r422_3 : List Op := [f_ 15 <|.mov (.g 5),f_ 16 <|.call (.k 456) .no none [.l 0],f_ 14 <|.mov (.l 1),f_ 17 <|.ext (.l 2) 0,f_ 18 <|.ext (.l 2) 1,t_ 6 <|.mov (.l 3),f_ 7 <|.mov (.l 4)]
def r422_4 : List Op := [f_ 19 <|.mov (.g 0),f_ 20 <|.mov (.g 0),f_ 21 <|.nilc (.l 1),f_ 22 <|.fad (.l 2) 0,f_ 23 <|.load (.v 0) none (.l 3),f_ 24 <|.mov (.g 6),f_ 25 <|.appd 1 (.l 4) (.l 5),f_ 26 <|.nilc (.l 0),f_ 27 <|.fad (.l 7) 0,u_ <|.store (.v 0) 1 (.l 8) (.l 6)]
def r422_5 : List Op := [f_ 28 <|.bin .add (.g 10) (ci 1),t_ 10 <|.mov (.l 0)]
def b422_0 : C := .seq (.region false r422_1) (.seq (.cond (.g 11) (.skip) (.exit 0)) (.seq (.block 1 (.seq (.region false r422_2) (.seq (.region false r422_3) (.region false r422_4)))) (.region false r422_5)))
def l422_0 : C := .loop [] [0, 0, 9000] [] [] b422_0
def c422 : C := .seq (.region false r422_0) (.block 0 (l422_0))
def F422 : F := ⟨2, [0, 1, 5, 6, 8, 9, 10, 11], [], none, c422⟩
attribute [go_sem] r422_0 r422_1 r422_2 r422_3 r422_4 r422_5 b422_0 c422 F422
def r423_0 : List Op := [t_ 3 <|.box (.g 1)]
def r423_1 : List Op := [f_ 10 <|.mov (.g 0),f_ 11 <|.fad (.g 3) 0,f_ 12 <|.load (.v 3) none (.l 1),f_ 13 <|.fad (.g 3) 1,f_ 14 <|.load (.v 3) none (.l 3),f_ 15 <|.fad (.g 3) 4,f_ 16 <|.load (.v 3) none (.l 5),f_ 17 <|.fad (.g 3) 13,f_ 18 <|.load (.v 3) none (.l 7),f_ 19 <|.fad (.g 3) 14,f_ 20 <|.load (.v 3) none (.l 9),f_ 21 <|.fad (.g 3) 15,f_ 22 <|.load (.v 3) none (.l 11),f_ 23 <|.fad (.g 3) 16,f_ 24 <|.load (.v 3) none (.l 13),f_ 25 <|.mks 1 7 [.int .i64 0] [(0, .l 2), (1, .l 4), (2, .l 6), (3, .l 8), (4, .l 10), (5, .l 12), (6, .l 14)],f_ 26 <|.rcall 422 [.l 0, .l 15] 0 0 20000]
def r423_2 : List Op := [f_ 27 <|.mov (.g 0),f_ 28 <|.fad (.g 3) 2,f_ 29 <|.fad (.l 1) 0,f_ 30 <|.load (.v 3) none (.l 2),f_ 31 <|.fad (.g 3) 2,f_ 32 <|.fad (.l 4) 1,f_ 33 <|.load (.v 3) none (.l 5),f_ 34 <|.mks 1 2 [.str []] [(0, .l 3), (1, .l 6)],f_ 35 <|.rcall 457 [.l 0, .l 7] 0 0 20100]
def r423_3 : List Op := [f_ 36 <|.mov (.g 0),f_ 37 <|.fad (.g 3) 6,f_ 38 <|.load (.v 3) (some 3) (.l 1),f_ 39 <|.fad (.g 3) 9,f_ 40 <|.load (.v 3) (some 3) (.l 3),f_ 41 <|.mks 3 2 [.int .i64 0, .int .i64 0, .int .i64 0] [(0, .l 2), (1, .l 4)],f_ 42 <|.rcall 421 [.l 0, .l 5] 0 0 20200]
def r423_4 : List Op := [f_ 43 <|.mov (.g 0),f_ 44 <|.fad (.g 3) 5,f_ 45 <|.load (.v 3) none (.l 1),f_ 46 <|.len false (.l 2),f_ 47 <|.mks 1 1 [.int .i64 0] [(0, .l 3)],f_ 48 <|.rcall 422 [.l 0, .l 4] 0 0 20300]
def r423_5 : List Op := [f_ 49 <|.fad (.g 3) 5,t_ 50 <|.load (.v 3) none (.l 0),t_ 51 <|.len false (.l 1),t_ 52 <|.mov (ci 0)]
def r423_6 : List Op := [t_ 53 <|.bin .lss (.g 52) (.g 51)]
def r423_7 : List Op := [f_ 54 <|.iad 2 (.g 50) (.g 52),f_ 55 <|.load (.c) (some 2) (.l 0),t_ 5 <|.alloc [.str [], .slice 5 []],u_ <|.store (.v 5) 2 (.l 2) (.l 1)]
def r423_8 : List Op := [f_ 56 <|.mov (.g 0),f_ 57 <|.fad (.g 5) 0,f_ 58 <|.load (.v 5) none (.l 1),f_ 59 <|.mks 1 1 [.str []] [(0, .l 2)],f_ 60 <|.rcall 457 [.l 0, .l 3] 0 0 20400]
def r423_9 : List Op := [f_ 61 <|.mov (.g 0),f_ 62 <|.fad (.g 5) 1,f_ 63 <|.load (.v 5) none (.l 1),f_ 64 <|.len false (.l 2),f_ 65 <|.mks 1 1 [.int .i64 0] [(0, .l 3)],f_ 66 <|.rcall 422 [.l 0, .l 4] 0 0 20500]
def r423_10 : List Op := [f_ 67 <|.fad (.g 5) 1,t_ 68 <|.load (.v 5) none (.l 0),t_ 69 <|.len false (.l 1),t_ 70 <|.mov (ci 0)]
def r423_11 : List Op := [t_ 71 <|.bin .lss (.g 70) (.g 69)]
def r423_12 : List Op := [f_ 72 <|.iad 5 (.g 68) (.g 70),f_ 73 <|.load (.c) (some 5) (.l 0),t_ 7 <|.alloc [.int .i64 0, .int .i64 0, .int .i64 0, .bool false, .str []],u_ <|.store (.v 7) 5 (.l 2) (.l 1)]
def r423_13 : List Op := [f_ 74 <|.mov (.g 0),f_ 75 <|.fad (.g 7) 0,f_ 76 <|.load (.v 7) (some 3) (.l 1),f_ 77 <|.mks 3 1 [.int .i64 0, .int .i64 0, .int .i64 0] [(0, .l 2)],f_ 78 <|.rcall 421 [.l 0, .l 3] 0 0 20600]
def r423_14 : List Op := [f_ 79 <|.mov (.g 0),f_ 80 <|.fad (.g 7) 3,f_ 81 <|.load (.v 7) none (.l 1),f_ 82 <|.rcall 458 [.l 0, .l 2] 0 0 20700]
def r423_15 : List Op := [f_ 83 <|.mov (.g 0),f_ 84 <|.fad (.g 7) 4,f_ 85 <|.load (.v 7) none (.l 1),f_ 86 <|.mks 1 1 [.str []] [(0, .l 2)],f_ 87 <|.rcall 457 [.l 0, .l 3] 0 0 20800]
def r423_16 : List Op := [f_ 88 <|.bin .add (.g 70) (ci 1),t_ 70 <|.mov (.l 0)]
def b423_1 : C := .seq (.region false r423_11) (.seq (.cond (.g 71) (.skip) (.exit 2)) (.seq (.block 3 (.seq (.region false r423_12) (.seq (.region false r423_13) (.seq (.region false r423_14) (.region false r423_15))))) (.region false r423_16)))
def l423_1 : C := .loop [] [0, 0, 9000] [7] [20600, 20700, 20800] b423_1
def r423_17 : List Op := [f_ 89 <|.bin .add (.g 52) (ci 1),t_ 52 <|.mov (.l 0)]
def b423_0 : C := .seq (.region false r423_6) (.seq (.cond (.g 53) (.skip) (.exit 0)) (.seq (.block 1 (.seq (.region false r423_7) (.seq (.region false r423_8) (.seq (.region false r423_9) (.seq (.region false r423_10) (.block 2 (l423_1))))))) (.region false r423_17)))
def l423_0 : C := .loop [] [0, 0, 9000] [5, 7] [20400, 20500, 20600, 20700, 20800] b423_0
def r423_18 : List Op := [f_ 90 <|.mov (.g 0),f_ 91 <|.fad (.g 3) 12,f_ 92 <|.load (.v 3) none (.l 1),f_ 93 <|.len false (.l 2),f_ 94 <|.mks 1 1 [.int .i64 0] [(0, .l 3)],f_ 95 <|.rcall 422 [.l 0, .l 4] 0 0 20900]
def r423_19 : List Op := [f_ 96 <|.fad (.g 3) 12,t_ 97 <|.load (.v 3) none (.l 0),t_ 98 <|.len false (.l 1),t_ 99 <|.mov (ci 0)]
def r423_20 : List Op := [t_ 100 <|.bin .lss (.g 99) (.g 98)]
def r423_21 : List Op := [f_ 101 <|.iad 11 (.g 97) (.g 99),f_ 102 <|.load (.c) (some 11) (.l 0),t_ 9 <|.alloc [.int .i64 0, .int .i64 0, .int .i64 0, .int .i64 0, .int .i64 0, .int .i64 0, .bool false, .str [], .slice 2 [], .str [], .bool false],u_ <|.store (.v 9) 11 (.l 2) (.l 1)]
def r423_22 : List Op := [f_ 103 <|.mov (.g 0),f_ 104 <|.fad (.g 9) 0,f_ 105 <|.load (.v 9) none (.l 1),f_ 106 <|.fad (.g 9) 1,f_ 107 <|.load (.v 9) none (.l 3),f_ 108 <|.fad (.g 9) 2,f_ 109 <|.fad (.l 5) 0,f_ 110 <|.load (.v 9) none (.l 6),f_ 111 <|.mks 1 3 [.int .i64 0] [(0, .l 2), (1, .l 4), (2, .l 7)],f_ 112 <|.rcall 422 [.l 0, .l 8] 0 0 21000]
def r423_23 : List Op := [f_ 113 <|.mov (.g 0),f_ 114 <|.fad (.g 9) 2,f_ 115 <|.fad (.l 1) 1,f_ 116 <|.load (.v 9) (some 3) (.l 2),f_ 117 <|.mks 3 1 [.int .i64 0, .int .i64 0, .int .i64 0] [(0, .l 3)],f_ 118 <|.rcall 421 [.l 0, .l 4] 0 0 21100]
def r423_24 : List Op := [f_ 119 <|.mov (.g 0),f_ 120 <|.fad (.g 9) 2,f_ 121 <|.fad (.l 1) 4,f_ 122 <|.load (.v 9) none (.l 2),f_ 123 <|.rcall 458 [.l 0, .l 3] 0 0 21200]
def r423_25 : List Op := [f_ 124 <|.mov (.g 0),f_ 125 <|.fad (.g 9) 2,f_ 126 <|.fad (.l 1) 5,f_ 127 <|.load (.v 9) none (.l 2),f_ 128 <|.mks 1 1 [.str []] [(0, .l 3)],f_ 129 <|.rcall 457 [.l 0, .l 4] 0 0 21300]
def r423_26 : List Op := [f_ 130 <|.bin .add (.g 99) (ci 1),t_ 99 <|.mov (.l 0)]
def b423_2 : C := .seq (.region false r423_20) (.seq (.cond (.g 100) (.skip) (.exit 4)) (.seq (.block 5 (.seq (.region false r423_21) (.seq (.region false r423_22) (.seq (.region false r423_23) (.seq (.region false r423_24) (.region false r423_25)))))) (.region false r423_26)))
def l423_2 : C := .loop [] [0, 0, 9000] [9] [21000, 21100, 21200, 21300] b423_2
def c423 : C := .seq (.region false r423_0) (.seq (.region false r423_1) (.seq (.region false r423_2) (.seq (.region false r423_3) (.seq (.region false r423_4) (.seq (.seq (.region false r423_5) (.block 0 (l423_0))) (.seq (.region false r423_18) (.seq (.region false r423_19) (.block 4 (l423_2)))))))))
def F423 : F := ⟨2, [0, 1, 3, 5, 7, 9, 50, 51, 52, 53, 68, 69, 70, 71, 97, 98, 99, 100], [], none, c423⟩
attribute [go_sem] r423_0 r423_1 r423_2 r423_3 r423_4 r423_5 r423_6 r423_7 r423_8 r423_9 r423_10 r423_11 r423_12 r423_13 r423_14 r423_15 r423_16 b423_1 r423_17 b423_0 r423_18 r423_19 r423_20 r423_21 r423_22 r423_23 r423_24 r423_25 r423_26 b423_2 c423 F423
def r427_0 : List Op := [t_ 2 <|.box (.g 0),t_ 3 <|.box (.g 1),t_ 4 <|.alloc [.int .i64 0, .int .i64 0, .int .i64 0, .slice 1 [], .int .i64 0, .str [], .str [], .slice 1 [], .slice 36 []],t_ 5 <|.mov (cb false)]
def r427_1 : List Op := [f_ 7 <|.fad (.g 2) 1,f_ 8 <|.load (.v 2) none (.l 0),f_ 9 <|.fn 462 [.g 3] [3],f_ 10 <|.call (.k 463) .no none [.l 1, .l 2],t_ 6 <|.mov (.l 3)]
def r427_2 : List Op := [f_ 11 <|.mov (.g 6),t_ 12 <|.bin .lss (.l 0) (ci 0)]
def r427_3 : List Op := [f_ 13 <|.load (.v 3) none (.g 3),f_ 14 <|.fad (.g 2) 0,f_ 15 <|.load (.v 2) none (.l 1),f_ 16 <|.build [.int .i64 0, .int .i64 0, .slice 1 [], .int .i64 0, .str [], .str [], .slice 1 []] [(0, 1, .l 2)],f_ 17 <|.build [.int .i64 0, .int .i64 0, .int .i64 0, .slice 1 [], .int .i64 0, .str [], .str [], .slice 1 [], .slice 36 []] [(0, 1, .l 0), (1, 7, .l 3)],u_ <|.store (.v 4) 9 (.g 4) (.l 4),t_ 5 <|.mov (cb false)]
def r427_4 : List Op := [f_ 18 <|.fad (.g 2) 1,f_ 19 <|.load (.v 2) none (.l 0),f_ 20 <|.mov (.g 6),f_ 21 <|.iad 9 (.l 1) (.l 2),f_ 22 <|.load (.c) (some 9) (.l 3),u_ <|.store (.v 4) 9 (.g 4) (.l 4),t_ 5 <|.mov (cb true)]
def c427 : C := .seq (.region false r427_0) (.seq (.region false r427_1) (.seq (.seq (.region false r427_2) (.cond (.g 12) (.seq (.region false r427_3) (.ret)) (.skip))) (.seq (.region false r427_4) (.ret))))
def F427 : F := ⟨2, [0, 1, 2, 3, 4, 5, 6, 12], [.cell 4 (some 9), .t 5], none, c427⟩
attribute [go_sem] r427_0 r427_1 r427_2 r427_3 r427_4 c427 F427
def r428_0 : List Op := [t_ 2 <|.alloc [.slice 17 [], .int .i64 0, .int .i64 0, .int .i64 0, .int .i64 0],t_ 3 <|.mov (ci 0)]
def r428_1 : List Op := [f_ 6 <|.mov (.g 0),f_ 7 <|.build [.str [], .bool false] [(0, 1, .l 0)],f_ 8 <|.box (.l 1),t_ 4 <|.mov (.l 2)]
def r428_2 : List Op := [f_ 9 <|.mov (.g 4),f_ 10 <|.rcall 464 [.l 0] 0 8 20000,f_ 11 <|.mov (.g 4),f_ 12 <|.rcall 465 [.l 2] 0 8 20100,f_ 13 <|.build [.nslice 17, .int .i64 0, .int .i64 0, .int .i64 0, .int .i64 0] [(1, 3, .l 1), (4, 1, .l 3)],t_ 5 <|.alloc [.nslice 17, .int .i64 0, .int .i64 0, .int .i64 0, .int .i64 0],u_ <|.store (.v 5) 5 (.l 5) (.l 4)]
def r428_3 : List Op := [f_ 14 <|.mov (.g 4),t_ 15 <|.rcall 466 [.l 0] 0 8 20200,t_ 16 <|.mov (ci 0)]
def r428_4 : List Op := [t_ 17 <|.bin .lss (.g 16) (.g 15)]
def r428_5 : List Op := [f_ 18 <|.fad (.g 5) 0,f_ 19 <|.load (.v 5) none (.l 0),f_ 20 <|.mov (.g 4),f_ 21 <|.rcall 467 [.l 2] 0 8 20300,f_ 22 <|.mks 17 1 [.int .i64 0, .int .i64 0, .str [], .str [], .int .i64 0, .slice 2 [], .int .i64 0, .int .i64 0, .int .i64 0, .int .i64 0, .int .i64 0, .int .i64 0, .slice 11 [], .int .i64 0, .int .i64 0, .int .i64 0, .int .i64 0] [(0, .l 3)],f_ 23 <|.app 23 17 (.l 1) (.l 4),f_ 24 <|.fad (.g 5) 0,u_ <|.store (.v 5) 1 (.l 6) (.l 5)]
def r428_6 : List Op := [f_ 25 <|.bin .add (.g 16) (ci 1),t_ 16 <|.mov (.l 0)]
def b428_0 : C := .seq (.region false r428_4) (.seq (.cond (.g 17) (.skip) (.exit 0)) (.seq (.block 1 (.region true r428_5)) (.region false r428_6)))
def l428_0 : C := .loop [] [] [] [] b428_0
def r428_7 : List Op := [f_ 26 <|.mov (.g 4),f_ 27 <|.nilc (.l 0),f_ 28 <|.fad (.l 1) 1,f_ 29 <|.load (.v 8) none (.l 2),f_ 30 <|.mov (.l 3),n_ 31 4 <|.mov (.g 4),n_ 32 4 <|.nilc (.l 5),n_ 33 4 <|.fad (.l 6) 0,n_ 34 4 <|.load (.v 8) none (.l 7),n_ 35 4 <|.bin .neq (.l 8) (.c (.str [])),f_ 36 <|.pick (.l 4) (cb true) (.l 9),f_ 37 <|.mov (.l 10),n_ 38 11 <|.load (.v 5) (some 5) (.g 5),n_ 39 11 <|.call (.k 249) .borrow none [.l 12],n_ 40 11 <|.un .not (.l 13),t_ 41 <|.pick (.l 11) (cb true) (.l 14)]
def r428_8 : List Op := [f_ 42 <|.build [.slice 17 [], .int .i64 0, .int .i64 0, .int .i64 0, .int .i64 0] [],u_ <|.store (.v 2) 5 (.g 2) (.l 0),t_ 3 <|.mov (ci 3)]
def r428_9 : List Op := [f_ 43 <|.load (.v 5) (some 5) (.g 5),u_ <|.store (.v 2) 5 (.g 2) (.l 0),t_ 3 <|.mov (ci 0)]
def c428 : C := .seq (.region false r428_0) (.seq (.region false r428_1) (.seq (.region false r428_2) (.seq (.seq (.region false r428_3) (.block 0 (l428_0))) (.seq (.seq (.region false r428_7) (.cond (.g 41) (.seq (.region false r428_8) (.ret)) (.skip))) (.seq (.region false r428_9) (.ret))))))
def F428 : F := ⟨1, [0, 2, 3, 4, 5, 15, 16, 17, 41], [.cell 2 (some 5), .t 3], none, c428⟩
attribute [go_sem] r428_0 r428_1 r428_2 r428_3 r428_4 r428_5 r428_6 b428_0 r428_7 r428_8 r428_9 c428 F428
def r429_0 : List Op := [t_ 4 <|.mov (.c (.slice 36 []))]
def r429_1 : List Op := [t_ 5 <|.mko 36]
def r429_2 : List Op := [t_ 8 <|.mov (.g 1),t_ 9 <|.len false (.l 0),t_ 10 <|.mov (ci 0)]
def r429_3 : List Op := [t_ 11 <|.bin .lss (.g 10) (.g 9)]
def r429_4 : List Op := [f_ 12 <|.iad 7 (.g 8) (.g 10),f_ 13 <|.load (.c) (some 7) (.l 0),t_ 7 <|.alloc [.int .i64 0, .int .i64 0, .int .i64 0, .int .i64 0, .int .i64 0, .slice 1 [], .str []],u_ <|.store (.v 7) 7 (.l 2) (.l 1)]
def r429_5 : List Op := [f_ 14 <|.mov (.g 5),f_ 15 <|.fad (.g 7) 0,f_ 16 <|.load (.v 7) none (.l 1),f_ 17 <|.bin .add (ci 35) (.l 2),f_ 18 <|.bin .sub (.l 3) (ci 1),f_ 19 <|.fad (.g 7) 1,f_ 20 <|.load (.v 7) none (.l 5),f_ 21 <|.fad (.g 7) 2,f_ 22 <|.load (.v 7) none (.l 7),f_ 23 <|.mov (.g 0),f_ 24 <|.fad (.g 7) 3,f_ 25 <|.load (.v 7) none (.l 10),f_ 26 <|.fad (.g 7) 4,f_ 27 <|.load (.v 7) none (.l 12),f_ 28 <|.fad (.g 7) 5,f_ 29 <|.load (.v 7) none (.l 14),f_ 30 <|.fad (.g 7) 6,f_ 31 <|.load (.v 7) none (.l 16),f_ 32 <|.build [.int .i64 0, .int .i64 0, .int .i64 0, .int .i64 0, .int .i64 0, .int .i64 0, .int .i64 0, .int .i64 0, .int .i64 0, .int .i64 0, .int .i64 0, .int .i64 0, .str [], .int .i64 0, .int .i64 0, .int .i64 0, .str [], .str [], .bool false, .str [], .int .i64 0, .int .i64 0, .int .i64 0, .str [], .int .i64 0, .int .i64 0, .int .i64 0, .int .i64 0, .int .i64 0, .bool false, .str [], .slice 2 [], .str [], .bool false, .slice 5 [], .slice 1 []] [(0, 1, .l 4), (1, 1, .l 6), (2, 1, .l 8), (7, 1, .l 9), (4, 1, .l 11), (8, 1, .l 13), (35, 1, .l 15), (12, 1, .l 17)],f_ 33 <|.mks 36 1 [.int .i64 0, .int .i64 0, .int .i64 0, .int .i64 0, .int .i64 0, .int .i64 0, .int .i64 0, .int .i64 0, .int .i64 0, .int .i64 0, .int .i64 0, .int .i64 0, .str [], .int .i64 0, .int .i64 0, .int .i64 0, .str [], .str [], .bool false, .str [], .int .i64 0, .int .i64 0, .int .i64 0, .str [], .int .i64 0, .int .i64 0, .int .i64 0, .int .i64 0, .int .i64 0, .bool false, .str [], .slice 2 [], .str [], .bool false, .slice 5 [], .slice 1 []] [(0, .l 18)],f_ 34 <|.app 5 36 (.l 0) (.l 19),t_ 5 <|.mov (.l 20)]
def r429_6 : List Op := [f_ 35 <|.bin .add (.g 10) (ci 1),t_ 10 <|.mov (.l 0)]
def b429_0 : C := .seq (.region false r429_3) (.seq (.cond (.g 11) (.skip) (.exit 0)) (.seq (.block 1 (.seq (.region false r429_4) (.region false r429_5))) (.region false r429_6)))
def l429_0 : C := .loop [] [] [7] [] b429_0
def r429_7 : List Op := [f_ 36 <|.mov (.g 5),t_ 4 <|.mov (.l 0)]
def c429 : C := .seq (.region false r429_0) (.seq (.region false r429_1) (.seq (.seq (.region false r429_2) (.block 0 (l429_0))) (.seq (.region false r429_7) (.ret))))
def F429 : F := ⟨2, [0, 1, 4, 5, 7, 8, 9, 10, 11], [.t 4], some 0, c429⟩
attribute [go_sem] r429_0 r429_1 r429_2 r429_3 r429_4 r429_5 r429_6 b429_0 r429_7 c429 F429
def r430_0 : List Op := [t_ 2 <|.mov (cb false)]
def r430_1 : List Op := [f_ 6 <|.mov (.g 0),f_ 7 <|.call (.k 428) .no none [.l 0],f_ 5 <|.mov (.l 1),f_ 8 <|.ext (.l 2) 0,f_ 9 <|.ext (.l 2) 1,f_ 3 <|.alloc [.slice 17 [], .int .i64 0, .int .i64 0, .int .i64 0, .int .i64 0],u_ <|.store (.v 3) 5 (.l 5) (.l 3),t_ 4 <|.mov (.l 4)]
def r430_2 : List Op := [f_ 10 <|.mov (.g 4),f_ 11 <|.bin .eql (.l 0) (ci 0),t_ 2 <|.mov (.l 1)]
def c430 : C := .seq (.region false r430_0) (.seq (.region false r430_1) (.seq (.region false r430_2) (.ret)))
def F430 : F := ⟨1, [0, 2, 4], [.t 2], none, c430⟩
attribute [go_sem] r430_0 r430_1 r430_2 c430 F430
def r431_0 : List Op := [t_ 2 <|.box (.g 0),t_ 3 <|.mov (cb false)]
def r431_1 : List Op := [f_ 4 <|.load (.v 2) (some 36) (.g 2),f_ 5 <|.call (.k 341) .no none [.l 0],f_ 6 <|.un .not (.l 1),f_ 7 <|.mov (.l 2),n_ 8 3 <|.fad (.g 2) 1,n_ 9 3 <|.load (.v 2) none (.l 4),n_ 10 3 <|.fad (.g 1) 0,n_ 11 3 <|.load (.c) none (.l 6),n_ 12 3 <|.bin .neq (.l 5) (.l 7),f_ 13 <|.pick (.l 3) (cb true) (.l 8),t_ 3 <|.mov (.l 9)]
def c431 : C := .seq (.region false r431_0) (.seq (.region false r431_1) (.ret))
def F431 : F := ⟨2, [0, 1, 2, 3], [.t 3], none, c431⟩
attribute [go_sem] r431_0 r431_1 c431 F431
def r432_0 : List Op := [t_ 4 <|.mov (cb false)]
def r432_1 : List Op := [f_ 5 <|.mov (.g 0),f_ 6 <|.mov (.g 1),f_ 7 <|.call (.k 468) .no none [.l 0, .l 1],f_ 8 <|.bin .geq (.l 2) (ci 0),t_ 4 <|.mov (.l 3)]
def c432 : C := .seq (.region false r432_0) (.seq (.region false r432_1) (.ret))
def F432 : F := ⟨2, [0, 1, 4], [.t 4], none, c432⟩
attribute [go_sem] r432_0 r432_1 c432 F432
def r437_0 : List Op := [t_ 2 <|.box (.g 0),t_ 3 <|.box (.g 1),t_ 4 <|.alloc [.int .i64 0, .slice 9 []],t_ 5 <|.mov (.c (.slice 36 []))]
def r437_1 : List Op := [f_ 13 <|.load (.v 2) (some 2) (.g 2),f_ 14 <|.fad (.g 3) 7,f_ 15 <|.load (.v 3) none (.l 1),f_ 16 <|.call (.k 427) .no none [.l 0, .l 2],f_ 12 <|.mov (.l 3),f_ 17 <|.ext (.l 4) 0,f_ 18 <|.ext (.l 4) 1,t_ 6 <|.alloc [.int .i64 0, .int .i64 0, .int .i64 0, .slice 1 [], .int .i64 0, .str [], .str [], .slice 1 [], .slice 36 []],u_ <|.store (.v 6) 9 (.l 7) (.l 5),t_ 7 <|.mov (.l 6)]
def r437_2 : List Op := [f_ 19 <|.mov (.g 7),f_ 20 <|.un .not (.l 0),f_ 21 <|.mov (.l 1),y_ 22 2 <|.fad (.g 3) 7,y_ 23 2 <|.load (.v 3) none (.l 3),y_ 24 2 <|.call (.k 368) .no none [.l 4],y_ 25 2 <|.un .not (.l 5),t_ 26 <|.pick (.l 2) (.l 6) (cb false)]
def r437_3 : List Op := [f_ 27 <|.load (.v 2) (some 2) (.g 2),u_ <|.store (.v 4) 2 (.g 4) (.l 0),t_ 5 <|.mov (.c (.slice 36 []))]
def r437_4 : List Op := [f_ 28 <|.fad (.g 3) 0,f_ 29 <|.load (.v 3) none (.l 0),f_ 30 <|.bin .eql (.l 1) (ci 35),f_ 31 <|.mov (.l 2),y_ 32 3 <|.fad (.g 3) 12,y_ 33 3 <|.load (.v 3) none (.l 4),y_ 34 3 <|.call (.k 430) .no none [.l 5],y_ 35 3 <|.un .not (.l 6),t_ 36 <|.pick (.l 3) (.l 7) (cb false)]
def r437_5 : List Op := [f_ 37 <|.load (.v 2) (some 2) (.g 2),u_ <|.store (.v 4) 2 (.g 4) (.l 0),t_ 5 <|.mov (.c (.slice 36 []))]
def r437_6 : List Op := [f_ 38 <|.fad (.g 6) 1,f_ 39 <|.load (.v 6) (some 7) (.l 0),f_ 40 <|.call (.k 41) .no none [.l 1],t_ 8 <|.mov (.l 2)]
def r437_7 : List Op := [f_ 42 <|.fad (.g 6) 1,f_ 43 <|.load (.v 6) (some 7) (.l 0),f_ 44 <|.fad (.g 3) 0,f_ 45 <|.load (.v 3) none (.l 2),f_ 46 <|.bin .sub (.l 3) (ci 35),f_ 47 <|.bin .add (.l 4) (ci 1),f_ 48 <|.fad (.g 3) 1,f_ 49 <|.load (.v 3) none (.l 6),f_ 50 <|.fad (.g 3) 2,f_ 51 <|.load (.v 3) none (.l 8),f_ 52 <|.fad (.g 3) 4,f_ 53 <|.load (.v 3) none (.l 10),f_ 54 <|.fad (.g 3) 8,f_ 55 <|.load (.v 3) none (.l 12),f_ 56 <|.fad (.g 3) 35,f_ 57 <|.load (.v 3) none (.l 14),f_ 58 <|.fad (.g 3) 12,f_ 59 <|.load (.v 3) none (.l 16),f_ 60 <|.build [.int .i64 0, .int .i64 0, .int .i64 0, .int .i64 0, .int .i64 0, .slice 1 [], .str []] [(0, 1, .l 5), (1, 1, .l 7), (2, 1, .l 9), (3, 1, .l 11), (4, 1, .l 13), (5, 1, .l 15), (6, 1, .l 17)],f_ 61 <|.call (.k 57) .no none [.l 1, .l 18],f_ 41 <|.mov (.l 19),f_ 62 <|.ext (.l 20) 0,f_ 63 <|.ext (.l 20) 1,t_ 9 <|.alloc [.int .i64 0, .int .i64 0, .slice 1 [], .int .i64 0, .str [], .str [], .slice 1 []],u_ <|.store (.v 9) 7 (.l 23) (.l 21),t_ 10 <|.mov (.l 22)]
def r437_8 : List Op := [f_ 64 <|.mov (.g 7),f_ 65 <|.un .not (.l 0),f_ 66 <|.mov (.l 1),y_ 67 2 <|.fad (.g 9) 1,y_ 68 2 <|.load (.v 9) none (.l 3),y_ 69 2 <|.bin .eql (.l 4) (ci 0),t_ 70 <|.pick (.l 2) (.l 5) (cb false)]
def r437_9 : List Op := [f_ 71 <|.load (.v 2) (some 2) (.g 2),u_ <|.store (.v 4) 2 (.g 4) (.l 0),t_ 5 <|.mov (.c (.slice 36 []))]
def r437_10 : List Op := [f_ 72 <|.fad (.g 3) 7,f_ 73 <|.load (.v 3) none (.l 0),f_ 74 <|.mov (.g 10),f_ 75 <|.call (.k 429) .no (some 0) [.l 1, .l 2],t_ 11 <|.mov (.l 3)]
def r437_11 : List Op := [f_ 76 <|.load (.v 9) (some 7) (.g 9),f_ 77 <|.fad (.g 6) 1,u_ <|.store (.v 6) 7 (.l 1) (.l 0)]
def r437_12 : List Op := [f_ 78 <|.load (.v 9) (some 7) (.g 9),f_ 79 <|.call (.k 41) .no none [.l 0],t_ 80 <|.un .not (.l 1)]
def r437_13 : List Op := [f_ 81 <|.mov (.g 8),f_ 82 <|.mov (.l 0),y_ 83 1 <|.load (.v 9) (some 7) (.g 9),y_ 84 1 <|.call (.k 40) .no none [.l 2],t_ 85 <|.pick (.l 1) (.l 3) (cb false)]
def r437_14 : List Op := [f_ 86 <|.mov (.g 11),f_ 87 <|.fad (.g 6) 8,f_ 88 <|.load (.v 6) none (.l 1),f_ 89 <|.app 75 36 (.l 0) (.l 2),t_ 11 <|.mov (.l 3)]
def r437_15 : List Op := [f_ 90 <|.fad (.g 6) 8,u_ <|.store (.v 6) 1 (.l 0) (.c (.slice 36 []))]
def r437_16 : List Op := [f_ 91 <|.load (.v 2) (some 2) (.g 2),f_ 92 <|.load (.v 6) (some 9) (.g 6),f_ 93 <|.call (.k 473) .no none [.l 0, .l 1],f_ 94 <|.mov (.g 11),u_ <|.store (.v 4) 2 (.g 4) (.l 2),t_ 5 <|.mov (.l 3)]
def c437 : C := .seq (.region false r437_0) (.seq (.region false r437_1) (.seq (.seq (.region false r437_2) (.cond (.g 26) (.seq (.region false r437_3) (.ret)) (.skip))) (.seq (.seq (.region false r437_4) (.cond (.g 36) (.seq (.region false r437_5) (.ret)) (.skip))) (.seq (.region false r437_6) (.seq (.region false r437_7) (.seq (.seq (.region false r437_8) (.cond (.g 70) (.seq (.region false r437_9) (.ret)) (.skip))) (.seq (.region false r437_10) (.seq (.region false r437_11) (.seq (.seq (.region false r437_12) (.cond (.g 80) (.seq (.seq (.region false r437_13) (.cond (.g 85) (.region false r437_14) (.skip))) (.region false r437_15)) (.skip))) (.seq (.region false r437_16) (.ret)))))))))))
def F437 : F := ⟨2, [0, 1, 2, 3, 4, 5, 6, 7, 8, 9, 10, 11, 26, 36, 70, 80, 85], [.cell 4 (some 2), .t 5], none, c437⟩
attribute [go_sem] r437_0 r437_1 r437_2 r437_3 r437_4 r437_5 r437_6 r437_7 r437_8 r437_9 r437_10 r437_11 r437_12 r437_13 r437_14 r437_15 r437_16 c437 F437
def r439_0 : List Op := [t_ 3 <|.box (.g 0),t_ 4 <|.box (.g 1),t_ 5 <|.box (.g 2),t_ 6 <|.alloc [.int .i64 0, .int .i64 0, .int .i64 0, .int .i64 0, .int .i64 0, .int .i64 0, .int .i64 0, .int .i64 0, .int .i64 0, .int .i64 0, .int .i64 0, .int .i64 0, .str [], .int .i64 0, .int .i64 0, .int .i64 0, .str [], .str [], .bool false, .str [], .int .i64 0, .int .i64 0, .int .i64 0, .str [], .int .i64 0, .int .i64 0, .int .i64 0, .int .i64 0, .int .i64 0, .bool false, .str [], .slice 2 [], .str [], .bool false, .slice 5 [], .slice 1 []]]
def r439_1 : List Op := [f_ 7 <|.fad (.g 3) 0,f_ 8 <|.load (.v 3) none (.l 0),f_ 9 <|.fad (.g 4) 1,f_ 10 <|.load (.v 4) none (.l 2),f_ 11 <|.fad (.g 4) 7,f_ 12 <|.load (.v 4) none (.l 4),f_ 13 <|.fad (.g 4) 13,f_ 14 <|.fad (.l 6) 0,f_ 15 <|.load (.v 4) none (.l 7),f_ 16 <|.fad (.g 4) 13,f_ 17 <|.fad (.l 9) 1,f_ 18 <|.load (.v 4) none (.l 10),f_ 19 <|.build [.int .i64 0, .int .i64 0, .int .i64 0, .str [], .str [], .bool false, .str [], .int .i64 0, .int .i64 0, .int .i64 0, .str [], .int .i64 0] [(0, 1, .l 8), (1, 1, .l 11)],f_ 20 <|.load (.v 5) (some 9) (.g 5),f_ 21 <|.build [.int .i64 0, .int .i64 0, .int .i64 0, .int .i64 0, .int .i64 0, .int .i64 0, .int .i64 0, .int .i64 0, .int .i64 0, .int .i64 0, .int .i64 0, .int .i64 0, .str [], .int .i64 0, .int .i64 0, .int .i64 0, .str [], .str [], .bool false, .str [], .int .i64 0, .int .i64 0, .int .i64 0, .str [], .int .i64 0, .int .i64 0, .int .i64 0, .int .i64 0, .int .i64 0, .bool false, .str [], .slice 2 [], .str [], .bool false, .slice 5 [], .slice 1 []] [(0, 1, .c (.int .i64 2)), (1, 1, .l 1), (2, 1, .l 3), (7, 1, .l 5), (13, 12, .l 12), (25, 9, .l 13)],u_ <|.store (.v 6) 36 (.g 6) (.l 14)]
def c439 : C := .seq (.region false r439_0) (.seq (.region false r439_1) (.ret))
def F439 : F := ⟨3, [0, 1, 2, 3, 4, 5, 6], [.cell 6 (some 36)], none, c439⟩
attribute [go_sem] r439_0 r439_1 c439 F439
def r440_0 : List Op := [t_ 5 <|.box (.g 0),t_ 6 <|.box (.g 1),t_ 7 <|.box (.g 2),t_ 9 <|.box (.g 4),t_ 10 <|.alloc [.int .i64 0, .slice 9 []],t_ 11 <|.mov (.c (.slice 36 []))]
def r440_1 : List Op := [f_ 18 <|.fad (.g 7) 1,f_ 19 <|.load (.v 7) (some 3) (.l 0),t_ 12 <|.alloc [.int .i64 0, .int .i64 0, .int .i64 0],u_ <|.store (.v 12) 3 (.l 2) (.l 1)]
def r440_2 : List Op := [f_ 20 <|.fad (.g 5) 0,f_ 21 <|.load (.v 5) none (.l 0),f_ 22 <|.fad (.g 12) 2,u_ <|.store (.v 12) 1 (.l 2) (.l 1)]
def r440_3 : List Op := [f_ 24 <|.load (.v 12) (some 3) (.g 12),f_ 25 <|.build [.int .i64 0, .int .i64 0, .int .i64 0] [(0, 3, .l 0)],f_ 26 <|.mov (.g 3),f_ 27 <|.call (.k 474) .no none [.l 1, .l 2],f_ 23 <|.mov (.l 3),f_ 28 <|.ext (.l 4) 0,f_ 29 <|.ext (.l 4) 1,f_ 30 <|.ext (.l 4) 2,f_ 13 <|.alloc [.int .i64 0, .int .i64 0, .int .i64 0],t_ 14 <|.alloc [.int .i64 0, .int .i64 0, .int .i64 0],u_ <|.store (.v 13) 3 (.l 8) (.l 5),u_ <|.store (.v 14) 3 (.l 9) (.l 6),t_ 15 <|.mov (.l 7)]
def r440_4 : List Op := [f_ 31 <|.mov (.g 15),t_ 32 <|.bin .neq (.l 0) (ci 0)]
def r440_5 : List Op := [f_ 33 <|.load (.v 5) (some 2) (.g 5),f_ 34 <|.load (.v 5) (some 2) (.g 5),f_ 35 <|.load (.v 9) (some 36) (.g 9),f_ 36 <|.mov (.g 15),f_ 37 <|.build [.int .i64 0, .int .i64 0, .int .i64 0, .int .i64 0, .bool false, .str [], .slice 2 [], .str [], .bool false] [(0, 1, .l 3)],f_ 38 <|.call (.k 439) .no none [.l 1, .l 2, .l 4],f_ 39 <|.mks 36 1 [.int .i64 0, .int .i64 0, .int .i64 0, .int .i64 0, .int .i64 0, .int .i64 0, .int .i64 0, .int .i64 0, .int .i64 0, .int .i64 0, .int .i64 0, .int .i64 0, .str [], .int .i64 0, .int .i64 0, .int .i64 0, .str [], .str [], .bool false, .str [], .int .i64 0, .int .i64 0, .int .i64 0, .str [], .int .i64 0, .int .i64 0, .int .i64 0, .int .i64 0, .int .i64 0, .bool false, .str [], .slice 2 [], .str [], .bool false, .slice 5 [], .slice 1 []] [(0, .l 5)],u_ <|.store (.v 10) 2 (.g 10) (.l 0),t_ 11 <|.mov (.l 6)]
def r440_6 : List Op := [f_ 41 <|.load (.v 7) (some 5) (.g 7),f_ 42 <|.fad (.g 9) 3,f_ 43 <|.load (.v 9) none (.l 1),f_ 44 <|.fad (.g 9) 4,f_ 45 <|.load (.v 9) none (.l 3),f_ 46 <|.fad (.g 9) 13,f_ 47 <|.load (.v 9) (some 12) (.l 5),f_ 48 <|.load (.v 14) (some 3) (.g 14),f_ 49 <|.mov (.g 3),f_ 50 <|.call (.k 240) .no none [.l 0, .l 2, .l 4, .l 6, .l 7, .l 8],f_ 40 <|.mov (.l 9),f_ 51 <|.ext (.l 10) 0,f_ 52 <|.ext (.l 10) 1,t_ 16 <|.alloc [.slice 17 [], .int .i64 0, .int .i64 0, .int .i64 0, .int .i64 0],t_ 17 <|.alloc [.int .i64 0, .int .i64 0, .int .i64 0, .int .i64 0, .bool false, .str [], .slice 2 [], .str [], .bool false],u_ <|.store (.v 16) 5 (.l 13) (.l 11),u_ <|.store (.v 17) 9 (.l 14) (.l 12)]
def r440_7 : List Op := [f_ 53 <|.fad (.g 17) 0,f_ 54 <|.load (.v 17) none (.l 0),f_ 55 <|.bin .neq (.l 1) (ci 0),f_ 56 <|.mov (.l 2),y_ 57 3 <|.fad (.g 17) 0,y_ 58 3 <|.load (.v 17) none (.l 4),y_ 59 3 <|.bin .neq (.l 5) (ci 15),t_ 60 <|.pick (.l 3) (.l 6) (cb false)]
def r440_8 : List Op := [f_ 61 <|.load (.v 5) (some 2) (.g 5),f_ 62 <|.load (.v 5) (some 2) (.g 5),f_ 63 <|.load (.v 9) (some 36) (.g 9),f_ 64 <|.load (.v 17) (some 9) (.g 17),f_ 65 <|.call (.k 439) .no none [.l 1, .l 2, .l 3],f_ 66 <|.mks 36 1 [.int .i64 0, .int .i64 0, .int .i64 0, .int .i64 0, .int .i64 0, .int .i64 0, .int .i64 0, .int .i64 0, .int .i64 0, .int .i64 0, .int .i64 0, .int .i64 0, .str [], .int .i64 0, .int .i64 0, .int .i64 0, .str [], .str [], .bool false, .str [], .int .i64 0, .int .i64 0, .int .i64 0, .str [], .int .i64 0, .int .i64 0, .int .i64 0, .int .i64 0, .int .i64 0, .bool false, .str [], .slice 2 [], .str [], .bool false, .slice 5 [], .slice 1 []] [(0, .l 4)],u_ <|.store (.v 10) 2 (.g 10) (.l 0),t_ 11 <|.mov (.l 5)]
def r440_9 : List Op := [f_ 67 <|.load (.v 5) (some 2) (.g 5),f_ 68 <|.load (.v 6) (some 9) (.g 6),f_ 69 <|.load (.v 16) (some 5) (.g 16),f_ 70 <|.load (.v 5) (some 2) (.g 5),f_ 71 <|.load (.v 9) (some 36) (.g 9),f_ 72 <|.load (.v 17) (some 9) (.g 17),f_ 73 <|.call (.k 439) .no none [.l 3, .l 4, .l 5],f_ 74 <|.mks 36 1 [.int .i64 0, .int .i64 0, .int .i64 0, .int .i64 0, .int .i64 0, .int .i64 0, .int .i64 0, .int .i64 0, .int .i64 0, .int .i64 0, .int .i64 0, .int .i64 0, .str [], .int .i64 0, .int .i64 0, .int .i64 0, .str [], .str [], .bool false, .str [], .int .i64 0, .int .i64 0, .int .i64 0, .str [], .int .i64 0, .int .i64 0, .int .i64 0, .int .i64 0, .int .i64 0, .bool false, .str [], .slice 2 [], .str [], .bool false, .slice 5 [], .slice 1 []] [(0, .l 6)],f_ 75 <|.call (.k 442) .no none [.l 0, .l 1, .l 2, .l 7],f_ 76 <|.ext (.l 8) 0,f_ 77 <|.ext (.l 8) 1,u_ <|.store (.v 10) 2 (.g 10) (.l 9),t_ 11 <|.mov (.l 10)]
def c440 : C := .seq (.region false r440_0) (.seq (.region false r440_1) (.seq (.region false r440_2) (.seq (.region false r440_3) (.seq (.seq (.region false r440_4) (.cond (.g 32) (.seq (.region true r440_5) (.ret)) (.skip))) (.seq (.region false r440_6) (.seq (.seq (.region false r440_7) (.cond (.g 60) (.seq (.region true r440_8) (.ret)) (.skip))) (.seq (.region true r440_9) (.ret))))))))
def F440 : F := ⟨5, [0, 1, 2, 3, 4, 5, 6, 7, 9, 10, 11, 12, 14, 15, 16, 17, 32, 60], [.cell 10 (some 2), .t 11], none, c440⟩
attribute [go_sem] r440_0 r440_1 r440_2 r440_3 r440_4 r440_5 r440_6 r440_7 r440_8 r440_9 c440 F440
def r442_0 : List Op := [t_ 4 <|.box (.g 0),t_ 5 <|.box (.g 1),t_ 6 <|.box (.g 2),t_ 8 <|.alloc [.int .i64 0, .slice 9 []],t_ 9 <|.mov (.c (.slice 36 []))]
def r442_1 : List Op := [f_ 17 <|.load (.v 6) (some 5) (.g 6),f_ 18 <|.call (.k 401) .no none [.l 0],f_ 16 <|.mov (.l 1),f_ 19 <|.ext (.l 2) 0,f_ 20 <|.ext (.l 2) 1,t_ 10 <|.mov (.l 3),f_ 11 <|.mov (.l 4)]
def r442_2 : List Op := [f_ 22 <|.fad (.g 5) 1,f_ 23 <|.load (.v 5) (some 7) (.l 0),f_ 24 <|.mov (.g 10),f_ 25 <|.call (.k 47) .no none [.l 1, .l 2],f_ 21 <|.mov (.l 3),f_ 26 <|.ext (.l 4) 0,f_ 27 <|.ext (.l 4) 1,f_ 28 <|.ext (.l 4) 2,t_ 12 <|.alloc [.int .i64 0, .int .i64 0, .slice 1 [], .int .i64 0, .str [], .str [], .slice 1 []],u_ <|.store (.v 12) 7 (.l 8) (.l 5),t_ 13 <|.mov (.l 6),t_ 14 <|.mov (.l 7)]
def r442_3 : List Op := [f_ 29 <|.mov (.g 14),t_ 30 <|.bin .neq (.l 0) (ci 0)]
def r442_4 : List Op := [f_ 31 <|.load (.v 4) (some 2) (.g 4),u_ <|.store (.v 8) 2 (.g 8) (.l 0),t_ 9 <|.mov (.c (.slice 36 []))]
def r442_5 : List Op := [f_ 32 <|.fad (.g 5) 0,f_ 33 <|.load (.v 5) none (.l 0),f_ 34 <|.mov (.g 13),f_ 35 <|.call (.k 429) .no (some 0) [.l 1, .l 2],t_ 15 <|.mov (.l 3)]
def r442_6 : List Op := [f_ 36 <|.load (.v 12) (some 7) (.g 12),f_ 37 <|.mov (.g 3),f_ 38 <|.fad (.g 5) 1,u_ <|.store (.v 5) 7 (.l 2) (.l 0),f_ 39 <|.fad (.g 5) 8,u_ <|.store (.v 5) 1 (.l 4) (.l 1)]
def r442_7 : List Op := [f_ 40 <|.load (.v 12) (some 7) (.g 12),f_ 41 <|.call (.k 41) .no none [.l 0],t_ 42 <|.un .not (.l 1)]
def r442_8 : List Op := [f_ 43 <|.mov (.g 15),f_ 44 <|.mov (.g 3),f_ 45 <|.app 35 36 (.l 0) (.l 1),t_ 15 <|.mov (.l 2),f_ 46 <|.fad (.g 5) 8,u_ <|.store (.v 5) 1 (.l 4) (.c (.slice 36 []))]
def r442_9 : List Op := [f_ 47 <|.load (.v 4) (some 2) (.g 4),f_ 48 <|.load (.v 5) (some 9) (.g 5),f_ 49 <|.call (.k 473) .no none [.l 0, .l 1],f_ 50 <|.mov (.g 15),u_ <|.store (.v 8) 2 (.g 8) (.l 2),t_ 9 <|.mov (.l 3)]
def c442 : C := .seq (.region false r442_0) (.seq (.region false r442_1) (.seq (.region false r442_2) (.seq (.seq (.region false r442_3) (.cond (.g 30) (.seq (.region false r442_4) (.ret)) (.skip))) (.seq (.region false r442_5) (.seq (.region false r442_6) (.seq (.seq (.region false r442_7) (.cond (.g 42) (.region false r442_8) (.skip))) (.seq (.region false r442_9) (.ret))))))))
def F442 : F := ⟨4, [0, 1, 2, 3, 4, 5, 6, 8, 9, 10, 12, 13, 14, 15, 30, 42], [.cell 8 (some 2), .t 9], none, c442⟩
attribute [go_sem] r442_0 r442_1 r442_2 r442_3 r442_4 r442_5 r442_6 r442_7 r442_8 r442_9 c442 F442
def r455_0 : List Op := [t_ 1 <|.box (.g 0),t_ 2 <|.mov (.c (.str [])),t_ 3 <|.mov (ci 0)]
def r455_1 : List Op := [f_ 4 <|.load (.v 1) (some 3) (.g 1),f_ 5 <|.call (.k 28) .no none [.l 0],t_ 6 <|.un .not (.l 1)]
def r455_2 : List Op := [t_ 2 <|.mov (.c (.str [])),t_ 3 <|.mov (ci 1)]
def r455_3 : List Op := [f_ 7 <|.fad (.g 1) 0,f_ 8 <|.load (.v 1) none (.l 0),f_ 9 <|.fad (.g 1) 1,f_ 10 <|.load (.v 1) none (.l 2),f_ 11 <|.fad (.g 1) 2,f_ 12 <|.load (.v 1) none (.l 4),f_ 13 <|.mks 1 3 [.int .i64 0] [(0, .l 1), (1, .l 3), (2, .l 5)],f_ 14 <|.call (.k 483) .no none [.l 6],f_ 15 <|.ext (.l 7) 0,f_ 16 <|.ext (.l 7) 1,t_ 2 <|.mov (.l 8),t_ 3 <|.mov (.l 9)]
def c455 : C := .seq (.region false r455_0) (.seq (.seq (.region false r455_1) (.cond (.g 6) (.seq (.region false r455_2) (.ret)) (.skip))) (.seq (.region false r455_3) (.ret)))
def F455 : F := ⟨1, [0, 1, 2, 3, 6], [.t 2, .t 3], none, c455⟩
attribute [go_sem] r455_0 r455_1 r455_2 r455_3 c455 F455
def r456_0 : List Op := [t_ 2 <|.mov (.c (.str [])),t_ 3 <|.mov (ci 0)]
def r456_1 : List Op := [f_ 5 <|.mov (.g 0),t_ 6 <|.bin .lss (.l 0) (ci 0)]
def r456_2 : List Op := [t_ 2 <|.mov (.c (.str [])),t_ 3 <|.mov (ci 1)]
def r456_3 : List Op := [t_ 4 <|.mko 1]
def r456_4 : List Op := [f_ 7 <|.mov (.g 0),t_ 8 <|.bin .geq (.l 0) (ci 128)]
def r456_5 : List Op := [f_ 9 <|.mov (.g 4),f_ 10 <|.mov (.g 0),f_ 11 <|.conv (.int .u8) (.l 1),f_ 12 <|.bin .or (.l 2) (.c (.int .u8 128)),f_ 13 <|.mks 1 1 [.int .u8 0] [(0, .l 3)],f_ 14 <|.app 4 1 (.l 0) (.l 4),t_ 4 <|.mov (.l 5)]
def r456_6 : List Op := [f_ 15 <|.mov (.g 0),f_ 16 <|.sh .shr (.l 0) (.c (.int .u64 7)),t_ 0 <|.mov (.l 1)]
def b456_0 : C := .seq (.seq (.region false r456_4) (.cond (.g 8) (.skip) (.exit 0))) (.block 1 (.seq (.region false r456_5) (.region false r456_6)))
def l456_0 : C := .loop [] [] [] [] b456_0
def r456_7 : List Op := [f_ 17 <|.mov (.g 4),f_ 18 <|.mov (.g 0),f_ 19 <|.conv (.int .u8) (.l 1),f_ 20 <|.mks 1 1 [.int .u8 0] [(0, .l 2)],f_ 21 <|.app 4 1 (.l 0) (.l 3),f_ 22 <|.b2s (.l 4),t_ 2 <|.mov (.l 5),t_ 3 <|.mov (ci 0)]
def c456 : C := .seq (.region false r456_0) (.seq (.seq (.region false r456_1) (.cond (.g 6) (.seq (.region false r456_2) (.ret)) (.skip))) (.seq (.region false r456_3) (.seq (.block 0 (l456_0)) (.seq (.region false r456_7) (.ret)))))
def F456 : F := ⟨1, [0, 2, 3, 4, 6, 8], [.t 2, .t 3], none, c456⟩
attribute [go_sem] r456_0 r456_1 r456_2 r456_3 r456_4 r456_5 r456_6 b456_0 r456_7 c456 F456
def r457_0 : List Op := [t_ 6 <|.mov (.g 1),t_ 7 <|.len false (.l 0),t_ 8 <|.mov (ci 0)]
def r457_1 : List Op := [t_ 9 <|.bin .lss (.g 8) (.g 7)]
def r457_2 : List Op := [f_ 10 <|.iad 1 (.g 6) (.g 8),f_ 11 <|.load (.c) none (.l 0),t_ 5 <|.mov (.l 1)]
def r457_3 : List Op := [f_ 12 <|.mov (.g 0),f_ 13 <|.mov (.g 0),f_ 14 <|.nilc (.l 1),f_ 15 <|.fad (.l 2) 0,f_ 16 <|.load (.v 0) none (.l 3),f_ 17 <|.mov (.g 5),f_ 18 <|.call (.k 484) .no none [.l 5],f_ 19 <|.appd 1 (.l 4) (.l 6),f_ 20 <|.nilc (.l 0),f_ 21 <|.fad (.l 8) 0,u_ <|.store (.v 0) 1 (.l 9) (.l 7)]
def r457_4 : List Op := [f_ 22 <|.bin .add (.g 8) (ci 1),t_ 8 <|.mov (.l 0)]
def b457_0 : C := .seq (.region false r457_1) (.seq (.cond (.g 9) (.skip) (.exit 0)) (.seq (.block 1 (.seq (.region false r457_2) (.region true r457_3))) (.region false r457_4)))
def l457_0 : C := .loop [] [0, 0, 9000] [] [] b457_0
def c457 : C := .seq (.region false r457_0) (.block 0 (l457_0))
def F457 : F := ⟨2, [0, 1, 5, 6, 7, 8, 9], [], none, c457⟩
attribute [go_sem] r457_0 r457_1 r457_2 r457_3 r457_4 b457_0 c457 F457
def r458_0 : List Op := [f_ 4 <|.mov (.g 0),f_ 5 <|.mov (.g 0),f_ 6 <|.nilc (.l 1),f_ 7 <|.fad (.l 2) 0,f_ 8 <|.load (.v 0) none (.l 3),f_ 9 <|.mov (.g 1),f_ 10 <|.call (.k 485) .no none [.l 5],f_ 11 <|.appd 1 (.l 4) (.l 6),f_ 12 <|.nilc (.l 0),f_ 13 <|.fad (.l 8) 0,u_ <|.store (.v 0) 1 (.l 9) (.l 7)]
def c458 : C := .region true r458_0
def F458 : F := ⟨2, [0, 1], [], none, c458⟩
attribute [go_sem] r458_0 c458 F458
def r462_0 : List Op := [t_ 2 <|.box (.g 0),t_ 3 <|.mov (cb false)]
def r462_1 : List Op := [f_ 4 <|.fad (.g 2) 0,f_ 5 <|.load (.v 2) none (.l 0),f_ 6 <|.load (.c) none (.g 1),f_ 7 <|.bin .eql (.l 1) (.l 2),t_ 3 <|.mov (.l 3)]
def c462 : C := .seq (.region false r462_0) (.seq (.region false r462_1) (.ret))
def F462 : F := ⟨2, [0, 1, 2, 3], [.t 3], none, c462⟩
attribute [go_sem] r462_0 r462_1 c462 F462
def r463_0 : List Op := [t_ 4 <|.mov (ci 0)]
def r463_1 : List Op := [f_ 6 <|.mov (.g 0),t_ 7 <|.len false (.l 0),t_ 8 <|.mov (ci 0)]
def r463_2 : List Op := [t_ 9 <|.bin .lss (.g 8) (.g 7)]
def r463_3 : List Op := [f_ 10 <|.mov (.g 8),t_ 5 <|.mov (.l 0)]
def r463_4 : List Op := [f_ 11 <|.mov (.g 1),f_ 12 <|.mov (.g 0),f_ 13 <|.mov (.g 5),f_ 14 <|.iad 9 (.l 1) (.l 2),f_ 15 <|.load (.c) (some 9) (.l 3),t_ 16 <|.call (.v (.l 0)) .no none [.l 4]]
def r463_5 : List Op := [f_ 17 <|.mov (.g 5),t_ 4 <|.mov (.l 0)]
def r463_6 : List Op := [f_ 18 <|.bin .add (.g 8) (ci 1),t_ 8 <|.mov (.l 0)]
def b463_0 : C := .seq (.region false r463_2) (.seq (.cond (.g 9) (.skip) (.exit 0)) (.seq (.block 1 (.seq (.region false r463_3) (.seq (.region false r463_4) (.cond (.g 16) (.seq (.region false r463_5) (.ret)) (.skip))))) (.region false r463_6)))
def l463_0 : C := .loop [] [] [] [] b463_0
def r463_7 : List Op := [t_ 4 <|.mov (ci (-1))]
def c463 : C := .seq (.region false r463_0) (.seq (.seq (.region false r463_1) (.block 0 (l463_0))) (.seq (.region false r463_7) (.ret)))
def F463 : F := ⟨2, [0, 1, 4, 5, 7, 8, 9, 16], [.t 4], none, c463⟩
attribute [go_sem] r463_0 r463_1 r463_2 r463_3 r463_4 r463_5 r463_6 b463_0 r463_7 c463 F463
def r464_0 : List Op := [t_ 2 <|.alloc [.int .i64 0, .int .i64 0, .int .i64 0]]
def r464_1 : List Op := [f_ 7 <|.mov (.g 0),f_ 8 <|.nilc (.l 0),f_ 9 <|.fad (.l 1) 0,f_ 10 <|.load (.v 0) none (.l 2),f_ 11 <|.call (.k 490) .no none [.l 3],f_ 6 <|.mov (.l 4),f_ 12 <|.ext (.l 5) 0,f_ 13 <|.ext (.l 5) 1,f_ 14 <|.ext (.l 5) 2,t_ 3 <|.alloc [.int .i64 0, .int .i64 0, .int .i64 0],u_ <|.store (.v 3) 3 (.l 9) (.l 6),t_ 4 <|.mov (.l 7),t_ 5 <|.mov (.l 8)]
def r464_2 : List Op := [f_ 15 <|.mov (.g 0),f_ 16 <|.nilc (.l 0),f_ 17 <|.fad (.l 1) 1,f_ 18 <|.load (.v 0) none (.l 2),f_ 19 <|.mov (.l 3),n_ 20 4 <|.mov (.g 5),n_ 21 4 <|.bin .neq (.l 5) (ci 0),t_ 22 <|.pick (.l 4) (cb true) (.l 6)]
def r464_3 : List Op := [f_ 23 <|.mov (.g 0),f_ 24 <|.nilc (.l 0),f_ 25 <|.fad (.l 1) 1,u_ <|.store (.v 0) 1 (.l 2) (cb true)]
def r464_4 : List Op := [f_ 26 <|.build [.int .i64 0, .int .i64 0, .int .i64 0] [],u_ <|.store (.v 2) 3 (.g 2) (.l 0)]
def r464_5 : List Op := [f_ 27 <|.mov (.g 0),f_ 28 <|.mov (.g 4),f_ 29 <|.nilc (.l 0),f_ 30 <|.fad (.l 2) 0,u_ <|.store (.v 0) 1 (.l 3) (.l 1)]
def r464_6 : List Op := [f_ 31 <|.load (.v 3) (some 3) (.g 3),u_ <|.store (.v 2) 3 (.g 2) (.l 0)]
def c464 : C := .seq (.region false r464_0) (.seq (.region false r464_1) (.seq (.seq (.region false r464_2) (.cond (.g 22) (.seq (.region false r464_3) (.seq (.region false r464_4) (.ret))) (.skip))) (.seq (.region false r464_5) (.seq (.region false r464_6) (.ret)))))
def F464 : F := ⟨1, [0, 2, 3, 4, 5, 22], [.cell 2 (some 3)], none, c464⟩
attribute [go_sem] r464_0 r464_1 r464_2 r464_3 r464_4 r464_5 r464_6 c464 F464
def r465_0 : List Op := [t_ 2 <|.mov (ci 0)]
def r465_1 : List Op := [f_ 7 <|.mov (.g 0),f_ 8 <|.nilc (.l 0),f_ 9 <|.fad (.l 1) 0,f_ 10 <|.load (.v 0) none (.l 2),f_ 11 <|.call (.k 491) .no none [.l 3],f_ 6 <|.mov (.l 4),f_ 12 <|.ext (.l 5) 0,f_ 13 <|.ext (.l 5) 1,f_ 14 <|.ext (.l 5) 2,t_ 3 <|.mov (.l 6),t_ 4 <|.mov (.l 7),t_ 5 <|.mov (.l 8)]
def r465_2 : List Op := [f_ 15 <|.mov (.g 0),f_ 16 <|.nilc (.l 0),f_ 17 <|.fad (.l 1) 1,f_ 18 <|.load (.v 0) none (.l 2),f_ 19 <|.mov (.l 3),n_ 20 4 <|.mov (.g 5),n_ 21 4 <|.bin .neq (.l 5) (ci 0),t_ 22 <|.pick (.l 4) (cb true) (.l 6)]
def r465_3 : List Op := [f_ 23 <|.mov (.g 0),f_ 24 <|.nilc (.l 0),f_ 25 <|.fad (.l 1) 1,u_ <|.store (.v 0) 1 (.l 2) (cb true)]
def r465_4 : List Op := [t_ 2 <|.mov (ci 0)]
def r465_5 : List Op := [f_ 26 <|.mov (.g 0),f_ 27 <|.mov (.g 4),f_ 28 <|.nilc (.l 0),f_ 29 <|.fad (.l 2) 0,u_ <|.store (.v 0) 1 (.l 3) (.l 1)]
def r465_6 : List Op := [f_ 30 <|.mov (.g 3),t_ 2 <|.mov (.l 0)]
def c465 : C := .seq (.region false r465_0) (.seq (.region false r465_1) (.seq (.seq (.region false r465_2) (.cond (.g 22) (.seq (.region false r465_3) (.seq (.region false r465_4) (.ret))) (.skip))) (.seq (.region false r465_5) (.seq (.region false r465_6) (.ret)))))
def F465 : F := ⟨1, [0, 2, 3, 4, 5, 22], [.t 2], none, c465⟩
attribute [go_sem] r465_0 r465_1 r465_2 r465_3 r465_4 r465_5 r465_6 c465 F465
def r466_0 : List Op := [t_ 2 <|.mov (ci 0)]
def r466_1 : List Op := [f_ 4 <|.mov (.g 0),f_ 5 <|.rcall 465 [.l 0] 0 0 20000,t_ 3 <|.mov (.l 1)]
def r466_2 : List Op := [f_ 6 <|.mov (.g 3),f_ 7 <|.mov (.g 0),f_ 8 <|.nilc (.l 1),f_ 9 <|.fad (.l 2) 0,f_ 10 <|.load (.v 0) none (.l 3),f_ 11 <|.len true (.l 4),t_ 12 <|.bin .gtr (.l 0) (.l 5)]
def r466_3 : List Op := [f_ 13 <|.mov (.g 0),f_ 14 <|.nilc (.l 0),f_ 15 <|.fad (.l 1) 1,u_ <|.store (.v 0) 1 (.l 2) (cb true)]
def r466_4 : List Op := [t_ 2 <|.mov (ci 0)]
def r466_5 : List Op := [f_ 16 <|.mov (.g 3),t_ 2 <|.mov (.l 0)]
def c466 : C := .seq (.region false r466_0) (.seq (.region false r466_1) (.seq (.seq (.region false r466_2) (.cond (.g 12) (.seq (.region false r466_3) (.seq (.region false r466_4) (.ret))) (.skip))) (.seq (.region false r466_5) (.ret))))
def F466 : F := ⟨1, [0, 2, 3, 12], [.t 2], none, c466⟩
attribute [go_sem] r466_0 r466_1 r466_2 r466_3 r466_4 r466_5 c466 F466
def r467_0 : List Op := [t_ 2 <|.alloc [.int .i64 0, .int .i64 0, .str [], .str [], .int .i64 0, .slice 2 [], .int .i64 0, .int .i64 0, .int .i64 0, .int .i64 0, .int .i64 0, .int .i64 0, .slice 11 [], .int .i64 0, .int .i64 0, .int .i64 0, .int .i64 0]]
def r467_1 : List Op := [t_ 3 <|.alloc [.int .i64 0, .int .i64 0, .str [], .str [], .int .i64 0, .nslice 2, .int .i64 0, .int .i64 0, .int .i64 0, .int .i64 0, .int .i64 0, .int .i64 0, .nslice 11, .int .i64 0, .int .i64 0, .int .i64 0, .int .i64 0]]
def r467_2 : List Op := [f_ 6 <|.mov (.g 0),f_ 7 <|.rcall 465 [.l 0] 0 0 20000,f_ 8 <|.mov (.g 0),f_ 9 <|.rcall 465 [.l 2] 0 0 20100,f_ 10 <|.mov (.g 0),f_ 11 <|.rcall 465 [.l 4] 0 0 20200,f_ 12 <|.mov (.g 0),f_ 13 <|.rcall 465 [.l 6] 0 0 20300,f_ 14 <|.fad (.g 3) 0,u_ <|.store (.v 3) 1 (.l 8) (.l 1),f_ 15 <|.fad (.g 3) 1,u_ <|.store (.v 3) 1 (.l 10) (.l 3),f_ 16 <|.fad (.g 3) 4,u_ <|.store (.v 3) 1 (.l 12) (.l 5),f_ 17 <|.fad (.g 3) 13,u_ <|.store (.v 3) 1 (.l 14) (.l 7)]
def r467_3 : List Op := [f_ 18 <|.mov (.g 0),f_ 19 <|.rcall 465 [.l 0] 0 0 20400,f_ 20 <|.mov (.g 0),f_ 21 <|.rcall 465 [.l 2] 0 0 20500,f_ 22 <|.mov (.g 0),f_ 23 <|.rcall 465 [.l 4] 0 0 20600,f_ 24 <|.fad (.g 3) 14,u_ <|.store (.v 3) 1 (.l 6) (.l 1),f_ 25 <|.fad (.g 3) 15,u_ <|.store (.v 3) 1 (.l 8) (.l 3),f_ 26 <|.fad (.g 3) 16,u_ <|.store (.v 3) 1 (.l 10) (.l 5)]
def r467_4 : List Op := [f_ 27 <|.mov (.g 0),f_ 28 <|.rcall 492 [.l 0] 0 0 20700,f_ 29 <|.mov (.g 0),f_ 30 <|.rcall 492 [.l 2] 0 0 20800,f_ 31 <|.fad (.g 3) 2,f_ 32 <|.fad (.l 4) 0,u_ <|.store (.v 3) 1 (.l 5) (.l 1),f_ 33 <|.fad (.g 3) 2,f_ 34 <|.fad (.l 7) 1,u_ <|.store (.v 3) 1 (.l 8) (.l 3)]
def r467_5 : List Op := [f_ 35 <|.mov (.g 0),f_ 36 <|.rcall 464 [.l 0] 0 0 20900,f_ 37 <|.mov (.g 0),f_ 38 <|.rcall 464 [.l 2] 0 0 21000,f_ 39 <|.fad (.g 3) 6,u_ <|.store (.v 3) 3 (.l 4) (.l 1),f_ 40 <|.fad (.g 3) 9,u_ <|.store (.v 3) 3 (.l 6) (.l 3)]
def r467_6 : List Op := [f_ 41 <|.mov (.g 0),t_ 42 <|.rcall 466 [.l 0] 0 0 21100,t_ 43 <|.mov (ci 0)]
def r467_7 : List Op := [t_ 44 <|.bin .lss (.g 43) (.g 42)]
def r467_8 : List Op := [f_ 45 <|.mov (.g 0),f_ 46 <|.rcall 492 [.l 0] 0 0 21200,f_ 47 <|.build [.str [], .nslice 5] [(0, 1, .l 1)],t_ 4 <|.alloc [.str [], .nslice 5],u_ <|.store (.v 4) 2 (.l 3) (.l 2)]
def r467_9 : List Op := [f_ 48 <|.mov (.g 0),t_ 49 <|.rcall 466 [.l 0] 0 0 21300,t_ 50 <|.mov (ci 0)]
def r467_10 : List Op := [t_ 51 <|.bin .lss (.g 50) (.g 49)]
def r467_11 : List Op := [f_ 52 <|.fad (.g 4) 1,f_ 53 <|.load (.v 4) none (.l 0),f_ 54 <|.mov (.g 0),f_ 55 <|.rcall 464 [.l 2] 0 0 21400,f_ 56 <|.mov (.g 0),f_ 57 <|.rcall 493 [.l 4] 0 0 21500,f_ 58 <|.mov (.g 0),f_ 59 <|.rcall 492 [.l 6] 0 0 21600,f_ 60 <|.build [.int .i64 0, .int .i64 0, .int .i64 0, .bool false, .str []] [(0, 3, .l 3), (3, 1, .l 5), (4, 1, .l 7)],f_ 61 <|.mks 5 1 [.int .i64 0, .int .i64 0, .int .i64 0, .bool false, .str []] [(0, .l 8)],f_ 62 <|.app 62 5 (.l 1) (.l 9),f_ 63 <|.fad (.g 4) 1,u_ <|.store (.v 4) 1 (.l 11) (.l 10)]
def r467_12 : List Op := [f_ 64 <|.bin .add (.g 50) (ci 1),t_ 50 <|.mov (.l 0)]
def b467_1 : C := .seq (.region false r467_10) (.seq (.cond (.g 51) (.skip) (.exit 2)) (.seq (.block 3 (.region true r467_11)) (.region false r467_12)))
def l467_1 : C := .loop [] [] [] [] b467_1
def r467_13 : List Op := [f_ 65 <|.fad (.g 3) 5,f_ 66 <|.load (.v 3) none (.l 0),f_ 67 <|.ldf 62 4 2 (.g 4),f_ 68 <|.mks 2 1 [.str [], .slice 5 []] [(0, .l 2)],f_ 69 <|.app 69 2 (.l 1) (.l 3),f_ 70 <|.fad (.g 3) 5,u_ <|.store (.v 3) 1 (.l 5) (.l 4)]
def r467_14 : List Op := [f_ 71 <|.bin .add (.g 43) (ci 1),t_ 43 <|.mov (.l 0)]
def b467_0 : C := .seq (.region false r467_7) (.seq (.cond (.g 44) (.skip) (.exit 0)) (.seq (.block 1 (.seq (.region false r467_8) (.seq (.seq (.region false r467_9) (.block 2 (l467_1))) (.region false r467_13)))) (.region false r467_14)))
def l467_0 : C := .loop [] [] [4] [62] b467_0
def r467_15 : List Op := [f_ 72 <|.mov (.g 0),t_ 73 <|.rcall 466 [.l 0] 0 0 21700,t_ 74 <|.mov (ci 0)]
def r467_16 : List Op := [t_ 75 <|.bin .lss (.g 74) (.g 73)]
def r467_17 : List Op := [f_ 76 <|.mov (.g 0),f_ 77 <|.rcall 465 [.l 0] 0 0 21800,f_ 78 <|.mov (.g 0),f_ 79 <|.rcall 465 [.l 2] 0 0 21900,f_ 80 <|.build [.int .i64 0, .int .i64 0, .int .i64 0, .int .i64 0, .int .i64 0, .int .i64 0, .bool false, .str [], .slice 2 [], .str [], .bool false] [(0, 1, .l 1), (1, 1, .l 3)],t_ 5 <|.alloc [.int .i64 0, .int .i64 0, .int .i64 0, .int .i64 0, .int .i64 0, .int .i64 0, .bool false, .str [], .slice 2 [], .str [], .bool false],u_ <|.store (.v 5) 11 (.l 5) (.l 4)]
def r467_18 : List Op := [f_ 81 <|.mov (.g 0),f_ 82 <|.rcall 465 [.l 0] 0 0 22000,f_ 83 <|.mov (.g 0),f_ 84 <|.rcall 464 [.l 2] 0 0 22100,f_ 85 <|.mov (.g 0),f_ 86 <|.rcall 493 [.l 4] 0 0 22200,f_ 87 <|.mov (.g 0),f_ 88 <|.rcall 492 [.l 6] 0 0 22300,f_ 89 <|.build [.int .i64 0, .int .i64 0, .int .i64 0, .int .i64 0, .bool false, .str [], .slice 2 [], .str [], .bool false] [(0, 1, .l 1), (1, 3, .l 3), (4, 1, .l 5), (5, 1, .l 7)],f_ 90 <|.fad (.g 5) 2,u_ <|.store (.v 5) 9 (.l 9) (.l 8)]
def r467_19 : List Op := [f_ 91 <|.fad (.g 3) 12,f_ 92 <|.load (.v 3) none (.l 0),f_ 93 <|.load (.v 5) (some 11) (.g 5),f_ 94 <|.mks 11 1 [.int .i64 0, .int .i64 0, .int .i64 0, .int .i64 0, .int .i64 0, .int .i64 0, .bool false, .str [], .slice 2 [], .str [], .bool false] [(0, .l 2)],f_ 95 <|.app 95 11 (.l 1) (.l 3),f_ 96 <|.fad (.g 3) 12,u_ <|.store (.v 3) 1 (.l 5) (.l 4)]
def r467_20 : List Op := [f_ 97 <|.bin .add (.g 74) (ci 1),t_ 74 <|.mov (.l 0)]
def b467_2 : C := .seq (.region false r467_16) (.seq (.cond (.g 75) (.skip) (.exit 4)) (.seq (.block 5 (.seq (.region false r467_17) (.seq (.region false r467_18) (.region false r467_19)))) (.region false r467_20)))
def l467_2 : C := .loop [] [] [5] [] b467_2
def r467_21 : List Op := [f_ 98 <|.load (.v 3) (some 17) (.g 3),u_ <|.store (.v 2) 17 (.g 2) (.l 0)]
def c467 : C := .seq (.region false r467_0) (.seq (.region false r467_1) (.seq (.region false r467_2) (.seq (.region false r467_3) (.seq (.region false r467_4) (.seq (.region false r467_5) (.seq (.seq (.region false r467_6) (.block 0 (l467_0))) (.seq (.seq (.region false r467_15) (.block 4 (l467_2))) (.seq (.region false r467_21) (.ret)))))))))
def F467 : F := ⟨1, [0, 2, 3, 4, 5, 42, 43, 44, 49, 50, 51, 73, 74, 75], [.cell 2 (some 17)], none, c467⟩
attribute [go_sem] r467_0 r467_1 r467_2 r467_3 r467_4 r467_5 r467_6 r467_7 r467_8 r467_9 r467_10 r467_11 r467_12 b467_1 r467_13 r467_14 b467_0 r467_15 r467_16 r467_17 r467_18 r467_19 r467_20 b467_2 r467_21 c467 F467
def r468_0 : List Op := [t_ 4 <|.mov (ci 0)]
def r468_1 : List Op := [f_ 6 <|.mov (.g 0),t_ 7 <|.len false (.l 0),t_ 8 <|.mov (ci 0)]
def r468_2 : List Op := [t_ 9 <|.bin .lss (.g 8) (.g 7)]
def r468_3 : List Op := [f_ 10 <|.mov (.g 8),t_ 5 <|.mov (.l 0)]
def r468_4 : List Op := [f_ 11 <|.mov (.g 1),f_ 12 <|.mov (.g 0),f_ 13 <|.mov (.g 5),f_ 14 <|.iad 36 (.l 1) (.l 2),f_ 15 <|.load (.c) (some 36) (.l 3),t_ 16 <|.call (.v (.l 0)) .no none [.l 4]]
def r468_5 : List Op := [f_ 17 <|.mov (.g 5),t_ 4 <|.mov (.l 0)]
def r468_6 : List Op := [f_ 18 <|.bin .add (.g 8) (ci 1),t_ 8 <|.mov (.l 0)]
def b468_0 : C := .seq (.region false r468_2) (.seq (.cond (.g 9) (.skip) (.exit 0)) (.seq (.block 1 (.seq (.region false r468_3) (.seq (.region false r468_4) (.cond (.g 16) (.seq (.region false r468_5) (.ret)) (.skip))))) (.region false r468_6)))
def l468_0 : C := .loop [] [] [] [] b468_0
def r468_7 : List Op := [t_ 4 <|.mov (ci (-1))]
def c468 : C := .seq (.region false r468_0) (.seq (.seq (.region false r468_1) (.block 0 (l468_0))) (.seq (.region false r468_7) (.ret)))
def F468 : F := ⟨2, [0, 1, 4, 5, 7, 8, 9, 16], [.t 4], none, c468⟩
attribute [go_sem] r468_0 r468_1 r468_2 r468_3 r468_4 r468_5 r468_6 b468_0 r468_7 c468 F468
def r473_0 : List Op := [t_ 2 <|.box (.g 0),t_ 3 <|.box (.g 1),t_ 4 <|.alloc [.int .i64 0, .slice 9 []]]
def r473_1 : List Op := [f_ 6 <|.fad (.g 2) 1,f_ 7 <|.load (.v 2) none (.l 0),f_ 8 <|.fn 496 [.g 3] [3],f_ 9 <|.call (.k 463) .borrow none [.l 1, .l 2],t_ 5 <|.mov (.l 3)]
def r473_2 : List Op := [f_ 10 <|.fad (.g 2) 1,f_ 11 <|.load (.v 2) none (.l 0),f_ 12 <|.call (.k 497) .freeze (some 0) [.l 1],f_ 13 <|.fad (.g 2) 1,u_ <|.store (.v 2) 1 (.l 3) (.l 2)]
def r473_3 : List Op := [f_ 22 <|.mov (.g 5),f_ 23 <|.bin .lss (.l 0) (ci 0),t_ 21 <|.mov (.l 1)]
def r473_4 : List Op := [f_ 24 <|.fad (.g 2) 1,f_ 25 <|.load (.v 2) none (.l 0),f_ 26 <|.load (.v 3) (some 9) (.g 3),f_ 27 <|.mks 9 1 [.int .i64 0, .int .i64 0, .int .i64 0, .slice 1 [], .int .i64 0, .str [], .str [], .slice 1 [], .slice 36 []] [(0, .l 2)],f_ 28 <|.app 12 9 (.l 1) (.l 3),f_ 29 <|.fad (.g 2) 1,u_ <|.store (.v 2) 1 (.l 5) (.l 4)]
def r473_5 : List Op := [f_ 31 <|.fad (.g 2) 1,f_ 32 <|.load (.v 2) none (.l 0),f_ 33 <|.mov (.g 5),f_ 34 <|.iad 9 (.l 1) (.l 2),f_ 35 <|.fad (.l 3) 0,f_ 36 <|.load (.e 12) none (.l 4),f_ 37 <|.fad (.g 3) 0,f_ 38 <|.load (.v 3) none (.l 6),f_ 39 <|.bin .eql (.l 5) (.l 7),t_ 30 <|.mov (.l 8)]
def r473_6 : List Op := [f_ 40 <|.fad (.g 2) 1,f_ 41 <|.load (.v 2) none (.l 0),f_ 42 <|.mov (.g 5),f_ 43 <|.load (.v 3) (some 9) (.g 3),f_ 44 <|.iad 9 (.l 1) (.l 2),u_ <|.store (.e 12) 9 (.l 4) (.l 3)]
def r473_7 : List Op := [f_ 14 <|.fad (.g 2) 1,f_ 15 <|.load (.v 2) none (.l 0),f_ 16 <|.mov (.g 5),f_ 17 <|.load (.v 3) (some 9) (.g 3),f_ 18 <|.mks 9 1 [.int .i64 0, .int .i64 0, .int .i64 0, .slice 1 [], .int .i64 0, .str [], .str [], .slice 1 [], .slice 36 []] [(0, .l 3)],f_ 19 <|.ins 498 12 9 (.l 1) (.l 2) (.l 4),f_ 20 <|.fad (.g 2) 1,u_ <|.store (.v 2) 1 (.l 6) (.l 5)]
def r473_8 : List Op := [f_ 45 <|.load (.v 2) (some 2) (.g 2),u_ <|.store (.v 4) 2 (.g 4) (.l 0)]
def c473 : C := .seq (.region false r473_0) (.seq (.region false r473_1) (.seq (.region false r473_2) (.seq (.block 0 (.seq (.region false r473_3) (.cond (.g 21) (.region false r473_4) (.seq (.region true r473_5) (.cond (.g 30) (.region false r473_6) (.region false r473_7)))))) (.seq (.region false r473_8) (.ret)))))
def F473 : F := ⟨2, [0, 1, 2, 3, 4, 5, 21, 30], [.cell 4 (some 2)], none, c473⟩
attribute [go_sem] r473_0 r473_1 r473_2 r473_3 r473_4 r473_5 r473_6 r473_7 r473_8 c473 F473
def r474_0 : List Op := [t_ 2 <|.box (.g 0),t_ 4 <|.alloc [.int .i64 0, .int .i64 0, .int .i64 0],t_ 5 <|.alloc [.int .i64 0, .int .i64 0, .int .i64 0],t_ 6 <|.mov (ci 0)]
def r474_1 : List Op := [f_ 7 <|.load (.v 2) (some 3) (.g 2),f_ 8 <|.mov (.g 1),f_ 9 <|.call (.k 499) .no none [.l 0, .l 1],t_ 10 <|.un .not (.l 2)]
def r474_2 : List Op := [f_ 11 <|.build [.int .i64 0, .int .i64 0, .int .i64 0] [],f_ 12 <|.build [.int .i64 0, .int .i64 0, .int .i64 0] [],u_ <|.store (.v 4) 3 (.g 4) (.l 0),u_ <|.store (.v 5) 3 (.g 5) (.l 1),t_ 6 <|.mov (ci 1)]
def r474_3 : List Op := [f_ 20 <|.mov (.g 1),f_ 21 <|.fad (.g 2) 0,f_ 22 <|.fad (.l 1) 0,f_ 23 <|.load (.v 2) none (.l 2),f_ 24 <|.bin .gtr (.l 0) (.l 3),t_ 19 <|.mov (.l 4)]
def r474_4 : List Op := [f_ 25 <|.mov (.g 1),f_ 26 <|.fad (.g 2) 0,f_ 27 <|.fad (.l 1) 0,u_ <|.store (.v 2) 1 (.l 2) (.l 0),f_ 28 <|.fad (.g 2) 0,f_ 29 <|.fad (.l 4) 1,u_ <|.store (.v 2) 1 (.l 5) (ci 0)]
def r474_5 : List Op := [f_ 31 <|.fad (.g 2) 0,f_ 32 <|.fad (.l 0) 1,f_ 33 <|.load (.v 2) none (.l 1),f_ 34 <|.bin .eql (.l 2) (ci 1048576),t_ 30 <|.mov (.l 3)]
def r474_6 : List Op := [f_ 35 <|.build [.int .i64 0, .int .i64 0, .int .i64 0] [],f_ 36 <|.build [.int .i64 0, .int .i64 0, .int .i64 0] [],u_ <|.store (.v 4) 3 (.g 4) (.l 0),u_ <|.store (.v 5) 3 (.g 5) (.l 1),t_ 6 <|.mov (ci 6)]
def r474_7 : List Op := [f_ 13 <|.fad (.g 2) 0,f_ 14 <|.fad (.l 0) 1,f_ 15 <|.load (.v 2) none (.l 1),f_ 16 <|.bin .add (.l 2) (ci 1),f_ 17 <|.fad (.g 2) 0,f_ 18 <|.fad (.l 4) 1,u_ <|.store (.v 2) 1 (.l 5) (.l 3)]
def r474_8 : List Op := [f_ 37 <|.load (.v 2) (some 3) (.g 2),f_ 38 <|.fad (.g 2) 0,f_ 39 <|.load (.v 2) (some 3) (.l 1),u_ <|.store (.v 4) 3 (.g 4) (.l 0),u_ <|.store (.v 5) 3 (.g 5) (.l 2),t_ 6 <|.mov (ci 0)]
def c474 : C := .seq (.region false r474_0) (.seq (.seq (.region false r474_1) (.cond (.g 10) (.seq (.region false r474_2) (.ret)) (.skip))) (.seq (.block 0 (.seq (.region false r474_3) (.cond (.g 19) (.region false r474_4) (.seq (.region false r474_5) (.cond (.g 30) (.seq (.region false r474_6) (.ret)) (.region false r474_7)))))) (.seq (.region true r474_8) (.ret))))
def F474 : F := ⟨2, [0, 1, 2, 4, 5, 6, 10, 19, 30], [.cell 4 (some 3), .cell 5 (some 3), .t 6], none, c474⟩
attribute [go_sem] r474_0 r474_1 r474_2 r474_3 r474_4 r474_5 r474_6 r474_7 r474_8 c474 F474
def r483_0 : List Op := [t_ 2 <|.mov (.c (.str [])),t_ 3 <|.mov (ci 0)]
def r483_1 : List Op := [t_ 4 <|.mko 1]
def r483_2 : List Op := [t_ 9 <|.mov (.g 0),t_ 10 <|.len false (.l 0),t_ 11 <|.mov (ci 0)]
def r483_3 : List Op := [t_ 12 <|.bin .lss (.g 11) (.g 10)]
def r483_4 : List Op := [f_ 13 <|.iad 1 (.g 9) (.g 11),f_ 14 <|.load (.c) none (.l 0),t_ 6 <|.mov (.l 1)]
def r483_5 : List Op := [f_ 16 <|.mov (.g 6),f_ 17 <|.call (.k 456) .no none [.l 0],f_ 15 <|.mov (.l 1),f_ 18 <|.ext (.l 2) 0,f_ 19 <|.ext (.l 2) 1,t_ 7 <|.mov (.l 3),t_ 8 <|.mov (.l 4)]
def r483_6 : List Op := [f_ 20 <|.mov (.g 8),t_ 21 <|.bin .neq (.l 0) (ci 0)]
def r483_7 : List Op := [f_ 22 <|.mov (.g 8),t_ 2 <|.mov (.c (.str [])),t_ 3 <|.mov (.l 0)]
def r483_8 : List Op := [f_ 23 <|.mov (.g 4),f_ 24 <|.mov (.g 7),f_ 25 <|.app 4 1 (.l 0) (.l 1),t_ 4 <|.mov (.l 2)]
def r483_9 : List Op := [f_ 26 <|.bin .add (.g 11) (ci 1),t_ 11 <|.mov (.l 0)]
def b483_0 : C := .seq (.region false r483_3) (.seq (.cond (.g 12) (.skip) (.exit 0)) (.seq (.block 1 (.seq (.region false r483_4) (.seq (.region false r483_5) (.seq (.seq (.region false r483_6) (.cond (.g 21) (.seq (.region false r483_7) (.ret)) (.skip))) (.region false r483_8))))) (.region false r483_9)))
def l483_0 : C := .loop [] [] [] [] b483_0
def r483_10 : List Op := [f_ 27 <|.mov (.g 4),f_ 28 <|.b2s (.l 0),t_ 2 <|.mov (.l 1),t_ 3 <|.mov (ci 0)]
def c483 : C := .seq (.region false r483_0) (.seq (.region false r483_1) (.seq (.seq (.region false r483_2) (.block 0 (l483_0))) (.seq (.region false r483_10) (.ret))))
def F483 : F := ⟨1, [0, 2, 3, 4, 6, 7, 8, 9, 10, 11, 12, 21], [.t 2, .t 3], none, c483⟩
attribute [go_sem] r483_0 r483_1 r483_2 r483_3 r483_4 r483_5 r483_6 r483_7 r483_8 r483_9 b483_0 r483_10 c483 F483
def r484_0 : List Op := [t_ 2 <|.mov (.c (.str []))]
def r484_1 : List Op := [f_ 6 <|.mov (.g 0),f_ 7 <|.len true (.l 0),f_ 8 <|.call (.k 456) .no none [.l 1],f_ 5 <|.mov (.l 2),f_ 9 <|.ext (.l 3) 0,f_ 10 <|.ext (.l 3) 1,t_ 3 <|.mov (.l 4),f_ 4 <|.mov (.l 5)]
def r484_2 : List Op := [f_ 11 <|.mov (.g 3),f_ 12 <|.mov (.g 0),f_ 13 <|.bin .add (.l 0) (.l 1),t_ 2 <|.mov (.l 2)]
def c484 : C := .seq (.region false r484_0) (.seq (.region false r484_1) (.seq (.region false r484_2) (.ret)))
def F484 : F := ⟨1, [0, 2, 3], [.t 2], none, c484⟩
attribute [go_sem] r484_0 r484_1 r484_2 c484 F484
def r485_0 : List Op := [t_ 2 <|.mov (.c (.str []))]
def r485_1 : List Op := [t_ 3 <|.mov (.g 0)]
def r485_2 : List Op := [t_ 2 <|.mov (.c (.str [1]))]
def r485_3 : List Op := [t_ 2 <|.mov (.c (.str [0]))]
def c485 : C := .seq (.region false r485_0) (.seq (.seq (.region false r485_1) (.cond (.g 3) (.seq (.region false r485_2) (.ret)) (.skip))) (.seq (.region false r485_3) (.ret)))
def F485 : F := ⟨1, [0, 2, 3], [.t 2], none, c485⟩
attribute [go_sem] r485_0 r485_1 r485_2 r485_3 c485 F485
def r490_0 : List Op := [t_ 2 <|.alloc [.int .i64 0, .int .i64 0, .int .i64 0],t_ 3 <|.mov (.c (.str [])),t_ 4 <|.mov (ci 0)]
def r490_1 : List Op := [t_ 5 <|.alloc [.int .i64 0, .int .i64 0, .int .i64 0]]
def r490_2 : List Op := [t_ 11 <|.mov (ci 0)]
def r490_3 : List Op := [t_ 12 <|.bin .lss (.g 11) (ci 3)]
def r490_4 : List Op := [f_ 13 <|.mov (.g 11),t_ 6 <|.mov (.l 0)]
def r490_5 : List Op := [f_ 15 <|.mov (.g 0),f_ 16 <|.call (.k 491) .no none [.l 0],f_ 14 <|.mov (.l 1),f_ 17 <|.ext (.l 2) 0,f_ 18 <|.ext (.l 2) 1,f_ 19 <|.ext (.l 2) 2,t_ 7 <|.mov (.l 3),t_ 8 <|.mov (.l 4),t_ 9 <|.mov (.l 5)]
def r490_6 : List Op := [f_ 20 <|.mov (.g 9),t_ 21 <|.bin .neq (.l 0) (ci 0)]
def r490_7 : List Op := [f_ 22 <|.build [.int .i64 0, .int .i64 0, .int .i64 0] [],f_ 23 <|.mov (.g 9),u_ <|.store (.v 2) 3 (.g 2) (.l 0),t_ 3 <|.mov (.c (.str [])),t_ 4 <|.mov (.l 1)]
def r490_8 : List Op := [f_ 24 <|.mov (.g 6),f_ 25 <|.mov (.g 7),f_ 26 <|.mov (.g 8),f_ 27 <|.iada 1 3 (.g 5) (.l 0),u_ <|.store (.v 5) 1 (.l 3) (.l 1),t_ 0 <|.mov (.l 2)]
def r490_9 : List Op := [f_ 28 <|.bin .add (.g 11) (ci 1),t_ 11 <|.mov (.l 0)]
def b490_0 : C := .seq (.region false r490_3) (.seq (.cond (.g 12) (.skip) (.exit 0)) (.seq (.block 1 (.seq (.region false r490_4) (.seq (.region false r490_5) (.seq (.seq (.region false r490_6) (.cond (.g 21) (.seq (.region false r490_7) (.ret)) (.skip))) (.region false r490_8))))) (.region false r490_9)))
def l490_0 : C := .loop [] [] [] [] b490_0
def r490_10 : List Op := [f_ 29 <|.iada 1 3 (.g 5) (ci 0),f_ 30 <|.load (.v 5) none (.l 0),f_ 31 <|.iada 1 3 (.g 5) (ci 1),f_ 32 <|.load (.v 5) none (.l 2),f_ 33 <|.iada 1 3 (.g 5) (ci 2),f_ 34 <|.load (.v 5) none (.l 4),f_ 35 <|.build [.int .i64 0, .int .i64 0, .int .i64 0] [(0, 1, .l 1), (1, 1, .l 3), (2, 1, .l 5)],t_ 10 <|.alloc [.int .i64 0, .int .i64 0, .int .i64 0],u_ <|.store (.v 10) 3 (.l 7) (.l 6)]
def r490_11 : List Op := [f_ 36 <|.load (.v 10) (some 3) (.g 10),f_ 37 <|.call (.k 28) .no none [.l 0],t_ 38 <|.un .not (.l 1)]
def r490_12 : List Op := [f_ 39 <|.build [.int .i64 0, .int .i64 0, .int .i64 0] [],u_ <|.store (.v 2) 3 (.g 2) (.l 0),t_ 3 <|.mov (.c (.str [])),t_ 4 <|.mov (ci 3)]
def r490_13 : List Op := [f_ 40 <|.load (.v 10) (some 3) (.g 10),f_ 41 <|.mov (.g 0),u_ <|.store (.v 2) 3 (.g 2) (.l 0),t_ 3 <|.mov (.l 1),t_ 4 <|.mov (ci 0)]
def c490 : C := .seq (.region false r490_0) (.seq (.region false r490_1) (.seq (.seq (.region false r490_2) (.block 0 (l490_0))) (.seq (.region false r490_10) (.seq (.seq (.region false r490_11) (.cond (.g 38) (.seq (.region false r490_12) (.ret)) (.skip))) (.seq (.region false r490_13) (.ret))))))
def F490 : F := ⟨1, [0, 2, 3, 4, 5, 6, 7, 8, 9, 10, 11, 12, 21, 38], [.cell 2 (some 3), .t 3, .t 4], none, c490⟩
attribute [go_sem] r490_0 r490_1 r490_2 r490_3 r490_4 r490_5 r490_6 r490_7 r490_8 r490_9 b490_0 r490_10 r490_11 r490_12 r490_13 c490 F490
def r491_0 : List Op := [t_ 2 <|.mov (ci 0),t_ 3 <|.mov (.c (.str [])),t_ 4 <|.mov (ci 0)]
def r491_1 : List Op := [t_ 5 <|.mov (ci 0)]
def r491_2 : List Op := [f_ 8 <|.mov (.g 0),t_ 9 <|.len true (.l 0),t_ 10 <|.mov (ci 0)]
def r491_3 : List Op := [t_ 11 <|.bin .lss (.g 10) (.g 9)]
def r491_4 : List Op := [f_ 12 <|.mov (.g 10),t_ 6 <|.mov (.l 0)]
def r491_5 : List Op := [f_ 13 <|.mov (.g 0),f_ 14 <|.mov (.g 6),f_ 15 <|.idx (.l 0) (.l 1),f_ 16 <|.bin .and (.l 2) (.c (.int .u8 127)),f_ 17 <|.conv (.int .i64) (.l 3),t_ 7 <|.mov (.l 4)]
def r491_6 : List Op := [f_ 29 <|.mov (.g 6),f_ 30 <|.bin .gtr (.l 0) (ci 8),f_ 31 <|.mov (.l 1),y_ 32 2 <|.mov (.g 0),y_ 33 2 <|.mov (.g 6),y_ 34 2 <|.idx (.l 3) (.l 4),y_ 35 2 <|.bin .geq (.l 5) (.c (.int .u8 128)),y_ 36 2 <|.mov (.l 6),n_ 37 7 <|.mov (.g 7),n_ 38 7 <|.bin .gtr (.l 8) (ci 0),y_ 39 2 <|.pick (.l 7) (cb true) (.l 9),f_ 40 <|.pick (.l 2) (.l 10) (cb false),t_ 28 <|.mov (.l 11)]
def r491_7 : List Op := [f_ 41 <|.mov (.g 0),f_ 42 <|.call (.k 505) .no none [.l 0],t_ 2 <|.mov (ci 0),t_ 3 <|.mov (.c (.str [])),t_ 4 <|.mov (.l 1)]
def r491_8 : List Op := [f_ 44 <|.mov (.g 0),f_ 45 <|.mov (.g 6),f_ 46 <|.idx (.l 0) (.l 1),f_ 47 <|.bin .geq (.l 2) (.c (.int .u8 128)),t_ 43 <|.mov (.l 3)]
def r491_9 : List Op := [f_ 48 <|.mov (.g 5),f_ 49 <|.mov (.g 7),f_ 50 <|.mov (.g 6),f_ 51 <|.bin .mul (ci 7) (.l 2),f_ 52 <|.sh .shl (.l 1) (.l 3),f_ 53 <|.bin .or (.l 0) (.l 4),t_ 5 <|.mov (.l 5)]
def r491_10 : List Op := [f_ 55 <|.mov (.g 7),f_ 56 <|.bin .eql (.l 0) (ci 0),f_ 57 <|.mov (.l 1),y_ 58 2 <|.mov (.g 6),y_ 59 2 <|.bin .gtr (.l 3) (ci 0),f_ 60 <|.pick (.l 2) (.l 4) (cb false),t_ 54 <|.mov (.l 5)]
def r491_11 : List Op := [t_ 2 <|.mov (ci 0),t_ 3 <|.mov (.c (.str [])),t_ 4 <|.mov (ci 3)]
def r491_12 : List Op := [f_ 18 <|.mov (.g 5),f_ 19 <|.mov (.g 7),f_ 20 <|.mov (.g 6),f_ 21 <|.bin .mul (ci 7) (.l 2),f_ 22 <|.sh .shl (.l 1) (.l 3),f_ 23 <|.bin .or (.l 0) (.l 4),f_ 24 <|.mov (.g 0),f_ 25 <|.mov (.g 6),f_ 26 <|.bin .add (.l 7) (ci 1),f_ 27 <|.sl true 0 (.l 6) (some (.l 8)) none,t_ 2 <|.mov (.l 5),t_ 3 <|.mov (.l 9),t_ 4 <|.mov (ci 0)]
def r491_13 : List Op := [f_ 61 <|.bin .add (.g 10) (ci 1),t_ 10 <|.mov (.l 0)]
def b491_0 : C := .seq (.region false r491_3) (.seq (.cond (.g 11) (.skip) (.exit 0)) (.seq (.block 1 (.seq (.region false r491_4) (.seq (.region false r491_5) (.block 2 (.seq (.region false r491_6) (.cond (.g 28) (.seq (.region false r491_7) (.ret)) (.seq (.region false r491_8) (.cond (.g 43) (.region false r491_9) (.seq (.region false r491_10) (.cond (.g 54) (.seq (.region false r491_11) (.ret)) (.seq (.region true r491_12) (.ret)))))))))))) (.region false r491_13)))
def l491_0 : C := .loop [] [] [] [] b491_0
def r491_14 : List Op := [t_ 2 <|.mov (ci 0),t_ 3 <|.mov (.c (.str [])),t_ 4 <|.mov (ci 2)]
def c491 : C := .seq (.region false r491_0) (.seq (.region false r491_1) (.seq (.seq (.region false r491_2) (.block 0 (l491_0))) (.seq (.region false r491_14) (.ret))))
def F491 : F := ⟨1, [0, 2, 3, 4, 5, 6, 7, 9, 10, 11, 28, 43, 54], [.t 2, .t 3, .t 4], none, c491⟩
attribute [go_sem] r491_0 r491_1 r491_2 r491_3 r491_4 r491_5 r491_6 r491_7 r491_8 r491_9 r491_10 r491_11 r491_12 r491_13 b491_0 r491_14 c491 F491
def r492_0 : List Op := [t_ 2 <|.mov (.c (.str []))]
def r492_1 : List Op := [f_ 7 <|.mov (.g 0),f_ 8 <|.nilc (.l 0),f_ 9 <|.fad (.l 1) 0,f_ 10 <|.load (.v 0) none (.l 2),f_ 11 <|.call (.k 506) .no none [.l 3],f_ 6 <|.mov (.l 4),f_ 12 <|.ext (.l 5) 0,f_ 13 <|.ext (.l 5) 1,f_ 14 <|.ext (.l 5) 2,t_ 3 <|.mov (.l 6),t_ 4 <|.mov (.l 7),t_ 5 <|.mov (.l 8)]
def r492_2 : List Op := [f_ 15 <|.mov (.g 0),f_ 16 <|.nilc (.l 0),f_ 17 <|.fad (.l 1) 1,f_ 18 <|.load (.v 0) none (.l 2),f_ 19 <|.mov (.l 3),n_ 20 4 <|.mov (.g 5),n_ 21 4 <|.bin .neq (.l 5) (ci 0),t_ 22 <|.pick (.l 4) (cb true) (.l 6)]
def r492_3 : List Op := [f_ 23 <|.mov (.g 0),f_ 24 <|.nilc (.l 0),f_ 25 <|.fad (.l 1) 1,u_ <|.store (.v 0) 1 (.l 2) (cb true)]
def r492_4 : List Op := [t_ 2 <|.mov (.c (.str []))]
def r492_5 : List Op := [f_ 26 <|.mov (.g 0),f_ 27 <|.mov (.g 4),f_ 28 <|.nilc (.l 0),f_ 29 <|.fad (.l 2) 0,u_ <|.store (.v 0) 1 (.l 3) (.l 1)]
def r492_6 : List Op := [f_ 30 <|.mov (.g 3),t_ 2 <|.mov (.l 0)]
def c492 : C := .seq (.region false r492_0) (.seq (.region false r492_1) (.seq (.seq (.region false r492_2) (.cond (.g 22) (.seq (.region false r492_3) (.seq (.region false r492_4) (.ret))) (.skip))) (.seq (.region false r492_5) (.seq (.region false r492_6) (.ret)))))
def F492 : F := ⟨1, [0, 2, 3, 4, 5, 22], [.t 2], none, c492⟩
attribute [go_sem] r492_0 r492_1 r492_2 r492_3 r492_4 r492_5 r492_6 c492 F492
def r493_0 : List Op := [t_ 2 <|.mov (cb false)]
def r493_1 : List Op := [f_ 7 <|.mov (.g 0),f_ 8 <|.nilc (.l 0),f_ 9 <|.fad (.l 1) 0,f_ 10 <|.load (.v 0) none (.l 2),f_ 11 <|.call (.k 507) .no none [.l 3],f_ 6 <|.mov (.l 4),f_ 12 <|.ext (.l 5) 0,f_ 13 <|.ext (.l 5) 1,f_ 14 <|.ext (.l 5) 2,t_ 3 <|.mov (.l 6),t_ 4 <|.mov (.l 7),t_ 5 <|.mov (.l 8)]
def r493_2 : List Op := [f_ 15 <|.mov (.g 0),f_ 16 <|.nilc (.l 0),f_ 17 <|.fad (.l 1) 1,f_ 18 <|.load (.v 0) none (.l 2),f_ 19 <|.mov (.l 3),n_ 20 4 <|.mov (.g 5),n_ 21 4 <|.bin .neq (.l 5) (ci 0),t_ 22 <|.pick (.l 4) (cb true) (.l 6)]
def r493_3 : List Op := [f_ 23 <|.mov (.g 0),f_ 24 <|.nilc (.l 0),f_ 25 <|.fad (.l 1) 1,u_ <|.store (.v 0) 1 (.l 2) (cb true)]
def r493_4 : List Op := [t_ 2 <|.mov (cb false)]
def r493_5 : List Op := [f_ 26 <|.mov (.g 0),f_ 27 <|.mov (.g 4),f_ 28 <|.nilc (.l 0),f_ 29 <|.fad (.l 2) 0,u_ <|.store (.v 0) 1 (.l 3) (.l 1)]
def r493_6 : List Op := [f_ 30 <|.mov (.g 3),t_ 2 <|.mov (.l 0)]
def c493 : C := .seq (.region false r493_0) (.seq (.region false r493_1) (.seq (.seq (.region false r493_2) (.cond (.g 22) (.seq (.region false r493_3) (.seq (.region false r493_4) (.ret))) (.skip))) (.seq (.region false r493_5) (.seq (.region false r493_6) (.ret)))))
def F493 : F := ⟨1, [0, 2, 3, 4, 5, 22], [.t 2], none, c493⟩
attribute [go_sem] r493_0 r493_1 r493_2 r493_3 r493_4 r493_5 r493_6 c493 F493
def r496_0 : List Op := [t_ 2 <|.box (.g 0),t_ 3 <|.mov (cb false)]
def r496_1 : List Op := [f_ 4 <|.fad (.g 2) 0,f_ 5 <|.load (.v 2) none (.l 0),f_ 6 <|.fad (.g 1) 0,f_ 7 <|.load (.c) none (.l 2),f_ 8 <|.bin .geq (.l 1) (.l 3),t_ 3 <|.mov (.l 4)]
def c496 : C := .seq (.region false r496_0) (.seq (.region false r496_1) (.ret))
def F496 : F := ⟨2, [0, 1, 2, 3], [.t 3], none, c496⟩
attribute [go_sem] r496_0 r496_1 c496 F496
def r499_0 : List Op := [t_ 2 <|.box (.g 0),t_ 4 <|.mov (cb false)]
def r499_1 : List Op := [f_ 5 <|.fad (.g 2) 0,f_ 6 <|.load (.v 2) (some 3) (.l 0),f_ 7 <|.call (.k 28) .no none [.l 1],f_ 8 <|.mov (.l 2),y_ 9 3 <|.mov (.g 1),y_ 10 3 <|.bin .geq (.l 4) (ci 0),f_ 11 <|.pick (.l 3) (.l 5) (cb false),f_ 12 <|.mov (.l 6),y_ 13 7 <|.mov (.g 1),y_ 14 7 <|.bin .leq (.l 8) (ci 1099511627776),f_ 15 <|.pick (.l 7) (.l 9) (cb false),t_ 4 <|.mov (.l 10)]
def c499 : C := .seq (.region false r499_0) (.seq (.region false r499_1) (.ret))
def F499 : F := ⟨2, [0, 1, 2, 4], [.t 4], none, c499⟩
attribute [go_sem] r499_0 r499_1 c499 F499
def r505_0 : List Op := [t_ 2 <|.mov (ci 0)]
def r505_1 : List Op := [f_ 4 <|.mov (.g 0),t_ 5 <|.len true (.l 0),t_ 6 <|.mov (ci 0)]
def r505_2 : List Op := [t_ 7 <|.bin .lss (.g 6) (.g 5)]
def r505_3 : List Op := [f_ 8 <|.mov (.g 6),t_ 3 <|.mov (.l 0)]
def r505_4 : List Op := [f_ 9 <|.mov (.g 0),f_ 10 <|.mov (.g 3),f_ 11 <|.idx (.l 0) (.l 1),t_ 12 <|.bin .lss (.l 2) (.c (.int .u8 128))]
def r505_5 : List Op := [t_ 2 <|.mov (ci 3)]
def r505_6 : List Op := [f_ 13 <|.bin .add (.g 6) (ci 1),t_ 6 <|.mov (.l 0)]
def b505_0 : C := .seq (.region false r505_2) (.seq (.cond (.g 7) (.skip) (.exit 0)) (.seq (.block 1 (.seq (.region false r505_3) (.seq (.region false r505_4) (.cond (.g 12) (.seq (.region false r505_5) (.ret)) (.skip))))) (.region false r505_6)))
def l505_0 : C := .loop [] [] [] [] b505_0
def r505_7 : List Op := [t_ 2 <|.mov (ci 2)]
def c505 : C := .seq (.region false r505_0) (.seq (.seq (.region false r505_1) (.block 0 (l505_0))) (.seq (.region false r505_7) (.ret)))
def F505 : F := ⟨1, [0, 2, 3, 5, 6, 7, 12], [.t 2], none, c505⟩
attribute [go_sem] r505_0 r505_1 r505_2 r505_3 r505_4 r505_5 r505_6 b505_0 r505_7 c505 F505
def r506_0 : List Op := [t_ 2 <|.mov (.c (.str [])),t_ 3 <|.mov (.c (.str [])),t_ 4 <|.mov (ci 0)]
def r506_1 : List Op := [f_ 9 <|.mov (.g 0),f_ 10 <|.call (.k 491) .no none [.l 0],f_ 8 <|.mov (.l 1),f_ 11 <|.ext (.l 2) 0,f_ 12 <|.ext (.l 2) 1,f_ 13 <|.ext (.l 2) 2,t_ 5 <|.mov (.l 3),t_ 6 <|.mov (.l 4),t_ 7 <|.mov (.l 5)]
def r506_2 : List Op := [f_ 14 <|.mov (.g 7),t_ 15 <|.bin .neq (.l 0) (ci 0)]
def r506_3 : List Op := [f_ 16 <|.mov (.g 7),t_ 2 <|.mov (.c (.str [])),t_ 3 <|.mov (.c (.str [])),t_ 4 <|.mov (.l 0)]
def r506_4 : List Op := [f_ 17 <|.mov (.g 6),f_ 18 <|.len true (.l 0),f_ 19 <|.mov (.g 5),t_ 20 <|.bin .lss (.l 1) (.l 2)]
def r506_5 : List Op := [t_ 2 <|.mov (.c (.str [])),t_ 3 <|.mov (.c (.str [])),t_ 4 <|.mov (ci 2)]
def r506_6 : List Op := [f_ 21 <|.mov (.g 6),f_ 22 <|.mov (.g 5),f_ 23 <|.sl true 0 (.l 0) none (some (.l 1)),f_ 24 <|.mov (.g 6),f_ 25 <|.mov (.g 5),f_ 26 <|.sl true 0 (.l 3) (some (.l 4)) none,t_ 2 <|.mov (.l 2),t_ 3 <|.mov (.l 5),t_ 4 <|.mov (ci 0)]
def c506 : C := .seq (.region false r506_0) (.seq (.region false r506_1) (.seq (.seq (.region false r506_2) (.cond (.g 15) (.seq (.region false r506_3) (.ret)) (.skip))) (.seq (.seq (.region false r506_4) (.cond (.g 20) (.seq (.region false r506_5) (.ret)) (.skip))) (.seq (.region true r506_6) (.ret)))))
def F506 : F := ⟨1, [0, 2, 3, 4, 5, 6, 7, 15, 20], [.t 2, .t 3, .t 4], none, c506⟩
attribute [go_sem] r506_0 r506_1 r506_2 r506_3 r506_4 r506_5 r506_6 c506 F506
def r507_0 : List Op := [t_ 2 <|.mov (cb false),t_ 3 <|.mov (.c (.str [])),t_ 4 <|.mov (ci 0)]
def r507_1 : List Op := [f_ 6 <|.mov (.g 0),f_ 7 <|.bin .eql (.l 0) (.c (.str [])),t_ 5 <|.mov (.l 1)]
def r507_2 : List Op := [t_ 2 <|.mov (cb false),t_ 3 <|.mov (.c (.str [])),t_ 4 <|.mov (ci 2)]
def r507_3 : List Op := [f_ 9 <|.mov (.g 0),f_ 10 <|.idx (.l 0) (ci 0),f_ 11 <|.bin .gtr (.l 1) (.c (.int .u8 1)),t_ 8 <|.mov (.l 2)]
def r507_4 : List Op := [t_ 2 <|.mov (cb false),t_ 3 <|.mov (.c (.str [])),t_ 4 <|.mov (ci 3)]
def r507_5 : List Op := [f_ 12 <|.mov (.g 0),f_ 13 <|.idx (.l 0) (ci 0),f_ 14 <|.bin .eql (.l 1) (.c (.int .u8 1)),f_ 15 <|.mov (.g 0),f_ 16 <|.sl true 0 (.l 3) (some (ci 1)) none,t_ 2 <|.mov (.l 2),t_ 3 <|.mov (.l 4),t_ 4 <|.mov (ci 0)]
def c507 : C := .seq (.region false r507_0) (.seq (.block 0 (.seq (.region false r507_1) (.cond (.g 5) (.seq (.region false r507_2) (.ret)) (.seq (.region false r507_3) (.cond (.g 8) (.seq (.region false r507_4) (.ret)) (.skip)))))) (.seq (.region true r507_5) (.ret)))
def F507 : F := ⟨1, [0, 2, 3, 4, 5, 8], [.t 2, .t 3, .t 4], none, c507⟩
attribute [go_sem] r507_0 r507_1 r507_2 r507_3 r507_4 r507_5 c507 F507
end Sg
namespace Sg
open _root_.Go _root_.Go.RowKit _root_.Go.Proofs _root_.Go.Shelf
set_option linter.unusedSimpArgs false
set_option linter.unusedVariables false
def renU : Shelf.Ren := ⟨fun | 197 => 292 | 260 => 312 | n => n, fun | 0 => 0 | 3 => 3 | 4 => 4 | 5 => 5 | 9 => 9 | 21 => 21 | 46 => 167 | 105 => 342 | 119 => 365 | 138 => 367 | 139 => 368 | n => n, fun | 3 => 0 | 4 => 1 | n => n⟩
set_option maxRecDepth 1000000 in
theorem lays197 : Lays.n197 Tryz.prog renU where
  mixed := by kernel_rfl
  f197 := Tryz.func292.trans (congrArg some (by kernel_rfl))
  f260 := Tryz.func312.trans (congrArg some (by kernel_rfl))
  t0 := Tryz.underlying0
  a0 := Tryz.isAgg0
  z0 := Tryz.sizeOf0
  v0 := Tryz.zeroValue0
  t3 := Tryz.underlying3
  a3 := Tryz.isAgg3
  z3 := Tryz.sizeOf3
  v3 := Tryz.zeroValue3
  t4 := Tryz.underlying4
  a4 := Tryz.isAgg4
  z4 := Tryz.sizeOf4
  v4 := Tryz.zeroValue4
  t5 := Tryz.underlying5
  a5 := Tryz.isAgg5
  z5 := Tryz.sizeOf5
  v5 := Tryz.zeroValue5
  t9 := Tryz.underlying9
  a9 := Tryz.isAgg9
  z9 := Tryz.sizeOf9
  v9 := Tryz.zeroValue9
  t21 := Tryz.underlying21
  a21 := Tryz.isAgg21
  z21 := Tryz.sizeOf21
  v21 := Tryz.zeroValue21
  t46 := Tryz.underlying167
  a46 := Tryz.isAgg167
  z46 := Tryz.sizeOf167
  v46 := Tryz.zeroValue167
  t105 := Tryz.underlying342
  a105 := Tryz.isAgg342
  z105 := Tryz.sizeOf342
  v105 := Tryz.zeroValue342
  t119 := Tryz.underlying365
  a119 := Tryz.isAgg365
  z119 := Tryz.sizeOf365
  t138 := Tryz.underlying367
  a138 := Tryz.isAgg367
  z138 := Tryz.sizeOf367
  v138 := Tryz.zeroValue367
  t139 := Tryz.underlying368
  a139 := Tryz.isAgg368
  z139 := Tryz.sizeOf368
  v139 := Tryz.zeroValue368
  g3 := by kernel_rfl
  g4 := by kernel_rfl
theorem dec_walk (s : ByteArray) (w : World) (hT : Lib.Utf8Tabs 0 1 w) :
    Calls Tryz.prog 292 #[.string s] w fun e w' => e = .returned (.tuple #[.int .i32 (Lib.decodeGo s).1, .int .i64 (Lib.decodeGo s).2]) ∧ Below w.heap.size w w' :=
  Any.utf8_DecodeRuneInString lays197 s w hT
theorem tabs_st (w w' : World) (h : Lib.Utf8Tabs 0 1 w) (hb : ∀ b, b < 2 → w'.heap[b]? = w.heap[b]?) : Lib.Utf8Tabs 0 1 w' := by
  have e : ∀ b o, b < 2 → w'.cell? ⟨b, o, none⟩ = w.cell? ⟨b, o, none⟩ := fun b o hlt => by
    simp only [World.cell?, hb b hlt]
  exact ⟨fun c hc => by rw [e _ _ (by decide)]; exact h.1 c hc, fun i hi => by rw [e _ _ (by decide), e _ _ (by decide)]; exact h.2 i hi⟩
def cxU (l : List (Nat × Nat)) : Cx where
  fm := fun n => (look l n).getD 0
  tm := fun n => n
  gn := 2
  G := Lib.Utf8Tabs 0 1
  Gst := tabs_st
set_option maxHeartbeats 4000000 in
set_option maxRecDepth 1000000 in
theorem key_walk (s : ByteArray) (w : World) (hgn : 2 ≤ w.heap.size) (hT : Lib.Utf8Tabs 0 1 w)
    (hplain : ∀ (r n : Int) (w : World), 2 ≤ w.heap.size → Lib.Utf8Tabs 0 1 w → Calls Tryz.prog 293 #[.int .i32 r, .int .i64 n] w fun e w' => e = .returned (.bool (plainR r n)) ∧ Below w.heap.size w w') :
    Calls Tryz.prog 260 #[.string s] w fun e w' => e = .returned (.bool (keyR s.data.toList)) ∧ Below w.heap.size w w' := by
  have t0 := Tryz.underlying0; have t3 := Tryz.underlying3; have t4 := Tryz.underlying4; have t9 := Tryz.underlying9; have t21 := Tryz.underlying21
  have hu0 := run_underlying t0; have hu3 := run_underlying t3; have hu4 := run_underlying t4; have hu9 := run_underlying t9; have hu21 := run_underlying t21
  have mixed : Tryz.prog.follows .mixedOrders = true := by kernel_rfl
  have a0 := Tryz.isAgg0; have z0 := Tryz.sizeOf0; have v0 := Tryz.zeroValue0
  have a3 := Tryz.isAgg3; have z3 := Tryz.sizeOf3; have v3 := Tryz.zeroValue3
  have a4 := Tryz.isAgg4; have z4 := Tryz.sizeOf4; have v4 := Tryz.zeroValue4
  have a9 := Tryz.isAgg9; have z9 := Tryz.sizeOf9; have v9 := Tryz.zeroValue9
  have a21 := Tryz.isAgg21; have z21 := Tryz.sizeOf21; have v21 := Tryz.zeroValue21
  go_enter Tryz.func260, Tryz.ntmps260
  go_wp2
  go_loopw [3] (fun _ wr => ∃ (pos fuel : Nat), wr.heap[w.heap.size]? = some (.stringIter s pos) ∧ Below w.heap.size w wr ∧ keyAll fuel (s.data.toList.drop pos) = keyAll s.size s.data.toList ∧ s.size ≤ pos + fuel) (fun _ wr => s.size - wr.iterPos w.heap.size)
  case atStart =>
    refine ⟨0, s.size, ?_, (Below.refl _ w).alloc (Nat.le_refl _) _, by simp, by omega⟩
    have := World.iter_heap w s 0
    simpa using this
  case round =>
    obtain ⟨pos, fuel, hit, hbw, hacc, hfu⟩ := hrel
    have hsz : w.heap.size < wr.heap.size := (Array.getElem?_eq_some_iff.1 hit).1
    have hbT : ∀ W : World, Below w.heap.size w W → Lib.Utf8Tabs 0 1 W := fun W h => tabs_st w W hT fun b hb => h.block b (by omega)
    by_cases hp : pos < s.size
    · have hnx : ∀ ty, (Instr.next (.pointer (some ⟨w.heap.size, 0, none⟩)) true ty).run Tryz.prog wr = _ := fun ty => Lib.run_next_any_at wr w.heap.size s pos ty hit hp
      have hbw2 := Lib.below_iterAt hbw (k := w.heap.size) (by omega) s (pos + (Utf8.decode s pos).2)
      have hit2 := Lib.iterAt_heap wr w.heap.size s pos (pos + (Utf8.decode s pos).2) hit
      have hsz2 : w.heap.size + 1 ≤ (wr.iterAt w.heap.size s (pos + (Utf8.decode s pos).2)).heap.size := by rw [Lib.iterAt_size]; omega
      have hde : ∀ n, n = s.size → Lib.decodeGo (s.extract pos n) = Utf8.decode s pos := fun n hn => decode_extract s pos n hn hp
      have hw1 := width_pos s pos
      obtain ⟨f, rfl⟩ : ∃ f, fuel = f + 1 := ⟨fuel - 1, by omega⟩
      have hnil : s.data.toList.drop pos ≠ [] := fun e => by
        exact drop_ne s pos hp e
      have hdN := decode_drop s pos
      simp only [keyAll, hnil, if_false, ← hdN] at hacc
      generalize Utf8.decode s pos = D at *
      clear hdN hnil
      obtain ⟨D1, D2⟩ := D
      simp only at hw1 hacc hbw2 hit2 hsz2 hde hnx
      have hsl := size_list s
      have hfin : ∀ W : World, plainR D1 D2 = false → keyR s.data.toList = false := fun W hpl => by
        rw [hpl, Bool.false_and] at hacc
        rw [keyR, hsl, ← hacc, Bool.false_and]
      clear hsl
      go_wp2_with (go_at_call 292; refine (dec_walk _ _ (hbT _ hbw2)).mono ?_; rintro e W1 ⟨rfl, b1⟩)
      have hb3 := hbw2.trans (b1.mono (by omega))
      have hs3 : W1.heap.size ≥ w.heap.size + 1 := Nat.le_trans hsz2 b1.size
      have hit3 : W1.heap[w.heap.size]? = some (.stringIter s (pos + D2)) := (b1.block _ (by omega)).trans hit2
      have hpl := hplain D1 D2 W1 (by omega) (hbT _ hb3)
      cases hP : plainR D1 D2 with
      | false =>
        rw [hP] at hpl
        have hke := hfin w hP
        clear hacc hfin
        go_wp2_with (go_at_call 293; refine hpl.mono ?_; rintro e W2 ⟨rfl, b2⟩)
        have hb4 := hb3.trans (b2.mono (by omega))
        go_wp2
        go_ret
        rw [hke]
        exact ⟨rfl, hb4⟩
      | true =>
        rw [hP, Bool.true_and, List.drop_drop] at hacc
        rw [hP] at hpl
        clear hfin
        obtain ⟨kk, hkk⟩ : ∃ kk, kk = keyAll s.size s.data.toList := ⟨_, rfl⟩
        go_wp2_with (go_at_call 293; refine hpl.mono ?_; rintro e W2 ⟨rfl, b2⟩)
        have hb4 := hb3.trans (b2.mono (by omega))
        have hit4 : W2.heap[w.heap.size]? = some (.stringIter s (pos + D2)) := (b2.block _ (by omega)).trans hit3
        go_wp2
        go_roundw
        case rel => exact ⟨pos + D2, f, hit4, hb4, hacc, by omega⟩
        case measure =>
          simp only [World.iterPos, hit4, hit]
          omega
    · have hnx : ∀ ty, (Instr.next (.pointer (some ⟨w.heap.size, 0, none⟩)) true ty).run Tryz.prog wr = _ := fun ty => Lib.run_next_end_at wr w.heap.size s pos ty hit hp
      have hall : keyAll s.size s.data.toList = true := by
        rw [← hacc, List.drop_eq_nil_of_le (by rw [size_list]; omega)]
        cases fuel <;> simp [keyAll]
      have hkey : keyR s.data.toList = (decide ((1 : Int) ≤ s.size) && decide ((s.size : Int) ≤ 16)) := by
        rw [keyR, size_list, hall, Bool.true_and]
        congr 1 <;> exact decide_eq_decide.2 (by omega)
      clear hacc hall
      by_cases h1 : (1 : Int) ≤ s.size
      · rw [decide_eq_true h1, Bool.true_and] at hkey
        go_wp2
        go_ret
        exact ⟨by first | rfl | (rw [hkey]; rfl), hbw⟩
      · rw [decide_eq_false h1, Bool.false_and] at hkey
        go_wp2
        go_ret
        exact ⟨by first | rfl | (rw [hkey]; rfl), hbw⟩
end Sg
